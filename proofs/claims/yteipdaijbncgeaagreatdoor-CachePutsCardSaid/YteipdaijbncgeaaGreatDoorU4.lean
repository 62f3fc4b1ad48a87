/- Texts of this claim, laid together: PlainQ, AcctP, DidP, DidQ, DidR, WebP, WebQ, Row, IdxAny, Ascii, Bytes, Ascii2, Lib, Bld, Bld2, Pct, Comm, Uri, UriW, UriW2, RefUri. -/
import Derived.Lib.Replace
import Derived.Lib.OthersKept
import Derived.Deep.QuietTactic
import Derived.BigQuiet
import Derived.Test.YteipdaijbncgeaaGreatDoorProg
import Derived.Lib.ConvBytes
import Derived.Laws.IdiomStrings
import Derived.Test.YteipdaijbncgeaaGreatDoorU3
open List renaming toArray → zLv, flatMap_cons → zLw, mem_cons_of_mem → zLx, mem_cons_self → zLy, getElem?_append_left → zLA, cons_append → zLB, getElem?_set_ne → zLC, getElem?_eq_some_iff → zLD, length_cons → zLF, length_append → zLH, all_eq_true → zLI, drop_eq_getElem_cons → zLJ, isPrefixOf_iff_prefix → zLK, mem_singleton → zLL, mem_cons → zLM, mem_append → zLN, getElem?_set_self → zLQ, nil_append → zLS, append_nil → zLU, getElem?_append_right → zLV, take_append_drop → zLW, take_of_length_le → zLX, singleton_append → zLY, contains_iff_mem → zLZ, cons → zL2, length_take → zL3, length_eq_zero_iff → zL5, flatMap_append → zL6, take_succ_eq_append_getElem → zL7, isPrefixOf → zL8, getElem_of_mem → zMa, flatMap_map → zMf, drop_of_length_le → zMg, flatten_cons → zMi, mem_of_getLast? → zMj, mem_flatMap → zMk, mem_map → zMl, getElem?_eq_getElem → zMm, length_nil → zMn, flatMap_nil → zMo, getLast?_append → zMp, map_cons → zMq, all_cons → zMr, map_congr_left → zMt, drop_succ_cons → zMu, length_pos_iff → zMv, length_map → zMw, all_append → zMx
open Nat renaming le_refl → zLG, lt_or_ge → zLR
open Bool renaming and_eq_true → zLO, eq_iff_iff → zL9
open Prod renaming mk → zMd
open Option renaming some → zMh
set_option linter.all false
set_option maxHeartbeats 16000000
set_option maxRecDepth 20000
namespace Wf
open Go Go.RowKit
theorem eB (c:UInt8):cu (cu c)=cu c∧we (cu c)=we c∧isDigit (cu c)=isDigit c∧(cu c==45)=(c==45)∧(cu c==46)=(c==46)∧(cu c==58)=(c==58)∧(isDigit c=true→cu c=c):=by
 have h:=dA (p:=fun c=>decide (cu (cu c)=cu c∧we (cu c)=we c∧isDigit (cu c)=isDigit c∧(cu c==45)=(c==45)∧(cu c==46)=(c==46)∧(cu c==58)=(c==58)∧(isDigit c=true→cu c=c))) (by decide +kernel) c
 exact of_decide_eq_true h
theorem Bv (s:Bytes):lower (lower s)=lower s:=by
 unfold lower;rw[List.map_map];apply zMt;intro c _;exact(eB c).1
theorem fF (s:Bytes):(lower s).length=s.length:=by unfold lower;simp
theorem iL (s:Bytes):(lower s).isEmpty=s.isEmpty:=by unfold lower;cases s <;> rfl
theorem rO {p:UInt8→Bool}(hp:∀ c,p (cu c)=p c)(s:Bytes):(lower s).all p=s.all p:=by
 unfold lower;rw[List.all_map];congr 1;funext c;exact hp c
theorem zy {s:Bytes}(h:s.all isDigit=true):lower s=s:=by
 unfold lower
 rw[zLI]at h
 conv=>rhs;rw[← List.map_id s]
 apply zMt;intro c hc;exact(eB c).2.2.2.2.2.2 (h c hc)
theorem oX (s:Bytes):bz (lower s)=bz s:=by
 unfold bz
 rw[iL,fF,rO (fun c=>(eB c).2.1)]
 have h1:((lower s).head?==some 45)=(s.head?==some 45):=by
  unfold lower;rw[List.head?_map];cases s.head? with
  | none=>rfl
  | some c=>simpa using(eB c).2.2.2.1
 have h2:((lower s).getLast?==some 45)=(s.getLast?==some 45):=by
  unfold lower;rw[List.getLast?_map];cases s.getLast? with
  | none=>rfl
  | some c=>simpa using(eB c).2.2.2.1
 rw[h1,h2]
theorem od (s:Bytes):cn (lower s)=cn s:=by
 unfold cn;rw[iL,rO (fun c=>(eB c).2.2.1)]
theorem qb (s:Bytes):aC 46 (lower s)=(aC 46 s).map lower:=by
 induction s with
 | nil=>rfl
 | cons x r ih =>
   have hx:=(eB x).2.2.2.2.1
   rw[show lower (x::r)=cu x::lower r from rfl,aC,aC,hx,ih]
   cases x==46
   ·simp only[Bool.false_eq_true,if_false]
    cases aC 46 r <;> rfl
   ·rfl
theorem tu (m:Nat)(s:Bytes):aV m (lower s)=aV m s:=by
 cases h:s.all isDigit
 ·have hd:cn s=false:=by unfold cn;simp[h]
  have hl:(lower s).all isDigit=false:=by rw[rO (fun c=>(eB c).2.2.1),h]
  unfold aV bM
  rw[od,hd,hl,h,iL]
  simp
 ·rw[zy h]
theorem wQ (s:Bytes):fb (lower s)=fb s:=by unfold fb;rw[tu]
theorem D0 (s:Bytes):ipv4 (lower s)=ipv4 s:=by
 unfold ipv4
 rw[qb,zMw,List.all_map]
 congr 2;funext x;exact wQ x
theorem Bs (l:List Bytes):mF (l.map lower)=mF l:=by
 induction l with
 | nil=>rfl
 | cons x r ih =>
   cases r with
   | nil=>simp only[List.map,mF,oX,od]
   | cons y r=>simp only[zMq,mF,oX]at ih ⊢;rw[ih]
theorem zw (s:Bytes):eA (lower s)=eA s:=by unfold eA;rw[qb,Bs]
theorem nT {s x:Bytes}(h:bB s=(x,0)):x=lower s∧x.length≤253∧bB x=(x,0):=by
 unfold bB at h
 cases h1:s.isEmpty
 ·rw[h1]at h
  by_cases h2:253<s.length
  ·simp[h2]at h
  ·cases h3:(!ipv4 s&&!eA s)
   ·simp[h2,h3]at h
    subst h
    refine⟨rfl,by rw[fF];omega,?_⟩
    unfold bB
    rw[iL,fF,D0,zw,h1,h3,Bv]
    simp[h2]
   ·simp[h2,h3]at h
 ·rw[h1]at h;simp at h
theorem Gc (s:Bytes):pre (·==58) (lower s)=pre (·==58) s:=by
 induction s with
 | nil=>rfl
 | cons x r ih =>
   rw[show lower (x::r)=cu x::lower r from rfl,ck,ck,ih,(eB x).2.2.2.2.2.1]
theorem uu (p:UInt8→Bool)(s:Bytes):pre p (s.take (pre p s))=(s.take (pre p s)).length:=by
 induction s with
 | nil=>rfl
 | cons x r ih =>
   rw[ck]
   cases hx:p x
   ·simp[ck,hx]
    have:=ih;simp at this;omega
   ·rfl
theorem J0 (c:UInt8)(s:Bytes):pre (·==c) (aL c s).1=(aL c s).1.length:=by
 unfold aL
 by_cases h:pre (·==c) s<s.length
 ·rw[if_pos h];exact uu _ s
 ·rw[if_neg h];have:=cx (·==c) s;show pre (·==c) s=s.length;omega
theorem fK {c:UInt8}{s:Bytes}(h:pre (·==c) s=s.length):aL c s=(s,[],false):=by
 unfold aL;rw[if_neg (by omega)]
theorem tJ {p:UInt8→Bool}{x:Bytes}(h:pre p x=x.length)(c:UInt8)(r:Bytes)(hc:p c=true):pre p (x++c::r)=x.length:=by
 induction x with
 | nil=>simp[ck,hc]
 | cons y x ih =>
   rw[ck]at h
   cases hy:p y
   ·rw[hy]at h;simp at h
    simp[ck,hy,ih h]
   ·rw[hy]at h;simp at h
theorem lG {c:UInt8}{x:Bytes}(h:pre (·==c) x=x.length)(r:Bytes):aL c (x++c::r)=(x,r,true):=by
 unfold aL
 rw[tJ h c r (by simp),if_pos (by simp)]
 simp
theorem vq {n:Nat}(h:n<10):cB (sW n)=n∧isDigit (sW n)=true∧(sW n=48→n=0):=by
 have h:=(by decide +kernel:∀ n,n<10→cB (sW n)=n∧isDigit (sW n)=true∧(sW n=48→n=0)) n h
 exact h
theorem Gl {b m:Nat}(r:Bytes):∀ (l:Bytes){a v:Nat},di b m a l=(v,0)→di b m a (l++r)=di b m v r:=by
 intro l
 induction l with
 | nil=>intro a v h;simp[di]at h;rw[h];rfl
 | cons c l ih =>
   intro a v h
   rw[di]at h
   rw[zLB,di]
   by_cases hm:m<a * b+cB c
   ·rw[if_pos hm]at h;simp at h
   ·rw[if_neg hm]at h
    rw[if_neg hm]
    exact ih h
theorem yw (m:Nat):∀ (k n:Nat),n≤k→n≤m→di 10 m 0 (cM n)=(n,0)∧(cM n).all isDigit=true∧(0<n→(cM n).head? ≠ some 48):=by
 intro k
 induction k with
 | zero =>
   intro n h _
   obtain rfl:n=0:=by omega
   rw[gn (by omega)]
   exact⟨by simp[di,sW,cB],by decide,fun h=>by omega⟩
 | succ k ih =>
   intro n h hm
   by_cases hn:n<10
   ·rw[gn hn]
    obtain⟨h1,h2,h3⟩:=vq hn
    refine⟨?_,by simp[h2],?_⟩
    ·rw[di,h1,if_neg (by omega),di];simp
    ·intro h0 he;simp at he;exact absurd (h3 he) (by omega)
   ·rw[lF hn]
    obtain⟨h1,h2,h3⟩:=ih (n / 10) (by omega) (by omega)
    obtain⟨g1,g2,g3⟩:=vq (show n % 10<10 by omega)
    refine⟨?_,by rw[zMx,h2];simp[g2],?_⟩
    ·rw[Gl _ _ h1,di,g1,if_neg (by omega),di]
     congr 1;omega
    ·intro _
     have:=vJ (n / 10)
     rw[List.head?_append]
     have h3:=h3 (by omega)
     cases hd:(cM (n / 10)).head? with
     | none=>rw[List.head?_eq_none_iff]at hd;rw[hd]at this;simp at this
     | some c=>rw[hd]at h3;simpa using h3
theorem Gd {n:Nat}(h0:0<n)(h:n≤65535):ji (cM n)=((n:Int),0):=by
 obtain⟨h1,h2,h3⟩:=yw 65535 n n (by omega) h
 have hp:=vJ n
 have bn:(cM n).isEmpty=false:=by cases hd:cM n <;> simp[hd]at hp ⊢
 have hs:aV 65535 (cM n)=(n,0):=by
  unfold aV bM
  rw[if_neg (fun hh=>h3 h0 hh.2.2),bn,h2,h1]
  rfl
 unfold ji
 rw[hs]
 have:¬ n=0:=by omega
 simp[this]
theorem Ij {s:Bytes}{p:Int}(h:ji s=(p,0)):0<p∧p≤65535:=by
 have hle:=lZ 65535 s
 unfold ji at h
 split at h
 ·simp at h
 ·rename_i hc
  simp at h
  subst h
  omega
theorem cA {s x:Bytes}{p:Int}(h:aH s=((x,p),0)):aH (bg x p)=((x,p),0)∧bB x=(x,0)∧p≠443∧x.length≤253∧0≤p∧p≤65535:=by
 have hf:=J0 58 s
 unfold aH at h
 generalize aL 58 s=C at hf h
 obtain⟨first,rest,colon⟩:=C
 simp only at hf h
 generalize hH:bB first=H at h
 obtain⟨y,e⟩:=H
 by_cases he:e=0
 ·subst he
  obtain⟨hy,hlen,jk⟩:=nT hH
  have hpy:pre (·==58) y=y.length:=by rw[hy,Gc,fF];exact hf
  have plain:aH (bg y 0)=((y,0),0):=by
   unfold bg aH
   rw[if_pos rfl,fK hpy,jk];rfl
  cases colon
  ·unfold cy at h
   simp at h
   obtain⟨rfl,rfl⟩:=h
   exact⟨plain,jk,by omega,hlen,by omega,by omega⟩
  ·generalize hP:ji rest=P at h
   obtain⟨q,f⟩:=P
   unfold cy at h
   by_cases Hm:f=0
   ·subst Hm
    simp at h
    obtain⟨rfl,h⟩:=h
    obtain⟨q0,q1⟩:=Ij hP
    by_cases mR:q=443
    ·rw[if_pos mR]at h
     subst h
     exact⟨plain,jk,by omega,hlen,by omega,by omega⟩
    ·rw[if_neg mR]at h
     subst h
     refine⟨?_,jk,mR,hlen,by omega,q1⟩
     obtain⟨n,rfl⟩:∃ n:Nat,q=n:=⟨q.toNat,by omega⟩
     unfold bg aH
     rw[if_neg (by omega),if_neg (by omega)]
     have e:y++[58]++cM (n:Int).natAbs=y++58::cM n:=by simp
     rw[e,lG hpy]
     simp only[jk,Gd (show 0<n by omega) (show n≤65535 by omega)]
     unfold cy
     simp[mR]
   ·simp[Hm]at h
 ·unfold cy at h
  simp[he]at h
open Go Go.RowKit
theorem uncut (c:UInt8)(s:Bytes):s=(aL c s).1++(if (aL c s).2.2 then [c]++(aL c s).2.1 else []):=by
 unfold aL
 split
 ·rename_i h
  have h2:=gi (p:=(·==c)) h
  simp only[if_true]
  have:s.drop (pre (·==c) s)=c::s.drop (pre (·==c) s+1):=by
   rw[zLJ h]
   simp only[beq_iff_eq]at h2
   rw[h2]
  rw[zLY,← this,zLW]
 ·simp
theorem As (c:UInt8)(s:Bytes)(h:(aL c s).2.2=false):(aL c s).2.1=[]:=by
 unfold aL at h ⊢
 split
 ·rename_i h2;rw[if_pos h2]at h;simp at h
 ·rfl
def fN (l:List Bytes):Bytes:=l.flatMap (47::·)
def mh (s:Bytes):Prop:=(47:UInt8) ∉ s∧s≠[46]∧s≠[46,46]
theorem lJ (x:Bytes)(l:List Bytes):fN (x::l)=47::(x++fN l):=rfl
theorem CT (l:List Bytes)(x:Bytes):fN (l++[x])=fN l++47::x:=by
 unfold fN;simp
theorem G5 (l:List Bytes):fN l=[]∨∃ r,fN l=47::r:=by
 cases l with
 | nil=>exact .inl rfl
 | cons x l=>exact .inr ⟨_,rfl⟩
theorem kq {x:Bytes}(h:(47:UInt8) ∉ x)(l:List Bytes):pre (·==47) (x++fN l)=x.length:=by
 induction x with
 | nil =>
   rcases G5 l with e|⟨r,e⟩
   ·simp[e,pre_nil]
   ·simp[e,ck]
 | cons c x ih =>
   simp only[zLM,not_or]at h
   rw[zLB,ck,if_neg (by simp;exact fun e=>h.1 e.symm),ih h.2]
   rfl
theorem AF (l:List Bytes)(x:Bytes)(h:(47:UInt8) ∉ x):cX (fN (l++[x]))=fN l:=by
 rw[CT]
 unfold cX
 rw[List.reverse_append,List.reverse_cons,List.append_assoc]
 have:(x.reverse++([47]++(fN l).reverse)).dropWhile (· != 47)=[47]++(fN l).reverse:=by
  rw[List.dropWhile_append_of_pos]
  ·simp
  ·intro c hc
   simp only[List.mem_reverse]at hc
   simp
   rintro rfl
   exact h hc
 rw[this]
 simp
theorem Ev:∀ (f:Nat)(p:Bytes)(l:List Bytes),p.length≤f→(p=[]∨∃ r,p=47::r)→(p=[]→l≠[])→(∀ x∈l,mh x)→∃ l',eb f p (fN l)=fN l'∧l'≠[]∧∀ x∈l',mh x:=by
 intro f
 induction f with
 | zero =>
   intro p l hp _ hn hg
   have:p=[]:=zL5.1 (by omega)
   exact⟨l,rfl,hn this,hg⟩
 | succ f ih =>
   intro p l hp hs hn hg
   rw[eb]
   rcases hs with rfl|⟨r,rfl⟩
   ·exact⟨l,by rw[if_pos rfl],hn rfl,hg⟩
   ·rw[if_neg (by simp)]
    have hsh:∃ l2,cX (fN l)=fN l2∧∀ x∈l2,mh x:=by
     rcases List.eq_nil_or_concat l with rfl|⟨l2,x,rfl⟩
     ·exact⟨[],rfl,by simp⟩
     ·refine⟨l2,?_,fun y hy=>hg y (by simp[hy])⟩
      have:=hg x (by simp)
      simpa using AF l2 x this.1
    obtain⟨l2,gF,Ee⟩:=hsh
    unfold cG
    rw[if_neg (by simp[zL8]),if_neg (by simp[zL8])]
    by_cases c1:[47,46,47].isPrefixOf (47::r)
    ·rw[if_pos c1]
     obtain⟨q,hq⟩:=zLK.1 c1
     simp only[zLB,zLS,zL2.injEq,true_and]at hq
     subst hq
     exact ih _ l (by simp at hp ⊢;omega) (.inr ⟨q,rfl⟩) (by simp) hg
    rw[if_neg c1]
    by_cases c2:(47::r)=[47,46]
    ·rw[if_pos c2]
     rw[c2]at hp
     exact ih _ l (by simp at hp ⊢;omega) (.inr ⟨[],rfl⟩) (by simp) hg
    rw[if_neg c2]
    by_cases c3:[47,46,46,47].isPrefixOf (47::r)
    ·rw[if_pos c3]
     obtain⟨q,hq⟩:=zLK.1 c3
     simp only[zLB,zLS,zL2.injEq,true_and]at hq
     subst hq
     simp only[gF]
     exact ih _ l2 (by simp at hp ⊢;omega) (.inr ⟨q,rfl⟩) (by simp) Ee
    rw[if_neg c3]
    by_cases c4:(47::r)=[47,46,46]
    ·rw[if_pos c4]
     rw[c4]at hp
     simp only[gF]
     exact ih _ l2 (by simp at hp ⊢;omega) (.inr ⟨[],rfl⟩) (by simp) Ee
    rw[if_neg c4,if_neg (by simp)]
    simp only[zMu,List.drop_zero]
    have zD:mh (r.take (pre (·==47) r)):=by
     refine⟨fun hm=>?_,fun e=>?_,fun e=>?_⟩
     ·obtain⟨k,hk,eW⟩:=zMa hm
      rw[zL3]at hk
      have:=gM (p:=(·==47)) (l:=r) (k:=k) (by omega) (by omega)
      rw[List.getElem_take]at eW
      simp[eW]at this
     ·have hp1:=congrArg List.length e
      simp only[zL3,zLF,zMn]at hp1
      have hr:=zLW (pre (·==47) r) r
      rw[e]at hr
      cases hd:r.drop (pre (·==47) r) with
      | nil=>rw[hd]at hr;exact c2 (by rw[← hr];rfl)
      | cons y t =>
        have aB:pre (·==47) r<r.length:=by
         apply Nat.lt_of_not_le;intro h;rw[zMg h]at hd;cases hd
        have:=gi (p:=(·==47)) aB
        rw[zLJ aB]at hd
        simp only[zL2.injEq]at hd
        rw[hd.1]at this
        simp only[beq_iff_eq]at this
        subst this
        rw[zLJ aB,hd.1]at hr
        exact c1 (by rw[← hr];simp[zL8])
     ·have hp1:=congrArg List.length e
      simp only[zL3,zLF,zMn]at hp1
      have hr:=zLW (pre (·==47) r) r
      rw[e]at hr
      cases hd:r.drop (pre (·==47) r) with
      | nil=>rw[hd]at hr;exact c4 (by rw[← hr];rfl)
      | cons y t =>
        have aB:pre (·==47) r<r.length:=by
         apply Nat.lt_of_not_le;intro h;rw[zMg h]at hd;cases hd
        have:=gi (p:=(·==47)) aB
        rw[zLJ aB]at hd
        simp only[zL2.injEq]at hd
        rw[hd.1]at this
        simp only[beq_iff_eq]at this
        subst this
        rw[zLJ aB,hd.1]at hr
        exact c3 (by rw[← hr];simp[zL8])
    have e1:(47::r).drop (1+pre (·==47) r)=r.drop (pre (·==47) r):=by rw[Nat.add_comm];rfl
    have e2:(47::r).take (1+pre (·==47) r)=47::r.take (pre (·==47) r):=by rw[Nat.add_comm];rfl
    rw[e1,e2,← CT]
    refine ih _ _ (by simp at hp ⊢;omega) ?_ (by simp) (fun x hx=>?_)
    ·by_cases aB:pre (·==47) r<r.length
     ·right
      have:=gi (p:=(·==47)) aB
      simp only[beq_iff_eq]at this
      exact⟨_,by rw[zLJ aB,this]⟩
     ·left
      exact zMg (by omega)
    ·simp only[zLN,zLL]at hx
     rcases hx with hx|rfl
     ·exact hg x hx
     ·exact zD
theorem nx (r:Bytes):∃ l,aO (47::r)=fN l∧l≠[]∧∀ x∈l,mh x :=
 Ev _ _ [] (zLG _) (.inr ⟨r,rfl⟩) (by simp) (by simp)
theorem oc:∀ (l:List Bytes)(f:Nat)(out:Bytes),(fN l).length≤f→(∀ x∈l,mh x)→eb f (fN l) out=out++fN l
 | [],f,out,_,_=>by cases f <;> simp[fN,eb]
 | x::l,f,out,hf,hg=>by
   rw[lJ]at hf ⊢
   obtain⟨f,rfl⟩:∃ k,f=k+1:=⟨f - 1,by simp at hf;omega⟩
   rw[eb,if_neg (by simp)]
   obtain⟨h1,h2,h3⟩:=hg x (by simp)
   have dK:=kq h1 l
   have seg:∀ (y:Bytes),(47:UInt8) ∉ y→y≠x→¬ (47::(y++[47])).isPrefixOf (47::(x++fN l))=true:=fun y hy bn hp=>by
    obtain⟨q,hq⟩:=zLK.1 hp
    simp only[zLB,List.append_assoc,zL2.injEq,true_and]at hq
    have hpy:=kq hy [q]
    have e:y++fN [q]=x++fN l:=by rw[← hq];simp[fN]
    rw[e,dK]at hpy
    have:=List.append_inj_left e hpy.symm
    exact bn this
   have seg2:∀ (y:Bytes),(47:UInt8) ∉ y→y≠x→(47::(x++fN l))≠47::y:=fun y hy bn he=>by
    simp only[zL2.injEq,true_and]at he
    have hpy:pre (·==47) y=y.length:=by simpa[fN] using kq hy []
    rw[← he,dK,zLH]at hpy
    have h0:fN l=[]:=zL5.1 (by omega)
    rw[h0,zLU]at he
    exact bn he.symm
   have hd:cG (47::(x++fN l)) out=(fN l,out++47::x):=by
    unfold cG
    rw[if_neg (by simp[zL8]),if_neg (by simp[zL8]),if_neg (show ¬ ([47,46,47]:Bytes).isPrefixOf _=true from seg [46] (by decide) (fun e=>h2 e.symm)),if_neg (seg2 [46] (by decide) (fun e=>h2 e.symm)),if_neg (show ¬ ([47,46,46,47]:Bytes).isPrefixOf _=true from seg [46,46] (by decide) (fun e=>h3 e.symm)),if_neg (seg2 [46,46] (by decide) (fun e=>h3 e.symm)),if_neg (by simp)]
    simp only[zMu,List.drop_zero,dK]
    rw[Nat.add_comm]
    simp
   rw[hd]
   rw[oc l f _ (by simp at hf;omega) (fun y hy=>hg y (by simp[hy]))]
   simp
theorem rG (r:Bytes):aO (aO (47::r))=aO (47::r):=by
 obtain⟨l,h1,h2,h3⟩:=nx r
 rw[h1]
 unfold aO
 rw[oc l _ _ (zLG _) h3]
 rfl
theorem uc:∀ (l:List Bytes),l≠[]→(∀ x∈l,(47:UInt8) ∉ x)→aC 47 (fN l)=[]::l
 | [],h,_=>absurd rfl h
 | x::l,_,hg=>by
   rw[lJ]
   have hx:=hg x (by simp)
   rw[aC,if_pos (by simp)]
   congr 1
   have dK:=kq hx l
   cases l with
   | nil =>
     simp only[fN,zMo,zLU]at dK ⊢
     rw[ch (by omega)]
   | cons y l =>
     rw[cJ (by rw[dK];simp[lJ]),dK]
     have ih:=uc (y::l) (by simp) (fun z hz=>hg z (by simp[hz]))
     rw[lJ,aC,if_pos (by simp)]at ih
     simp only[zL2.injEq,true_and]at ih
     rw[lJ]
     simp[ih]
theorem vM (r:Bytes):(∃ q,aO (47::r)=47::q)∧∀ x∈aC 47 (aO (47::r)),x≠[46]∧x≠[46,46]:=by
 obtain⟨l,h1,h2,h3⟩:=nx r
 rw[h1]
 constructor
 ·cases l with
  | nil=>exact absurd rfl h2
  | cons x l=>exact⟨_,rfl⟩
 ·rw[uc l h2 (fun x hx=>(h3 x hx).1)]
  intro x hx
  simp only[zLM]at hx
  rcases hx with rfl|hx
  ·simp
  ·exact(h3 x hx).2
open Go Go.RowKit
def Can (also s:Bytes):Prop:=∃ l:List PU,s=l.flatMap PU.str∧∀ x∈l,canU also x
theorem iP (also:Bytes):Can also []:=⟨[],rfl,by simp⟩
theorem mz {also a b:Bytes}(ha:Can also a)(hb:Can also b):Can also (a++b):=by
 obtain⟨l,rfl,h1⟩:=ha
 obtain⟨m,rfl,h2⟩:=hb
 exact⟨l++m,by simp,fun x hx=>by
  rcases zLN.1 hx with h|h
  ·exact h1 x h
  ·exact h2 x h⟩
theorem qX {also:Bytes}{c:UInt8}(h:dm also c=true)(hc:c≠37):Can also [c]:=⟨[.lit c],rfl,fun x hx=>by
 obtain rfl:=zLL.1 hx;exact⟨h,hc⟩⟩
theorem can_esc (also:Bytes){c:UInt8}(h:eY c=false):Can also (ka c):=⟨[.hex (ib (c.toNat / 16)) (ib (c.toNat % 16))],rfl,fun x hx=>by
 obtain rfl:=zLL.1 hx
 have hn:=c.toNat_lt
 have hv:=jy c
 exact⟨by rw[hv];exact h,by rw[hv],by rw[hv],fZ _ (by omega),fZ _ (by omega)⟩⟩
theorem CL {also:Bytes}{c:UInt8}{r:Bytes}(hc:c≠37)(h:Can also (c::r)):dm also c=true∧Can also r:=by
 obtain⟨l,e,h1⟩:=h
 cases l with
 | nil=>simp at e
 | cons x l =>
   have hx:=h1 x zLy
   rw[zLw]at e
   cases x with
   | lit d =>
     simp only[PU.str,zLY,zL2.injEq]at e
     obtain⟨rfl,rfl⟩:=e
     exact⟨hx.1,l,rfl,fun y hy=>h1 y (zLx _ hy)⟩
   | hex a b =>
     simp only[PU.str,zLB,zLS,zL2.injEq]at e
     exact absurd e.1 hc
   | bad=>exact hx.elim
theorem sk {also:Bytes}{c:UInt8}(hc:c≠37)(hx:bp c=false):∀ (l:List PU)(a b:Bytes),(∀ x∈l,canU also x)→a++c::b=l.flatMap PU.str→Can also a∧Can also (c::b)
 | [],a,b,_,e=>by simp at e
 | .lit d::l,[],b,h,e=>⟨iP _,_,e,h⟩
 | .lit d::l,y::a,b,h,e=>by
   rw[zLw]at e
   simp only[PU.str,zLY,zLB,zL2.injEq]at e
   obtain⟨rfl,e⟩:=e
   obtain⟨h1,h2⟩:=sk hc hx l a b (fun y hy=>h y (zLx _ hy)) e
   have hy:=h _ zLy
   exact⟨mz (a:=[y]) (qX hy.1 hy.2) h1,h2⟩
 | .hex u v::l,[],b,h,e=>by
   rw[zLw]at e
   simp only[PU.str,zLS,zLB,zL2.injEq]at e
   exact absurd e.1 hc
 | .hex u v::l,[x],b,h,e=>by
   rw[zLw]at e
   simp only[PU.str,zLS,zLB,zL2.injEq]at e
   have:=(h _ zLy).2.2.2.1
   rw[← e.2.1,hx]at this;cases this
 | .hex u v::l,[x,y],b,h,e=>by
   rw[zLw]at e
   simp only[PU.str,zLS,zLB,zL2.injEq]at e
   have:=(h _ zLy).2.2.2.2
   rw[← e.2.2.1,hx]at this;cases this
 | .hex u v::l,x::y::z::a,b,h,e=>by
   rw[zLw]at e
   simp only[PU.str,zLS,zLB,zL2.injEq]at e
   obtain⟨rfl,rfl,rfl,e⟩:=e
   obtain⟨h1,h2⟩:=sk hc hx l a b (fun y hy=>h y (zLx _ hy)) e
   refine⟨mz (a:=[37,y,z]) ⟨[.hex y z],rfl,fun x hx=>?_⟩ h1,h2⟩
   obtain rfl:=zLL.1 hx
   exact h _ zLy
 | .bad::l,a,b,h,e=>(h _ zLy).elim
theorem Can.split {also a b:Bytes}{c:UInt8}(hc:c≠37)(hx:bp c=false)(h:Can also (a++c::b)):Can also a∧Can also (c::b):=by
 obtain⟨l,e,h1⟩:=h
 exact sk hc hx l a b h1 e
theorem can_bytes {also s:Bytes}(h:Can also s):∀ c∈s,dm also c=true∨c=37∨bp c=true:=by
 obtain⟨l,rfl,h1⟩:=h
 intro c hc
 obtain⟨x,hx,hcx⟩:=zMk.1 hc
 have hk:=h1 x hx
 cases x with
 | lit d =>
   obtain rfl:=zLL.1 hcx
   exact .inl hk.1
 | hex a b =>
   simp only[PU.str,zLM,List.not_mem_nil,or_false]at hcx
   rcases hcx with rfl|rfl|rfl
   ·exact .inr (.inl rfl)
   ·exact .inr (.inr hk.2.2.2.1)
   ·exact .inr (.inr hk.2.2.2.2)
 | bad=>exact hk.elim
theorem qB {also s:Bytes}(h:(aX also s).2=0):Can also (aX also s).1:=by
 unfold aX at h ⊢
 split at h
 ·simp at h
 ·rename_i hs
  rw[if_neg hs]
  obtain⟨l',e,h1,-,-⟩:=nH also (aA s) (sr s) h
  exact⟨l',e,h1⟩
theorem can_cut {also s:Bytes}(n:Nat)(hd:s.drop n=[]∨∃ r,s.drop n=47::r)(h:Can also s):Can also (s.take n)∧Can also (s.drop n):=by
 rcases hd with hd|⟨r,hd⟩
 ·rw[hd]
  have e:s.take n=s:=zLX (by simpa using hd)
  rw[e];exact⟨h,iP _⟩
 ·rw[hd]
  have e:s=s.take n++47::r:=by rw[← hd,zLW]
  rw[e]at h
  exact h.split (by decide) (by decide)
theorem Cz (s:Bytes):s.drop (pre (·==47) s)=[]∨∃ r,s.drop (pre (·==47) s)=47::r:=by
 by_cases h:pre (·==47) s<s.length
 ·right
  have:=gi h
  simp only[beq_iff_eq]at this
  exact⟨s.drop (pre (·==47) s+1),by rw[zLJ h,this]⟩
 ·left;simp;omega
theorem wA (s:Bytes):cX s=[]∨∃ r,s=cX s++47::r:=by
 unfold cX
 have key:∀ t:Bytes,t.dropWhile (· != 47)=[]∨∃ a b,t=a++47::b∧t.dropWhile (· != 47)=47::b:=by
  intro t
  induction t with
  | nil=>left;rfl
  | cons x t ih =>
    by_cases hx:x=47
    ·subst hx
     right;exact⟨[],t,rfl,by simp⟩
    ·rw[List.dropWhile_cons_of_pos (by simp[hx])]
     rcases ih with ih|⟨a,b,h1,h2⟩
     ·left;exact ih
     ·right;exact⟨x::a,b,by rw[h1];rfl,h2⟩
 rcases key s.reverse with h|⟨a,b,h1,h2⟩
 ·left;rw[h];rfl
 ·right
  rw[h2]
  refine⟨a.reverse,?_⟩
  have:=congrArg List.reverse h1
  rw[List.reverse_reverse]at this
  rw[this];simp
theorem tc {also s:Bytes}(h:Can also s):Can also (cX s):=by
 rcases wA s with e|⟨r,e⟩
 ·rw[e];exact iP _
 ·rw[e]at h;exact(h.split (by decide) (by decide)).1
theorem CM {also p o:Bytes}(GO:dm also 47=true)(hp:Can also p)(ho:Can also o):Can also (cG p o).1∧Can also (cG p o).2:=by
 have c47:Can also [47]:=qX GO (by decide)
 have drop1:∀ {c:UInt8} {r:Bytes},c≠37→Can also (c::r)→Can also r:=fun hc h=>(CL hc h).2
 unfold cG
 split
 ·rename_i h
  obtain⟨r,rfl⟩:=zLK.1 h
  exact⟨drop1 (by decide) (drop1 (by decide) (drop1 (by decide) hp)),ho⟩
 split
 ·rename_i h
  obtain⟨r,rfl⟩:=zLK.1 h
  exact⟨drop1 (by decide) (drop1 (by decide) hp),ho⟩
 split
 ·rename_i h
  obtain⟨r,rfl⟩:=zLK.1 h
  exact⟨drop1 (by decide) (drop1 (by decide) hp),ho⟩
 split
 ·exact⟨c47,ho⟩
 split
 ·rename_i h
  obtain⟨r,rfl⟩:=zLK.1 h
  exact⟨drop1 (by decide) (drop1 (by decide) (drop1 (by decide) hp)),tc ho⟩
 split
 ·exact⟨c47,tc ho⟩
 split
 ·exact⟨iP _,ho⟩
 ·have hd:p.drop (1+pre (·==47) (p.drop 1))=[]∨∃ r,p.drop (1+pre (·==47) (p.drop 1))=47::r:=by
   rw[← List.drop_drop];exact Cz _
  obtain⟨h1,h2⟩:=can_cut _ hd hp
  exact⟨h2,mz ho h1⟩
theorem vP {also:Bytes}(GO:dm also 47=true):∀ (f:Nat)(p o:Bytes),Can also p→Can also o→Can also (eb f p o)
 | 0,_,_,_,ho=>ho
 | f+1,p,o,hp,ho=>by
   rw[eb]
   split
   ·exact ho
   ·obtain⟨h1,h2⟩:=CM GO hp ho
    exact vP GO f _ _ h1 h2
theorem vN {also p:Bytes}(GO:dm also 47=true)(hp:Can also p):Can also (aO p):=vP GO _ _ _ hp (iP _)
theorem pI (d:UInt8):∀ (n:Nat)(s:Bytes),s.length≤n→∀ c∈s,c=d∨∃ x∈aC d s,c∈x
 | 0,s,h,c,hc=>by
   obtain rfl:=zL5.1 (Nat.le_zero.1 h)
   simp at hc
 | n+1,s,h,c,hc=>by
   by_cases hp:pre (·==d) s<s.length
   ·rw[cJ hp]
    have e:s=s.take (pre (·==d) s)++d::s.drop (pre (·==d) s+1):=by
     have:=gi hp
     simp only[beq_iff_eq]at this
     conv=>lhs;rw[← zLW (pre (·==d) s) s,zLJ hp,this]
    rw[e]at hc
    rcases zLN.1 hc with h1|h1
    ·exact .inr ⟨_,zLy,h1⟩
    ·rcases zLM.1 h1 with h2|h2
     ·exact .inl h2
     ·rcases pI d n _ (by simp;omega) c h2 with h3|⟨x,h3,h4⟩
      ·exact .inl h3
      ·exact .inr ⟨x,zLx _ h3,h4⟩
   ·rw[ch hp]
    exact .inr ⟨s,zLL.2 rfl,hc⟩
theorem zt {s:Bytes}(h:fb s=true):s.all isDigit=true:=by
 unfold fb aV at h
 split at h
 ·simp at h
 ·have:=(kY 255 s).1 (.inl (by simpa using h))
  unfold cn at this
  simp only[zLO]at this
  exact this.2
theorem xR:∀ (l:List Bytes),mF l=true→∀ x∈l,bz x=true
 | [],_,x,h=>by simp at h
 | [y],h,x,hx=>by
   simp only[mF,zLO]at h
   obtain rfl:=zLL.1 hx
   exact h.1
 | y::z::r,h,x,hx=>by
   simp only[mF,zLO]at h
   rcases zLM.1 hx with rfl|hx
   ·exact h.1
   ·exact xR (z::r) h.2 x hx
theorem sQ {s x:Bytes}(h:bB s=(x,0)):∀ c∈x,we c=true∨c=46:=by
 have hx:=(nT h).2.2
 clear h
 unfold bB at hx
 split at hx
 ·simp at hx
 split at hx
 ·simp at hx
 split at hx
 ·simp at hx
 ·rename_i h3
  intro c hc
  rcases pI 46 _ x (zLG _) c hc with h4|⟨y,h4,h5⟩
  ·exact .inr h4
  ·left
   cases hi:ipv4 x
   ·have hn:eA x=true:=by simpa[hi] using h3
    have:=xR _ hn y h4
    unfold bz at this
    simp only[zLO]at this
    exact zLI.1 this.2 c h5
   ·unfold ipv4 at hi
    simp only[zLO]at hi
    have:=zt (zLI.1 hi.2 y h4)
    have:=zLI.1 this c h5
    unfold we;rw[this];simp
theorem sY (n:Nat):∀ c∈cM n,isDigit c=true:=fun c hc=>zLI.1 ((yw n n n (zLG _) (zLG _)).2.1) c hc
theorem hostPort_bytes {s x:Bytes}{p:Int}(h:aH s=((x,p),0)):∀ c∈bg x p,we c=true∨c=46∨c=58:=by
 obtain⟨-,h1,-,-,h2,-⟩:=cA h
 have hb:=sQ h1
 unfold bg
 split
 ·intro c hc;exact(hb c hc).imp id .inl
 split
 ·omega
 ·intro c hc
  rcases zLN.1 hc with hc|hc
  ·rcases zLN.1 hc with hc|hc
   ·exact(hb c hc).imp id .inl
   ·exact .inr (.inr (zLL.1 hc))
  ·left;unfold we;rw[sY _ c hc];simp
theorem eL {c:UInt8}{l:Bytes}(h:c ∉ l):pre (·==c) l=l.length:=by
 induction l with
 | nil=>rfl
 | cons x l ih =>
   simp only[zLM,not_or]at h
   rw[ck,if_neg (by simpa using fun e=>h.1 e.symm),ih h.2];rfl
open Go Go.RowKit
theorem split_join (u:Uri)(h1:u.scheme=dj)(h2:u.iA=true)(h3:u.dM=true)(ha:∀ c∈u.authority,c≠47∧c≠63∧c≠35)(hp:∃ r,u.path=47::r)(hpb:∀ c∈u.path,c≠63∧c≠35)(hq:(35:UInt8) ∉ u.query)(hq0:u.bm=false→u.query=[])(Hm:u.bF=false→u.fragment=[])(hl:(uriJoin u).length≤16384) :
 bf (uriJoin u)=(u,0):=by
 obtain⟨sc,au,pa,qu,fr,b1,b2,b3,b4⟩:=u
 simp only at h1 h2 h3 ha hp hpb hq hq0 Hm
 subst h1 h2 h3
 have c1:aL 35 (uriJoin ⟨dj,au,pa,qu,fr,true,true,b3,b4⟩)=(dj++[58]++([47,47]++au)++pa++(if b3 then [63]++qu else []),fr,b4):=by
  have hn:(35:UInt8) ∉ dj++[58]++([47,47]++au)++pa++(if b3 then [63]++qu else []):=by
   simp only[zLN,not_or]
   refine⟨⟨⟨⟨by decide,by decide⟩,by decide,fun h=>(ha _ h).2.2 rfl⟩,fun h=>(hpb _ h).2 rfl⟩,?_⟩
   split
   ·simp only[zLN,not_or];exact⟨by decide,hq⟩
   ·simp
  cases b4
  ·have:uriJoin ⟨dj,au,pa,qu,fr,true,true,b3,false⟩=dj++[58]++([47,47]++au)++pa++(if b3 then [63]++qu else []):=by simp[uriJoin]
   rw[this,fK (eL hn),Hm rfl]
  ·have:uriJoin ⟨dj,au,pa,qu,fr,true,true,b3,true⟩=(dj++[58]++([47,47]++au)++pa++(if b3 then [63]++qu else []))++35::fr:=by simp[uriJoin]
   rw[this,lG (eL hn)]
 have c2:aL 63 (dj++[58]++([47,47]++au)++pa++(if b3 then [63]++qu else []))=(dj++[58]++([47,47]++au)++pa,qu,b3):=by
  have hn:(63:UInt8) ∉ dj++[58]++([47,47]++au)++pa:=by
   simp only[zLN,not_or]
   exact⟨⟨⟨by decide,by decide⟩,by decide,fun h=>(ha _ h).2.1 rfl⟩,fun h=>(hpb _ h).1 rfl⟩
  cases b3
  ·rw[if_neg (by simp),zLU,fK (eL hn),hq0 rfl]
  ·rw[if_pos rfl,zLY,lG (eL hn)]
 unfold bf
 rw[if_neg (by omega),c1]
 simp only
 rw[c2]
 simp only
 obtain⟨r,rfl⟩:=hp
 have e:dj++[58]++([47,47]++au)++47::r=104::116::116::112::115::58::47::47::(au++47::r):=by simp[dj]
 have p5:pre ak (104::116::116::112::115::58::47::47::(au++47::r))=5:=by
  simp only[ck]
  rw[if_neg (by decide),if_neg (by decide),if_neg (by decide),if_neg (by decide),if_neg (by decide),if_pos (by decide)]
 have pa:pre (·==47) (au++47::r)=au.length:=tJ (eL (fun h=>(ha _ h).1 rfl)) 47 r (by decide)
 rw[e]
 unfold aK
 rw[p5]
 simp only[zMu,List.drop_zero,List.take_succ_cons,List.take_zero,List.head?_cons,if_true,aD,pa,List.take_left,List.drop_left]
 rw[if_pos (by decide)]
 rfl
def urlUri (u:fe):Uri:=⟨dj,bg u.host u.port,u.path,u.query,u.fragment,true,true,u.bm,u.bF⟩
theorem urlText_join (u:fe):cF u=uriJoin (urlUri u):=by
 unfold cF uriJoin urlUri eR
 cases u.bm <;> simp[dj]
structure jh (u:fe):Prop where
 host:aH (bg u.host u.port)=((u.host,u.port),0)
 path:Can cT u.path
 EI:∃ r,u.path=47::r
 dots:aO u.path=u.path
 query:Can cS u.query
 frag:Can cS u.fragment
 noq:u.bm=false→u.query=[]
 nof:u.bF=false→u.fragment=[]
 len:(cF u).length≤4096
theorem host_no {x:Bytes}{p:Int}(h:aH (bg x p)=((x,p),0)):∀ c∈bg x p,c≠47∧c≠63∧c≠35∧c≠64:=by
 intro c hc
 have h1:=hostPort_bytes h c hc
 have:=dA (p:=fun c=>!(we c||c==46||c==58)||(c != 47&&c != 63&&c != 35&&c != 64)) (by decide +kernel) c
 have h2:(we c||c==46||c==58)=true:=by rcases h1 with h|rfl|rfl <;> simp[*]
 rw[h2]at this
 simpa[and_assoc] using this
theorem path_no {s:Bytes}(h:Can cT s):∀ c∈s,c≠63∧c≠35:=by
 intro c hc
 have h1:=can_bytes h c hc
 have:=dA (p:=fun c=>!(dm cT c||c==37||bp c)||(c != 63&&c != 35)) (by decide +kernel) c
 have h2:(dm cT c||c==37||bp c)=true:=by rcases h1 with h|rfl|h <;> simp[*]
 rw[h2]at this
 simpa using this
theorem query_no {s:Bytes}(h:Can cS s):(35:UInt8) ∉ s:=by
 intro hc
 have:=can_bytes h _ hc
 revert this;decide
theorem jh.split {u:fe}(h:jh u):bf (cF u)=(urlUri u,0):=by
 rw[urlText_join]
 refine split_join (urlUri u) rfl rfl rfl (fun c hc=>?_) h.EI (path_no h.path) (query_no h.query) h.noq h.nof (by rw[← urlText_join];have:=h.len;omega)
 have:=host_no h.host c hc
 exact⟨this.1,this.2.1,this.2.2.1⟩
theorem mX (u:fe):u.path.length≤(cF u).length∧(u.bm=true→u.query.length≤(cF u).length)∧(u.bF=true→u.fragment.length≤(cF u).length):=by
 unfold cF eR
 refine⟨?_,fun h=>?_,fun h=>?_⟩
 ·split <;> split <;> (simp;omega)
 ·rw[if_pos h];split <;> (simp;omega)
 ·rw[if_pos h];split <;> (simp;omega)
theorem FV {h:Bytes × Int}{p q f:Bytes}{hq hf:Bool}{u:fe}(k:tT h p q f hq hf=(u,0)):u=⟨h.1,h.2,if aO p=[] then [47] else aO p,q,f,hq,hf⟩∧(cF u).length≤4096:=by
 unfold tT at k
 generalize (if aO p=[] then [47] else aO p)=d at k ⊢
 split at k
 ·simp at k
 ·obtain rfl:=(zMd.inj k).1
  exact⟨rfl,by omega⟩
theorem um:aO [47]=[47]:=by decide
theorem F0 (s:Bytes)(h:(bf s).2=0):((bf s).1.bm=false→(bf s).1.query=[])∧((bf s).1.bF=false→(bf s).1.fragment=[])∧((bf s).1.dM=true→(bf s).1.path=[]∨∃ r,(bf s).1.path=47::r):=by
 unfold bf at h ⊢
 split
 ·rename_i h1;rw[if_pos h1]at h;simp at h
 rename_i h1
 rw[if_neg h1]at h
 have q1:=As 63 (aL 35 s).1
 have q2:=As 35 s
 have ha:∀ t:Bytes,(aD t).2.1=true→(aD t).2.2=[]∨∃ r,(aD t).2.2=47::r:=by
  intro t
  unfold aD
  split
  ·intro _;exact Cz _
  ·intro h;simp at h
 unfold aK at h ⊢
 split
 ·rename_i h2
  rw[if_pos h2]at h
  split
  ·exact⟨q1,q2,ha _⟩
  ·rename_i h3;rw[if_neg h3]at h;simp at h
 ·exact⟨q1,q2,ha _⟩
theorem my {s:Bytes}{u:fe}(h:bH s=(u,0)):jh u:=by
 unfold bH at h
 split at h
 ·simp at h
 split at h
 ·rename_i h1 h2;exact absurd (zMd.inj h).2 h2
 rename_i h1 h2
 have h2:(bf s).2=0:=by simpa using h2
 obtain⟨q1,q2,q3⟩:=F0 s h2
 generalize (bf s).1=r at h q1 q2 q3
 unfold xr at h
 split at h
 ·simp at h
 split at h
 ·simp at h
 split at h
 ·simp at h
 rename_i h3 h4 h5
 have Jy:=q3 (by simpa using h4)
 unfold pZ at h
 split at h
 ·rename_i h6;exact absurd (zMd.inj h).2 h6
 split at h
 ·rename_i h6;exact absurd (zMd.inj h).2 h6
 split at h
 ·rename_i h6;exact absurd (zMd.inj h).2 h6
 split at h
 ·rename_i h6;exact absurd (zMd.inj h).2 h6
 rename_i e1 e2 e3 e4
 obtain⟨h,hlen⟩:=FV h
 have hp:=qB (also:=cT) (s:=r.path) (by simpa using e2)
 have hq:=qB (also:=cS) (s:=r.query) (by simpa using e3)
 have hf:=qB (also:=cS) (s:=r.fragment) (by simpa using e4)
 have hd:aO (aX cT r.path).1=[]∨∃ q,aO (aX cT r.path).1=47::q∧aO (47::q)=47::q:=by
  have hh:(aX cT r.path).1=[]∨∃ q,(aX cT r.path).1=47::q:=by
   rcases Jy with h|⟨q,h⟩
   ·left;rw[h];rfl
   ·right
    have e2':(aX cT r.path).2=0:=by simpa using e2
    rw[h]at e2' ⊢
    unfold aX at e2' ⊢
    split
    ·rename_i hx;rw[if_pos hx]at e2';simp at e2'
    rename_i hx
    rw[if_neg hx,dg (by decide),bD,if_pos (by decide)]at e2'
    rw[dg (by decide),bD,if_pos (by decide)]
    unfold comb at e2' ⊢
    split
    ·exact⟨_,rfl⟩
    ·rename_i hy;rw[if_neg hy]at e2';exact absurd e2' hy
  rcases hh with h|⟨q,h⟩
  ·left;rw[h];rfl
  ·right
   rw[h]
   obtain⟨⟨q',hq'⟩,-⟩:=vM q
   exact⟨q',hq',by have:=rG q;rw[hq']at this;exact this⟩
 have hhp:aH r.authority=(((aH r.authority).1.1,(aH r.authority).1.2),0):=by
  have:(aH r.authority).2=0:=by simpa using e1
  rw[← this]
 subst h
 refine⟨(cA hhp).1,?_,?_,?_,hq,hf,fun k=>by simp only at k ⊢;rw[q1 k];rfl,fun k=>by simp only at k ⊢;rw[q2 k];rfl,by omega⟩
 ·simp only
  rcases hd with hd|⟨q,hd,-⟩
  ·rw[if_pos hd];exact qX (by decide) (by decide)
  ·rw[if_neg (by rw[hd];simp)];exact vN (by decide) hp
 ·simp only
  rcases hd with hd|⟨q,hd,-⟩
  ·rw[if_pos hd];exact⟨_,rfl⟩
  ·rw[if_neg (by rw[hd];simp)];exact⟨_,hd⟩
 ·simp only
  rcases hd with hd|⟨q,hd,nY⟩
  ·rw[if_pos hd];exact um
  ·rw[if_neg (by rw[hd];simp),hd];exact nY
def fe.bare (u:fe):fe:={ u with fragment:=[],bF:=false }
theorem jh.bare {u:fe}(h:jh u):jh u.bare :=
 ⟨h.host,h.path,h.EI,h.dots,h.query,iP _,h.noq,fun _=>rfl,by
  have:=h.len
  unfold cF at this ⊢
  unfold fe.bare eR at *
  simp at this ⊢
  omega⟩
theorem rr {u:fe}(h:fW u=true):jh u:=my (of_decide_eq_true h)
open Go Go.RowKit
structure ow where
 user:Bytes
 host:Bytes
 deriving DecidableEq
def ow.none:ow:=⟨[],[]⟩
def nQ:Bytes:=[33,36,38,39,40,41,42,43,44,59,61]
def mM:Bytes:=[97,99,99,116,58]
def vW (n:Bytes × Int)(h:Bytes × Int):ow × Int :=
 if n.2≠0∨n.1=[]∨n.1.head? = some 37 then(ow.none,80)
 else if h.2≠0 then(ow.none,h.2)
 else(⟨n.1,h.1⟩,0)
def rf (s:Bytes):ow × Int :=
 if (aL 64 s).2.2=false then(ow.none,6)
 else vW (aX nQ (aL 64 s).1) (bB (aL 64 s).2.1)
def bO (s:Bytes):ow × Int :=
 if 4096<s.length then(ow.none,5)
 else if s.length<5∨lower (s.take 5)≠mM then(ow.none,60)
 else rf (s.drop 5)
def iX (a:ow):Bytes:=mM++a.user++[64]++a.host
theorem yy {c:UInt8}{s:Bytes}(h:(aL c s).2.2=true):s.length=(aL c s).1.length+1+(aL c s).2.1.length:=by
 have:=congrArg List.length (uncut c s)
 rw[if_pos h]at this
 simp at this;omega
structure CanAcct (a:ow):Prop where
 user:Can nQ a.user
 ne:a.user≠[]
 no:a.user.head? ≠ some 37
 host:bB a.host=(a.host,0)
theorem Ka {s:Bytes}{a:ow}(h:bO s=(a,0)):CanAcct a∧(iX a).length≤s.length∧s.length≤4096:=by
 unfold bO at h
 split at h
 ·simp at h
 split at h
 ·simp at h
 rename_i h1 h2
 unfold rf at h
 split at h
 ·simp at h
 rename_i h3
 have hlen:=yy (c:=64) (s:=s.drop 5) (by simpa using h3)
 rw[List.length_drop]at hlen
 unfold vW at h
 split at h
 ·simp at h
 rename_i h4
 simp only[not_or]at h4
 split at h
 ·rename_i h5;exact absurd (zMd.inj h).2 h5
 rename_i h5
 simp only[zMd.injEq,and_true]at h
 subst h
 have e:bB (aL 64 (s.drop 5)).2.1=((bB (aL 64 (s.drop 5)).2.1).1,0):=by
  have:(bB (aL 64 (s.drop 5)).2.1).2=0:=by simpa using h5
  rw[← this]
 obtain⟨k1,k2,k3⟩:=nT e
 refine⟨⟨qB (by simpa using h4.1),h4.2.1,h4.2.2,k3⟩,?_,by omega⟩
 have:=dH nQ (aL 64 (s.drop 5)).1
 have hl:(bB (aL 64 (s.drop 5)).2.1).1.length=(aL 64 (s.drop 5)).2.1.length:=by rw[k1,fF]
 simp only[iX,mM,zLH,zLF,zMn]
 simp only[not_or]at h2
 omega
open Go Go.RowKit
structure fU where
 method:Bytes
 id:Bytes
 deriving DecidableEq
def fU.none:fU:=⟨[],[]⟩
structure DidUrl where
 did:fU
 path:Bytes
 query:Bytes
 fragment:Bytes
 bm:Bool
 bF:Bool
 deriving DecidableEq
def DidUrl.none:DidUrl:=⟨fU.none,[],[],[],false,false⟩
def bY (c:UInt8):Bool:=isAlpha c||isDigit c||([46,45,95]:Bytes).contains c
def fc (c:UInt8):Bool:=isDigit c||decide (97≤c.toNat∧c.toNat≤122)
def dJ (s:Bytes):Bool:=!s.isEmpty&&s.all fc
def gW (c:UInt8):Bytes:=if bY c then [c] else ka c
def aN (s:Bytes):Bytes:=s.flatMap gW
def mS:PU→Bytes
 | .lit c=>[c]
 | .hex a b=>gW (unhex a b)
 | .bad=>[]
def nN:PU→Bool
 | .lit c=>bY c||c==58
 | _=>true
def cD (s:Bytes):Bytes × Int :=
 if PU.bad∈aA s then([],2) else if (aA s).all nN=false then([],1) else((aA s).flatMap mS,0)
def jR (m:Bytes)(c:Bytes × Int):fU × Int :=
 if c.2≠0 then(fU.none,c.2) else if c.1=[]∨c.1.getLast? = some 58 then(fU.none,3) else(⟨m,c.1⟩,0)
def mo (s:Bytes):fU × Int :=
 if (aL 58 s).2.2=false then(fU.none,6)
 else if dJ (aL 58 s).1=false then(fU.none,100)
 else jR (aL 58 s).1 (cD (aL 58 s).2.1)
def kb:Bytes:=[100,105,100,58]
def aY (s:Bytes):fU × Int :=
 if 4096<s.length then(fU.none,5)
 else if kb.isPrefixOf s=false then(fU.none,60)
 else mo (s.drop 4)
def bA (d:fU):Bytes:=kb++d.method++[58]++d.id
theorem ru:∀ (l:List PU),(∀ x∈l,(∀ c,x=.lit c→c≠37)∧(∀ a b,x=.hex a b→bp a=true∧bp b=true)∧x≠.bad)→aA (l.flatMap PU.str)=l
 | [],_=>rfl
 | .lit c::r,h=>by
   have h1:=(h _ zLy).1 c rfl
   rw[zLw,PU.str,zLY,dg h1,ru r (fun x hx=>h x (zLx _ hx))]
 | .hex a b::r,h=>by
   have h1:=(h _ zLy).2.1 a b rfl
   rw[zLw,PU.str]
   simp only[zLB,zLS]
   rw[fE h1.1 h1.2,ru r (fun x hx=>h x (zLx _ hx))]
 | .bad::r,h=>((h _ zLy).2.2 rfl).elim
theorem lR:∀ (f:Nat)(s:Bytes),s.length≤f→PU.bad ∉ bI f s→(bI f s).flatMap PU.str=s
 | 0,s,h,_=>by
   obtain rfl:=zL5.1 (Nat.le_zero.1 h)
   rfl
 | f+1,[],_,_=>rfl
 | f+1,c::r,h,hb=>by
   rw[bI]at hb ⊢
   simp only[zLF]at h
   split
   ·rename_i hc
    rw[if_pos hc]at hb
    cases hp:cZ r with
    | none=>rw[hp]at hb;simp at hb
    | some x =>
      obtain⟨a,b,r'⟩:=x
      rw[hp]at hb
      obtain⟨rfl,-,-⟩:=cU hp
      simp only[zLM,reduceCtorEq,false_or]at hb
      simp only[zLF]at h
      simp only[zLw,PU.str,lR f r' (by omega) hb]
      rw[hc];rfl
   ·rename_i hc
    rw[if_neg hc]at hb
    simp only[zLM,reduceCtorEq,false_or]at hb
    simp only[zLw,PU.str,lR f r (by omega) hb]
    rfl
theorem jF {s:Bytes}(h:PU.bad ∉ aA s):(aA s).flatMap PU.str=s:=lR _ s (zLG _) h
theorem nf:∀ (f:Nat)(s:Bytes)(a b:UInt8),PU.hex a b∈bI f s→bp a=true∧bp b=true
 | 0,_,_,_,h=>by simp[bI]at h
 | _+1,[],_,_,h=>by simp[bI]at h
 | f+1,d::r,a,b,h=>by
   rw[bI]at h
   split at h
   ·cases hp:cZ r with
    | none=>rw[hp]at h;simp at h
    | some x =>
      obtain⟨a',b',r'⟩:=x
      rw[hp]at h
      obtain⟨-,h2,h3⟩:=cU hp
      simp only[zLM,PU.hex.injEq]at h
      rcases h with⟨rfl,rfl⟩|h
      ·exact⟨h2,h3⟩
      ·exact nf f _ a b h
   ·simp only[zLM,reduceCtorEq,false_or]at h
    exact nf f _ a b h
theorem mZ {s:Bytes}{a b:UInt8}(h:PU.hex a b∈aA s):bp a=true∧bp b=true:=nf _ s a b h
theorem eI:∀ (n:Nat)(a b:Bytes),a.length≤n→PU.bad ∉ aA a→aA (a++58::b)=aA a++.lit 58::aA b
 | 0,a,b,h,_=>by
   obtain rfl:=zL5.1 (Nat.le_zero.1 h)
   rw[zLS,dg (by decide)];rfl
 | n+1,[],b,_,_=>by rw[zLS,dg (by decide)];rfl
 | n+1,c::a,b,h,hb=>by
   simp only[zLF]at h
   by_cases hc:c=37
   ·subst hc
    cases hp:cZ a with
    | none=>rw[ry hp]at hb;simp at hb
    | some x =>
      obtain⟨u,v,r⟩:=x
      obtain⟨rfl,h1,h2⟩:=cU hp
      rw[fE h1 h2]at hb ⊢
      simp only[zLF]at h
      simp only[zLB]
      rw[fE h1 h2,eI n r b (by omega) (by simpa using hb)]
   ·rw[dg hc]at hb ⊢
    rw[zLB,dg hc,eI n a b (by omega) (by simpa using hb)]
    rfl
def canD:PU→Prop
 | .lit c=>(bY c||c==58)=true
 | .hex a b=>bY (unhex a b)=false∧a=ib ((unhex a b).toNat / 16)∧b=ib ((unhex a b).toNat % 16)∧bp a=true∧bp b=true
 | .bad=>False
def rh (s:Bytes):Prop:=∃ l:List PU,s=l.flatMap PU.str∧∀ x∈l,canD x
theorem rJ {c:UInt8}(h:(bY c||c==58)=true):c≠37∧c≠47∧c≠63∧c≠35:=by
 have:=dA (p:=fun c=>!(bY c||c==58)||(c != 37&&c != 47&&c != 63&&c != 35)) (by decide +kernel) c
 rw[h]at this
 simpa[and_assoc] using this
theorem Jk {c:UInt8}(h:bp c=true):c≠37∧c≠47∧c≠63∧c≠35∧c≠58:=by
 have:=dA (p:=fun c=>!(bp c)||(c != 37&&c != 47&&c != 63&&c != 35&&c != 58)) (by decide +kernel) c
 rw[h]at this
 simpa[and_assoc] using this
theorem Ez {l:List PU}(h:∀ x∈l,canD x):aA (l.flatMap PU.str)=l :=
 ru l fun x hx=>by
  have:=h x hx
  cases x with
  | lit c=>exact⟨fun d e=>by cases e;exact(rJ this).1,by simp,by simp⟩
  | hex a b=>exact⟨by simp,fun u v e=>by cases e;exact this.2.2.2,by simp⟩
  | bad=>exact this.elim
theorem EA {s:Bytes}(h:rh s):cD s=(s,0):=by
 obtain⟨l,rfl,hl⟩:=h
 unfold cD
 rw[Ez hl,if_neg (fun k=>absurd (hl _ k) (by simp[canD])),if_neg ?_]
 ·congr 1
  have:∀ m:List PU,(∀ x∈m,canD x)→m.flatMap mS=m.flatMap PU.str:=by
   intro m
   induction m with
   | nil=>intro _;rfl
   | cons x m ih =>
     intro hm
     rw[zLw,zLw,ih (fun y hy=>hm y (zLx _ hy))]
     congr 1
     have:=hm x zLy
     cases x with
     | lit c=>rfl
     | hex a b =>
       simp only[mS,gW,PU.str]
       rw[if_neg (by simp[this.1])]
       unfold ka
       rw[← this.2.1,← this.2.2.1]
     | bad=>exact this.elim
  exact this l hl
 ·simp only[Bool.not_eq_false]
  refine zLI.2 fun x hx=>?_
  have:=hl x hx
  cases x with
  | lit c=>exact this
  | hex a b=>rfl
  | bad=>rfl
theorem G2 {s x:Bytes}(h:cD s=(x,0)):rh x∧x.length≤s.length∧(∀ c∈s,c≠47∧c≠63∧c≠35):=by
 unfold cD at h
 split at h
 ·simp at h
 rename_i hb
 split at h
 ·simp at h
 rename_i ha
 simp only[zMd.injEq,and_true]at h
 subst h
 have ha:(aA s).all nN=true:=by simpa using ha
 have hs:=jF hb
 have hlit:∀ c,PU.lit c∈aA s→(bY c||c==58)=true:=fun c hc=>zLI.1 ha _ hc
 have hhex:=fun a b=>mZ (s:=s) (a:=a) (b:=b)
 generalize aA s=l at *
 subst hs
 have key:∀ m:List PU,(∀ c,PU.lit c∈m→(bY c||c==58)=true)→(∀ a b,PU.hex a b∈m→bp a=true∧bp b=true)→PU.bad ∉ m →
  rh (m.flatMap mS)∧(m.flatMap mS).length≤(m.flatMap PU.str).length∧(∀ c∈m.flatMap PU.str,c≠47∧c≠63∧c≠35):=by
  intro m
  induction m with
  | nil=>intro _ _ _;exact⟨⟨[],rfl,by simp⟩,by simp,by simp⟩
  | cons x m ih =>
    intro h1 h2 h3
    obtain⟨⟨l',e',k'⟩,i2,i3⟩:=ih (fun c hc=>h1 c (zLx _ hc)) (fun a b hc=>h2 a b (zLx _ hc)) (fun hc=>h3 (zLx _ hc))
    simp only[zLw,zLH]
    cases x with
    | lit c =>
      have hc:=h1 c zLy
      refine⟨⟨.lit c::l',by rw[e'];rfl,fun y hy=>?_⟩,by rw[show (mS (.lit c)).length=1 from rfl,show (PU.str (.lit c)).length=1 from rfl];omega,fun d hd=>?_⟩
      ·rcases zLM.1 hy with rfl|hy
       ·exact hc
       ·exact k' y hy
      ·rcases zLN.1 hd with hd|hd
       ·obtain rfl:=zLL.1 hd;exact(rJ hc).2
       ·exact i3 d hd
    | hex a b =>
      obtain⟨ha',hb'⟩:=h2 a b zLy
      have rY:∀ d∈PU.str (.hex a b)++m.flatMap PU.str,d≠47∧d≠63∧d≠35:=by
       intro d hd
       rcases zLN.1 hd with hd|hd
       ·simp only[PU.str,zLM,List.not_mem_nil,or_false]at hd
        rcases hd with rfl|rfl|rfl
        ·decide
        ·have:=Jk ha';exact⟨this.2.1,this.2.2.1,this.2.2.2.1⟩
        ·have:=Jk hb';exact⟨this.2.1,this.2.2.1,this.2.2.2.1⟩
       ·exact i3 d hd
      have q1:(mS (.hex a b)).length≤3:=by simp only[mS,gW];split <;> simp[ka]
      have q2:(PU.str (.hex a b)).length=3:=rfl
      have q3:(if bY (unhex a b)=true then 1 else 3)=(mS (.hex a b)).length:=by simp only[mS,gW];split <;> simp[ka]
      by_cases hp:bY (unhex a b)=true
      ·refine⟨⟨.lit (unhex a b)::l',by rw[e',zLw];simp only[mS,gW,hp,PU.str,if_true],fun y hy=>?_⟩,by omega,rY⟩
       rcases zLM.1 hy with rfl|hy
       ·show (bY _||_)=true;rw[hp];rfl
       ·exact k' y hy
      ·have hp:bY (unhex a b)=false:=by simpa using hp
       have hn:=(unhex a b).toNat_lt
       have hv:=jy (unhex a b)
       refine⟨⟨.hex (ib ((unhex a b).toNat / 16)) (ib ((unhex a b).toNat % 16))::l',by rw[e',zLw];simp only[mS,gW,hp,PU.str,ka,Bool.false_eq_true,if_false],fun y hy=>?_⟩,by omega,rY⟩
       rcases zLM.1 hy with rfl|hy
       ·exact⟨by rw[hv];exact hp,by rw[hv],by rw[hv],fZ _ (by omega),fZ _ (by omega)⟩
       ·exact k' y hy
    | bad=>exact(h3 zLy).elim
 exact key l hlit hhex hb
structure Ab (d:fU):Prop where
 method:dJ d.method=true
 id:rh d.id
 ne:d.id≠[]
 last:d.id.getLast? ≠ some 58
theorem xS {s:Bytes}(h:dJ s=true):∀ c∈s,c≠47∧c≠63∧c≠35∧c≠58:=by
 intro c hc
 unfold dJ at h
 simp only[zLO]at h
 have h1:=zLI.1 h.2 c hc
 have:=dA (p:=fun c=>!(fc c)||(c != 47&&c != 63&&c != 35&&c != 58)) (by decide +kernel) c
 rw[h1]at this
 simpa[and_assoc] using this
theorem FE {s:Bytes}{d:fU}(h:aY s=(d,0)):Ab d∧(bA d).length≤s.length∧s.length≤4096∧∀ c∈s,c≠47∧c≠63∧c≠35:=by
 unfold aY at h
 split at h
 ·simp at h
 split at h
 ·simp at h
 rename_i h1 h2
 have h2:kb.isPrefixOf s=true:=by simpa using h2
 obtain⟨r,rfl⟩:=zLK.1 h2
 have e4:(kb++r).drop 4=r:=rfl
 rw[e4]at h
 unfold mo at h
 split at h
 ·simp at h
 split at h
 ·simp at h
 rename_i h3 h4
 have h3:(aL 58 r).2.2=true:=by simpa using h3
 have h4:dJ (aL 58 r).1=true:=by simpa using h4
 unfold jR at h
 split at h
 ·rename_i h5;exact absurd (zMd.inj h).2 h5
 split at h
 ·simp at h
 rename_i h5 h6
 simp only[not_or]at h6
 simp only[zMd.injEq,and_true]at h
 subst h
 have e:cD (aL 58 r).2.1=((cD (aL 58 r).2.1).1,0):=by
  have:(cD (aL 58 r).2.1).2=0:=by simpa using h5
  rw[← this]
 obtain⟨k1,k2,k3⟩:=G2 e
 have hlen:=yy h3
 refine⟨⟨h4,k1,h6.1,h6.2⟩,?_,by omega,?_⟩
 ·simp only[bA,zLH,zLF,zMn];omega
 ·have hu:=uncut 58 r
  rw[if_pos h3]at hu
  intro c hc
  rcases zLN.1 hc with hc|hc
  ·have:∀ c∈kb,c≠47∧c≠63∧c≠35:=by decide
   exact this c hc
  ·rw[hu]at hc
   rcases zLN.1 hc with hc|hc
   ·have:=xS h4 c hc;exact⟨this.1,this.2.1,this.2.2.1⟩
   ·rcases zLN.1 hc with hc|hc
    ·obtain rfl:=zLL.1 hc;decide
    ·exact k3 c hc
theorem zP (s:Bytes)(h:(aY s).2≠0):(aY s).1=fU.none:=by
 unfold aY at h ⊢
 split
 ·rfl
 rename_i h1
 rw[if_neg h1]at h
 split
 ·rfl
 rename_i h2
 rw[if_neg h2]at h
 unfold mo at h ⊢
 split
 ·rfl
 rename_i h3
 rw[if_neg h3]at h
 split
 ·rfl
 rename_i h4
 rw[if_neg h4]at h
 unfold jR at h ⊢
 split
 ·rfl
 rename_i h5
 rw[if_neg h5]at h
 split
 ·rfl
 rename_i h6
 rw[if_neg h6]at h
 exact absurd rfl h
theorem CB {d:fU}(h:Ab d)(hl:(bA d).length≤4096):aY (bA d)=(d,0):=by
 unfold aY
 have e1:kb.isPrefixOf (bA d)=true:=rfl
 have e2:(bA d).drop 4=d.method++58::d.id:=by show d.method++[58]++d.id=_;simp
 rw[if_neg (by omega),if_neg (by rw[e1];simp),e2]
 unfold mo
 rw[lG (eL (fun k=>(xS h.method _ k).2.2.2 rfl)),if_neg (by simp),if_neg (by simp[h.method])]
 simp only
 rw[EA h.id]
 unfold jR
 rw[if_neg (by simp),if_neg (by simp only[not_or];exact⟨h.ne,h.last⟩)]
open Go Go.RowKit
def nv (c:UInt8)(new:Bytes)(d:UInt8):Bytes:=if d=c then new else [d]
theorem AX {c:UInt8}{new s:Bytes}(h:c ∉ s):s.flatMap (nv c new)=s:=by
 induction s with
 | nil=>rfl
 | cons d s ih =>
   simp only[zLM,not_or]at h
   rw[zLw,ih h.2]
   unfold nv
   rw[if_neg (fun e=>h.1 e.symm)];rfl
theorem yU (c:UInt8)(new:Bytes):∀ (k:Nat)(s:Bytes),s.count c=k→Lib.replaceK [c] new k s=s.flatMap (nv c new):=by
 intro k
 induction k with
 | zero =>
   intro s h
   rw[AX (fun hm=>by have:=List.count_pos_iff.2 hm;omega)];rfl
 | succ k ih =>
   intro s h
   by_cases hp:pre (·==c) s<s.length
   ·have hk:Lib.index s [c]=(pre (·==c) s:Nat):=by rw[index_one,cY,if_pos hp]
    rw[Lib.replaceK_hit [c] new k s _ hk]
    rw[iG hp]at h
    have e:s=s.take (pre (·==c) s)++c::s.drop (pre (·==c) s+1):=by
     have:=gi hp
     simp only[beq_iff_eq]at this
     conv=>lhs;rw[← zLW (pre (·==c) s) s,zLJ hp,this]
    have hn:c ∉ s.take (pre (·==c) s):=by
     intro hm
     have h1:=uu (·==c) s
     obtain⟨j,hj,e⟩:=zMa hm
     have:=gM (p:=(·==c)) (l:=s.take (pre (·==c) s)) (k:=j) (by omega) hj
     rw[e]at this
     simp at this
    rw[show [c].length=1 from rfl,ih _ (by omega)]
    conv=>rhs;rw[e,zL6,zLw,AX hn]
    simp[nv]
   ·rw[mw hp]at h;omega
theorem ui (c:UInt8)(new s:Bytes)(bn:([c]==new)=false):Lib.replaceAll s [c] new=s.flatMap (nv c new):=by
 unfold Lib.replaceAll Lib.replace Lib.replaceNum
 rw[bn,if_neg (by simp),if_pos (.inl (by omega)),Lib.count_one,yU c new _ s rfl]
def nU:PU→Bytes
 | .lit c=>[c]
 | .hex a b=>kZ (unhex a b)
 | .bad=>[]
def ma (also:Bytes):PU→Bool
 | .lit c=>dm also c
 | _=>true
theorem nI (also:Bytes):∀ l:List PU,PU.bad ∉ l→bD also l=if l.all (ma also) then(l.flatMap nU,0) else([],1)
 | [],_=>rfl
 | .bad::r,h=>by simp at h
 | .lit c::r,h=>by
   rw[bD,nI also r (by simpa using h),zMr]
   cases hk:dm also c
   ·simp[ma,hk]
   ·cases hr:r.all (ma also) <;> simp[ma,hk,comb,nU]
 | .hex a b::r,h=>by
   rw[bD,nI also r (by simpa using h),zMr]
   cases hr:r.all (ma also) <;> simp[ma,comb,nU]
def eU (s:Bytes):Bytes × Int :=
 if (aj s).2≠0 then([],(aj s).2)
 else((aX [58] s).1.flatMap (nv 126 [37,55,69]),if (aX [58] s).2=0∧(126:UInt8)∈s then 1 else(aX [58] s).2)
theorem H9 (v:UInt8):(kZ v).flatMap (nv 126 [37,55,69])=gW v:=by
 have:=dA (p:=fun v=>(kZ v).flatMap (nv 126 [37,55,69])==gW v) (by decide +kernel) v
 simpa using this
theorem E3 {s:Bytes}{c:UInt8}(hb:PU.bad ∉ aA s)(hc:c≠37)(hx:bp c=false):c∈s↔PU.lit c∈aA s:=by
 have hs:=jF hb
 constructor
 ·intro h
  rw[← hs]at h
  obtain⟨u,hu,h⟩:=zMk.1 h
  cases u with
  | lit d=>obtain rfl:=zLL.1 h;exact hu
  | hex a b =>
    have:=mZ hu
    simp only[PU.str,zLM,List.not_mem_nil,or_false]at h
    rcases h with rfl|rfl|rfl
    ·exact absurd rfl hc
    ·rw[this.1]at hx;cases hx
    ·rw[this.2]at hx;cases hx
  | bad=>simp[PU.str]at h
 ·intro h
  rw[← hs]
  exact zMk.2 ⟨_,h,zLL.2 rfl⟩
theorem yY (s:Bytes)(hl:s.length≤16384):(eU s).2=(cD s).2∧((cD s).2=0→(eU s).1=(cD s).1):=by
 have d1:aj s=if PU.bad∈aA s then([],2) else((aA s).map PU.val,0):=if_neg (by omega)
 have d2:aX [58] s=bD [58] (aA s):=by unfold aX;first|rfl|exact if_neg (by omega)
 unfold eU cD
 rw[d1,d2]
 clear d1 d2
 by_cases hb:PU.bad∈aA s
 ·rw[if_pos hb,if_pos hb];simp
 ·rw[if_neg hb,if_neg hb,nI [58] _ hb]
  simp only[ne_eq,not_true,if_false]
  have key:∀ c:UInt8,(bY c||c==58)=(dm [58] c&&c != 126):=fun c=>by
   have:=dA (p:=fun c=>(bY c||c==58)==(dm [58] c&&c != 126)) (by decide +kernel) c
   simpa using this
  have h126:=E3 (s:=s) (c:=126) hb (by decide) (by decide)
  generalize aA s=l at *
  by_cases ha:l.all (ma [58])=true
  ·rw[if_pos ha]
   by_cases hm:PU.lit 126∈l
   ·have gx:l.all nN=false:=by
     rw[← Bool.not_eq_true]
     intro h
     have:=zLI.1 h _ hm
     revert this;decide
    rw[if_pos gx,if_pos ⟨rfl,h126.2 hm⟩]
    exact⟨rfl,fun h=>by simp at h⟩
   ·have hyes:¬ l.all nN=false:=by
     rw[Bool.not_eq_false]
     refine zLI.2 fun u hu=>?_
     have:=zLI.1 ha u hu
     cases u with
     | lit c =>
       show (bY c||c==58)=true
       rw[key]
       have h1:dm [58] c=true:=this
       rw[h1,Bool.true_and,bne_iff_ne]
       rintro rfl;exact hm hu
     | hex a b=>rfl
     | bad=>rfl
    rw[if_neg hyes,if_neg (fun k=>hm (h126.1 k.2))]
    refine⟨rfl,fun _=>?_⟩
    show (l.flatMap nU).flatMap (nv 126 [37,55,69])=l.flatMap mS
    clear hyes h126 ha
    induction l with
    | nil=>rfl
    | cons u l ih =>
      rw[zLw,zL6,zLw,ih (fun k=>hb (zLx _ k)) (fun k=>hm (zLx _ k)) rfl]
      congr 1
      cases u with
      | lit c =>
        have:c≠126:=by rintro rfl;exact hm zLy
        show ([c]:Bytes).flatMap (nv 126 [37,55,69])=[c]
        simp[nv,this]
      | hex a b=>exact H9 _
      | bad=>rfl
  ·rw[if_neg ha]
   have gx:l.all nN=false:=by
    rw[← Bool.not_eq_true]
    intro h
    refine ha (zLI.2 fun u hu=>?_)
    have:=zLI.1 h u hu
    cases u with
    | lit c =>
      have h1:(bY c||c==58)=true:=this
      rw[key,zLO]at h1
      exact h1.1
    | hex a b=>rfl
    | bad=>rfl
   rw[if_pos gx,if_neg (by simp)]
   exact⟨rfl,fun h=>by simp at h⟩
theorem kH:∀ (n:Nat)(a b:Bytes),a.length≤n→PU.bad∈aA a→PU.bad∈aA (a++58::b)
 | _,[],b,_,h=>by simp[dZ]at h
 | 0,c::a,b,h,_=>by simp at h
 | n+1,c::a,b,h,hb=>by
   simp only[zLF]at h
   by_cases hc:c=37
   ·subst hc
    cases hp:cZ a with
    | none =>
      have:cZ (a++58::b)=none:=by
       rcases a with _|⟨u,_|⟨v,r⟩⟩
       ·cases b <;> simp[cZ,show bp 58=false by decide]
       ·simp[cZ,show bp 58=false by decide]
       ·unfold cZ at hp ⊢
        simp only[zLB]
        by_cases hx:(bp u&&bp v)=true
        ·simp[hx]at hp
        ·simp[hx]
      rw[zLB,ry this];simp
    | some x =>
      obtain⟨u,v,r⟩:=x
      obtain⟨rfl,h1,h2⟩:=cU hp
      rw[fE h1 h2]at hb
      simp only[zLF]at h
      simp only[zLB]
      rw[fE h1 h2]
      exact zLx _ (kH n r b (by omega) (by simpa using hb))
   ·rw[dg hc]at hb
    rw[zLB,dg hc]
    exact zLx _ (kH n a b (by omega) (by simpa using hb))
theorem pA:∀ (l:List Bytes)(x:Bytes),((∃ y∈x::l,PU.bad∈aA y)↔PU.bad∈aA (x++l.flatMap (58::·))) ∧
 ((∀ y∈x::l,PU.bad ∉ aA y)→aA (x++l.flatMap (58::·))=aA x++l.flatMap (fun y=>.lit 58::aA y))
 | [],x=>by simp
 | y::l,x=>by
   obtain⟨h1,h2⟩:=pA l y
   have e:x++(y::l).flatMap (58::·)=x++58::(y++l.flatMap (58::·)):=by simp
   rw[e]
   constructor
   ·constructor
    ·rintro⟨z,hz,hb⟩
     by_cases hx:PU.bad∈aA x
     ·exact kH _ _ _ (zLG _) hx
     ·rw[eI _ _ _ (zLG _) hx]
      rcases zLM.1 hz with rfl|hz
      ·exact absurd hb hx
      ·exact List.mem_append_right _ (zLx _ (h1.1 ⟨z,hz,hb⟩))
    ·intro hb
     by_cases hx:PU.bad∈aA x
     ·exact⟨x,zLy,hx⟩
     ·rw[eI _ _ _ (zLG _) hx]at hb
      rcases zLN.1 hb with hb|hb
      ·exact absurd hb hx
      ·simp only[zLM,reduceCtorEq,false_or]at hb
       obtain⟨z,hz,hb⟩:=h1.2 hb
       exact⟨z,zLx _ hz,hb⟩
   ·intro h
    rw[eI _ _ _ (zLG _) (h x zLy),h2 (fun z hz=>h z (zLx _ hz))]
    simp
def dG (y:Bytes):Bool:=y.all fun c=>bY c||c==37
def jw (y:Bytes):Bytes:=(aA y).map PU.val
theorem yn {c:UInt8}(h:bp c=true):bY c=true:=by
 have:=dA (p:=fun c=>!(bp c)||bY c) (by decide +kernel) c
 rw[h]at this
 simpa using this
theorem jI {y:Bytes}(hb:PU.bad ∉ aA y)(hc:(58:UInt8) ∉ y):dG y=(aA y).all nN:=by
 have key:∀ l:List PU,(∀ a b,PU.hex a b∈l→bp a=true∧bp b=true)→(∀ c,PU.lit c∈l→c≠37)→(58:UInt8) ∉ l.flatMap PU.str →
  (l.flatMap PU.str).all (fun c=>bY c||c==37)=l.all nN:=by
  intro l
  induction l with
  | nil=>intros;rfl
  | cons u l ih =>
    intro hh hl hc
    have ih:=ih (fun a b k=>hh a b (zLx _ k)) (fun c k=>hl c (zLx _ k)) (fun k=>hc (by rw[zLw];exact List.mem_append_right _ k))
    rw[zLw,zMx,zMr,ih]
    congr 1
    cases u with
    | lit c =>
      have h1:c≠37:=hl c zLy
      have h2:c≠58:=by rintro rfl;exact hc (by simp[PU.str])
      have e1:(c==37)=false:=by simpa using h1
      have e2:(c==58)=false:=by simpa using h2
      simp[PU.str,nN,e1,e2]
    | hex a b =>
      obtain⟨h1,h2⟩:=hh a b zLy
      simp[PU.str,nN,yn h1,yn h2]
    | bad=>rfl
 have:=key (aA y) (fun a b=>mZ) (sr y) (by rw[jF hb];exact hc)
 rw[jF hb]at this
 exact this
theorem xd {l:List PU}(h:∀ c,PU.lit c∈l→bY c=true)(hb:PU.bad ∉ l):l.flatMap mS=aN (l.map PU.val):=by
 induction l with
 | nil=>rfl
 | cons u l ih =>
   have ih:=ih (fun c k=>h c (zLx _ k)) (fun k=>hb (zLx _ k))
   rw[zLw,ih,zMq]
   show _=gW u.val++aN (l.map PU.val)
   congr 1
   cases u with
   | lit c=>simp[mS,PU.val,gW,h c zLy]
   | hex a b=>rfl
   | bad=>exact absurd zLy hb
def jc (x:Bytes)(l:List Bytes):Bytes:=aN (jw x)++l.flatMap fun y=>58::aN (jw y)
theorem Dt {s x:Bytes}{l:List Bytes}(e:s=x++l.flatMap (58::·))(hn:∀ y∈x::l,(58:UInt8) ∉ y) :
 cD s=if ∃ y∈x::l,PU.bad∈aA y then([],2) else if (x::l).all dG=false then([],1) else(jc x l,0):=by
 obtain⟨h1,h2⟩:=pA l x
 rw[← e]at h1 h2
 unfold cD
 by_cases hb:∃ y∈x::l,PU.bad∈aA y
 ·rw[if_pos hb,if_pos (h1.1 hb)]
 ·rw[if_neg hb,if_neg (fun k=>hb (h1.2 k))]
  have hb:∀ y∈x::l,PU.bad ∉ aA y:=fun y hy k=>hb ⟨y,hy,k⟩
  rw[h2 hb]
  have aR:(aA x++l.flatMap fun y=>PU.lit 58::aA y).all nN=(x::l).all dG:=by
   rw[zMx,zMr,jI (hb x zLy) (hn x zLy)]
   congr 1
   have:∀ m:List Bytes,(∀ y∈m,PU.bad ∉ aA y∧(58:UInt8) ∉ y)→(m.flatMap fun y=>PU.lit 58::aA y).all nN=m.all dG:=by
    intro m
    induction m with
    | nil=>intro _;rfl
    | cons y m ih =>
      intro hm
      rw[zLw,zMx,zMr,zMr,ih (fun z hz=>hm z (zLx _ hz)),jI (hm y zLy).1 (hm y zLy).2]
      rfl
   exact this l fun y hy=>⟨hb y (zLx _ hy),hn y (zLx _ hy)⟩
  rw[aR]
  by_cases ha:(x::l).all dG=false
  ·rw[if_pos ha,if_pos ha]
  ·rw[if_neg ha,if_neg ha]
   have ha:(x::l).all dG=true:=by simpa using ha
   congr 1
   have hp:∀ y∈x::l,(aA y).flatMap mS=aN (jw y):=by
    intro y hy
    refine xd (fun c hc=>?_) (hb y hy)
    have h3:=zLI.1 ha y hy
    rw[jI (hb y hy) (hn y hy)]at h3
    have h4:(bY c||c==58)=true:=zLI.1 h3 _ hc
    have h5:c≠58:=by
     rintro rfl
     exact hn y hy ((E3 (hb y hy) (by decide) (by decide)).2 hc)
    simpa[h5] using h4
   rw[zL6,hp x zLy]
   unfold jc
   congr 1
   have:∀ m:List Bytes,(∀ y∈m,(aA y).flatMap mS=aN (jw y))→(m.flatMap fun y=>PU.lit 58::aA y).flatMap mS=m.flatMap fun y=>58::aN (jw y):=by
    intro m
    induction m with
    | nil=>intro _;rfl
    | cons y m ih =>
      intro hm
      rw[zLw,zL6,zLw,zLw,ih (fun z hz=>hm z (zLx _ hz)),hm y zLy]
      rfl
   exact this l fun y hy=>hp y (zLx _ hy)
theorem JO (s:Bytes):(58:UInt8) ∉ aN s:=by
 intro hc
 obtain⟨d,-,hd⟩:=zMk.1 hc
 have h1:=dA (p:=fun d=>(gW d).all fun c=>c != 58) (by decide +kernel) d
 have:=zLI.1 h1 _ hd
 simp at this
theorem Fz {s:Bytes}:aN s=[]↔s=[]:=by
 constructor
 ·intro h
  cases s with
  | nil=>rfl
  | cons c s =>
    have:gW c++aN s=[]:=h
    have h2:gW c=[]:=(List.append_eq_nil_iff.1 this).1
    unfold gW ka at h2
    split at h2 <;> simp at h2
 ·rintro rfl;rfl
theorem CG {y:Bytes}(hb:PU.bad ∉ aA y):jw y=[]↔y=[]:=by
 constructor
 ·intro h
  have:aA y=[]:=List.map_eq_nil_iff.1 h
  rw[← jF hb,this];rfl
 ·rintro rfl;rfl
theorem F4 {x:Bytes}{l:List Bytes}(hb:∀ y∈x::l,PU.bad ∉ aA y):(jc x l=[]∨(jc x l).getLast? = some 58)↔(x::l).getLast? = some []:=by
 have last:∀ y:Bytes,(aN y).getLast? ≠ some 58:=fun y k=>JO y (zMj k)
 rcases List.eq_nil_or_concat l with rfl|⟨m,z,rfl⟩
 ·unfold jc
  rw[zMo,zLU,Fz,CG (hb x zLy)]
  simp[last]
 ·rw[List.concat_eq_append]at *
  have hz:=hb z (by simp)
  have e:jc x (m++[z])=jc x m++58::aN (jw z):=by simp[jc]
  rw[e,show x::(m++[z])=(x::m)++[z] by simp,zMp,zMp]
  simp only[List.getLast?_singleton,Option.some_or,zMh.injEq]
  constructor
  ·rintro(h|h)
   ·simp at h
   ·cases hd:aN (jw z) with
    | nil=>exact(CG hz).1 (Fz.1 hd)
    | cons a r =>
      rw[hd]at h
      rw[List.getLast?_cons_cons,← hd]at h
      cases hq:(aN (jw z)).getLast? with
      | none=>rw[List.getLast?_eq_none_iff]at hq;rw[hq]at hd;cases hd
      | some w=>rw[hq]at h;exact absurd (by rw[hq];simpa using h) (last (jw z))
  ·rintro rfl
   right
   simp[jw,dZ,aN]
open Go Go.RowKit
theorem A6 {p:UInt8→Bool}:∀ {a:Bytes}(r:Bytes),(∀ c∈a,p c=false)→pre p (a++r)=a.length+pre p r
 | [],r,_=>by simp
 | c::a,r,h=>by
   have h1:=h c zLy
   have ih:=A6 (a:=a) r (fun d hd=>h d (zLx _ hd))
   rw[zLB,ck,h1,if_neg (by simp),ih,zLF]
   omega
theorem G0 {c:UInt8}{a:Bytes}(r:Bytes)(h:c ∉ a):aL c (a++r)=(a++(aL c r).1,(aL c r).2.1,(aL c r).2.2):=by
 have hp:pre (·==c) (a++r)=a.length+pre (·==c) r:=A6 r fun d hd=>by
  have:d≠c:=by rintro rfl;exact h hd
  simpa using this
 by_cases hr:pre (·==c) r<r.length
 ·rw[show aL c r=(r.take (pre (·==c) r),r.drop (pre (·==c) r+1),true) from if_pos hr]
  rw[show aL c (a++r)=((a++r).take (pre (·==c) (a++r)),(a++r).drop (pre (·==c) (a++r)+1),true) from if_pos (by rw[hp,zLH];omega)]
  rw[hp,List.take_length_add_append,Nat.add_assoc,List.drop_length_add_append]
 ·have hle:=cx (·==c) r
  rw[fK (s:=r) (by omega),fK (s:=a++r) (by rw[hp,zLH];omega)]
theorem pz (c:UInt8):∀ (n:Nat)(s:Bytes),s.length≤n→∃ x l,aC c s=x::l∧s=x++l.flatMap (c::·)∧∀ y∈x::l,c ∉ y:=by
 intro n
 induction n with
 | zero =>
   intro s h
   obtain rfl:=zL5.1 (Nat.le_zero.1 h)
   exact⟨[],[],rfl,rfl,by simp⟩
 | succ n ih =>
   intro s h
   have gx:c ∉ s.take (pre (·==c) s):=by
    intro hm
    obtain⟨j,hj,e⟩:=zMa hm
    have iz:j<pre (·==c) s∧j<s.length:=by rw[zL3]at hj;omega
    have:=gM (p:=(·==c)) (l:=s) (k:=j) iz.1 iz.2
    rw[List.getElem_take]at e
    rw[e]at this
    simp at this
   by_cases hp:pre (·==c) s<s.length
   ·obtain⟨x,l,e1,e2,e3⟩:=ih (s.drop (pre (·==c) s+1)) (by simp;omega)
    refine⟨s.take (pre (·==c) s),x::l,by rw[cJ hp,e1],?_,?_⟩
    ·have hg:=gi hp
     simp only[beq_iff_eq]at hg
     conv=>lhs;rw[← zLW (pre (·==c) s) s,zLJ hp,hg,e2]
     simp
    ·intro y hy
     rcases zLM.1 hy with rfl|hy
     ·exact gx
     ·exact e3 y hy
   ·have hq:=cx (·==c) s
    rw[zLX (by omega)]at gx
    exact⟨s,[],ch hp,by simp,by simpa using gx⟩
def eK:List Bytes→Bytes
 | []=>[]
 | x::l=>jc x l
theorem wC (l:List Bytes)(y:Bytes):eK (l++[y])=eK l++(if l=[] then [] else [58])++aN (jw y):=by
 cases l with
 | nil=>simp[eK,jc]
 | cons x l=>simp[eK,jc]
theorem wB {l:List Bytes}{k:Nat}(h:k<l.length):eK (l.take (k+1))=eK (l.take k)++(if k=0 then [] else [58])++aN (jw l[k]):=by
 rw[zL7 h,wC]
 congr 2
 cases k with
 | zero=>simp
 | succ k=>cases l with
   | nil=>simp at h
   | cons x l=>simp
theorem JW (c:UInt8):(gW c).length≤3:=by unfold gW;split <;> simp[ka]
theorem fB (s:Bytes):(aN s).length≤3 * s.length:=by
 induction s with
 | nil=>simp[aN]
 | cons c s ih =>
   have:=JW c
   show (gW c++aN s).length≤_
   rw[zLH,zLF]
   omega
theorem nh:∀ (f:Nat)(s:Bytes),(bI f s).length≤f
 | 0,s=>by simp[bI]
 | f+1,[]=>by simp[bI]
 | f+1,c::r=>by
   rw[bI]
   split
   ·split
    ·rename_i a b r' h
     have:=nh f r'
     simpa using this
    ·simp
   ·have:=nh f r
    simpa using this
theorem jS (y:Bytes):(jw y).length≤y.length:=by
 have:=nh y.length y
 simpa[jw,aA] using this
theorem yI:∀ (l:List Bytes),(eK l).length≤3 * l.flatten.length+l.length
 | []=>by simp[eK]
 | x::l=>by
   have h1:=fB (jw x)
   have h2:=jS x
   have h3:∀ m:List Bytes,(m.flatMap fun y=>58::aN (jw y)).length≤3 * m.flatten.length+m.length:=by
    intro m
    induction m with
    | nil=>simp
    | cons y m ih =>
      have k1:=fB (jw y)
      have k2:=jS y
      simp only[zLw,zLH,zLF,zMi]at ih ⊢
      omega
   have h4:=h3 l
   simp only[eK,jc,zLH,zMi,zLF]
   omega
theorem CD (m s:Bytes):jR m (cD s) =
 if ∃ y∈aC 58 s,PU.bad∈aA y then(fU.none,2) else if (aC 58 s).all dG=false then(fU.none,1)
 else if (aC 58 s).getLast? = some [] then(fU.none,3) else(⟨m,eK (aC 58 s)⟩,0):=by
 obtain⟨x,l,e1,e2,e3⟩:=pz 58 _ s (zLG _)
 rw[e1,Dt e2 e3]
 by_cases hb:∃ y∈x::l,PU.bad∈aA y
 ·rw[if_pos hb,if_pos hb];rfl
 rw[if_neg hb,if_neg hb]
 by_cases ha:(x::l).all dG=false
 ·rw[if_pos ha,if_pos ha];rfl
 rw[if_neg ha,if_neg ha]
 have hb:∀ y∈x::l,PU.bad ∉ aA y:=fun y hy k=>hb ⟨y,hy,k⟩
 have hs:=F4 hb
 unfold jR
 rw[if_neg (by simp)]
 by_cases hq:(x::l).getLast? = some []
 ·rw[if_pos hq,if_pos (hs.2 hq)]
 ·rw[if_neg hq,if_neg (fun k=>hq (hs.1 k))];rfl
theorem mu {y:Bytes}(h:y.length≤16384):aj y=if PU.bad∈aA y then([],2) else(jw y,0):=if_neg (by omega)
open Go Go.RowKit
def dP:Bytes:=[119,101,98]
def cL:Bytes:=[47,46,119,101,108,108,45,107,110,111,119,110,47,100,105,100,46,106,115,111,110]
def fw:Bytes:=[100,105,100,46,106,115,111,110]
def bh (d:fU):(Bytes × Int) × Int :=
 if d.method≠dP then(([],0),100)
 else if (aY (bA d)).2≠0 then(([],0),(aY (bA d)).2)
 else aH (aj (aL 58 d.id).1).1
def en (x:Bytes):Bool:=(aj x).2==0&&(aj x).1 != []&&(aj x).1 != [46]&&(aj x).1 != [46,46]
def gL (x:Bytes):Bytes:=47::aF [] (aj x).1
def ik (l:List Bytes):Bytes:=if l=[] then cL else l.flatMap gL++47::fw
def jG (u:fe):fe × Int:=if 4096<(cF u).length then(fe.none,5) else(u,0)
def eJ (d:fU):fe × Int :=
 if (bh d).2≠0 then(fe.none,(bh d).2)
 else if (aC 58 d.id).tail.all en=false then(fe.none,110)
 else jG ⟨(bh d).1.1,(bh d).1.2,ik (aC 58 d.id).tail,[],[],false,false⟩
def de (c:UInt8):Bool:=c==37||eY c
def bN (x:Bytes):Bool:=x.all de&&(aj x).2==0&&(aj x).1 != []
def bt (x:Bytes):Bytes:=58::aN (aj x).1
def bk (u:fe):Bytes:=u.host++(if u.port=0 then [] else [37,51,65]++cM u.port.natAbs)
def gU (d:fU):fU × Int:=if 4096<(bA d).length then(fU.none,5) else(d,0)
def fA (u:fe)(l:List Bytes):fU × Int :=
 if u.path=cL then gU ⟨dP,bk u⟩
 else if l.all bN=false then(fU.none,110)
 else gU ⟨dP,bk u++l.flatMap bt⟩
def gf (u:fe):fU × Int :=
 if fW u=false then(fU.none,8)
 else if u.bm=true∨u.bF=true∨(aC 47 u.path).tail.getLast? ≠ some fw then(fU.none,6)
 else if (aC 47 u.path).tail.length=1 then(fU.none,110)
 else fA u (aC 47 u.path).tail.dropLast
def eF (d:fU):fU × Int:=if (eJ d).2≠0 then(fU.none,(eJ d).2) else gf (eJ d).1
theorem sx (c:UInt8):∀ (l:List Bytes)(x:Bytes),c ∉ x→(∀ y∈l,c ∉ y)→aC c (x++l.flatMap (c::·))=x::l
 | [],x,hx,_=>by
   rw[zMo,zLU]
   exact ch (by rw[eL hx];omega)
 | y::l,x,hx,hl=>by
   have hp:pre (·==c) (x++(y::l).flatMap (c::·))=x.length:=by
    rw[zLw,zLB]
    exact tJ (eL hx) c _ (by simp)
   rw[cJ (by rw[hp];simp),hp,List.take_left,← List.drop_drop,List.drop_left,zLw,zLB,zMu,List.drop_zero,
    sx c l y (hl y zLy) (fun z hz=>hl z (zLx _ hz))]
theorem su (c:UInt8):∀ (n:Nat)(s:Bytes),s.length≤n→∃ x l,aC c s=x::l∧s=x++l.flatMap (c::·)∧c ∉ x∧∀ y∈l,c ∉ y
 | n,s,h=>by
   by_cases hp:pre (·==c) s<s.length
   ·match n,h with
    | 0,h=>omega
    | n+1,h =>
      obtain⟨x,l,e1,e2,e3,e4⟩:=su c n (s.drop (pre (·==c) s+1)) (by simp;omega)
      refine⟨s.take (pre (·==c) s),x::l,by rw[cJ hp,e1],?_,?_,?_⟩
      ·have:=gi hp
       simp only[beq_iff_eq]at this
       conv=>lhs;rw[← zLW (pre (·==c) s) s,zLJ hp,this,e2]
       simp
      ·intro hm
       have h1:=(uu (·==c) s)
       obtain⟨k,hk,e⟩:=zMa hm
       have:=gM (p:=(·==c)) (l:=s.take (pre (·==c) s)) (k:=k) (by omega) hk
       rw[e]at this
       simp at this
      ·intro y hy
       rcases zLM.1 hy with rfl|hy
       ·exact e3
       ·exact e4 y hy
   ·refine⟨s,[],ch hp,by simp,fun hm=>?_,by simp⟩
    obtain⟨k,hk,e⟩:=zMa hm
    have:=gM (p:=(·==c)) (l:=s) (k:=k) (by omega) hk
    rw[e]at this
    simp at this
theorem can_enc (also s:Bytes):Can also (aF [] s):=by
 induction s with
 | nil=>exact iP _
 | cons c s ih =>
   show Can also (iF [] c++aF [] s)
   refine mz ?_ ih
   unfold iF
   cases h:eY c
   ·simp;exact can_esc also h
   ·simp;exact qX (by unfold dm;rw[h];rfl) (Aq h)
theorem JR (s:Bytes):(47:UInt8) ∉ aF [] s:=by
 intro hc
 obtain⟨d,-,hd⟩:=zMk.1 hc
 have h1:=dA (p:=fun d=>(iF [] d).all fun c=>c != 47) (by decide +kernel) d
 have:=zLI.1 h1 _ hd
 simp at this
theorem FB {s t:Bytes}(h:aF [] s=aF [] t):s=t:=by
 have h1:=(lP [] s).1
 rw[h,(lP [] t).1]at h1
 exact h1.symm
theorem mr:∀ s:Bytes,(aA (aN s)).map PU.val=s∧PU.bad ∉ aA (aN s)
 | []=>⟨rfl,by simp[aN,dZ]⟩
 | c::s=>by
   obtain⟨h1,h2⟩:=mr s
   have e:aN (c::s)=gW c++aN s:=rfl
   rw[e]
   unfold gW
   split
   ·rename_i hc
    have bn:c≠37:=by rintro rfl;exact absurd hc (by decide)
    rw[zLY,dg bn]
    exact⟨by simp[PU.val,h1],by simpa using h2⟩
   ·rw[xt]
    exact⟨by simp[PU.val,h1,jy],by simpa using h2⟩
theorem xe {s:Bytes}(h:(aN s).length≤16384):aj (aN s)=(s,0):=by
 obtain⟨h1,h2⟩:=mr s
 unfold aj
 rw[if_neg (by omega),if_neg h2,h1]
theorem qV (s:Bytes):∀ c∈aN s,c≠58:=by
 intro c hc
 obtain⟨d,-,hd⟩:=zMk.1 hc
 have h1:=dA (p:=fun d=>(gW d).all fun c=>c != 58) (by decide +kernel) d
 have:=zLI.1 h1 _ hd
 simpa using this
theorem vR:rh []:=⟨[],rfl,by simp⟩
theorem jT {a b:Bytes}(ha:rh a)(hb:rh b):rh (a++b):=by
 obtain⟨l,rfl,h1⟩:=ha
 obtain⟨m,rfl,h2⟩:=hb
 exact⟨l++m,by simp,fun x hx=>by
  rcases zLN.1 hx with h|h
  ·exact h1 x h
  ·exact h2 x h⟩
theorem vQ {c:UInt8}(h:(bY c||c==58)=true):rh [c]:=⟨[.lit c],rfl,fun x hx=>by
 obtain rfl:=zLL.1 hx;exact h⟩
theorem J3 {c:UInt8}(h:bY c=false):rh (ka c):=⟨[.hex (ib (c.toNat / 16)) (ib (c.toNat % 16))],rfl,fun x hx=>by
 obtain rfl:=zLL.1 hx
 have hn:=c.toNat_lt
 have hv:=jy c
 exact⟨by rw[hv];exact h,by rw[hv],by rw[hv],fZ _ (by omega),fZ _ (by omega)⟩⟩
theorem CN (s:Bytes):rh (aN s):=by
 induction s with
 | nil=>exact vR
 | cons c s ih =>
   show rh (gW c++aN s)
   refine jT ?_ ih
   unfold gW
   cases h:bY c
   ·simp;exact J3 h
   ·simp;exact vQ (by rw[h];rfl)
theorem pT {s:Bytes}(h:∀ c∈s,bY c=true):rh s:=by
 induction s with
 | nil=>exact vR
 | cons c s ih=>exact jT (a:=[c]) (vQ (by rw[h c zLy];rfl)) (ih fun d hd=>h d (zLx _ hd))
theorem Eb {x:Bytes}(h:bB x=(x,0)):∀ c∈x,bY c=true:=by
 intro c hc
 have h1:=sQ h c hc
 have:=dA (p:=fun c=>!(we c||c==46)||bY c) (by decide +kernel) c
 have h2:(we c||c==46)=true:=by rcases h1 with h|rfl <;> simp[*]
 rw[h2]at this
 simpa using this
theorem sj (n:Nat):∀ c∈cM n,bY c=true:=by
 intro c hc
 have:=sY n c hc
 unfold bY;rw[this];simp
theorem host_ne {x:Bytes}(h:bB x=(x,0)):x≠[]:=by
 rintro rfl
 revert h;decide
theorem qK {u:fe}(h:aH (bg u.host u.port)=((u.host,u.port),0)):rh (bk u)∧(58:UInt8) ∉ bk u∧bk u≠[]∧(aA (bk u)).map PU.val=bg u.host u.port∧PU.bad ∉ aA (bk u):=by
 obtain⟨-,h1,-,-,h2,-⟩:=cA h
 have hp:=Eb h1
 have gd:∀ s:Bytes,(∀ c∈s,bY c=true)→∀ r,aA (s++r)=s.map PU.lit++aA r:=by
  intro s
  induction s with
  | nil=>intro _ r;rfl
  | cons c s ih =>
    intro hs r
    have:=(rJ (c:=c) (by rw[hs c zLy];rfl)).1
    rw[zLB,dg this,ih (fun d hd=>hs d (zLx _ hd))]
    rfl
 have vl:∀ s:Bytes,(s.map PU.lit).map PU.val=s:=by intro s;simp[Function.comp_def,PU.val]
 have n58:∀ s:Bytes,(∀ c∈s,bY c=true)→(58:UInt8) ∉ s:=fun s hs hm=>absurd (hs _ hm) (by decide)
 have nb:∀ s:Bytes,PU.bad ∉ s.map PU.lit:=by intro s;simp
 by_cases h0:u.port=0
 ·have e:bk u=u.host:=by unfold bk;rw[if_pos h0,zLU]
  have e2:bg u.host u.port=u.host:=by unfold bg;rw[if_pos h0]
  have e3:=gd u.host hp []
  rw[zLU,dZ,zLU]at e3
  rw[e,e2,e3]
  exact⟨pT hp,n58 _ hp,host_ne h1,vl _,nb _⟩
 ·have e:bk u=u.host++([37,51,65]++cM u.port.natAbs):=by unfold bk;rw[if_neg h0]
  have e2:bg u.host u.port=u.host++[58]++cM u.port.natAbs:=by unfold bg;rw[if_neg h0,if_neg (by omega)]
  have e3:=gd u.host hp ([37,51,65]++cM u.port.natAbs)
  have e4:=gd _ (sj u.port.natAbs) []
  rw[zLU,dZ,zLU]at e4
  have e5:aA ([37,51,65]++cM u.port.natAbs)=.hex 51 65::aA (cM u.port.natAbs):=fE (by decide) (by decide) _
  rw[e,e2,e3,e5,e4]
  refine⟨jT (pT hp) (jT (a:=[37,51,65]) ⟨[.hex 51 65],rfl,fun x hx=>?_⟩ (pT (sj _))),?_,by simp,?_,?_⟩
  ·obtain rfl:=zLL.1 hx
   refine⟨by decide,by decide,by decide,by decide,by decide⟩
  ·simp only[zLN,not_or]
   exact⟨n58 _ hp,by decide,n58 _ (sj _)⟩
  ·rw[List.map_append,zMq,vl,vl]
   simp[PU.val]
   decide
  ·simp
theorem yr (c:UInt8):∀ (l:List Bytes),l≠[]→(∀ x∈l,x≠[])→(l.flatMap (c::·)).getLast? = (l.getLast?.getD []).getLast?
 | [],h,_=>absurd rfl h
 | [x],_,h=>by
   have hx:=h x zLy
   cases x with
   | nil=>exact absurd rfl hx
   | cons a x=>simp
 | x::y::l,_,h=>by
   have ih:=yr c (y::l) (by simp) (fun z hz=>h z (zLx _ hz))
   rw[zLw,zMp,ih]
   have bn:((y::l).getLast?.getD [])≠[]:=by
    cases hl:(y::l).getLast? with
    | none=>simp at hl
    | some z=>exact h z (zLx _ (zMj hl))
   rw[List.getLast?_cons_cons]
   cases hz:((y::l).getLast?.getD []).getLast? with
   | none=>rw[List.getLast?_eq_none_iff]at hz;exact absurd hz bn
   | some z=>rfl
theorem ED {u:fe}{ss:List Bytes}(hh:aH (bg u.host u.port)=((u.host,u.port),0))(hs:∀ s∈ss,s≠[]∧s≠[46]∧s≠[46,46])
 (hl:(bA ⟨dP,bk u++ss.flatMap fun s=>58::aN s⟩).length≤4096):Ab ⟨dP,bk u++ss.flatMap fun s=>58::aN s⟩:=by
 obtain⟨b1,b2,b3,b4,b5⟩:=qK hh
 have ef:(ss.flatMap fun s=>58::aN s)=(ss.map aN).flatMap (58::·):=by rw[zMf]
 have bn:∀ s∈ss,aN s≠[]:=fun s hm e=>by
  have h1:s≠[]:=(hs s hm).1
  have:=(mr s).1
  rw[e,dZ]at this
  exact h1 this.symm
 refine⟨show dJ dP=true by decide,jT b1 ?_,by simp[b3],?_⟩
 ·clear hl bn hs ef
  induction ss with
  | nil=>exact vR
  | cons s ss ih=>exact jT (jT (a:=[58]) (vQ (by decide)) (CN s)) ih
 ·simp only
  cases ss with
  | nil =>
    rw[zMo,zLU]
    intro k
    exact b2 (zMj k)
  | cons s ss =>
    rw[ef,zMp,yr 58 _ (by simp) (by
     intro x hx
     obtain⟨t,ht,rfl⟩:=zMl.1 hx
     exact bn t ht)]
    obtain⟨t,ht,e⟩:∃ t∈s::ss,((s::ss).map aN).getLast?.getD []=aN t:=by
     rw[List.getLast?_map]
     cases hq:(s::ss).getLast? with
     | none=>simp at hq
     | some t=>exact⟨t,zMj hq,rfl⟩
    rw[e]
    cases hz:(aN t).getLast? with
    | none=>rw[List.getLast?_eq_none_iff]at hz;exact absurd hz (bn t ht)
    | some z =>
      intro k
      obtain rfl:z=58:=by simpa using k
      exact qV t _ (zMj hz) rfl
theorem Al {u:fe}{ss:List Bytes}(hh:aH (bg u.host u.port)=((u.host,u.port),0))(hs:∀ s∈ss,s≠[]∧s≠[46]∧s≠[46,46])
 (hl:(bA ⟨dP,bk u++ss.flatMap fun s=>58::aN s⟩).length≤4096) :
 bh ⟨dP,bk u++ss.flatMap fun s=>58::aN s⟩=((u.host,u.port),0)∧(aC 58 (bk u++ss.flatMap fun s=>58::aN s)).tail=ss.map aN∧(ss.map aN).all en=true∧∀ s∈ss,(aj (aN s)).1=s:=by
 obtain⟨b1,b2,b3,b4,b5⟩:=qK hh
 have ef:(ss.flatMap fun s=>58::aN s)=(ss.map aN).flatMap (58::·):=by rw[zMf]
 have hlen:∀ s∈ss,(aN s).length≤4096:=by
  intro s hm
  have h1:(aN s).length≤(ss.flatMap fun s=>58::aN s).length:=by
   obtain⟨p,q,rfl⟩:=List.append_of_mem hm
   simp;omega
  simp[bA]at hl
  simp at h1
  omega
 have mQ:(bk u).length≤4096:=by simp[bA]at hl;omega
 have Cg:∀ s∈ss,aj (aN s)=(s,0):=fun s hm=>xe (by have:=hlen s hm;omega)
 have bn:∀ s∈ss,aN s≠[]:=fun s hm e=>by
  have:=Cg s hm
  rw[e]at this
  exact(hs s hm).1 (zMd.inj this).1.symm
 have nS:aC 58 (bk u++ss.flatMap fun s=>58::aN s)=bk u::ss.map aN:=by
  rw[ef]
  refine sx 58 _ _ b2 fun y hy=>?_
  obtain⟨s,-,rfl⟩:=zMl.1 hy
  exact fun k=>qV s _ k rfl
 have Ej:=ED hh hs hl
 have hr:=CB Ej hl
 refine⟨?_,by rw[nS];rfl,zLI.2 fun x hx=>?_,fun s hm=>by rw[Cg s hm]⟩
 ·unfold bh
  rw[if_neg (by simp),hr,if_neg (by simp)]
  simp only
  have hc:(aL 58 (bk u++ss.flatMap fun s=>58::aN s)).1=bk u:=by
   cases ss with
   | nil=>rw[zMo,zLU,fK (eL b2)]
   | cons s ss=>rw[zLw,zLB,lG (eL b2)]
  rw[hc]
  have hd:aj (bk u)=(bg u.host u.port,0):=by
   unfold aj
   rw[if_neg (by omega),if_neg b5,b4]
  rw[hd]
  exact hh
 ·obtain⟨s,hm,rfl⟩:=zMl.1 hx
  unfold en
  rw[Cg s hm]
  have:=hs s hm
  simp[this.1,this.2.1,this.2.2]
theorem Av {d:fU}{u:fe}(h:eJ d=(u,0)):bh d=((u.host,u.port),0)∧aH (bg u.host u.port)=((u.host,u.port),0)∧(∃ ss:List Bytes,(∀ s∈ss,s≠[]∧s≠[46]∧s≠[46,46])∧u=⟨u.host,u.port,if ss=[] then cL else ss.flatMap (fun s=>47::aF [] s)++47::fw,[],[],false,false⟩)∧(cF u).length≤4096:=by
 unfold eJ at h
 split at h
 ·rename_i h1;exact absurd (zMd.inj h).2 h1
 rename_i h1
 split at h
 ·simp at h
 rename_i h2
 unfold jG at h
 split at h
 ·simp at h
 rename_i h3
 simp only[zMd.injEq,and_true]at h
 subst h
 have h1:(bh d).2=0:=by simpa using h1
 have e:bh d=(((bh d).1.1,(bh d).1.2),0):=by rw[← h1]
 refine⟨e,?_,⟨(aC 58 d.id).tail.map fun x=>(aj x).1,?_,?_⟩,by omega⟩
 ·simp only
  unfold bh at e h1 ⊢
  split at h1
  ·simp at h1
  rename_i k1
  rw[if_neg k1]at e ⊢
  split at h1
  ·rename_i k2;exact absurd h1 k2
  rename_i k2
  rw[if_neg k2]at e ⊢
  exact(cA e).1
 ·intro s hs
  obtain⟨x,hx,rfl⟩:=zMl.1 hs
  have h2:(aC 58 d.id).tail.all en=true:=by simpa using h2
  have:=zLI.1 h2 x hx
  unfold en at this
  simp only[zLO,bne_iff_ne,ne_eq]at this
  exact⟨this.1.1.2,this.1.2,this.2⟩
 ·simp only[fe.mk.injEq,true_and,and_true]
  unfold ik
  by_cases k:(aC 58 d.id).tail=[]
  ·rw[if_pos k,if_pos (by rw[k];rfl)]
  ·rw[if_neg k,if_neg (by rw[List.map_eq_nil_iff];exact k),zMf]
   rfl
theorem HR {s:Bytes}(h:s≠[46]∧s≠[46,46]):mh (aF [] s):=by
 refine⟨JR s,fun e=>h.1 (FB (e.trans (by decide))),fun e=>h.2 (FB (e.trans (by decide)))⟩
theorem Ir (ss:List Bytes):ss.flatMap (fun s=>47::aF [] s)++47::fw=fN (ss.map (aF [])++[fw]):=by
 unfold fN
 rw[zL6,zMf]
 simp
theorem Iq {ss:List Bytes}(h:∀ s∈ss,s≠[]∧s≠[46]∧s≠[46,46]):Can cT (ss.flatMap (fun s=>47::aF [] s)++47::fw)∧(∃ r,ss.flatMap (fun s=>47::aF [] s)++47::fw=47::r)∧aO (ss.flatMap (fun s=>47::aF [] s)++47::fw)=ss.flatMap (fun s=>47::aF [] s)++47::fw:=by
 refine⟨mz ?_ ?_,?_,?_⟩
 ·clear h
  induction ss with
  | nil=>exact iP _
  | cons s ss ih=>exact mz (mz (a:=[47]) (qX (by decide) (by decide)) (can_enc _ s)) ih
 ·refine⟨(47::fw).map PU.lit,by decide,?_⟩
  intro x hx
  obtain⟨c,hc,rfl⟩:=zMl.1 hx
  show dm cT c=true∧c≠37
  revert c;decide
 ·cases ss with
  | nil=>exact⟨_,rfl⟩
  | cons s ss=>exact⟨_,rfl⟩
 ·rw[Ir]
  show eb _ _ []=_
  rw[oc _ _ _ (zLG _),zLS]
  intro x hx
  rcases zLN.1 hx with hx|hx
  ·obtain⟨s,hs,rfl⟩:=zMl.1 hx
   exact HR (h s hs).2
  ·obtain rfl:=zLL.1 hx
   refine⟨by decide,by decide,by decide⟩
theorem AV:Can cT cL∧aO cL=cL:=by
 refine⟨⟨cL.map PU.lit,by decide,?_⟩,by decide +kernel⟩
 intro x hx
 obtain⟨c,hc,rfl⟩:=zMl.1 hx
 show dm cT c=true∧c≠37
 revert c;decide
theorem xu {d:fU}{u:fe}(h:eJ d=(u,0)):jh u∧u.bm=false∧u.bF=false∧bh d=((u.host,u.port),0):=by
 obtain⟨h1,h2,⟨ss,h3,h4⟩,h5⟩:=Av h
 have hq:u.bm=false:=by rw[h4]
 have hf:u.bF=false:=by rw[h4]
 have hqu:u.query=[]:=by rw[h4]
 have jB:u.fragment=[]:=by rw[h4]
 have hp:Can cT u.path∧(∃ r,u.path=47::r)∧aO u.path=u.path:=by
  rw[h4]
  simp only
  split
  ·exact⟨AV.1,⟨_,rfl⟩,AV.2⟩
  ·exact Iq h3
 exact⟨⟨h2,hp.1,hp.2.1,hp.2.2,by rw[hqu];exact iP _,by rw[jB];exact iP _,fun _=>hqu,fun _=>jB,h5⟩,hq,hf,h1⟩
theorem vy {d c:fU}(h:gU d=(c,0)):c=d∧(bA d).length≤4096:=by
 unfold gU at h
 split at h
 ·simp at h
 ·exact⟨(zMd.inj h).1.symm,by omega⟩
theorem Au {u:fe}{ss:List Bytes}(hu:jh u)(hq:u.bm=false)(hf:u.bF=false)(hs:∀ s∈ss,s≠[]∧s≠[46]∧s≠[46,46])(hp:u.path=if ss=[] then cL else ss.flatMap (fun s=>47::aF [] s)++47::fw)
 (hl:(bA ⟨dP,bk u++ss.flatMap fun s=>58::aN s⟩).length≤4096):eJ ⟨dP,bk u++ss.flatMap fun s=>58::aN s⟩=(u,0):=by
 obtain⟨h1,h2,h3,h4⟩:=Al hu.host hs hl
 have e:ik (ss.map aN)=u.path:=by
  rw[hp]
  unfold ik
  by_cases k:ss=[]
  ·rw[if_pos (by rw[k];rfl),if_pos k]
  ·rw[if_neg (by simpa using k),if_neg k,zMf]
   congr 1
   clear hp hl h1 h2 h3 k hs
   induction ss with
   | nil=>rfl
   | cons s ss ih =>
     rw[zLw,zLw,ih (fun t ht=>h4 t (zLx _ ht)),gL,h4 s zLy]
 unfold eJ
 rw[h1,if_neg (by simp)]
 simp only
 rw[h2,h3,if_neg (by simp),e]
 have eu:(⟨u.host,u.port,u.path,[],[],false,false⟩:fe)=u:=by
  have q1:=hu.noq hq
  have q2:=hu.nof hf
  obtain⟨a,b,c,d,f,g,h⟩:=u
  simp only at hq hf q1 q2
  subst hq hf q1 q2
  rfl
 rw[eu]
 unfold jG
 rw[if_neg (by have:=hu.len;omega)]
theorem Cs {also:Bytes}:∀ (l:List Bytes)(x:Bytes),Can also (x++l.flatMap (47::·))→Can also x∧∀ y∈l,Can also y
 | [],x,h=>⟨by simpa using h,by simp⟩
 | y::l,x,h=>by
   rw[zLw,zLB]at h
   obtain⟨h1,h2⟩:=h.split (by decide) (by decide)
   obtain⟨h3,h4⟩:=Cs l y (CL (by decide) h2).2
   refine⟨h1,fun z hz=>?_⟩
   rcases zLM.1 hz with rfl|hz
   ·exact h3
   ·exact h4 z hz
theorem JS {also x:Bytes}(h:Can also x)(hd:x.all de=true):aF [] (aj x).1=x∨16384<x.length:=by
 by_cases hl:16384<x.length
 ·exact .inr hl
 left
 obtain⟨l,rfl,hk⟩:=h
 have hu:=rv also l hk
 have hb:PU.bad ∉ aA (l.flatMap PU.str):=by rw[hu];exact fun k=>(hk _ k).elim
 unfold aj
 rw[if_neg hl,if_neg hb,hu]
 clear hu hb hl
 simp only
 induction l with
 | nil=>rfl
 | cons y l ih =>
   rw[zLw,zMx,zLO]at hd
   have ih:=ih (fun z hz=>hk z (zLx _ hz)) hd.2
   have hy:=hk y zLy
   rw[zLw,zMq]
   show iF [] y.val++aF [] (l.map PU.val)=_
   rw[ih]
   congr 1
   cases y with
   | lit c =>
     have:de c=true:=by simpa[PU.str] using hd.1
     unfold de at this
     have wu:(c==37)=false:=by simpa using hy.2
     rw[wu,Bool.false_or]at this
     simp[PU.val,iF,this,PU.str]
   | hex a b =>
     simp only[PU.val,iF,hy.1,PU.str]
     rw[if_neg (by simp)]
     unfold ka
     rw[← hy.2.1,← hy.2.2.1]
   | bad=>exact hy.elim
theorem from_to {u:fe}{x:fU}(hu:jh u)(h:gf u=(x,0)):eJ x=(u,0)∧∃ ss:List Bytes,x=⟨dP,bk u++ss.flatMap fun s=>58::aN s⟩∧(bA x).length≤4096∧∀ s∈ss,s≠[]∧s≠[46]∧s≠[46,46]:=by
 unfold gf at h
 split at h
 ·simp at h
 split at h
 ·simp at h
 rename_i h1 h2
 simp only[not_or,ne_eq,Classical.not_not]at h2
 obtain⟨h2,h3,h4⟩:=h2
 have h2:u.bm=false:=by simpa using h2
 have h3:u.bF=false:=by simpa using h3
 split at h
 ·simp at h
 rename_i h5
 unfold fA at h
 split at h
 ·rename_i h6
  obtain⟨rfl,hl⟩:=vy h
  refine⟨?_,[],by simp,hl,by simp⟩
  have:=Au (ss:=[]) hu h2 h3 (by simp) (by rw[if_pos rfl];exact h6) (by simpa using hl)
  simpa using this
 rename_i h6
 split at h
 ·simp at h
 rename_i h7
 have h7:(aC 47 u.path).tail.dropLast.all bN=true:=by simpa using h7
 obtain⟨x0,l0,e1,e2,e3,e4⟩:=su 47 _ u.path (zLG _)
 obtain⟨r,hr⟩:=hu.EI
 have hx0:x0=[]:=by
  cases x0 with
  | nil=>rfl
  | cons a x0 =>
    rw[e2]at hr
    have:a=47:=by simpa using(zL2.inj hr).1
    subst this
    exact absurd zLy e3
 subst hx0
 rw[e1,List.tail_cons]at h h4 h5 h7
 rw[zLS]at e2
 obtain⟨l,rfl⟩:∃ l,l0=l++[fw]:=by
  have bn:l0≠[]:=by rintro rfl;simp at h4
  refine⟨l0.dropLast,?_⟩
  have:=List.dropLast_concat_getLast bn
  rw[List.getLast?_eq_some_getLast bn]at h4
  rw[← zMh.inj h4];exact this.symm
 rw[List.dropLast_concat]at h h7
 obtain⟨rfl,hl⟩:=vy h
 have Ej:∀ y∈l,Can cT y:=by
  have:=hu.path
  rw[e2]at this
  exact fun y hy=>(Cs (l++[fw]) [] (by simpa using this)).2 y (List.mem_append_left _ hy)
 have GH:∀ y∈l,y≠[46]∧y≠[46,46]:=by
  intro y hy
  have hc:=(vM r).2
  have hd:=hu.dots
  rw[hr]at hd
  rw[hd]at hc
  rw[hr]at e1
  exact hc y (by rw[e1];exact zLx _ (List.mem_append_left _ hy))
 have hplen:u.path.length≤4096:=by have:=(mX u).1;have:=hu.len;omega
 have hyl:∀ y∈l,y.length≤4096:=by
  intro y hy
  have:y.length≤u.path.length:=by
   rw[e2]
   obtain⟨p,q,rfl⟩:=List.append_of_mem hy
   simp;omega
  omega
 have henc:∀ y∈l,aF [] (aj y).1=y:=by
  intro y hy
  have hd:=zLI.1 h7 y hy
  unfold bN at hd
  simp only[zLO]at hd
  rcases JS (Ej y hy) hd.1.1 with k|k
  ·exact k
  ·have:=hyl y hy;omega
 have hss:∀ s∈l.map (fun y=>(aj y).1),s≠[]∧s≠[46]∧s≠[46,46]:=by
  intro s hs
  obtain⟨y,hy,rfl⟩:=zMl.1 hs
  have hd:=zLI.1 h7 y hy
  unfold bN at hd
  simp only[zLO,bne_iff_ne,ne_eq]at hd
  have he:=henc y hy
  refine⟨hd.2,fun k=>(GH y hy).1 ?_,fun k=>(GH y hy).2 ?_⟩
  ·rw[← he,k];decide
  ·rw[← he,k];decide
 have hid:l.flatMap bt=(l.map (fun y=>(aj y).1)).flatMap fun s=>58::aN s:=by
  rw[zMf];rfl
 have hpath:u.path=if l.map (fun y=>(aj y).1)=[] then cL else(l.map (fun y=>(aj y).1)).flatMap (fun s=>47::aF [] s)++47::fw:=by
  rw[if_neg (by intro k;rw[List.map_eq_nil_iff]at k;subst k;simp at h5)]
  rw[e2,zL6,zMf]
  have:∀ m:List Bytes,(∀ y∈m,aF [] (aj y).1=y)→m.flatMap (fun y=>47::aF [] (aj y).1)=m.flatMap (47::·):=by
   intro m
   induction m with
   | nil=>intro _;rfl
   | cons y m ih =>
     intro hm
     rw[zLw,zLw,ih (fun z hz=>hm z (zLx _ hz)),hm y zLy]
  rw[this l henc]
  simp
 rw[hid]at hl ⊢
 exact⟨Au hu h2 h3 hss hpath hl,_,rfl,hl,hss⟩
theorem pb {d c:fU}(h:eF d=(c,0)):∃ u,jh u∧eJ c=(u,0)∧gf u=(c,0)∧eF c=(c,0)∧bh c=((u.host,u.port),0)∧aY (bA c)=(c,0)∧(∃ r,c.id=bk u++r)∧c.method=dP:=by
 unfold eF at h
 split at h
 ·rename_i h1;exact absurd (zMd.inj h).2 h1
 rename_i h1
 have e:eJ d=((eJ d).1,0):=by
  have:(eJ d).2=0:=by simpa using h1
  rw[← this]
 obtain⟨hu,-⟩:=xu e
 obtain⟨h2,ss,h3,h4,h5⟩:=from_to hu h
 have hw:=Al hu.host h5 (by rw[← h3];exact h4)
 rw[← h3]at hw
 have hc:Ab c:=by
  have hl:(bA ⟨dP,bk (eJ d).1++ss.flatMap fun s=>58::aN s⟩).length≤4096:=by rw[← h3];exact h4
  have:=ED hu.host h5 hl
  rw[← h3]at this
  exact this
 exact⟨_,hu,h2,h,by unfold eF;rw[h2];simp only[ne_eq,not_true,if_false];exact h,hw.1,CB hc h4,⟨ss.flatMap fun s=>58::aN s,by rw[h3]⟩,by rw[h3]⟩
open Go Go.RowKit
theorem oh (c:UInt8)(s:Bytes):∃ l,aC c s=(aL c s).1::l:=by
 by_cases hp:pre (·==c) s<s.length
 ·rw[cJ hp,show aL c s=(s.take (pre (·==c) s),s.drop (pre (·==c) s+1),true) from if_pos hp]
  exact⟨_,rfl⟩
 ·rw[ch hp,show aL c s=(s,[],false) from if_neg hp]
  exact⟨_,rfl⟩
theorem CK {s:Bytes}(h:(cD s).2=0):PU.bad ∉ aA s:=by
 intro hb
 unfold cD at h
 rw[if_pos hb]at h
 simp at h
theorem ot {d:fU}(hm:d.method=dP)(h:(aY (bA d)).2=0):d.id.length≤4096∧∀ y∈aC 58 d.id,PU.bad ∉ aA y∧y.length≤4096:=by
 obtain⟨m,i⟩:=d
 simp only at hm
 subst hm
 have ht:bA ⟨dP,i⟩=kb++(dP++58::i):=by simp[bA]
 unfold aY at h
 split at h
 ·simp at h
 rename_i h1
 have hp:kb.isPrefixOf (bA ⟨dP,i⟩)=true:=by rw[ht];exact zLK.2 ⟨_,rfl⟩
 rw[if_neg (by rw[hp];simp),ht,show (kb++(dP++58::i)).drop 4=dP++58::i from rfl]at h
 have hc:aL 58 (dP++58::i)=(dP,i,true):=by
  rw[G0 (c:=58) (a:=dP) (58::i) (by decide)]
  rfl
 unfold mo at h
 rw[hc]at h
 simp only at h
 rw[if_neg (by simp),if_neg (by decide)]at h
 have h2:(cD i).2=0:=by
  by_cases k:(cD i).2=0
  ·exact k
  ·unfold jR at h
   rw[if_pos k]at h
   exact h
 have hb:=CK h2
 obtain⟨x,l,e1,e2,e3⟩:=pz 58 _ i (zLG _)
 have hu:=(pA l x).1
 rw[← e2]at hu
 have eh:i.length≤4096:=by
  rw[ht]at h1
  simp only[zLH,zLF]at h1
  omega
 refine⟨eh,fun y hy=>⟨fun k=>hb (hu.1 ⟨y,by rw[← e1];exact hy,k⟩),?_⟩⟩
 have:=im 58 i y hy
 omega
theorem vU {d:fU}(hm:d.method=dP)(h:(aY (bA d)).2=0):aj (aL 58 d.id).1=(jw (aL 58 d.id).1,0):=by
 obtain⟨h1,h2⟩:=ot hm h
 obtain⟨l,e⟩:=oh 58 d.id
 obtain⟨h3,h4⟩:=h2 (aL 58 d.id).1 (by rw[e];exact zLy)
 rw[mu (by omega),if_neg h3]
theorem cQ (s:Bytes):(aj s).1.length≤s.length:=by
 unfold aj
 split
 ·simp
 ·split
  ·simp
  ·exact jS s
theorem F5 (x:Bytes):(gL x).length≤3 * x.length+1:=by
 have h1:=dQ [] (aj x).1
 have h2:=cQ x
 unfold gL
 simp only[zLF]
 omega
theorem AJ (x:Bytes):(bt x).length≤3 * x.length+1:=by
 have h1:=fB (aj x).1
 have h2:=cQ x
 unfold bt
 simp only[zLF]
 omega
theorem zN:∀ l:List Bytes,(l.flatMap gL).length≤3 * l.flatten.length+l.length
 | []=>by simp
 | x::l=>by
   have:=F5 x
   have:=zN l
   simp only[zLw,zLH,zMi,zLF]
   omega
theorem sf:∀ l:List Bytes,(l.flatMap bt).length≤3 * l.flatten.length+l.length
 | []=>by simp
 | x::l=>by
   have:=AJ x
   have:=sf l
   simp only[zLw,zLH,zMi,zLF]
   omega
theorem lT (c:UInt8)(s:Bytes):(aC c s).flatten.length+(aC c s).length=s.length+1:=by
 obtain⟨x,l,e1,e2,-⟩:=pz c _ s (zLG _)
 rw[e1]
 conv=>rhs;rw[e2]
 have:∀ l:List Bytes,(l.flatMap (c::·)).length=l.flatten.length+l.length:=by
  intro l
  induction l with
  | nil=>rfl
  | cons y l ih=>simp only[zLw,zLH,zMi,zLF,ih];omega
 simp only[zMi,zLH,zLF,this]
 omega
theorem escDown (s:Bytes):(aF [] s).flatMap (nv 126 [37,55,69])=aN s:=by
 induction s with
 | nil=>rfl
 | cons c s ih =>
   show (iF [] c++aF [] s).flatMap _=gW c++aN s
   rw[zL6,ih]
   congr 1
   have:=dA (p:=fun c=>(iF [] c).flatMap (nv 126 [37,55,69])==gW c) (by decide +kernel) c
   simpa using this
theorem xw (c:UInt8)(s:Bytes):Lib.splitK [c] 0 (Lib.count s [c]) s=aC c s:=ub c _ s (Lib.count_one c s).symm
theorem vG {d:fU}(h:(bh d).2=0):aH (bg (bh d).1.1 (bh d).1.2)=(((bh d).1.1,(bh d).1.2),0)∧d.method=dP∧(aY (bA d)).2=0:=by
 unfold bh at h ⊢
 by_cases h1:d.method=dP
 ·rw[if_neg (by simp[h1])]at h ⊢
  by_cases h2:(aY (bA d)).2=0
  ·rw[if_neg (by simp[h2])]at h ⊢
   refine⟨?_,h1,h2⟩
   generalize hX:aH (aj (aL 58 d.id).1).1=X at h ⊢
   obtain⟨⟨x,p⟩,e⟩:=X
   simp only at h ⊢
   subst h
   exact(cA hX).1
  ·rw[if_pos h2]at h
   exact absurd h h2
 ·rw[if_pos h1]at h
  simp at h
theorem sq {u:fe}(hv:fW u=true):∃ (T:List Bytes) (z:Bytes),aC 47 u.path=(aL 47 u.path).1::T∧T.getLast? = some z∧0<T.length∧u.path.length≤4096:=by
 have hc:=rr hv
 obtain⟨r,hr⟩:=hc.EI
 have hl:=(mX u).1
 have hlen:=hc.len
 obtain⟨T,hT⟩:=oh 47 u.path
 have h0:pre (·==47) (47::r)=0:=by simp[ck]
 have e:aC 47 (47::r)=[]::aC 47 r:=by
  rw[cJ (by rw[h0];simp),h0]
  rfl
 have hT2:=hT
 rw[hr,e]at hT2
 have h2:=iI 47 r
 have h3:aC 47 r=T:=(zL2.inj hT2).2
 have hT0:T≠[]:=by rintro rfl;rw[h3]at h2;simp at h2
 refine⟨T,T.getLast hT0,hT,List.getLast?_eq_some_getLast hT0,zMv.2 hT0,by omega⟩
theorem vx {u:fe}{c z:Bytes}{T:List Bytes}(hv:fW u=true)(hT:aC 47 u.path=c::T)(hz:T.getLast? = some z) :
 gf u=if u.bm=true then(fU.none,6) else if u.bF=true then(fU.none,6) else if (z != fw)=true then(fU.none,6) else if T.length=1 then(fU.none,110) else fA u T.dropLast:=by
 unfold gf
 rw[if_neg (by rw[hv];simp),hT,List.tail_cons,hz]
 by_cases h1:u.bm=true
 ·rw[if_pos (.inl h1),if_pos h1]
 rw[if_neg h1]
 by_cases h2:u.bF=true
 ·rw[if_pos (.inr (.inl h2)),if_pos h2]
 rw[if_neg h2]
 by_cases h3:z=fw
 ·have hn:¬ (u.bm=true∨u.bF=true∨some z≠some fw):=by simp[h1,h2,h3]
  have hm:¬ (z != fw)=true:=by simp[h3]
  rw[if_neg hn,if_neg hm]
 ·rw[if_pos (.inr (.inr (by simpa using h3))),if_pos (by simpa using h3)]
end Wf
namespace Go.Proofs.YteipdaijbncgeaaGreatDoor
open Go Vc Go.RowKit
theorem GG (w:World)(o:Obj):(w.alloc o).heap[w.heap.size]? = some o:=by
 show (w.heap.push o)[w.heap.size]? = some o
 simp
theorem Eh (w:World)(o:Obj):(w.alloc o).heap.size=w.heap.size+1:=by
 show (w.heap.push o).size=_
 simp
theorem sc_row {V:Cx}{f:FuncId}{args:List SV}{bs:List ax}{c:List SV}{T:TypeId}(jf:Vc.Enters V f)(hfa:flat.ai args=true)(hfc:flat.ai c=true)(hn:c.length≤maxLen)
 (h:∀ w,V.E w→Calls V.P f (aG ke args).toArray w fun e w'=>e=.returned (.slice (some ⟨w.heap.size,0,none⟩) c.length c.length)∧w'=w.alloc (.cells (aG ke c).toArray T)) :
 SC V f args bs (fun r b=>r=.o bs.length c.length∧b=bs++[.own c T 1 c.length true]):=by
 refine⟨jf,fun β fp w fQ hG hE=>?_⟩
 rw[dz args hfa β ke]
 refine(h w hE).mono ?_
 rintro e w' ⟨rfl,rfl⟩
 have hb:Below w.heap.size w (w.alloc (.cells (aG ke c).toArray T)):=Below.alloc (Below.refl _ _) (zLG _) _
 refine⟨.o bs.length c.length,bs++[.own c T 1 c.length true],fun i=>if i<bs.length then β i else⟨w.heap.size,0,c.length+1⟩,
  fun i k=>if i<bs.length then fp i k else(i=bs.length∧k=w.heap.size),⟨rfl,rfl⟩,fun i hi=>by simp[hi],by simp,fun β' hβ=>?_,mW.jJ hb,?_⟩
 ·have hAgr:bw bs.length β β':=fun i hi=>by
   have:=hβ i (by rw[zLH];omega)
   simpa[hi] using this
  have Hg:β' bs.length=⟨w.heap.size,0,c.length+1⟩:=by
   have:=hβ bs.length (by simp)
   simpa using this.symm
  have hbw:=fQ β' hAgr
  refine⟨?_,?_,?_,?_⟩
  ·simp[ah,Hg,oV]
  ·intro i r hi
   rcases zLR i bs.length with aB|rU
   ·rw[zLA aB]at hi
    have:=(hbw.holds i r hi).stays (w':=w.alloc (.cells (aG ke c).toArray T)) (fun k hk=>hb.block k (hbw.lt i r hi k hk))
    simpa[aB] using this
   ·rw[zLV rU]at hi
    obtain rfl:i=bs.length:=by
     rcases Nat.eq_or_lt_of_le rU with e|e
     ·exact e.symm
     ·rw[List.getElem?_eq_none (by simp;omega)]at hi;cases hi
    simp only[Nat.sub_self,List.getElem?_cons_zero,zMh.injEq]at hi
    subst hi
    right
    have hc:(aG ke c)=c.map (ah β'):=by rw[← bU,dz c hfc ke β']
    have hhd:Head (w.alloc (.cells (aG ke c).toArray T)) w.heap.size T (c.map (ah β')) [] (0,0):=⟨by rw[zLU,← hc];exact GG _ _,.inr (zLG _)⟩
    rw[Hg]
    exact⟨by simp,by simp,by simpa using hn,by simp,hhd.tv,fun _=>⟨rfl,[],(0,0),hhd,.inr (.inl (zLG _)),by simp⟩,fun k=>by simp⟩
  ·intro i r hi k hk
   rcases zLR i bs.length with aB|rU
   ·rw[zLA aB]at hi
    simp only[aB,if_true]at hk
    exact Nat.lt_of_lt_of_le (hbw.lt i r hi k hk) hb.size
   ·simp only[show ¬ i<bs.length by omega,if_false]at hk
    rw[hk.2,Eh]
    omega
  ·intro i j r r' hi hj wm hm k hk hk'
   rcases zLR i bs.length with aB|rU
   ·rw[zLA aB]at hi
    simp only[aB,if_true]at hk
    rcases zLR j bs.length with C6|hjg
    ·rw[zLA C6]at hj
     simp only[C6,if_true]at hk'
     exact hbw.sep i j r r' hi hj wm hm k hk hk'
    ·simp only[show ¬ j<bs.length by omega,if_false]at hk'
     have:=hbw.lt i r hi k hk
     omega
   ·simp only[show ¬ i<bs.length by omega,if_false]at hk
    rcases zLR j bs.length with C6|hjg
    ·rw[zLA C6]at hj
     simp only[C6,if_true]at hk'
     have:=hbw.lt j r' hj k hk'
     omega
    ·simp only[show ¬ j<bs.length by omega,if_false]at hk'
     omega
 ·refine⟨fun i r' hi hm k hk=>?_,fun i r' hi k hk=>?_⟩
  ·rcases zLR i bs.length with aB|rU
   ·rw[zLA aB]at hi
    simp only[aB,if_true]at hk
    exact .inr ⟨i,r',hi,hm,hk⟩
   ·simp only[show ¬ i<bs.length by omega,if_false]at hk
    exact .inl (by omega)
  ·rcases zLR i bs.length with aB|rU
   ·rw[zLA aB]at hi
    simp only[aB,if_true]at hk
    exact .inr ⟨i,r',hi,hk⟩
   ·simp only[show ¬ i<bs.length by omega,if_false]at hk
    exact .inl (by omega)
open Go.RowKit Wf
attribute [local go_sem] fJ eQ get_list
theorem Cw (r:Int)(h1:128≤r)(h4:Lib.validRune r=true):∃ el:Bytes,Utf8.encode r=⟨zLv el⟩∧2≤el.length∧el.length≤4∧∀ h:el.length - 1<el.length,128≤el[el.length - 1].toNat:=by
 have hv:Utf8.valid r=true:=by
  unfold Lib.validRune at h4
  have:=of_decide_eq_true h4
  unfold Utf8.valid
  simp
  omega
 obtain⟨n,rfl⟩:=Int.eq_ofNat_of_zero_le (show 0≤r by omega)
 have hn:128≤n:=by omega
 have key:∀ m:Nat,128≤(UInt8.ofNat (0x80+m % 64)).toNat:=by
  intro m
  rw[UInt8.toNat_ofNat']
  omega
 unfold Utf8.encode
 rw[if_pos hv]
 simp only[Int.toNat_natCast]
 rw[if_neg (show ¬ n<128 by omega)]
 split
 ·exact⟨_,rfl,by simp,by simp,fun _=>key _⟩
 ·split
  ·exact⟨_,rfl,by simp,by simp,fun _=>key _⟩
  ·exact⟨_,rfl,by simp,by simp,fun _=>key _⟩
theorem zB (l:Bytes)(c:UInt8)(h:∀ b∈l,b≠c):Lib.indexByte l c=-1:=by
 induction l with
 | nil=>rfl
 | cons b l ih =>
   have h1:=h b (by simp)
   have h2:=ih fun x hx=>h x (by simp[hx])
   simp[Lib.indexByte,h1,h2]
set_option maxRecDepth 100000 in
theorem wS (l:Bytes)(w:World)(ha:∀ i (h:i<l.length),l[i].toNat<128)(hl:l.length≤1000000) :
 Calls Tryz.prog 193 #[(Value.string ⟨zLv (l)⟩),.int .i32 65533] w fun e w'=>e=.returned (.int .i64 (-1))∧Below w.heap.size w w':=by
 go_enter Tryz.func193,Tryz.ntmps193
 have Ha:=hid ha
 clear ha
 go_wp2_with fail
 go_loopw [] (fun wr=>∃ i:Nat,i≤l.length∧wr=w.iter ⟨zLv l⟩ i) (fun wr=>l.length - wr.iterPos w.heap.size)
 case atStart=>exact⟨0,by omega,rfl⟩
 case round =>
  obtain⟨i,hi,rfl⟩:=hrel
  by_cases aB:i<l.length
  ·have Fi:=fun ty=>run_next_ascii (P:=Tryz.prog) w ⟨zLv l⟩ i ty aB (Ha.out i aB)
   have hb:=Ha.out i aB
   have hx:((l[i].toNat:Int)==65533)=false:=beq_eq_false_iff_ne.2 (by omega)
   simp only[get_list]at Fi
   go_wp2_with fail
   go_roundw
   case rel=>exact⟨i+1,by omega,rfl⟩
   case measure=>simp;omega
  ·have Fi:=run_next_end (P:=Tryz.prog) w ⟨zLv l⟩ i
   have jZ:l.length≤i:=by omega
   go_wp2_with fail
   go_ret
   exact⟨rfl,(Below.refl _ _).alloc (zLG _) _⟩
set_option maxRecDepth 100000 in
theorem wT (l:Bytes)(r:Int)(w:World)(h1:128≤r)(h2:r≤2147483647)(h3:(r==65533)=false)(h4:Lib.validRune r=false) :
 Calls Tryz.prog 193 #[(Value.string ⟨zLv (l)⟩),.int .i32 r] w fun e w'=>e=.returned (.int .i64 (-1))∧Below w.heap.size w w':=by
 have h5:=hid h4
 go_enter Tryz.func193,Tryz.ntmps193
 go_wp2_with (go_at_call 207;refine(Tryz.utf8_ValidRune _ _).mono ?_;rintro e w' ⟨rfl,rfl⟩)
 go_ret
 exact⟨rfl,Below.refl _ _⟩
set_option maxRecDepth 100000 in
theorem uY (l:Bytes)(r:Int)(w:World)(ha:∀ i (h:i<l.length),l[i].toNat<128)(hl:l.length≤1000000)(h1:128≤r)(h2:r≤2147483647)(h3:(r==65533)=false)(h4:Lib.validRune r=true) :
 Calls Tryz.prog 193 #[(Value.string ⟨zLv (l)⟩),.int .i32 r] w fun e w'=>e=.returned (.int .i64 (-1))∧Below w.heap.size w w':=by
 have Ha:=hid ha
 clear ha
 go_enter Tryz.func193,Tryz.ntmps193
 go_wp2_with (go_at_call 207;refine(Tryz.utf8_ValidRune _ _).mono ?_;rintro e w' ⟨rfl,rfl⟩)
 go_step3
 go_wp2_with fail
 obtain⟨el,mJ,he1,he2,he3⟩:=Cw r h1 h4
 have He3:=hid he3
 clear he3
 rw[mJ]
 have hx:wrap64 ((ByteArray.size ⟨zLv el⟩:Int) - 1)=((el.length - 1:Nat):Int):=by
  have:ByteArray.size ⟨zLv el⟩=el.length:=rfl
  rw[this,IntWalk.wrap64_in _ ⟨by omega,by omega⟩]
  omega
 rw[hx]
 clear mJ hx h1 h2 h3 h4
 refine wp_loop_once ?_
 by_cases aB:el.length - 1<l.length
 ·have hle:el.length - 1<el.length:=by omega
  have hbt:=Ha.out _ aB
  have hc:=He3.out (by omega)
  have bn:((l[el.length - 1].toNat:Int) != (el[el.length - 1].toNat:Int))=true:=by rw[bne_iff_ne];omega
  have gx:=zB (l.drop (el.length - 1+1)) el[el.length - 1] (fun b hb hx=>by
   obtain⟨j,hj,rfl⟩:=List.mem_iff_getElem.1 hb
   rw[List.getElem_drop]at hx
   have h1:=Ha.out (el.length - 1+1+j) (by simp at hj;omega)
   rw[hx]at h1
   omega)
  have Hno:=hid gx
  clear gx
  go_wp2_with fail
  go_step3
  go_wp2_with fail
  go_quiet (fail)
  go_wp2_with fail
  have hb:Below w'.heap.size w' (w'.drewN nq):=below_drewN (Below.refl _ _) _
  generalize w'.drewN nq=w2 at hb ⊢
  have B3:IntKind.i64.wrap (((el.length - 1:Nat):Int)+1)=((el.length - 1:Nat):Int)+1:=IntWalk.i64_in _ (by omega)
  have fY:(0:Int)≤((el.length - 1:Nat):Int)+1:=by omega
  have I1:(((el.length - 1:Nat):Int)+1).toNat=el.length - 1+1:=by omega
  have hs4:((el.length - 1:Nat):Int)+1≤(l.length:Int):=by omega
  go_quiet ((go_at_call 144;refine Calls.quiet_of_same (Tryz.strings_IndexByte _ _ _)))
  clear B3 fY I1 hs4
  rw[show ((el[el.length - 1].toNat:Int)).toNat.toUInt8=el[el.length - 1] from by simp,Hno.out]
  go_wp2_with fail
  rw[Exit.noGoto_ret]
  go_wp2_with fail
  rw[Exit.noGoto_ret]
  go_ret
  exact⟨rfl,below_drewN hb _⟩
 ·go_wp2_with fail
  rw[Exit.noGoto_ret]
  go_ret
  exact⟨rfl,Below.refl _ _⟩
theorem DS (s:ByteArray)(set:Bytes)(i k:Nat)(hn:Lib.NoAny s.data.toList set i)(gE:∀ j (h:j<set.length),set[j].toNat<128)(hh:∀ j,i≤j→j<i+k→∀ h:j<s.size,128≤s[j].toNat):Lib.NoAny s.data.toList set (i+k):=by
 intro j b hj hb
 by_cases mg:j<i
 ·exact hn j b mg hb
 ·obtain⟨hjs,rfl⟩:=zLD.1 hb
  have hs:j<s.size:=by rw[Lib.size_eq];exact hjs
  have h1:128≤(s.data.toList[j]).toNat:=hh j (by omega) hj hs
  rw[Bool.eq_false_iff]
  intro hc
  have wY:=zLZ.1 hc
  obtain⟨q,hq,he⟩:=List.mem_iff_getElem.1 wY
  have h2:=gE q hq
  rw[he]at h2
  omega
theorem JD (s:ByteArray)(j:Nat)(h:j<s.size):(s.get! j).toNat=s[j].toNat:=by
 have:=get_at s j h
 rw[Nat.add_zero]at this
 rw[this]
theorem jC (s:ByteArray)(j:Nat)(h:(decide (j<s.size)&&(s.get! j).toNat / 64==2)=true):j<s.size∧∀ h:j<s.size,128≤s[j].toNat:=by
 simp only[zLO,decide_eq_true_eq,beq_iff_eq]at h
 refine⟨h.1,fun hj=>?_⟩
 have:=h.2
 rw[JD s j hj]at this
 omega
def Span (s:ByteArray)(i:Nat)(p:Nat × Nat):Prop:=i+p.2≤s.size∧∀ j,i≤j→j<i+p.2→∀ h:j<s.size,128≤s[j].toNat
theorem CF (s:ByteArray)(i:Nat)(h:i<s.size)(hx:128≤s[i].toNat):Span s i (Utf8.decode s i):=by
 have one:∀ e,Span s i (e,1):=fun e=>⟨by dsimp only;omega,fun j h1 h2 h3=>by
  dsimp only at h2
  obtain rfl:j=i:=by omega
  exact hx⟩
 unfold Utf8.decode
 dsimp only
 split
 ·exact one _
 split
 ·rename_i hc
  simp only[zLO]at hc
  have c1:=jC s (i+1) (by simpa using hc.2)
  split
  ·refine⟨by dsimp only;omega,fun j h1 h2 h3=>?_⟩
   dsimp only at h2
   rcases zLR j (i+1) with h' | h'
   ·exact(one 0).2 j h1 h' h3
   ·obtain rfl:j=i+1:=by omega
    exact c1.2 h3
  ·exact one _
 ·split
  ·rename_i hc
   simp only[zLO]at hc
   have c1:=jC s (i+1) (by simpa using hc.1.2)
   have c2:=jC s (i+2) (by simpa using hc.2)
   split
   ·refine⟨by dsimp only;omega,fun j h1 h2 h3=>?_⟩
    dsimp only at h2
    rcases zLR j (i+1) with h' | h'
    ·exact(one 0).2 j h1 h' h3
    ·rcases zLR j (i+2) with h'' | h''
     ·obtain rfl:j=i+1:=by omega
      exact c1.2 h3
     ·obtain rfl:j=i+2:=by omega
      exact c2.2 h3
   ·exact one _
  ·split
   ·rename_i hc
    simp only[zLO]at hc
    have c1:=jC s (i+1) (by simpa using hc.1.1.2)
    have c2:=jC s (i+2) (by simpa using hc.1.2)
    have c3:=jC s (i+3) (by simpa using hc.2)
    split
    ·refine⟨by dsimp only;omega,fun j h1 h2 h3=>?_⟩
     dsimp only at h2
     rcases zLR j (i+1) with h' | h'
     ·exact(one 0).2 j h1 h' h3
     ·rcases zLR j (i+2) with h'' | h''
      ·obtain rfl:j=i+1:=by omega
       exact c1.2 h3
      ·rcases zLR j (i+3) with h4|h4
       ·obtain rfl:j=i+2:=by omega
        exact c2.2 h3
       ·obtain rfl:j=i+3:=by omega
        exact c3.2 h3
    ·exact one _
   ·exact one _
theorem wU (l:Bytes)(r:Int)(w:World)(ha:∀ i (h:i<l.length),l[i].toNat<128)(hl:l.length≤1000000)(h1:128≤r)(h2:r≤2147483647) :
 Calls Tryz.prog 193 #[(Value.string ⟨zLv (l)⟩),.int .i32 r] w fun e w'=>e=.returned (.int .i64 (-1))∧Below w.heap.size w w':=by
 by_cases h3:r=65533
 ·subst h3
  exact wS l w ha hl
 ·cases h4:Lib.validRune r
  ·exact wT l r w h1 h2 (beq_eq_false_iff_ne.2 h3) h4
  ·exact uY l r w ha hl h1 h2 (beq_eq_false_iff_ne.2 h3) h4
theorem uW {w:World}{k:Nat}{s:ByteArray}{p:Nat}(h:w.heap[k]? = some (.stringIter s p)):w.iterPos k=p:=by unfold World.iterPos;rw[h]
set_option maxRecDepth 100000 in
theorem uZ (s l:Bytes)(w:World)(ha:∀ i (h:i<l.length),l[i].toNat<128)(hl:l.length≤1000000)(h2:2≤l.length)(h8:s.length≤8) :
 Calls Tryz.prog 168 #[(Value.string ⟨zLv (s)⟩),(Value.string ⟨zLv (l)⟩)] w fun e w'=>e=.returned (.int .i64 (Lib.indexAny s l))∧Below w.heap.size w w':=by
 have Ha:=hid ha
 clear ha
 have hemp:l.isEmpty=false:=by cases l <;> simp at h2 ⊢
 have Hg:((l.length:Int)==1)=false:=beq_eq_false_iff_ne.2 (by omega)
 have h8z:decide ((8:Int)<(s.length:Int))=false:=decide_eq_false (by omega)
 go_enter Tryz.func168,Tryz.ntmps168
 go_wp2_with (go_at_call 194;refine(Tryz.strings_shouldUseASCIISet _ _).mono ?_;rintro e w' ⟨rfl,hw⟩;rw[hw,h8z])
 go_loopw [] (fun wr=>∃ i:Nat,i≤s.length∧wr.heap[w.heap.size]? = some (.stringIter ⟨zLv s⟩ i)∧Below w.heap.size w wr∧Lib.NoAny s l i) (fun wr=>s.length - wr.iterPos w.heap.size)
 case atStart=>exact⟨0,by omega,World.iter_heap _ _ _,(Below.refl _ _).alloc (zLG _) _,Lib.NoAny.zero _ _⟩
 case round =>
  obtain⟨i,hi,hit,mQ,gx⟩:=hrel
  have Hit:=hid hit
  have Hbl:=hid mQ
  have Hno:=hid gx
  clear hit mQ gx
  have D9:wr.iterPos w.heap.size=i:=by unfold World.iterPos;rw[Hit.out]
  have Hpos:=hid D9
  clear D9
  have zH:w.heap.size<wr.heap.size:=(Array.getElem?_eq_some_iff.1 Hit.out).1
  by_cases aB:i<s.length
  ·by_cases hx:s[i].toNat<128
   ·have Fi:=fun ty=>Lib.run_next_ascii_at (P:=Tryz.prog) wr w.heap.size ⟨zLv s⟩ i ty Hit.out aB hx
    simp only[get_list]at Fi
    have GJ:=Lib.contains_iff_indexByte l s[i]
    have jk:((s[i].toNat:Int)).toNat.toUInt8=s[i]:=by simp
    cases nW:l.contains s[i]
    ·rw[nW]at GJ
     have Ed:¬ ((0:Int)≤Lib.indexByte l s[i]):=of_decide_eq_false GJ.symm
     clear GJ
     go_wp2_with (go_at_call 193;refine(Tryz.strings_IndexRune_ascii _ _ _ (by omega) (by omega)).mono ?_;rintro e w' ⟨rfl,hw⟩;rw[hw,jk])
     have hk:=Lib.iterAt_heap wr w.heap.size ⟨zLv s⟩ i (i+1) Hit.out
     have D6:(⟨zLv s⟩:ByteArray).data.toList[i]? = some s[i]:=zMm aB
     refine⟨⟨i+1,by omega,hk,Lib.below_iterAt Hbl.out (zLG _) _ _,Hno.out.succ D6 nW⟩,?_⟩
     rw[uW hk,Hpos.out];omega
    ·rw[nW]at GJ
     have rU:((0:Int)≤Lib.indexByte l s[i]):=of_decide_eq_true GJ.symm
     clear GJ
     go_wp2_with (go_at_call 193;refine(Tryz.strings_IndexRune_ascii _ _ _ (by omega) (by omega)).mono ?_;rintro e w' ⟨rfl,hw⟩;rw[hw,jk])
     have D6:s[i]? = some s[i]:=zMm aB
     go_ret
     exact⟨tI (by rw[Lib.indexAny_hit Hno.out D6 nW]),Lib.below_iterAt Hbl.out (zLG _) _ _⟩
   ·have Fi:=fun ty=>Lib.run_next_any_at (P:=Tryz.prog) wr w.heap.size ⟨zLv s⟩ i ty Hit.out aB
    have hd:=decode_high ⟨zLv s⟩ i aB (by simp only[get_list];omega)
    have nY:=decode_le ⟨zLv s⟩ i
    go_wp2_with (go_at_call 193;refine(wU l _ _ Ha.out hl (by omega) (by omega)).mono ?_;rintro e w' ⟨rfl,hw⟩)
    have nS:=CF ⟨zLv s⟩ i aB (by simp only[get_list];omega)
    have hk:=Lib.iterAt_heap wr w.heap.size ⟨zLv s⟩ i (i+(Utf8.decode ⟨zLv s⟩ i).2) Hit.out
    have eW:=(hw.block w.heap.size (by rw[Lib.iterAt_size];exact zH)).trans hk
    have hle:i+(Utf8.decode ⟨zLv s⟩ i).2≤s.length:=nS.1
    refine⟨⟨_,hle,eW,(Lib.below_iterAt Hbl.out (zLG _) _ _).trans (hw.mono (by rw[Lib.iterAt_size];omega)),DS ⟨zLv s⟩ l i _ Hno.out Ha.out nS.2⟩,?_⟩
    rw[uW eW,Hpos.out];omega
  ·have Fi:=fun ty=>Lib.run_next_end_at (P:=Tryz.prog) wr w.heap.size ⟨zLv s⟩ i ty Hit.out aB
   go_wp2_with fail
   go_ret
   exact⟨tI (by rw[Lib.indexAny_none (by rw[show s.length=i by omega];exact Hno.out)]),Hbl.out⟩
theorem strings_IndexAny (s l:Bytes)(w:World)(ha:∀ i (h:i<l.length),l[i].toNat<128)(hl:l.length≤1000000)(h2:2≤l.length)(hs:s.length<4294967281) :
 Calls Tryz.prog 168 #[(Value.string ⟨zLv (s)⟩),(Value.string ⟨zLv (l)⟩)] w fun e w'=>e=.returned (.int .i64 (Lib.indexAny s l))∧Below w.heap.size w w':=by
 rcases zLR 8 s.length with h8|h8
 ·refine(Tryz.strings_IndexAny_long (fun _=>by kernel_rfl) ⟨zLv s⟩ ⟨zLv l⟩ w h2 h8 hs (show l.length<4294967281 by omega) (fun j b hb=>?_)).mono ?_
  ·obtain⟨hj,rfl⟩:=zLD.1 hb
   exact ha j hj
  ·rintro e w' ⟨rfl,rfl⟩
   exact⟨rfl,((Below.refl _ _).alloc (zLG _) _).alloc (by simp) _⟩
 ·exact uZ s l w ha hl h2 h8
open Go.RowKit Wf
attribute [local go_sem] fJ eQ get_list
theorem bG (c:UInt8)(w:World):Calls Tryz.prog 182 #[.int .u8 c.toNat] w fun e w'=>e=.returned (.bool (isDigit c))∧w=w':=by
 go_enter Tryz.func182,Tryz.ntmps182
 go_wp2
 all_goals
  go_ret
  refine⟨bc ?_,rfl⟩
  have hb:=DQ c
  have hc:=c.toNat_lt
  rw[zL9]
  simp[isDigit]
  try omega
theorem cR (c:UInt8)(w:World):Calls Tryz.prog 197 #[.int .u8 c.toNat] w fun e w'=>e=.returned (.bool (isAlpha c))∧w=w':=by
 go_enter Tryz.func197,Tryz.ntmps197
 go_wp2
 all_goals
  go_ret
  refine⟨bc ?_,rfl⟩
  have hb:=DQ c
  have hc:=c.toNat_lt
  rw[zL9]
  simp[isAlpha]
  try omega
theorem CR (c:UInt8)(w:World):Calls Tryz.prog 189 #[.int .u8 c.toNat] w fun e w'=>e=.returned (.bool (bp c))∧w=w':=by
 go_enter Tryz.func189,Tryz.ntmps189
 go_wp2
 all_goals
  go_ret
  refine⟨bc ?_,rfl⟩
  have hb:=DQ c
  have hc:=c.toNat_lt
  rw[zL9]
  simp[bp]
  try omega
theorem dv (c:UInt8)(w:World):Calls Tryz.prog 94 #[.int .u8 c.toNat] w fun e w'=>e=.returned (.bool (isDigit c))∧w=w':=by
 go_enter Tryz.func94,Tryz.ntmps94
 go_wp2
 all_goals
  go_ret
  refine⟨bc ?_,rfl⟩
  have hb:=DQ c
  have hc:=c.toNat_lt
  rw[zL9]
  simp[isDigit]
  try omega
theorem iJ (c:UInt8)(w:World):Calls Tryz.prog 93 #[.int .u8 c.toNat] w fun e w'=>e=.returned (.bool (isAlpha c))∧w=w':=by
 go_enter Tryz.func93,Tryz.ntmps93
 go_wp2
 all_goals
  go_ret
  refine⟨bc ?_,rfl⟩
  have hb:=DQ c
  have hc:=c.toNat_lt
  rw[zL9]
  simp[isAlpha]
  try omega
theorem A0 (c:UInt8)(w:World):Calls Tryz.prog 124 #[.int .u8 c.toNat] w fun e w'=>e=.returned (.bool (bp c))∧w=w':=by
 go_enter Tryz.func124,Tryz.ntmps124
 go_wp2
 all_goals
  go_ret
  refine⟨bc ?_,rfl⟩
  have hb:=DQ c
  have hc:=c.toNat_lt
  rw[zL9]
  simp[bp]
  try omega
open Go.RowKit Wf
def u8V (b:UInt8):Value:=.int .u8 b.toNat
def jm (w:World)(b:Nat)(l:Bytes):Prop:=∃ (rest:List Value) (T:TypeId) (fz:Nat × Nat),w.heap[b]? = some (.cells (l.map u8V++rest).toArray T fz)∧(l.length≤fz.1∨fz.2≤fz.1)
theorem jm.cell {w:World}{b:Nat}{l:Bytes}(h:jm w b l){k:Nat}(hk:k<l.length):w.cell? ⟨b,k,none⟩=some (.int .u8 l[k].toNat):=by
 obtain⟨rest,T,fz,hb,_⟩:=h
 rw[Lib.cell_of_heap hb k]
 simp[zLA,hk,u8V]
theorem jm.frozen {w:World}{b:Nat}{l:Bytes}(h:jm w b l){k:Nat}(hk:k<l.length):w.frozen? ⟨b,k,none⟩=false:=by
 obtain⟨rest,T,fz,hb,hf⟩:=h
 simp only[World.frozen?,hb]
 simp
 omega
theorem jm.set {w:World}{b:Nat}{l:Bytes}(h:jm w b l){k:Nat}(hk:k<l.length)(x:UInt8):jm (w.setCell ⟨b,k,none⟩ (.int .u8 x.toNat)) b (l.set k x):=by
 obtain⟨rest,T,fz,hb,hf⟩:=h
 refine⟨rest,T,fz,?_,by simpa using hf⟩
 rw[heap_set hb]
 congr 2
 simp[List.set_append_left,hk,List.map_set,u8V]
theorem jm.back {w:World}{b:Nat}{l:Bytes}(h:jm w b l)(cap:Nat) :
 (convert 25 9 (.slice (some ⟨b,0,none⟩) l.length cap)).run Tryz.prog w=.ok (Value.string ⟨zLv (l)⟩) w:=by
 refine run_convert_bytes_back w _ _ 5 ⟨b,0,none⟩ cap l Tryz.underlying25 Tryz.underlying5 Tryz.underlying9 (fun j hj=>?_)
 have:(⟨b,0,none⟩:Addr).add j=⟨b,j,none⟩:=by
  unfold Addr.add
  split
  ·subst j;rfl
  ·simp
 rw[this]
 exact h.cell hj
theorem CS (b o j:Nat):(⟨b,o,none⟩:Addr).add j=⟨b,o+j,none⟩:=by
 unfold Addr.add
 split
 ·subst j;rfl
 ·rfl
theorem jm.backAt {w:World}{b a:Nat}{y l:Bytes}(h:jm w b (y++l))(hy:y.length=a)(cap:Nat) :
 (convert 25 9 (.slice (some ⟨b,a,none⟩) l.length cap)).run Tryz.prog w=.ok (Value.string ⟨zLv (l)⟩) w:=by
 refine run_convert_bytes_back w _ _ 5 ⟨b,a,none⟩ cap l Tryz.underlying25 Tryz.underlying5 Tryz.underlying9 (fun j hj=>?_)
 rw[CS]
 subst hy
 have h1:=h.cell (k:=y.length+j) (by simp;omega)
 have h2:(y++l)[y.length+j]'(by simp;omega)=l[j]:=by rw[List.getElem_append_right (Nat.le_add_right _ _)];simp
 rw[h2]at h1
 exact h1
theorem vK (w:World)(s:Bytes):∃ (w1:World) (cap:Nat),(convert 9 25 (Value.string ⟨zLv (s)⟩)).run Tryz.prog w=.ok (.slice (some ⟨w.heap.size,0,none⟩) s.length cap) w1∧jm w1 w.heap.size s∧Below w.heap.size w w1:=by
 refine⟨_,_,Lib.run_convert_string_bytes w _ _ 5 ⟨zLv s⟩ Tryz.underlying9 Tryz.underlying25 Tryz.underlying5,?_,?_⟩
 ·refine⟨(Array.replicate (grownCap w s.length 0 5 - s.length) (Value.int .u8 0)).toList,5,((Lib.bytesCells w 5 ⟨zLv s⟩).size,(Lib.bytesCells w 5 ⟨zLv s⟩).size+1),?_,?_⟩
  ·rw[Lib.bytesWorld_at_new]
   congr 2
   apply Array.ext'
   simp[Lib.bytesCells]
   rfl
  ·left
   simp[Lib.bytesCells]
 ·exact⟨by simp[Lib.bytesWorld,World.freeze];rfl,rfl,rfl,by rw[Lib.bytesWorld_size];omega,fun k hk=>Lib.bytesWorld_at_old _ _ _ k hk⟩
open Go.RowKit Wf
attribute [local go_sem] fJ eQ get_list
theorem ou (s:Bytes)(w:World)(hs:s.length≤9223372036854775807) :
 Calls Tryz.prog 66 #[(Value.string ⟨zLv (s)⟩)] w fun e w'=>e=.returned (Value.string ⟨zLv (lower s)⟩)∧Below w.heap.size w w':=by
 obtain⟨w1,cap,Jo,fI,fH⟩:=vK w s
 have Hrow:=hid fI
 have Hw1:=hid fH
 clear fI fH
 go_enter Tryz.func66,Tryz.ntmps66
 go_wp2_with fail
 go_loopw [10] (fun i wr=>∃ k:Nat,k≤s.length∧i=.int .i64 k∧jm wr w.heap.size (gQ k s)∧Below w.heap.size w wr) (fun i _=>s.length - (intOf i).toNat)
 case atStart=>exact⟨0,by omega,rfl,by rw[uN];exact Hrow.out,Hw1.out⟩
 case round =>
  obtain⟨k,hk,rfl,fI,hw⟩:=hrel
  have Hrow:=hid fI
  have Hw:=hid hw
  clear Jo fI hw
  by_cases aB:k<s.length
  ·have hll:=js k s
   have eo:=Hrow.out.cell (k:=k) (by omega)
   have wo:=Hrow.out.frozen (k:=k) (by omega)
   rw[xV aB]at eo
   clear hll
   by_cases kQ:65≤s[k].toNat∧s[k].toNat≤90
   ·obtain⟨rX,vw⟩:=kQ
    have oL:=Hrow.out.set (k:=k) (by rw[js];exact aB) (cu s[k])
    rw[xU aB,uM rX vw]at oL
    have Hst:=hid oL
    clear oL
    go_wp2_with fail
    go_roundw
    case rel=>exact⟨k+1,by omega,by go_num,Hst.out,Hw.out.setCell (p:=⟨w.heap.size,k,none⟩) (zLG _) _⟩
    case measure=>simp[intOf];omega
   ·have Hn:=hid (uO aB (xT kQ))
    have hor:s[k].toNat<65∨90<s[k].toNat:=by omega
    rcases hor with h|h
    all_goals
     go_wp2_with fail
     go_roundw
     case rel=>exact⟨k+1,by omega,by go_num,Hn.out ▸ Hrow.out,Hw.out⟩
     case measure=>simp[intOf];omega
  ·have hl:k=s.length:=by omega
   have vi:=Hrow.out
   rw[hl,xW]at vi
   have jk:=vi.back cap
   rw[show (lower s).length=s.length by simp[lower]]at jk
   clear hl vi
   go_wp2_with fail
   go_ret
   exact⟨rfl,Hw.out⟩
theorem ny (s:Bytes)(w:World)(hs:s.length≤9223372036854775807) :
 Calls Tryz.prog 47 #[(Value.string ⟨zLv (s)⟩)] w fun e w'=>e=.returned (Value.string ⟨zLv (lower s)⟩)∧Below w.heap.size w w':=by
 obtain⟨w1,cap,Jo,fI,fH⟩:=vK w s
 have Hrow:=hid fI
 have Hw1:=hid fH
 clear fI fH
 go_enter Tryz.func47,Tryz.ntmps47
 go_wp2_with fail
 go_loopw [9] (fun i wr=>∃ k:Nat,k≤s.length∧i=.int .i64 k∧jm wr w.heap.size (gQ k s)∧Below w.heap.size w wr) (fun i _=>s.length - (intOf i).toNat)
 case atStart=>exact⟨0,by omega,rfl,by rw[uN];exact Hrow.out,Hw1.out⟩
 case round =>
  obtain⟨k,hk,rfl,fI,hw⟩:=hrel
  have Hrow:=hid fI
  have Hw:=hid hw
  clear Jo fI hw
  by_cases aB:k<s.length
  ·have hll:=js k s
   have eo:=Hrow.out.cell (k:=k) (by omega)
   have wo:=Hrow.out.frozen (k:=k) (by omega)
   rw[xV aB]at eo
   clear hll
   by_cases kQ:65≤s[k].toNat∧s[k].toNat≤90
   ·obtain⟨rX,vw⟩:=kQ
    have oL:=Hrow.out.set (k:=k) (by rw[js];exact aB) (cu s[k])
    rw[xU aB,uM rX vw]at oL
    have Hst:=hid oL
    clear oL
    go_wp2_with fail
    go_roundw
    case rel=>exact⟨k+1,by omega,by go_num,Hst.out,Hw.out.setCell (p:=⟨w.heap.size,k,none⟩) (zLG _) _⟩
    case measure=>simp[intOf];omega
   ·have Hn:=hid (uO aB (xT kQ))
    have hor:s[k].toNat<65∨90<s[k].toNat:=by omega
    rcases hor with h|h
    all_goals
     go_wp2_with fail
     go_roundw
     case rel=>exact⟨k+1,by omega,by go_num,Hn.out ▸ Hrow.out,Hw.out⟩
     case measure=>simp[intOf];omega
  ·have hl:k=s.length:=by omega
   have vi:=Hrow.out
   rw[hl,xW]at vi
   have jk:=vi.back cap
   rw[show (lower s).length=s.length by simp[lower]]at jk
   clear hl vi
   go_wp2_with fail
   go_ret
   exact⟨rfl,Hw.out⟩
theorem CQ (s:Bytes)(w:World)(hs:s.length≤9223372036854775807) :
 Calls Tryz.prog 206 #[(Value.string ⟨zLv (s)⟩),.func (.func 182) #[] #[]] w fun e w'=>e=.returned (.bool (s.all isDigit))∧w=w':=by
 go_enter Tryz.func206,Tryz.ntmps206
 go_wp2_with fail
 go_loop [8] (fun i=>∃ k:Nat,k≤s.length∧i=.int .i64 k∧(s.take k).all isDigit=true) (fun i=>s.length - (intOf i).toNat)
 case atStart=>exact⟨0,by omega,rfl,rfl⟩
 case round =>
  obtain⟨k,hk,rfl,aR⟩:=hrel
  have Hall:=hid aR
  clear aR
  by_cases aB:k<s.length
  ·cases hc:isDigit s[k]
   ·have Ha:=hid (cW aB hc)
    go_wp2_with (go_at_call 182;refine(bG _ _).mono ?_;rintro e w' ⟨rfl,rfl⟩)
    go_ret
    exact⟨bc Ha.out.symm,rfl⟩
   ·go_wp2_with (go_at_call 182;refine(bG _ _).mono ?_;rintro e w' ⟨rfl,rfl⟩)
    go_round
    case rel=>exact⟨k+1,by omega,by go_num,aP aB Hall.out hc⟩
    case measure=>simp[intOf];omega
  ·have aR:=Hall.out
   rw[zLX (by omega)]at aR
   have Ha:=hid aR
   clear aR Hall
   go_wp2_with fail
   go_ret
   exact⟨bc Ha.out.symm,rfl⟩
theorem gY (s:Bytes)(w:World)(hs:s.length≤9223372036854775807) :
 Calls Tryz.prog 192 #[(Value.string ⟨zLv (s)⟩)] w fun e w'=>e=.returned (.bool (cn s))∧w=w':=by
 cases hn:s.isEmpty
 all_goals
  have Hd:=hid (show cn s=(!s.isEmpty&&s.all isDigit) from rfl)
  rw[hn]at Hd
  go_enter Tryz.func192,Tryz.ntmps192
  go_wp2_with (go_at_call 206;refine(CQ _ _ hs).mono ?_;rintro e w' ⟨rfl,rfl⟩)
  go_ret
  exact⟨bc (by rw[Hd.out];simp),rfl⟩
theorem yX (s:Bytes)(w:World)(hs:s.length≤9223372036854775807) :
 Calls Tryz.prog 127 #[(Value.string ⟨zLv (s)⟩)] w fun e w'=>e=.returned (.bool (cn s))∧w=w':=by
 go_enter Tryz.func127,Tryz.ntmps127
 go_wp2_with fail
 go_loop [3] (fun i=>∃ k:Nat,k≤s.length∧i=.int .i64 k∧(s.take k).all isDigit=true) (fun i=>s.length - (intOf i).toNat)
 case atStart=>exact⟨0,by omega,rfl,rfl⟩
 case round =>
  obtain⟨k,hk,rfl,aR⟩:=hrel
  have Hall:=hid aR
  clear aR
  by_cases aB:k<s.length
  ·cases hc:isDigit s[k]
   ·have Ha:=hid (cW aB hc)
    go_wp2_with (go_at_call 94;refine(dv _ _).mono ?_;rintro e w' ⟨rfl,rfl⟩)
    go_ret
    exact⟨bc (by unfold cn;rw[Ha.out];simp),rfl⟩
   ·go_wp2_with (go_at_call 94;refine(dv _ _).mono ?_;rintro e w' ⟨rfl,rfl⟩)
    go_round
    case rel=>exact⟨k+1,by omega,by go_num,aP aB Hall.out hc⟩
    case measure=>simp[intOf];omega
  ·have aR:=Hall.out
   rw[zLX (by omega)]at aR
   have Ha:=hid aR
   clear aR Hall
   go_wp2_with fail
   go_ret
   exact⟨bc (by unfold cn;rw[Ha.out];simp),rfl⟩
theorem A1 (c:UInt8)(s:Bytes)(w:World)(hs:s.length≤9223372036854775807) :
 Calls Tryz.prog 67 #[.int .u8 c.toNat,(Value.string ⟨zLv (s)⟩)] w fun e w'=>e=.returned (.bool (has s c))∧w=w':=by
 go_enter Tryz.func67,Tryz.ntmps67
 go_wp2_with fail
 go_loop [5] (fun i=>∃ k:Nat,k≤s.length∧i=.int .i64 k∧has (s.take k) c=false) (fun i=>s.length - (intOf i).toNat)
 case atStart=>exact⟨0,by omega,rfl,rfl⟩
 case round =>
  obtain⟨k,hk,rfl,aR⟩:=hrel
  have Hall:=hid aR
  clear aR
  by_cases aB:k<s.length
  ·by_cases hc:s[k]=c
   ·have hx:((s[k].toNat:Int)==(c.toNat:Int))=true:=by simp[hc]
    have Ha:=hid (show has s c=true by unfold has;rw[zLZ];exact hc ▸ List.getElem_mem aB)
    go_wp2_with fail
    go_ret
    exact⟨bc Ha.out.symm,rfl⟩
   ·have hx:((s[k].toNat:Int)==(c.toNat:Int))=false:=by
     rw[beq_eq_false_iff_ne]
     intro h
     exact hc (UInt8.toNat_inj.1 (by omega))
    go_wp2_with fail
    go_round
    case rel=>exact⟨k+1,by omega,by go_num,by
     have:=Hall.out
     unfold has at this ⊢
     rw[zL7 aB,List.contains_eq_any_beq,List.any_append,← List.contains_eq_any_beq,this]
     simp
     exact fun h=>hc h.symm⟩
    case measure=>simp[intOf];omega
  ·have aR:=Hall.out
   rw[zLX (by omega)]at aR
   have Ha:=hid aR
   clear aR Hall
   go_wp2_with fail
   go_ret
   exact⟨bc Ha.out.symm,rfl⟩
theorem gu (s t:Bytes)(w:World)(hs:s.length≤9223372036854775807)(ht:t.length≤9223372036854775807) :
 Calls Tryz.prog 46 #[(Value.string ⟨zLv (s)⟩),(Value.string ⟨zLv (t)⟩)] w fun e w'=>e=.returned (.int .i64 (pre (has t ·) s))∧w=w':=by
 have hle:=cx (has t ·) s
 go_enter Tryz.func46,Tryz.ntmps46
 go_wp2_with fail
 go_loop [5] (fun i=>∃ k:Nat,k≤pre (has t ·) s∧i=.int .i64 k) (fun i=>s.length - (intOf i).toNat)
 case atStart=>exact⟨0,by omega,rfl⟩
 case round =>
  obtain⟨k,hk,rfl⟩:=hrel
  by_cases aB:k<pre (has t ·) s
  ·have hc:=gM aB (by omega)
   go_wp2_with (go_at_call 67;refine(A1 _ _ _ ht).mono ?_;rintro e w' ⟨rfl,rfl⟩)
   go_round
   case rel=>exact⟨k+1,by omega,by go_num⟩
   case measure=>simp[intOf];omega
  ·obtain rfl:k=pre (has t ·) s:=by omega
   clear hk aB
   by_cases Cf:pre (has t ·) s<s.length
   ·have hc:=gi Cf
    go_wp2_with (go_at_call 67;refine(A1 _ _ _ ht).mono ?_;rintro e w' ⟨rfl,rfl⟩)
    go_ret
    exact⟨rfl,rfl⟩
   ·have he:=hid (show pre (has t ·) s=s.length by omega)
    go_wp2_with fail
    go_ret
    exact⟨tI (by rw[he.out]),rfl⟩
open Go Vc Go.RowKit Wf
theorem below_draws {w w':World}(h:∃ n,w'=w.drewN n):Below w.heap.size w w':=by
 obtain⟨n,rfl⟩:=h
 exact below_drewN (Below.refl _ _) _
theorem cV {w w':World}(h:w=w'):Below w.heap.size w w':=by subst h;exact Below.refl _ _
theorem dI (l:Bytes)(c:UInt8):PC Tryz.V 144 [.str l,.int .u8 c.toNat] (.int .i64 (Lib.indexByte l c)) :=
 ⟨Tryz.call144,by simp[flat,flat.ai],by simp[flat,flat.ai],fun w hE=>(gr l c w).mono fun _ _ ⟨h,k⟩=>⟨h,cV k⟩⟩
theorem ky (l p:Bytes):PC Tryz.V 177 [.str l,.str p] (.bool (Lib.hasPrefix l p)) :=
 ⟨Tryz.call177,by simp[flat,flat.ai],by simp[flat,flat.ai],fun w hE=>(AQ l p w).mono fun _ _ ⟨h,k⟩=>⟨h,cV k⟩⟩
theorem kz (l p:Bytes):PC Tryz.V 156 [.str l,.str p] (.eS [.str (Lib.trimPrefix l p),.bool (Lib.hasPrefix l p)]) :=
 ⟨Tryz.call156,by simp[flat,flat.ai],by simp[flat,flat.ai],fun w hE=>(AR l p w).mono fun _ _ ⟨h,k⟩=>⟨h,cV k⟩⟩
theorem qt (l p:Bytes):PC Tryz.V 178 [.str l,.str p] (.str (Lib.trimPrefix l p)) :=
 ⟨Tryz.call178,by simp[flat,flat.ai],by simp[flat,flat.ai],fun w hE=>(yO l p w).mono fun _ _ ⟨h,k⟩=>⟨h,cV k⟩⟩
theorem uD (l:Bytes)(c:UInt8)(hl:l.length<4294967281):PC Tryz.V 64 [.str l,.str [c]] (.eS [.str (aL c l).1,.str (aL c l).2.1,.bool (aL c l).2.2]) :=
 ⟨Tryz.call64,by simp[flat,flat.ai],by simp[flat,flat.ai],fun w hE=>(EO l c w hE hl).mono fun _ _ ⟨h,k⟩=>⟨h,below_draws k⟩⟩
theorem uB (s l:Bytes)(ha:∀ i (h:i<l.length),l[i].toNat<128)(hl:l.length≤1000000)(h2:2≤l.length)(hs:s.length<4294967281) :
 PC Tryz.V 168 [.str s,.str l] (.int .i64 (Lib.indexAny s l)) :=
 ⟨Tryz.call168,by simp[flat,flat.ai],by simp[flat,flat.ai],fun w hE=>strings_IndexAny s l w ha hl h2 hs⟩
def qF (s:Bytes)(c:UInt8):Int:=Lib.lastIndexByte ⟨zLv s⟩ c.toNat
theorem IG (s:Bytes)(c:UInt8):qF s c=((s.reverse.dropWhile (· != c)).length:Int) - 1:=by
 have h:∀ k,k≤s.length→Lib.lastIdx ⟨zLv s⟩ c.toNat k=(((s.take k).reverse.dropWhile (· != c)).length:Int) - 1:=by
  intro k
  induction k with
  | zero=>intro _;simp[Lib.lastIdx]
  | succ k ih =>
    intro hk
    have hk':k<s.length:=by omega
    have e:(⟨zLv s⟩:ByteArray).data[k]! = s[k]:=by simp[hk']
    rw[zL7 hk',List.reverse_append,List.reverse_singleton,zLY,Lib.lastIdx,e]
    by_cases hc:s[k]=c
    ·rw[if_pos (by rw[hc]),List.dropWhile_cons_of_neg (by simp[hc])]
     simp
     omega
    ·rw[if_neg (fun h=>hc (UInt8.toNat_inj.1 (by exact_mod_cast h))),List.dropWhile_cons_of_pos (by simp[hc]),ih (by omega)]
 have:=h s.length (zLG _)
 rw[List.take_length]at this
 exact this
theorem mE (s:Bytes)(c:UInt8)(hs:s.length<4611686018427387904):PC Tryz.V 179 [.str s,.int .u8 c.toNat] (.int .i64 (qF s c)) :=
 ⟨Tryz.call179,by simp[flat,flat.ai],by simp[flat,flat.ai],fun w hE=>(Tryz.strings_LastIndexByte ⟨zLv s⟩ c.toNat hs w).mono fun _ _ ⟨h,k⟩=>⟨h,cV k.symm⟩⟩
theorem kA {p q:Bytes}(h:Lib.hasPrefix p q=false):¬ (q.isPrefixOf p=true):=by unfold Lib.hasPrefix at h;simp[h]
theorem eE {p q:Bytes}(h:Lib.hasPrefix p q=true):q.length≤p.length:=(zLK.1 h).length_le
theorem tU (s p:Bytes):(Lib.trimPrefix s p).length≤s.length:=by
 unfold Lib.trimPrefix;split <;> simp
theorem cH {s:Bytes}{k:Nat}(hk:k<s.length)(c:UInt8){n:Int}(hn:n=c.toNat):(((s.getD k 0).toNat:Int)==n)=(s[k]==c):=by
 subst hn
 rw[show s.getD k 0=s[k] by simp[List.getD,hk],zL9]
 simp only[beq_iff_eq]
 exact⟨fun h=>UInt8.toNat_inj.1 (by exact_mod_cast h),fun h=>by rw[h]⟩
theorem uI (l:Bytes):(l.map da).all Vc.one=true:=by simp[da,Vc.one]
theorem yM {bs:List ax}{i:Nat}{x y:SV}(hi:bs[i]? = some (.cells [x,y] 193 true))(hx:x=.v (.pointer none)∨x=.p i 0) :
 SC Tryz.V 213 [.p i 0] bs (fun r bs'=>r=.eS []∧bs'=bs.set i (.cells [.p i 0,y] 193 true)):=by
 have eh:i<bs.length:=(zLD.1 hi).1
 refine xz hi rfl Tryz.call213 rfl (fun β fp w hE hh=>?_)
 obtain⟨h0,⟨rest,fz,hd,rfl⟩,h3⟩:=hh β (bw.refl _ _)
 have ea:(aG β [.p i 0]).toArray=#[.pointer (some ⟨(β i).cE,0,none⟩)]:=by simp[aG,ah,h0]
 rw[ea]
 have fR:w.cell? ⟨(β i).cE,0,none⟩=some (ah β x):=hd.tv 0 _ (by simp)
 rcases hx with rfl|rfl
 ·have jZ:=hd.1
  have wo:=hd.2
  refine(Any.Builder_copyCheck_fresh { Tryz.ID with } Tryz.vA.toX72 (β i).cE w fR ?_ ?_).mono ?_
  ·simp[World.shape?,jZ]
   rfl
  ·simp[World.frozen?,jZ]
   simp at wo
   omega
  ·rintro e w' ⟨rfl,rfl⟩
   refine⟨rfl,?_,fp i,fun k hk=>hk,fun β' hβ=>?_⟩
   ·exact⟨rfl,rfl,rfl,by simp[World.setCell],fun k _ hn=>Below.heap_setCell _ _ _ _ (fun e=>hn ((h3 k).2 e))⟩
   ·have hb:=hβ i eh
    obtain⟨k0,⟨rest,fz',hd',rfl⟩,k3⟩:=hh β' hβ
    refine⟨k0,⟨[],fz',⟨?_,by simpa using hd'.2⟩,rfl⟩,k3⟩
    rw[hb,heap_set hd'.1]
    simp[ah,k0]
 ·refine(Any.Builder_copyCheck_used { Tryz.ID with } Tryz.vA.toX72 (β i).cE w ?_).mono ?_
  ·rw[fR];simp[ah,h0]
  ·rintro e w' ⟨rfl,rfl⟩
   exact⟨rfl,mW.refl _ _,fp i,fun k hk=>hk,hh⟩
theorem wx {bs:List ax}{i j:Nat}{x:SV}{l s:Bytes}(hi:bs[i]? = some (.cells [x,.o j l.length] 193 true))(hx:x=.v (.pointer none)∨x=.p i 0)(hj:bs[j]? = some (.own (l.map da) 5 1 l.length true))(wm:i≠j)(hlen:l.length+s.length≤140737488355328) :
 SC Tryz.V 204 [.p i 0,.str s] bs (fun r bs'=>r=.eS [.int .i64 s.length,.v .nilIface]∧bs'[i]? = some (.cells [.p i 0,.o bs.length (l++s).length] 193 true)∧bs'[bs.length]? = some (.own ((l++s).map da) 5 1 (l++s).length true)∧∀ k,k<bs.length→k≠i→k≠j→bs'[k]? = bs[k]?):=by
 have eh:i<bs.length:=(zLD.1 hi).1
 refine cz 3000 Tryz.func204 rfl Tryz.ntmps204 Tryz.results204 Tryz.call204 (by simp) (aw bs.length _ (by simp[within,within.ay,eh])) ?_
 simp only[ad,↓Xn,↓Xo,↓Xg,↓Xd,↓Xe,↓Xf,Tryz.VΓ,Tryz.Γs,Xp,Xi,Nat.reduceAdd,Nat.reduceSub,Nat.reduceLT,Nat.reduceLeDiff,reduceIte,reduceCtorEq,Nat.reduceEqDiff,implies_true,forall_const,aa]
 refine aJ (yM hi hx) ?_
 rintro r bs1 ⟨rfl,rfl⟩
 have h1:(bs.set i (.cells [.p i 0,.o j l.length] 193 true))[i]? = some (.cells [.p i 0,.o j l.length] 193 true):=zLQ eh
 have h2:(bs.set i (.cells [.p i 0,.o j l.length] 193 true))[j]? = some (.own (l.map da) 5 1 l.length true):=by rw[zLC wm];exact hj
 have h3:∀ k,k≠i→(bs.set i (.cells [.p i 0,.o j l.length] 193 true))[k]? = bs[k]? := fun k hk=>zLC (fun e=>hk e.symm)
 have h4:(bs.set i (.cells [.p i 0,.o j l.length] 193 true)).length=bs.length:=List.length_set ..
 generalize bs.set i (.cells [.p i 0,.o j l.length] 193 true)=bs1 at h1 h2 h3 h4 ⊢
 have h5:∀ X,(bs1.set j .gone++[X])[i]? = some (.cells [.p i 0,.o j l.length] 193 true):=fun X=>by
  rw[zLA (by simp;omega),zLC (fun e=>wm e.symm)];exact h1
 simp only[ad,↓Xn,↓Xo,↓Xg,↓Xd,↓Xe,↓Xf,Tryz.VΓ,Tryz.Γs,Xp,Xi,Nat.reduceAdd,Nat.reduceSub,Nat.reduceLT,Nat.reduceLeDiff,reduceIte,reduceCtorEq,Nat.reduceEqDiff,implies_true,forall_const,aa,h1,h2,h5]
 refine⟨⟨uI _,by unfold maxLen;omega,by omega⟩,?_,?_,fun k hk jb hkj=>?_⟩
 ·rw[zLQ (by simp;omega),h4,zLH]
 ·rw[zLC (by omega),zLV (by simp;omega)]
  simp[h4]
 ·rw[zLC (fun e=>jb e.symm),zLA (by simp;omega),zLC (fun e=>hkj e.symm),h3 k jb]
theorem ns {bs:List ax}{i:Nat}{l s:Bytes}(hi:bs[i]? = some (.ext (sn 193 5 l)))(hlen:l.length+s.length≤140737488355328) :
 SC Tryz.V 204 [.p i 0,.str s] bs (fun r bs'=>r=.eS [.int .i64 s.length,.v .nilIface]∧bs'=bs.set i (.ext (sn 193 5 (l++s)))):=by
 have eh:i<bs.length:=(zLD.1 hi).1
 refine sc_open (R':=fun r bs'=>r=.eS [.int .i64 s.length,.v .nilIface]∧bs'[i]? = some (.cells [.p i 0,.o (bs.length+1) (l++s).length] 193 true)∧bs'[bs.length+1]? = some (.own ((l++s).map da) 5 1 (l++s).length true)∧∀ k,k<bs.length→k≠i→bs'[k]? = bs[k]?) hi (fun x hx=>(wx (j:=bs.length) (l:=l) (s:=s) ?_ hx ?_ (by omega) hlen).mono ?_) ?_ (by simp[within,within.ay,eh])
 ·rw[zLA (by simpa using eh),zLQ eh]
 ·rw[zLV (by simp)];simp
 ·rintro r bs' ⟨rfl,h1,h2,h3⟩
  simp only[zLH,List.length_set,zLF,zMn]at h1 h2 h3
  refine⟨rfl,by simpa using h1,by simpa using h2,fun k hk jb=>?_⟩
  rw[h3 k (by omega) jb (by omega),zLA (by simpa using hk),zLC (fun e=>jb e.symm)]
 ·rintro r bs' ⟨rfl,h1,h2,h3⟩
  exact⟨.p i 0,bs.length+1,l++s,rfl,.inr rfl,⟨rfl,rfl⟩,h1,h2,by omega,h3⟩
set_option maxRecDepth 100000 in
theorem Hz {b:Nat}{p:Value}{t2:Bt}{f2:Nat→Prop}{l:Bytes}{w:World}{fz:Nat × Nat}(hd:Head w b 193 [p,oV t2 l.length] [] fz)(hr:Holds ke t2 f2 w (.own (l.map da) 5 1 l.length true)) :
 Calls Tryz.prog 205 #[.pointer (some ⟨b,0,none⟩)] w fun e w'=>e=.returned (Value.string ⟨zLv (l)⟩)∧mW f2 w w':=by
 have mixed:Tryz.prog.follows .mixedOrders=true:=by kernel_rfl
 have hb:w.heap[b]? = some (.cells #[p,oV t2 l.length] 193 fz):=by simpa using hd.1
 have hdr:mW f2 w w.drew:=⟨rfl,rfl,rfl,zLG _,fun _ _ _=>rfl⟩
 have hUN:∀ (W:World) (q:Option Addr),(Builtin.unsafeString_ #[208,3] 9 #[.pointer q,.int .i64 0]).run Tryz.prog W=.ok (.string .empty) W:=fun W q=>Lib.run_unsafeString_none W _ _ _ q
 have eo:∀ (W:World),W.heap[b]? = w.heap[b]? → W.cell? ⟨b,1,none⟩=some (oV t2 l.length):=fun W hW=>by
  rw[Lib.cell_of_heap (hW.trans hb)];rfl
 rcases hr with⟨h1,h2,h3,h4⟩|⟨h1,h2,h3,h4,h5,h6,h7⟩
 ·have hl:l=[]:=by simpa using h3
  subst hl
  have hv:oV t2 ([]:Bytes).length=.slice none 0 0:=by simp[oV,h1,nJ,h4.2 rfl]
  rw[hv]at hb eo
  have c1:w.drew.cell? ⟨b,1,none⟩=some (.slice none 0 0):=eo _ rfl
  have hSD:(Builtin.unsafeSliceData_ #[25] 208 #[.slice none 0 0]).run Tryz.prog w.drew=.ok (.pointer none) w.drew:=rfl
  go_enter Tryz.func205,Tryz.ntmps205
  go_wp2
  go_region_o
  all_goals (go_wp2;go_ret;exact⟨rfl,hdr⟩)
 ·obtain⟨h8,rest,fr,h9,fy,JA⟩:=h6 rfl
  obtain⟨cE,off,cap⟩:=t2
  simp only at h1 h2 h3 h8 h9 JA h7
  subst h8
  obtain⟨cap,rfl⟩:∃ c,cap=c+1:=⟨cap - 1,by omega⟩
  have hv:oV ⟨cE,0,cap+1⟩ l.length=.slice (some ⟨cE,0,none⟩) l.length cap:=by simp[oV]
  rw[hv]at hb eo
  have hg:w.heap[cE]? = some (.cells ((l.map da).map (ah ke)++rest).toArray 5 fr):=h9.1
  have jZ:((l.map da).map (ah ke)++rest).toArray.size=cap:=by
   simp at JA ⊢;omega
  by_cases hl:l=[]
  ·subst hl
   simp only[List.map_nil,zLS,zMn]at hb eo hg jZ
   have c1:w.drew.cell? ⟨b,1,none⟩=some (.slice (some ⟨cE,0,none⟩) 0 cap):=eo _ rfl
   by_cases hc:cap=0
   ·subst hc
    have mQ:b<w.heap.size:=(Array.getElem?_eq_some_iff.1 hb).1
    have hSD:(Builtin.unsafeSliceData_ #[25] 208 #[.slice (some ⟨cE,0,none⟩) 0 0]).run Tryz.prog w.drew=.ok (.pointer (some ⟨w.drew.heap.size,0,none⟩)) (w.drew.alloc (.view ⟨cE,0,none⟩ 5)) :=
     Lib.run_unsafeSliceData_zero w.drew _ _ 5 Tryz.underlying208 ⟨cE,0,none⟩ 0 (5,rest.toArray.size) (by have hg':w.drew.heap[cE]? = _:=hg;simp[World.shape?,hg'])
    have c2:(w.drew.alloc (.view ⟨cE,0,none⟩ 5)).cell? ⟨b,1,none⟩=some (.slice (some ⟨cE,0,none⟩) 0 0):=eo _ (Lib.alloc_old w.drew _ b mQ)
    have c3:(w.alloc (.view ⟨cE,0,none⟩ 5)).drew.cell? ⟨b,1,none⟩=some (.slice (some ⟨cE,0,none⟩) 0 0):=c2
    have c0:w.cell? ⟨b,1,none⟩=some (.slice (some ⟨cE,0,none⟩) 0 0):=c1
    have pP:mW f2 w (w.drew.alloc (.view ⟨cE,0,none⟩ 5)):=⟨rfl,rfl,rfl,by simp,fun k hk _=>Lib.alloc_old w.drew _ k hk⟩
    go_enter Tryz.func205,Tryz.ntmps205
    go_wp2
    go_region_o
    all_goals (go_wp2;go_ret;exact⟨rfl,pP⟩)
   ·have hSD:(Builtin.unsafeSliceData_ #[25] 208 #[.slice (some ⟨cE,0,none⟩) 0 cap]).run Tryz.prog w.drew=.ok (.pointer (some ⟨cE,0,none⟩)) w.drew :=
     Lib.run_unsafeSliceData_row _ _ _ _ _ _ hc
    clear hc
    go_enter Tryz.func205,Tryz.ntmps205
    go_wp2
    go_region_o
    all_goals (go_wp2;go_ret;exact⟨rfl,hdr⟩)
  ·have hl0:l.length≠0:=by simpa using hl
   have c1:w.drew.cell? ⟨b,1,none⟩=some (.slice (some ⟨cE,0,none⟩) l.length cap):=eo _ rfl
   have hSD:(Builtin.unsafeSliceData_ #[25] 208 #[.slice (some ⟨cE,0,none⟩) l.length cap]).run Tryz.prog w.drew=.ok (.pointer (some ⟨cE,0,none⟩)) w.drew :=
    Lib.run_unsafeSliceData_row _ _ _ _ _ _ (by omega)
   have hUS:(Builtin.unsafeString_ #[208,3] 9 #[.pointer (some ⟨cE,0,none⟩),.int .i64 l.length]).run Tryz.prog w.drew=.ok (Value.string ⟨zLv (l)⟩) (w.drew.freeze ⟨cE,0,none⟩ l.length):=by
    refine Lib.run_unsafeString_row w.drew 208 3 9 5 Tryz.underlying208 Tryz.vA.cellsByte cE cap (by have hg':w.drew.heap[cE]? = _:=hg;simp only[World.shape?,hg'];simp only[jZ]) l hl (by omega) (by unfold maxLen at h3;omega) ?_
    intro j x hx
    have:=h5 j (ah ke (da x)) (by simp[hx])
    rw[dx]
    simpa[da,ah] using this
   have pP:mW f2 w (w.drew.freeze ⟨cE,0,none⟩ l.length):=by
    unfold World.freeze
    split
    ·exact hdr
    ·refine⟨rfl,rfl,rfl,by simp,fun k hk hn=>?_⟩
     have bn:k≠cE:=fun e=>hn ((h7 k).2 e)
     simp only[Array.getElem?_modify]
     rw[if_neg (fun e=>bn e.symm)]
     rfl
   go_enter Tryz.func205,Tryz.ntmps205
   go_wp2
   go_region_o
   all_goals (go_wp2;go_ret;exact⟨rfl,pP⟩)
theorem xA {bs:List ax}{i:Nat}{l:Bytes}(hi:bs[i]? = some (.ext (sn 193 5 l))) :
 SC Tryz.V 205 [.p i 0] bs (fun r bs'=>r=.str l∧bs'=bs.set i .gone):=by
 refine xz hi rfl Tryz.call205 rfl (fun β fp w hE hh=>?_)
 obtain⟨h0,p,t2,f2,hp,⟨fz,hd⟩,h3,h4,h5⟩:=hh β (bw.refl _ _)
 have ea:(aG β [.p i 0]).toArray=#[.pointer (some ⟨(β i).cE,0,none⟩)]:=by simp[aG,ah,h0]
 rw[ea]
 refine(Hz hd h3).mono ?_
 rintro e w' ⟨rfl,hf⟩
 exact⟨rfl,hf.mono (fun k hk=>(h5 k).2 (.inr hk)),fun _=>False,fun _ h=>h.elim,fun _ _ _ h=>h⟩
theorem yp:∀ L:List Bytes,flat.ai (L.map SV.str)=true
 | []=>by simp[flat.ai]
 | x::L=>by simp[flat.ai,flat,yp L]
theorem sA {bs:List ax}(s sep:Bytes)(L:List Bytes)(hL:Lib.splitK sep 0 (Lib.count s sep) s=L)(hs:s.length≤1100000)(hp:1≤sep.length) :
 SC Tryz.V 172 [.str s,.str sep] bs (fun r b=>r=.o bs.length L.length∧b=bs++[.own (L.map SV.str) 9 1 L.length true]):=by
 have hd:=Lib.splitB_data ⟨zLv sep⟩ 0 (Lib.countB ⟨zLv s⟩ ⟨zLv sep⟩) ⟨zLv s⟩
 have hlen:=Lib.splitB_all ⟨zLv sep⟩ hp 0 _ ⟨zLv s⟩ rfl
 have hle:=Lib.countB_le ⟨zLv sep⟩ hp s.length ⟨zLv s⟩ (zLG _)
 have hz:(⟨zLv s⟩:ByteArray).size=s.length:=rfl
 have dB:Lib.countB ⟨zLv s⟩ ⟨zLv sep⟩+1=L.length:=by
  rw[← hlen,← hL]
  have:=congrArg List.length hd
  rw[zMw]at this
  exact this
 have e:(Lib.splitB ⟨zLv sep⟩ 0 (Lib.countB ⟨zLv s⟩ ⟨zLv sep⟩) ⟨zLv s⟩).map Value.string=L.map lS:=by
  rw[← hL]
  refine Eq.trans ?_ (congrArg (List.map lS) hd)
  rw[List.map_map]
  exact zMt fun x _=>rfl
 refine(sc_row (V:=Tryz.V) (c:=L.map SV.str) (T:=9) Tryz.call172 (by simp[flat,flat.ai]) ?_ ?_ fun w ⟨m,hm⟩=>?_).mono ?_
 ·exact yp L
 ·unfold maxLen;rw[zMw];omega
 ·refine(Tryz.strings_Split ⟨zLv s⟩ ⟨zLv sep⟩ m w (show s.length<4294967281 by omega) hm hp).mono fun _ _ ⟨h,k⟩=>⟨?_,?_⟩
  ·rw[h,dB,zMw]
  ·rw[k,e]
   congr 2
   rw[bU,List.map_map]
   exact congrArg zLv (zMt fun x _=>rfl)
 ·rintro r b ⟨h1,h2⟩
  rw[zMw]at h1 h2
  exact⟨h1,h2⟩
def G8 (i:Nat)(l:Bytes)(b:List ax):Prop:=b[i]? = some (.ext (sn 193 5 l))∨(l=[]∧b[i]? = some (.cells [.v (.pointer none),.aE] 193 true))
theorem G8.lt {i:Nat}{l:Bytes}{b:List ax}(h:G8 i l b):i<b.length:=by
 rcases h with h|⟨-,h⟩ <;> exact(zLD.1 h).1
theorem G8.set {i:Nat}{l m:Bytes}{b:List ax}(h:G8 i l b):G8 i m (b.set i (.ext (sn 193 5 m))):=.inl (zLQ h.lt)
theorem AH {α:Type}{b:List α}{i:Nat}{x:α}(h:b[i]? = some x):b.set i x=b:=by
 apply List.ext_getElem?
 intro k
 by_cases hk:k=i
 ·subst hk;rw[zLQ (zLD.1 h).1,h]
 ·rw[zLC (fun e=>hk e.symm)]
theorem sc_WS {bs:List ax}{i:Nat}{l s:Bytes}(h:G8 i l bs)(hlen:l.length+s.length≤140737488355328) :
 SC Tryz.V 204 [.p i 0,.str s] bs (fun r bs'=>r=.eS [.int .i64 s.length,.v .nilIface]∧bs'=bs.set i (.ext (sn 193 5 (l++s)))):=by
 rcases h with h|⟨rfl,h⟩
 ·exact ns h hlen
 ·refine AM h ((ns (l:=[]) (zLQ (zLD.1 h).1) hlen).mono ?_)
  rintro r b ⟨h1,h2⟩
  exact⟨h1,by rw[h2,List.set_set]⟩
theorem HX {bs:List ax}{i:Nat}{l:Bytes}(h:G8 i l bs) :
 SC Tryz.V 205 [.p i 0] bs (fun r bs'=>r=.str l∧bs'=bs.set i .gone):=by
 rcases h with h|⟨rfl,h⟩
 ·exact xA h
 ·refine AM h ((xA (l:=[]) (zLQ (zLD.1 h).1)).mono ?_)
  rintro r b ⟨h1,h2⟩
  exact⟨h1,by rw[h2,List.set_set]⟩
theorem xO (c:UInt8):PC Tryz.V 197 [.int .u8 c.toNat] (.bool (isAlpha c)) :=
 ⟨Tryz.call197,by simp[flat,flat.ai],by simp[flat,flat.ai],fun w _=>(cR c w).mono fun _ _ ⟨h,k⟩=>⟨h,cV k⟩⟩
theorem oz (c:UInt8):PC Tryz.V 182 [.int .u8 c.toNat] (.bool (isDigit c)) :=
 ⟨Tryz.call182,by simp[flat,flat.ai],by simp[flat,flat.ai],fun w _=>(bG c w).mono fun _ _ ⟨h,k⟩=>⟨h,cV k⟩⟩
theorem EY (c:UInt8):PC Tryz.V 189 [.int .u8 c.toNat] (.bool (bp c)) :=
 ⟨Tryz.call189,by simp[flat,flat.ai],by simp[flat,flat.ai],fun w _=>(CR c w).mono fun _ _ ⟨h,k⟩=>⟨h,cV k⟩⟩
theorem qG (set:Bytes)(c:UInt8):decide (0≤Lib.indexByte set c)=set.contains c:=by
 rw[cY]
 by_cases h:pre (·==c) set<set.length
 ·rw[if_pos h]
  have:=gi (p:=(·==c)) h
  simp only[beq_iff_eq]at this
  simp only[Int.natCast_nonneg,decide_true]
  symm
  rw[zLZ,← this]
  exact List.getElem_mem h
 ·rw[if_neg h]
  simp only[show ¬ (0:Int)≤-1 by omega,decide_false]
  symm
  rw[← Bool.not_eq_true,zLZ]
  intro hm
  obtain⟨k,hk,rfl⟩:=zMa hm
  have h2:=cx (·==set[k]) set
  have:=gM (p:=(·==set[k])) (l:=set) (k:=k) (by omega) hk
  simp at this
theorem p_among (c:UInt8)(set:Bytes):PC Tryz.V 170 [.int .u8 c.toNat,.str set] (.bool (set.contains c)):=by
 refine aQ 3000 Tryz.func170 rfl Tryz.ntmps170 Tryz.results170 Tryz.call170 (by simp) (by simp[flat,flat.ai]) (by simp[flat,flat.ai]) ?_
 simp only[ad,↓Xn,↓Xo,↓Xg,↓Xd,↓Xe,↓Xf,Tryz.VΓ,Tryz.Γs,Xp,Xi,Nat.reduceAdd,Nat.reduceSub,Nat.reduceLT,Nat.reduceLeDiff,reduceIte,reduceCtorEq,Nat.reduceEqDiff,implies_true,forall_const,aa]
 (refine ae (dI set c) ?_;simp only[ad,↓Xn,↓Xo,↓Xg,↓Xd,↓Xe,↓Xf,Tryz.VΓ,Tryz.Γs,Xp,Xi,Nat.reduceAdd,Nat.reduceSub,Nat.reduceLT,Nat.reduceLeDiff,reduceIte,reduceCtorEq,Nat.reduceEqDiff,implies_true,forall_const,aa])
 rw[qG]
theorem p_alnum (c:UInt8):PC Tryz.V 169 [.int .u8 c.toNat] (.bool (isAlpha c||isDigit c)):=by
 refine aQ 3000 Tryz.func169 rfl Tryz.ntmps169 Tryz.results169 Tryz.call169 (by simp) (by simp[flat,flat.ai]) (by simp[flat,flat.ai]) ?_
 simp only[ad,↓Xn,↓Xo,↓Xg,↓Xd,↓Xe,↓Xf,Tryz.VΓ,Tryz.Γs,Xp,Xi,Nat.reduceAdd,Nat.reduceSub,Nat.reduceLT,Nat.reduceLeDiff,reduceIte,reduceCtorEq,Nat.reduceEqDiff,implies_true,forall_const,aa]
 (refine ae (xO c) ?_;simp only[ad,↓Xn,↓Xo,↓Xg,↓Xd,↓Xe,↓Xf,Tryz.VΓ,Tryz.Γs,Xp,Xi,Nat.reduceAdd,Nat.reduceSub,Nat.reduceLT,Nat.reduceLeDiff,reduceIte,reduceCtorEq,Nat.reduceEqDiff,implies_true,forall_const,aa])
 refine⟨fun h=>?_,fun h=>by rw[h];rfl⟩
 (refine ae (oz c) ?_;simp only[ad,↓Xn,↓Xo,↓Xg,↓Xd,↓Xe,↓Xf,Tryz.VΓ,Tryz.Γs,Xp,Xi,Nat.reduceAdd,Nat.reduceSub,Nat.reduceLT,Nat.reduceLeDiff,reduceIte,reduceCtorEq,Nat.reduceEqDiff,implies_true,forall_const,aa])
 rw[h];rfl
theorem fm (c:UInt8):PC Tryz.V 143 [.int .u8 c.toNat] (.bool (eY c)):=by
 refine aQ 3000 Tryz.func143 rfl Tryz.ntmps143 Tryz.results143 Tryz.call143 (by simp) (by simp[flat,flat.ai]) (by simp[flat,flat.ai]) ?_
 simp only[ad,↓Xn,↓Xo,↓Xg,↓Xd,↓Xe,↓Xf,Tryz.VΓ,Tryz.Γs,Xp,Xi,Nat.reduceAdd,Nat.reduceSub,Nat.reduceLT,Nat.reduceLeDiff,reduceIte,reduceCtorEq,Nat.reduceEqDiff,implies_true,forall_const,aa]
 (refine ae (p_alnum c) ?_;simp only[ad,↓Xn,↓Xo,↓Xg,↓Xd,↓Xe,↓Xf,Tryz.VΓ,Tryz.Γs,Xp,Xi,Nat.reduceAdd,Nat.reduceSub,Nat.reduceLT,Nat.reduceLeDiff,reduceIte,reduceCtorEq,Nat.reduceEqDiff,implies_true,forall_const,aa])
 refine⟨fun h=>?_,fun h=>by unfold eY;rw[h];rfl⟩
 (refine ae (p_among c [45,46,95,126]) ?_;simp only[ad,↓Xn,↓Xo,↓Xg,↓Xd,↓Xe,↓Xf,Tryz.VΓ,Tryz.Γs,Xp,Xi,Nat.reduceAdd,Nat.reduceSub,Nat.reduceLT,Nat.reduceLeDiff,reduceIte,reduceCtorEq,Nat.reduceEqDiff,implies_true,forall_const,aa])
 unfold eY;rw[h];rfl
theorem dig_low (c:UInt8)(h:isDigit c=true):IntKind.u8.wrap ((c.toNat:Int) - 48)=cB c:=by
 have:=dA (p:=fun c=>!isDigit c||decide (IntKind.u8.wrap ((c.toNat:Int) - 48)=cB c)) (by decide +kernel) c
 simpa[h] using this
theorem JV (c:UInt8)(h:bp c=true)(h2:isDigit c=false):IntKind.u8.wrap (IntKind.u8.wrap (qZ .or .u8 (c.toNat:Int) 32 - 97)+10)=cB c:=by
 have:=dA (p:=fun c=>!bp c||isDigit c||decide (IntKind.u8.wrap (IntKind.u8.wrap (qZ .or .u8 (c.toNat:Int) 32 - 97)+10)=cB c)) (by decide +kernel) c
 simpa[h,h2] using this
theorem EX (c:UInt8)(hc:bp c=true):PC Tryz.V 190 [.int .u8 c.toNat] (.int .u8 (cB c)):=by
 refine aQ 3000 Tryz.func190 rfl Tryz.ntmps190 Tryz.results190 Tryz.call190 (by simp) (by simp[flat,flat.ai]) (by simp[flat,flat.ai]) ?_
 simp only[ad,↓Xn,↓Xo,↓Xg,↓Xd,↓Xe,↓Xf,Tryz.VΓ,Tryz.Γs,Xp,Xi,Nat.reduceAdd,Nat.reduceSub,Nat.reduceLT,Nat.reduceLeDiff,reduceIte,reduceCtorEq,Nat.reduceEqDiff,implies_true,forall_const,aa]
 (refine ae (oz c) ?_;simp only[ad,↓Xn,↓Xo,↓Xg,↓Xd,↓Xe,↓Xf,Tryz.VΓ,Tryz.Γs,Xp,Xi,Nat.reduceAdd,Nat.reduceSub,Nat.reduceLT,Nat.reduceLeDiff,reduceIte,reduceCtorEq,Nat.reduceEqDiff,implies_true,forall_const,aa])
 refine⟨fun h=>?_,fun h=>?_⟩
 ·rw[dig_low c h]
 ·rw[JV c hc h]
theorem Dd (a b:UInt8)(ha:bp a=true)(hb:bp b=true):qZ .or .u8 (shI .shl .u8 (cB a) 4) (cB b)=((unhex a b).toNat:Int):=by
 have h1:=lu ha
 have h2:=lu hb
 have:∀ x,x<16→∀ y,y<16→qZ .or .u8 (shI .shl .u8 (x:Nat) 4) (y:Nat)=(((x * 16+y).toUInt8).toNat:Int):=by decide +kernel
 exact this _ (by omega) _ (by omega)
def jl (s:Bytes)(i:Nat):Option UInt8:=(cZ (s.drop (i+1))).map fun x=>unhex x.1 x.2.1
theorem qP (s:Bytes)(i:Nat):cZ (s.drop (i+1))=if i+2<s.length then(if bp (s.getD (i+1) 0)&&bp (s.getD (i+2) 0) then some (s.getD (i+1) 0,s.getD (i+2) 0,s.drop (i+3)) else none) else none:=by
 by_cases h:i+2<s.length
 ·rw[if_pos h,zLJ (by omega:i+1<s.length),zLJ (by omega:i+1+1<s.length)]
  simp only[cZ,List.getD_eq_getElem?_getD]
  simp[show i+1<s.length by omega,h]
 ·rw[if_neg h]
  have hl:(s.drop (i+1)).length≤1:=by simp;omega
  match hm:s.drop (i+1),hl with
  | [],_=>rfl
  | [_],_=>rfl
theorem xN (s:Bytes)(i:Nat)(hi:i<s.length)(hs:s.length≤9223372036854775807):PC Tryz.V 165 [.str s,.int .i64 i] (.eS [.int .u8 (((jl s i).getD 0).toNat:Int),.bool (jl s i).isSome]):=by
 refine aQ 3000 Tryz.func165 rfl Tryz.ntmps165 Tryz.results165 Tryz.call165 (by simp) (by simp[flat,flat.ai]) (by simp[flat,flat.ai]) ?_
 simp only[ad,↓Xn,↓Xo,↓Xg,↓Xd,↓Xe,↓Xf,Tryz.VΓ,Tryz.Γs,Xp,Xi,Nat.reduceAdd,Nat.reduceSub,Nat.reduceLT,Nat.reduceLeDiff,reduceIte,reduceCtorEq,Nat.reduceEqDiff,implies_true,forall_const,aa]
 unfold jl
 rw[qP]
 refine⟨⟨by omega,by omega⟩,fun hl=>?_,fun hl=>?_⟩
 ·have hl:i+2<s.length:=(by simp at hl;omega)
  rw[if_pos hl]
  refine⟨⟨by omega,by omega⟩,⟨by omega,by omega⟩,?_⟩
  (refine ae (EY _) ?_;simp only[ad,↓Xn,↓Xo,↓Xg,↓Xd,↓Xe,↓Xf,Tryz.VΓ,Tryz.Γs,Xp,Xi,Nat.reduceAdd,Nat.reduceSub,Nat.reduceLT,Nat.reduceLeDiff,reduceIte,reduceCtorEq,Nat.reduceEqDiff,implies_true,forall_const,aa])
  refine⟨fun ha=>⟨⟨by omega,by omega⟩,⟨by omega,by omega⟩,?_⟩,fun ha=>?_⟩
  ·have ha:bp (s.getD (i+1) 0)=true:=by simpa using ha
   (refine ae (EY _) ?_;simp only[ad,↓Xn,↓Xo,↓Xg,↓Xd,↓Xe,↓Xf,Tryz.VΓ,Tryz.Γs,Xp,Xi,Nat.reduceAdd,Nat.reduceSub,Nat.reduceLT,Nat.reduceLeDiff,reduceIte,reduceCtorEq,Nat.reduceEqDiff,implies_true,forall_const,aa])
   refine⟨fun hb=>?_,fun hb=>⟨⟨by omega,by omega⟩,⟨by omega,by omega⟩,?_⟩⟩
   ·have hb:bp (s.getD (i+2) 0)=false:=by simpa using hb
    rw[ha,hb];rfl
   ·have hb:bp (s.getD (i+2) 0)=true:=by simpa using hb
    (refine aU (EX _ ha) ?_;simp only[ad,↓Xn,↓Xo,↓Xg,↓Xd,↓Xe,↓Xf,Tryz.VΓ,Tryz.Γs,Xp,Xi,Nat.reduceAdd,Nat.reduceSub,Nat.reduceLT,Nat.reduceLeDiff,reduceIte,reduceCtorEq,Nat.reduceEqDiff,implies_true,forall_const,aa])
    refine⟨by omega,⟨by omega,by omega⟩,⟨by omega,by omega⟩,?_⟩
    (refine aU (EX _ hb) ?_;simp only[ad,↓Xn,↓Xo,↓Xg,↓Xd,↓Xe,↓Xf,Tryz.VΓ,Tryz.Γs,Xp,Xi,Nat.reduceAdd,Nat.reduceSub,Nat.reduceLT,Nat.reduceLeDiff,reduceIte,reduceCtorEq,Nat.reduceEqDiff,implies_true,forall_const,aa])
    refine⟨(aq (by kernel_rfl)),?_⟩
    rw[Dd _ _ ha hb,ha,hb];rfl
  ·have ha:bp (s.getD (i+1) 0)=false:=by simpa using ha
   rw[ha];rfl
 ·have hl:¬ i+2<s.length:=(by simp at hl;omega)
  rw[if_neg hl];rfl
theorem shr4 (c:UInt8):shI .shr .u8 (c.toNat:Int) 4=((c.toNat / 16:Nat):Int):=by
 have:=dA (p:=fun c=>decide (shI .shr .u8 (c.toNat:Int) 4=((c.toNat / 16:Nat):Int))) (by decide +kernel) c
 simpa using this
theorem and15 (c:UInt8):qZ .and .u8 (c.toNat:Int) 15=((c.toNat % 16:Nat):Int):=by
 have:=dA (p:=fun c=>decide (qZ .and .u8 (c.toNat:Int) 15=((c.toNat % 16:Nat):Int))) (by decide +kernel) c
 simpa using this
theorem tQ:∀ n,n<16→([48,49,50,51,52,53,54,55,56,57,65,66,67,68,69,70]:Bytes).getD n 0=ib n:=by decide
theorem yv (c:UInt8):(ka c).map da=[.int .u8 37,.int .u8 ((ib (c.toNat / 16)).toNat:Int),.int .u8 ((ib (c.toNat % 16)).toNat:Int)]:=rfl
structure tE (bs:List ax) (i L:Nat) (x:SV) (l:Bytes):Prop where
 box:bs[i]? = some (.cells [x] 174 true)
 sl:Sl 5 1 L x bs (l.map da) l.length
 lt:i<L
theorem tE.ne {bs:List ax}{i L j n:Nat}{l:Bytes}(h:tE bs i L (.o j n) l):i≠j:=by
 rcases h.sl with⟨h1,-⟩|⟨j',h1,h2,-⟩
 ·cases h1
 ·cases h1;have:=h.lt;omega
theorem rE {bs:List ax}{i L:Nat}{x:SV}{l:Bytes}(h:tE bs i L x l)(hL:L≤bs.length)(hl:l.length≤1000000)(c:UInt8) :
 SC Tryz.V 166 [.p i 0,.int .u8 c.toNat] bs (fun r b=>r=.eS []∧∃ x',tE b i L x' (l++ka c)∧bs.length≤b.length∧∀ k,k<L→k≠i→b[k]? = bs[k]?):=by
 have eh:i<bs.length:=(zLD.1 h.box).1
 have hc:=c.toNat_lt
 have d1:=tQ (c.toNat / 16) (by omega)
 have d2:=tQ (c.toNat % 16) (by omega)
 have s1:=shr4 c
 have s2:=and15 c
 have gG:=h.box
 have ec:=yv c
 refine cz 3000 Tryz.func166 rfl Tryz.ntmps166 Tryz.results166 Tryz.call166 (by simp) (aw bs.length _ (by simp[within,within.ay,eh])) ?_
 rcases h.sl with⟨rfl,fR,yk⟩|⟨j,rfl,lN,hj⟩
 ·obtain rfl:l=[]:=by simpa using fR
  have ho:∀ X,(bs++[X])[i]? = some (.cells [.aE] 174 true):=fun X=>af gG [X]
  have kU:∀ X Y,(bs++[X]++[Y])[i]? = some (.cells [.aE] 174 true):=fun X Y=>af (ho X) [Y]
  simp only[ad,↓Xn,↓Xo,↓Xg,↓Xd,↓Xe,↓Xf,Tryz.VΓ,Tryz.Γs,Xp,Xi,Nat.reduceAdd,Nat.reduceSub,Nat.reduceLT,Nat.reduceLeDiff,reduceIte,reduceCtorEq,Nat.reduceEqDiff,implies_true,forall_const,aa,gG,s1,s2,Int.toNat_natCast,d1,d2,aW,ho,kU]
  rw[← ec]
  have n1:¬ bs.length=i:=by omega
  have n2:∀ X,¬ (bs++[X]).length=i:=fun X=>by simp;omega
  refine⟨by omega,⟨by omega,by omega⟩,⟨by omega,by omega⟩,by omega,⟨by unfold maxLen;omega,by omega⟩,?_,_,⟨zLQ (by simp;omega),.inr ⟨_,rfl,by simp;omega,?_⟩,h.lt⟩,by simp,fun k hk jb=>?_⟩
  ·exact(by
   refine fg (fun n=>if n=i then 0 else 1) ?_
   simp only[zMq,List.map_nil,fX,kX,reduceIte,n1,n2]
   exact aq (by kernel_rfl))
  ·rw[zLC (fun e=>n2 _ e.symm),aW];rfl
  ·rw[zLC (fun e=>jb e.symm),zLA (by simp;omega),zLA (by omega)]
 ·have wm:=h.ne
  have mU:j<bs.length:=(zLD.1 hj).1
  have ho:∀ X,(bs++[X])[j]? = some (.own (l.map da) 5 1 l.length true):=fun X=>af hj [X]
  have kU:∀ X Y,((bs++[X]).set j .gone++[Y])[i]? = some (.cells [.o j l.length] 174 true):=fun X Y=>by
   rw[zLA (by simp;omega),zLC wm.symm];exact af gG [X]
  simp only[ad,↓Xn,↓Xo,↓Xg,↓Xd,↓Xe,↓Xf,Tryz.VΓ,Tryz.Γs,Xp,Xi,Nat.reduceAdd,Nat.reduceSub,Nat.reduceLT,Nat.reduceLeDiff,reduceIte,reduceCtorEq,Nat.reduceEqDiff,implies_true,forall_const,aa,gG,s1,s2,Int.toNat_natCast,d1,d2,aW,ho,kU]
  rw[← ec,← List.map_append]
  have n1:¬ bs.length=i:=by omega
  have n2:∀ X,¬ (bs++[X]).length=i:=fun X=>by simp;omega
  have n3:¬ j=i:=fun e=>wm e.symm
  refine⟨by omega,⟨by omega,by omega⟩,⟨by omega,by omega⟩,by omega,⟨by unfold maxLen;omega,by omega⟩,?_,_,⟨zLQ (by simp;omega),.inr ⟨(bs++[ax.own ((ka c).map da) 5 1 3 true]).length,by simp[ka],by simp;omega,?_⟩,h.lt⟩,by simp;omega,fun k hk jb=>?_⟩
  ·exact(by
   refine fg (fun n=>if n=i then 0 else 1) ?_
   simp only[zMq,List.map_nil,fX,kX,reduceIte,n1,n2,n3]
   exact aq (by kernel_rfl))
  ·rw[zLC (fun e=>n2 _ e.symm),zLV (by simp)];simp[ka]
  ·rw[zLC (fun e=>jb e.symm),zLA (by simp;omega),zLC (by omega),zLA (by omega)]
theorem qa {bs:List ax}{i L:Nat}{x:SV}{l:Bytes}(h:tE bs i L x l)(hL:L≤bs.length)(c:UInt8)(hx:x=.aE):tE ((bs++[ax.own [da c] 5 1 1 true]++[ax.own [da c] 5 1 1 true]).set i (ax.cells [.o (bs++[ax.own [da c] 5 1 1 true]).length 1] 174 true)) i L (.o (bs++[ax.own [da c] 5 1 1 true]).length 1) (l++[c]):=by
 have eh:i<bs.length:=(zLD.1 h.box).1
 have hl:l=[]:=by
  rcases h.sl with⟨-,h1,-⟩|⟨j,h1,-,-⟩
  ·simpa using h1
  ·rw[hx]at h1;cases h1
 subst hl
 have n2:∀ X,¬ (bs++[X]).length=i:=fun X=>by simp;omega
 refine⟨zLQ (by simp;omega),.inr ⟨_,rfl,by simp;omega,?_⟩,h.lt⟩
 rw[zLC (fun e=>n2 _ e.symm),aW]
 rfl
theorem ni {bs:List ax}{i L j:Nat}{l:Bytes}(h:tE bs i L (.o j l.length) l)(hL:L≤bs.length)(c:UInt8)(lN:L≤j):tE (((bs++[ax.own [da c] 5 1 1 true]).set j .gone++[ax.own (l.map da++[da c]) 5 1 (l.length+1) true]).set i (ax.cells [.o (bs++[ax.own [da c] 5 1 1 true]).length (l.length+1)] 174 true)) i L (.o (bs++[ax.own [da c] 5 1 1 true]).length (l.length+1)) (l++[c]):=by
 have eh:i<bs.length:=(zLD.1 h.box).1
 refine⟨zLQ (by simp;omega),.inr ⟨(bs++[ax.own [da c] 5 1 1 true]).length,by simp,by simp;omega,?_⟩,h.lt⟩
 rw[zLC (by simp;omega),zLV (by simp)]
 simp
def NoI (also s:Bytes)(σ:St):Prop:=∃ (i:Nat) (x:SV) (d:Bytes),lk 0 σ.t=some (.str s)∧lk 1 σ.t=some (.str also)∧lk 6 σ.t=some (.p 0 0)∧lk 7 σ.t=some (.int .i64 i)∧i≤s.length∧d.length≤3 * i∧1≤σ.b.length∧tE σ.b 0 1 x d∧comb d (bD also (aA (s.drop i)))=bD also (aA s)
def NoM (s:Bytes)(σ:St):Nat:=match lk 7 σ.t with
 | some (.int _ k)=>s.length - k.toNat
 | _=>0
theorem zZ {s:Bytes}{σ:St}{k:Nat}(h:lk 7 σ.t=some (.int .i64 k)):NoM s σ=s.length - k:=by simp[NoM,h]
theorem uK {also s:Bytes}{t:List (Nat × SV)}{b:List ax}{i i':Nat}{x:SV}{d:Bytes}(h0:lk 0 t=some (.str s))(h1:lk 1 t=some (.str also))(h6:lk 6 t=some (.p 0 0))(h7:lk 7 t=some (.int .i64 i'))(h:i'≤s.length∧d.length≤3 * i')(hb:1≤b.length)(ht:tE b 0 1 x d)
 (hn:comb d (bD also (aA (s.drop i')))=bD also (aA s)) (aB:i<i'):NoI also s ⟨t,b⟩∧NoM s ⟨t,b⟩<s.length - i :=
 ⟨⟨i',x,d,h0,h1,h6,h7,h.1,h.2,hb,ht,hn⟩,by rw[zZ h7];omega⟩
theorem lO {s:Bytes}{i:Nat}(hi:i<s.length):aA (s.drop i)=if s[i]=37 then(match jl s i with
 | some _=>(match cZ (s.drop (i+1)) with
   | some (a,b,_)=>.hex a b::aA (s.drop (i+3))
   | none=>[.bad])
 | none=>[.bad]) else .lit s[i]::aA (s.drop (i+1)):=by
 rw[zLJ hi]
 by_cases h:s[i]=37
 ·rw[if_pos h,h]
  unfold jl
  cases hp:cZ (s.drop (i+1)) with
  | none=>simp only[Option.map_none];exact ry hp
  | some x =>
    obtain⟨a,b,r⟩:=x
    obtain⟨h1,h2,h3⟩:=cU hp
    simp only[Option.map_some]
    rw[h1,fE h2 h3]
    congr 2
    have:=congrArg (List.drop 2) h1
    rw[List.drop_drop]at this
    exact this.symm
 ·rw[if_neg h,dg h]
theorem iS (s also:Bytes)(ha:also.length≤1000):PC Tryz.V 139 [.str s,.str also] (.eS [.str (aX also s).1,.int .i64 (aX also s).2]):=by
 refine aQ 3000 Tryz.func139 rfl Tryz.ntmps139 Tryz.results139 Tryz.call139 (by simp) (by simp[flat,flat.ai]) (by simp[flat,flat.ai]) ?_
 simp only[ad,↓Xn,↓Xo,↓Xg,↓Xd,↓Xe,↓Xf,Tryz.VΓ,Tryz.Γs,Xp,Xi,Nat.reduceAdd,Nat.reduceSub,Nat.reduceLT,Nat.reduceLeDiff,reduceIte,reduceCtorEq,Nat.reduceEqDiff,implies_true,forall_const,aa]
 unfold aX
 refine⟨fun hl=>?_,fun hl=>?_⟩
 ·have hl:16384<s.length:=(by simp at hl;omega)
  rw[if_pos hl]
 have hl:s.length≤16384:=(by simp at hl;omega)
 rw[if_neg (by omega)]
 refine aM (NoI also s) (NoM s) ⟨0,.aE,[],rfl,rfl,rfl,rfl,by omega,by simp,by simp,⟨rfl,.inl ⟨rfl,rfl,rfl⟩,by omega⟩,qW _ (xQ also _)⟩ ?_
 rintro⟨t,b⟩ ⟨i,x,d,h0,h1,h6,h7,hi,hd,mQ,ht,hn⟩
 simp only at h0 h1 h6 h7 mQ ht
 rw[zZ h7]
 have gG:=ht.box
 by_cases aB:i<s.length
 ·have hu:=lO aB
  have hg:s.getD i 0=s[i]:=by simp[List.getD,aB]
  simp only[ad,↓Xn,↓Xo,↓Xg,↓Xd,↓Xe,↓Xf,Tryz.VΓ,Tryz.Γs,Xp,Xi,Nat.reduceAdd,Nat.reduceSub,Nat.reduceLT,Nat.reduceLeDiff,reduceIte,reduceCtorEq,Nat.reduceEqDiff,implies_true,forall_const,aa,h0,h1,h6,h7]
  refine⟨fun _=>⟨⟨by omega,by omega⟩,fun hc=>?_,fun hc=>?_⟩,fun h=>absurd h (by simp;omega)⟩
  ·rw[cH (n:=37) aB 37 rfl]at hc
   rw[if_pos (by simpa using hc)]at hu
   have pe:=xN s i aB (by omega)
   cases he:jl s i with
   | none =>
     rw[he]at pe hu
     simp only at hu
     rw[hu]at hn
     have kO:bD also (aA s)=([],2):=by rw[← hn];rfl
     rw[kO]
     (refine ae pe ?_;simp only[ad,↓Xn,↓Xo,↓Xg,↓Xd,↓Xe,↓Xf,Tryz.VΓ,Tryz.Γs,Xp,Xi,Nat.reduceAdd,Nat.reduceSub,Nat.reduceLT,Nat.reduceLeDiff,reduceIte,reduceCtorEq,Nat.reduceEqDiff,implies_true,forall_const,aa,h0,h1,h6,h7,Option.isSome_none])
   | some v =>
     rw[he]at pe hu
     have hx:=he
     unfold jl at hx
     obtain⟨⟨a,bb,r⟩,hp,hv⟩:=Option.map_eq_some_iff.1 hx
     simp only at hv
     rw[hp]at hu
     simp only at hu
     have hi3:i+3≤s.length:=by
      obtain⟨h1,-,-⟩:=cU hp
      have:=congrArg List.length h1
      simp at this
      omega
     have tx:comb (d++kZ v) (bD also (aA (s.drop (i+2+1))))=bD also (aA s):=by
      rw[← hn,hu,bD,gA,hv]
     simp only[Option.getD_some,Option.isSome_some]at pe
     (refine ae pe ?_;simp only[ad,↓Xn,↓Xo,↓Xg,↓Xd,↓Xe,↓Xf,Tryz.VΓ,Tryz.Γs,Xp,Xi,Nat.reduceAdd,Nat.reduceSub,Nat.reduceLT,Nat.reduceLeDiff,reduceIte,reduceCtorEq,Nat.reduceEqDiff,implies_true,forall_const,aa,h0,h1,h6,h7])
     refine⟨⟨by omega,by omega⟩,?_⟩
     (refine ae (fm v) ?_;simp only[ad,↓Xn,↓Xo,↓Xg,↓Xd,↓Xe,↓Xf,Tryz.VΓ,Tryz.Γs,Xp,Xi,Nat.reduceAdd,Nat.reduceSub,Nat.reduceLT,Nat.reduceLeDiff,reduceIte,reduceCtorEq,Nat.reduceEqDiff,implies_true,forall_const,aa,h0,h1,h6,h7])
     refine⟨fun hq=>?_,fun hq=>?_⟩
     ·have GC:comb (d++[v]) (bD also (aA (s.drop (i+2+1))))=bD also (aA s):=by
       rw[← tx];unfold kZ;rw[if_pos hq]
      (rcases ht.sl with⟨rfl,fR,yk⟩|⟨j,rfl,lN,hj⟩
       ·have ho:∀ X,(b++[X])[0]? = some (.cells [.aE] 174 true):=fun X=>af gG [X]
        have kU:∀ X Y,(b++[X]++[Y])[0]? = some (.cells [.aE] 174 true):=fun X Y=>af (ho X) [Y]
        simp only[ad,↓Xn,↓Xo,↓Xg,↓Xd,↓Xe,↓Xf,Tryz.VΓ,Tryz.Γs,Xp,Xi,Nat.reduceAdd,Nat.reduceSub,Nat.reduceLT,Nat.reduceLeDiff,reduceIte,reduceCtorEq,Nat.reduceEqDiff,implies_true,forall_const,aa,h0,h1,h6,h7,gG,aW,ho,kU]
        refine⟨by omega,⟨by unfold maxLen;omega,by omega⟩,⟨by omega,by omega⟩,uK (i':=i+2+1) (x:=.o (b++[ax.own [da (v)] 5 1 1 true]).length 1) (d:=d++[v]) h0 h1 h6 (by simp only[lk,reduceIte,zMh.injEq,SV.int.injEq,true_and];omega) ⟨by omega,by simp;omega⟩ (by simp) (qa ht mQ (v) rfl) (GC) (by omega)⟩
       ·have hlj:d.length=d.length:=rfl
        have ho:∀ X,(b++[X])[j]? = some (.own (d.map da) 5 1 d.length true):=fun X=>af hj [X]
        have kU:∀ X Y,((b++[X]).set j .gone++[Y])[0]? = some (.cells [.o j d.length] 174 true):=fun X Y=>by
         rw[zLA (by simp),zLC (by omega)];exact af gG [X]
        simp only[ad,↓Xn,↓Xo,↓Xg,↓Xd,↓Xe,↓Xf,Tryz.VΓ,Tryz.Γs,Xp,Xi,Nat.reduceAdd,Nat.reduceSub,Nat.reduceLT,Nat.reduceLeDiff,reduceIte,reduceCtorEq,Nat.reduceEqDiff,implies_true,forall_const,aa,h0,h1,h6,h7,gG,aW,ho,kU]
        refine⟨by omega,⟨by unfold maxLen;omega,by omega⟩,⟨by omega,by omega⟩,uK (i':=i+2+1) (x:=.o (b++[ax.own [da (v)] 5 1 1 true]).length (d.length+1)) (d:=d++[v]) h0 h1 h6 (by simp only[lk,reduceIte,zMh.injEq,SV.int.injEq,true_and];omega) ⟨by omega,by simp;omega⟩ (by simp) (ni ht mQ (v) lN) (GC) (by omega)⟩)
     ·have GC:comb (d++ka v) (bD also (aA (s.drop (i+2+1))))=bD also (aA s):=by
       rw[← tx];unfold kZ;rw[if_neg (by simp[hq])]
      refine aJ (rE ht mQ (by omega) v) ?_
      rintro r b' ⟨rfl,x',ht',hbl',-⟩
      simp only[ad,↓Xn,↓Xo,↓Xg,↓Xd,↓Xe,↓Xf,Tryz.VΓ,Tryz.Γs,Xp,Xi,Nat.reduceAdd,Nat.reduceSub,Nat.reduceLT,Nat.reduceLeDiff,reduceIte,reduceCtorEq,Nat.reduceEqDiff,implies_true,forall_const,aa,h0,h1,h6,h7]
      exact⟨⟨by omega,by omega⟩,uK (i':=i+2+1) (d:=d++ka v) h0 h1 h6 (by simp only[lk,reduceIte,zMh.injEq,SV.int.injEq,true_and];omega) ⟨by omega,by simp[ka];omega⟩ (by omega) ht' GC (by omega)⟩
  ·rw[cH (n:=37) aB 37 rfl]at hc
   rw[if_neg (by simpa using hc)]at hu
   rw[hu,bD]at hn
   rw[hg]
   have tx:dm also s[i]=true→comb (d++[s[i]]) (bD also (aA (s.drop (i+1))))=bD also (aA s):=fun hk=>by
    rw[← hn,if_pos hk,gA]
   (refine ae (fm s[i]) ?_;simp only[ad,↓Xn,↓Xo,↓Xg,↓Xd,↓Xe,↓Xf,Tryz.VΓ,Tryz.Γs,Xp,Xi,Nat.reduceAdd,Nat.reduceSub,Nat.reduceLT,Nat.reduceLeDiff,reduceIte,reduceCtorEq,Nat.reduceEqDiff,implies_true,forall_const,aa,h0,h1,h6,h7,hg])
   refine⟨fun hq=>?_,fun hq=>?_⟩
   ·(refine ae (dI also s[i]) ?_;simp only[ad,↓Xn,↓Xo,↓Xg,↓Xd,↓Xe,↓Xf,Tryz.VΓ,Tryz.Γs,Xp,Xi,Nat.reduceAdd,Nat.reduceSub,Nat.reduceLT,Nat.reduceLeDiff,reduceIte,reduceCtorEq,Nat.reduceEqDiff,implies_true,forall_const,aa,h0,h1,h6,h7,hg])
    rw[qG]
    refine⟨fun pN=>?_,fun pN=>?_⟩
    ·have hk:dm also s[i]=true:=by unfold dm;rw[pN];simp
     (rcases ht.sl with⟨rfl,fR,yk⟩|⟨j,rfl,lN,hj⟩
      ·have ho:∀ X,(b++[X])[0]? = some (.cells [.aE] 174 true):=fun X=>af gG [X]
       have kU:∀ X Y,(b++[X]++[Y])[0]? = some (.cells [.aE] 174 true):=fun X Y=>af (ho X) [Y]
       simp only[ad,↓Xn,↓Xo,↓Xg,↓Xd,↓Xe,↓Xf,Tryz.VΓ,Tryz.Γs,Xp,Xi,Nat.reduceAdd,Nat.reduceSub,Nat.reduceLT,Nat.reduceLeDiff,reduceIte,reduceCtorEq,Nat.reduceEqDiff,implies_true,forall_const,aa,h0,h1,h6,h7,gG,aW,ho,kU]
       refine⟨by omega,⟨by unfold maxLen;omega,by omega⟩,⟨by omega,by omega⟩,uK (i':=i+1) (x:=.o (b++[ax.own [da (s[i])] 5 1 1 true]).length 1) (d:=d++[s[i]]) h0 h1 h6 (by simp only[lk,reduceIte,zMh.injEq,SV.int.injEq,true_and];omega) ⟨by omega,by simp;omega⟩ (by simp) (qa ht mQ (s[i]) rfl) (tx hk) (by omega)⟩
      ·have hlj:d.length=d.length:=rfl
       have ho:∀ X,(b++[X])[j]? = some (.own (d.map da) 5 1 d.length true):=fun X=>af hj [X]
       have kU:∀ X Y,((b++[X]).set j .gone++[Y])[0]? = some (.cells [.o j d.length] 174 true):=fun X Y=>by
        rw[zLA (by simp),zLC (by omega)];exact af gG [X]
       simp only[ad,↓Xn,↓Xo,↓Xg,↓Xd,↓Xe,↓Xf,Tryz.VΓ,Tryz.Γs,Xp,Xi,Nat.reduceAdd,Nat.reduceSub,Nat.reduceLT,Nat.reduceLeDiff,reduceIte,reduceCtorEq,Nat.reduceEqDiff,implies_true,forall_const,aa,h0,h1,h6,h7,gG,aW,ho,kU]
       refine⟨by omega,⟨by unfold maxLen;omega,by omega⟩,⟨by omega,by omega⟩,uK (i':=i+1) (x:=.o (b++[ax.own [da (s[i])] 5 1 1 true]).length (d.length+1)) (d:=d++[s[i]]) h0 h1 h6 (by simp only[lk,reduceIte,zMh.injEq,SV.int.injEq,true_and];omega) ⟨by omega,by simp;omega⟩ (by simp) (ni ht mQ (s[i]) lN) (tx hk) (by omega)⟩)
    ·have hk:¬ dm also s[i]=true:=by unfold dm;rw[hq,pN];simp
     rw[if_neg hk]at hn
     have kO:bD also (aA s)=([],1):=by rw[← hn];rfl
     rw[kO]
   ·have hk:dm also s[i]=true:=by unfold dm;rw[hq];simp
    (rcases ht.sl with⟨rfl,fR,yk⟩|⟨j,rfl,lN,hj⟩
     ·have ho:∀ X,(b++[X])[0]? = some (.cells [.aE] 174 true):=fun X=>af gG [X]
      have kU:∀ X Y,(b++[X]++[Y])[0]? = some (.cells [.aE] 174 true):=fun X Y=>af (ho X) [Y]
      simp only[ad,↓Xn,↓Xo,↓Xg,↓Xd,↓Xe,↓Xf,Tryz.VΓ,Tryz.Γs,Xp,Xi,Nat.reduceAdd,Nat.reduceSub,Nat.reduceLT,Nat.reduceLeDiff,reduceIte,reduceCtorEq,Nat.reduceEqDiff,implies_true,forall_const,aa,h0,h1,h6,h7,gG,aW,ho,kU]
      refine⟨by omega,⟨by unfold maxLen;omega,by omega⟩,⟨by omega,by omega⟩,uK (i':=i+1) (x:=.o (b++[ax.own [da (s[i])] 5 1 1 true]).length 1) (d:=d++[s[i]]) h0 h1 h6 (by simp only[lk,reduceIte,zMh.injEq,SV.int.injEq,true_and];omega) ⟨by omega,by simp;omega⟩ (by simp) (qa ht mQ (s[i]) rfl) (tx hk) (by omega)⟩
     ·have hlj:d.length=d.length:=rfl
      have ho:∀ X,(b++[X])[j]? = some (.own (d.map da) 5 1 d.length true):=fun X=>af hj [X]
      have kU:∀ X Y,((b++[X]).set j .gone++[Y])[0]? = some (.cells [.o j d.length] 174 true):=fun X Y=>by
       rw[zLA (by simp),zLC (by omega)];exact af gG [X]
      simp only[ad,↓Xn,↓Xo,↓Xg,↓Xd,↓Xe,↓Xf,Tryz.VΓ,Tryz.Γs,Xp,Xi,Nat.reduceAdd,Nat.reduceSub,Nat.reduceLT,Nat.reduceLeDiff,reduceIte,reduceCtorEq,Nat.reduceEqDiff,implies_true,forall_const,aa,h0,h1,h6,h7,gG,aW,ho,kU]
      refine⟨by omega,⟨by unfold maxLen;omega,by omega⟩,⟨by omega,by omega⟩,uK (i':=i+1) (x:=.o (b++[ax.own [da (s[i])] 5 1 1 true]).length (d.length+1)) (d:=d++[s[i]]) h0 h1 h6 (by simp only[lk,reduceIte,zMh.injEq,SV.int.injEq,true_and];omega) ⟨by omega,by simp;omega⟩ (by simp) (ni ht mQ (s[i]) lN) (tx hk) (by omega)⟩)
 ·have jv:i=s.length:=by omega
  subst jv
  rw[List.drop_length,dZ]at hn
  have kO:bD also (aA s)=(d,0):=by rw[← hn];simp[bD,comb]
  rw[kO]
  rcases ht.sl with⟨rfl,fR,yk⟩|⟨j,rfl,lN,hj⟩
  ·obtain rfl:d=[]:=by simpa using fR
   simp only[ad,↓Xn,↓Xo,↓Xg,↓Xd,↓Xe,↓Xf,Tryz.VΓ,Tryz.Γs,Xp,Xi,Nat.reduceAdd,Nat.reduceSub,Nat.reduceLT,Nat.reduceLeDiff,reduceIte,reduceCtorEq,Nat.reduceEqDiff,implies_true,forall_const,aa,h0,h1,h6,h7,gG]
   exact fun h=>(by simp at h)
  ·simp only[ad,↓Xn,↓Xo,↓Xg,↓Xd,↓Xe,↓Xf,Tryz.VΓ,Tryz.Γs,Xp,Xi,Nat.reduceAdd,Nat.reduceSub,Nat.reduceLT,Nat.reduceLeDiff,reduceIte,reduceCtorEq,Nat.reduceEqDiff,implies_true,forall_const,aa,h0,h1,h6,h7,gG,hj]
   refine⟨fun h=>absurd h (by simp),fun _=>⟨gS d,?_⟩⟩
   rw[gI]
def ja (i:Nat)(σ:St):Nat:=match lk i σ.t with
 | some (.int _ n)=>n.toNat
 | _=>0
theorem az {i:Nat}{σ:St}{k:IntKind}{n:Int}(h:lk i σ.t=some (.int k n)):ja i σ=n.toNat:=by simp[ja,h]
theorem tH {ρ:Type}(cl:ρ→List SV)(s:Nat)(hs:∀ r,(cl r).length=s):∀ (L:List ρ)(k:Nat)(h:k<L.length),((L.flatMap cl).drop (k * s)).take s=cl L[k]
 | [],k,h=>by simp at h
 | r::L,0,_=>by
   have:=hs r
   simp[List.take_append,zLX (Nat.le_of_eq this),this]
 | r::L,k+1,h=>by
   have h1:=hs r
   have h2:((r::L).flatMap cl).drop ((k+1) * s)=(L.flatMap cl).drop (k * s):=by
    rw[zLw,List.drop_append,zMg (by rw[Nat.add_mul];omega),zLS,show (k+1) * s - (cl r).length=k * s by rw[Nat.add_mul];omega]
   rw[h2]
   simpa using tH cl s hs L k (by simpa using h)
theorem nt {ρ:Type}(cl:ρ→List SV)(s:Nat)(hs:∀ r,(cl r).length=s):∀ (L:List ρ),(L.flatMap cl).length=L.length * s
 | []=>by simp
 | r::L=>by rw[zLw,zLH,hs r,nt cl s hs L,zLF,Nat.add_mul];omega
theorem dw {V:Cx}{f:FuncId}{args:List SV}{bs:List ax}{x:SV}(hx:flat x=true)(h:SC V f args bs (fun r b=>r=x∧Kp bs b)):SC V f args bs (fun r b=>r=x∧b=bs):=by
 refine⟨h.1,fun β fp w fQ hG hE=>(h.2 β fp w fQ hG hE).mono ?_⟩
 rintro e w' ⟨r,bs',β₂,fp₂,⟨rfl,hlen,cw⟩,Ck,-,aR,jB,nV,mH⟩
 have old:∀ {i r},bs[i]? = some r→bs'[i]? = some r:=fun {i r} hi=>(cw i (zLD.1 hi).1).trans hi
 refine⟨r,bs,β₂,fp₂,⟨rfl,rfl⟩,Ck,zLG _,fun β' hβ=>?_,jB,fun i r' hi=>nV i r' (old hi),fun i r' hi=>mH i r' (old hi)⟩
 have hc:∀ i,i<bs.length→(if i<bs.length then β' i else β₂ i)=β' i:=fun i hi=>if_pos hi
 have hall2:=aR (fun i=>if i<bs.length then β' i else β₂ i) (fun i _=>by
  by_cases hi:i<bs.length
  ·exact(hβ i hi).trans (hc i hi).symm
  ·exact(if_neg hi).symm)
 have kR:=fQ (fun i=>if i<bs.length then β' i else β₂ i) (fun i hi=>((Ck i hi).trans (hβ i hi)).trans (hc i hi).symm)
 have lA:=fQ β' (fun i hi=>(Ck i hi).trans (hβ i hi))
 obtain⟨he,hbx2⟩:=hall2
 refine⟨by rw[he,fL _ hx _ β'],⟨fun i r hi=>?_,fun i r hi=>hbx2.lt i r (old hi),fun i j r r' hi hj=>hbx2.sep i j r r' (old hi) (old hj)⟩⟩
 have h1:=kR.holds i r hi
 have h2:=lA.holds i r hi
 have h3:=hbx2.holds i r (old hi)
 have e:=hc i (zLD.1 hi).1
 simp only[e]at h1 h3
 exact yT h1 h2 h3
theorem HT {V:Cx}{f:FuncId}{args:List SV}{bs:List ax}{x:SV}(fh:Vc.Enters V f)(fx:flat x=true)(h:∀ β fp w,vZ β fp w bs→Calls V.P f (aG β args).toArray w fun e w'=>e=.returned (ah β x)∧Below w.heap.size w w'):SC V f args bs (fun r b=>r=x∧b=bs):=by
 refine⟨fh,fun β fp w fQ hG hE=>(h β fp w (fQ β (bw.refl _ _))).mono ?_⟩
 rintro e w' ⟨he,hb⟩
 have eV:=fQ β (bw.refl _ _)
 refine⟨x,bs,β,fp,⟨rfl,rfl⟩,bw.refl _ _,zLG _,fun β' hβ=>⟨by rw[he,fL x fx β β'],⟨fun i r hi=>((fQ β' hβ).holds i r hi).stays (fun k hk=>hb.block k (eV.lt i r hi k hk)),fun i r hi k hk=>Nat.lt_of_lt_of_le (eV.lt i r hi k hk) hb.size,eV.sep⟩⟩,mW.jJ hb,fun i r hi hm k hk=>.inr ⟨i,r,hi,hm,hk⟩,fun i r hi k hk=>.inr ⟨i,r,hi,hk⟩⟩
open Go.RowKit Wf
attribute [local go_sem] fJ eQ get_list
theorem pB {s:Bytes}(h:0<s.length)(ha:isAlpha s[0]=true):cK (s.take 1)=true:=by
 cases s with
 | nil=>simp at h
 | cons c r=>simp at ha;simp[cK,ha]
theorem oR {s:Bytes}(h:0<s.length)(ha:isAlpha s[0]=false):cK s=false:=by
 cases s with
 | nil=>simp at h
 | cons c r=>simp at ha;simp[cK,ha]
theorem kg {s:Bytes}{k:Nat}(h0:0<k)(h:k<s.length)(ht:cK (s.take k)=true)(hc:eZ s[k]=true):cK (s.take (k+1))=true:=by
 cases s with
 | nil=>simp at h
 | cons c r =>
   obtain⟨j,rfl⟩:∃ j,k=j+1:=⟨k - 1,by omega⟩
   rw[List.take_succ_cons]at ht ⊢
   unfold cK at ht ⊢
   simp only[zLO]at ht ⊢
   exact⟨ht.1,aP (by simpa using h) ht.2 (by simpa using hc)⟩
theorem xy {s:Bytes}{k:Nat}(h0:0<k)(h:k<s.length)(hc:eZ s[k]=false):cK s=false:=by
 cases s with
 | nil=>simp at h
 | cons c r =>
   obtain⟨j,rfl⟩:∃ j,k=j+1:=⟨k - 1,by omega⟩
   have:=cW (p:=eZ) (s:=r) (k:=j) (by simpa using h) (by simpa using hc)
   show (isAlpha c&&r.all eZ)=false
   rw[this];simp
theorem Ik (c:UInt8):([43,45,46].contains c=true→0≤Lib.indexByte [43,45,46] c)∧([43,45,46].contains c=false→Lib.indexByte [43,45,46] c=-1):=by
 have h:=dA (p:=fun c=>decide (([43,45,46].contains c=true→0≤Lib.indexByte [43,45,46] c)∧([43,45,46].contains c=false→Lib.indexByte [43,45,46] c=-1))) (by decide +kernel) c
 exact of_decide_eq_true h
theorem Dc (s:Bytes)(w:World)(hs:s.length≤9223372036854775807) :
 Calls Tryz.prog 174 #[(Value.string ⟨zLv (s)⟩)] w fun e w'=>e=.returned (.bool (cK s))∧w=w':=by
 go_enter Tryz.func174,Tryz.ntmps174
 go_wp2_with fail
 go_loop [6] (fun i=>∃ k:Nat,k≤s.length∧i=.int .i64 k∧(k=0∨cK (s.take k)=true)) (fun i=>s.length - (intOf i).toNat)
 case atStart=>exact⟨0,by omega,rfl,.inl rfl⟩
 case round =>
  obtain⟨k,hk,rfl,hr⟩:=hrel
  have Hr:=hid hr
  clear hr
  by_cases aB:k<s.length
  ·cases ha:isAlpha s[k]
   ·by_cases h0:k=0
    ·subst h0
     have Hq:=hid (oR aB ha)
     go_wp2_with (first
      | (go_at_call 197;refine(cR _ _).mono ?_;rintro e w' ⟨rfl,rfl⟩)
      | (go_at_call 182;refine(bG _ _).mono ?_;rintro e w' ⟨rfl,rfl⟩)
      | (go_at_call 144;refine(gr [43,45,46] _ _).mono ?_;rintro e w' ⟨rfl,rfl⟩))
     go_ret
     exact⟨bc Hq.out.symm,rfl⟩
    ·have wk:((k:Int)==0)=false:=by simp[h0]
     have Hr2:=hid (Hr.out.resolve_left h0)
     obtain⟨p1,p2⟩:=Ik s[k]
     cases hd:isDigit s[k]
     ·cases hp:[43,45,46].contains s[k]
      ·have p3:=p2 hp
       have Hq:=hid (xy (by omega) aB (by unfold eZ;rw[ha,hd,hp];rfl))
       clear p1 p2 hp
       go_wp2_with (first
        | (go_at_call 197;refine(cR _ _).mono ?_;rintro e w' ⟨rfl,rfl⟩)
        | (go_at_call 182;refine(bG _ _).mono ?_;rintro e w' ⟨rfl,rfl⟩)
        | (go_at_call 144;refine(gr [43,45,46] _ _).mono ?_;rintro e w' ⟨rfl,rfl⟩))
       go_ret
       exact⟨bc Hq.out.symm,rfl⟩
      ·have p3:=p1 hp
       have Hn:=hid (kg (by omega) aB Hr2.out (by unfold eZ;rw[hp];simp))
       clear p1 p2 hp
       go_wp2_with (first
        | (go_at_call 197;refine(cR _ _).mono ?_;rintro e w' ⟨rfl,rfl⟩)
        | (go_at_call 182;refine(bG _ _).mono ?_;rintro e w' ⟨rfl,rfl⟩)
        | (go_at_call 144;refine(gr [43,45,46] _ _).mono ?_;rintro e w' ⟨rfl,rfl⟩))
       go_round
       case rel=>exact⟨k+1,by omega,by go_num,.inr Hn.out⟩
       case measure=>simp[intOf];omega
     ·have Hn:=hid (kg (by omega) aB Hr2.out (by unfold eZ;rw[hd];simp))
      clear p1 p2
      go_wp2_with (first
       | (go_at_call 197;refine(cR _ _).mono ?_;rintro e w' ⟨rfl,rfl⟩)
       | (go_at_call 182;refine(bG _ _).mono ?_;rintro e w' ⟨rfl,rfl⟩)
       | (go_at_call 144;refine(gr [43,45,46] _ _).mono ?_;rintro e w' ⟨rfl,rfl⟩))
      go_round
      case rel=>exact⟨k+1,by omega,by go_num,.inr Hn.out⟩
      case measure=>simp[intOf];omega
   ·have Hn:Hid (cK (s.take (k+1))=true):=hid (by
     rcases Hr.out with rfl|hr
     ·exact pB aB ha
     ·by_cases h0:k=0
      ·subst h0;exact pB aB ha
      ·exact kg (by omega) aB hr (by unfold eZ;rw[ha];rfl))
    go_wp2_with (first
     | (go_at_call 197;refine(cR _ _).mono ?_;rintro e w' ⟨rfl,rfl⟩)
     | (go_at_call 182;refine(bG _ _).mono ?_;rintro e w' ⟨rfl,rfl⟩)
     | (go_at_call 144;refine(gr [43,45,46] _ _).mono ?_;rintro e w' ⟨rfl,rfl⟩))
    go_round
    case rel=>exact⟨k+1,by omega,by go_num,.inr Hn.out⟩
    case measure=>simp[intOf];omega
  ·cases hem:s.isEmpty
   ·have Hq:Hid (cK s=true):=hid (by
     rcases Hr.out with rfl|hr
     ·cases s <;> simp at hem aB
     ·rw[zLX (by omega)]at hr;exact hr)
    go_wp2_with fail
    go_ret
    exact⟨bc Hq.out.symm,rfl⟩
   ·have Hq:Hid (cK s=false):=hid (by cases s <;> simp at hem <;> rfl)
    go_wp2_with fail
    go_ret
    exact⟨bc Hq.out.symm,rfl⟩
open Go Vc Go.RowKit Wf
def usv (u:Uri):SV:=.agg [.str u.scheme,.str u.authority,.str u.path,.str u.query,.str u.fragment,.bool u.iA,.bool u.dM,.bool u.bm,.bool u.bF]
theorem gK (s:Bytes):cX s=s.take (dE s - 1):=by
 unfold cX dE
 have h:=List.suffix_iff_eq_drop.1 (List.dropWhile_suffix (l:=s.reverse) (· != 47))
 have hle:=(List.dropWhile_suffix (l:=s.reverse) (· != 47)).length_le
 generalize (s.reverse.dropWhile (· != 47))=d at h hle
 rw[List.length_reverse]at hle
 rw[h,List.drop_drop,List.reverse_drop,List.reverse_reverse,List.length_reverse]
 congr 1
 simp
 omega
theorem nO (s:Bytes):qF s 47=(dE s:Int) - 1:=IG s 47
theorem qE (s:Bytes):dE s≤s.length:=by
 have:=(List.dropWhile_suffix (l:=s.reverse) (· != 47)).length_le
 rw[List.length_reverse]at this
 exact this
theorem wR (s:Bytes):s.take (max 0 (qF s 47)).toNat=cX s:=by
 rw[gK,nO]
 congr 1
 omega
theorem IF (s:Bytes):qF s 47≤s.length:=by
 have:=qE s
 rw[nO]
 omega
theorem ze (s:Bytes)(hs:s.length≤9223372036854775807):PC Tryz.V 174 [.str s] (.bool (cK s)) :=
 ⟨Tryz.call174,by simp[flat,flat.ai],by simp[flat,flat.ai],fun w _=>(Dc s w hs).mono fun _ _ ⟨h,k⟩=>⟨h,cV k⟩⟩
theorem cq {s:Bytes}(h:Lib.hasPrefix s [47,47]=false):aD s=([],false,s):=by
 unfold aD
 split
 ·simp[Lib.hasPrefix]at h
 ·rfl
theorem jx {s:Bytes}(h:Lib.hasPrefix s [47,47]=true):aD s=((Lib.trimPrefix s [47,47]).take (pre (·==47) (Lib.trimPrefix s [47,47])),true,(Lib.trimPrefix s [47,47]).drop (pre (·==47) (Lib.trimPrefix s [47,47]))):=by
 obtain⟨r,rfl⟩:=zLK.1 h
 have ht:Lib.trimPrefix ([47,47]++r) [47,47]=r:=by simp[Lib.trimPrefix,Lib.hasPrefix]
 rw[ht]
 rfl
theorem Bb (s:Bytes):PC Tryz.V 149 [.str s] (.eS [usv (bf s).1,.int .i64 (bf s).2]):=by
 refine aQ 3000 Tryz.func149 rfl Tryz.ntmps149 Tryz.results149 Tryz.call149 (by simp) (by simp[flat,flat.ai]) (by simp[flat,flat.ai,usv]) ?_
 simp only[ad,↓Xn,↓Xo,↓Xg,↓Xd,↓Xe,↓Xf,Tryz.VΓ,Tryz.Γs,Xp,Xi,Nat.reduceAdd,Nat.reduceSub,Nat.reduceLT,Nat.reduceLeDiff,reduceIte,reduceCtorEq,Nat.reduceEqDiff,implies_true,forall_const,aa]
 refine⟨fun h=>?_,fun h=>?_⟩
 ·have:bf s=(Uri.none,5):=if_pos (by simp at h;omega)
  rw[this];rfl
 ·have hl:s.length<4294967281:=by simp at h;omega
  have hq:bf s=aK (aL 63 (aL 35 s).1).1 (aL 35 s).2.1 (aL 63 (aL 35 s).1).2.1 (aL 35 s).2.2 (aL 63 (aL 35 s).1).2.2:=if_neg (by simp at h;omega)
  rw[hq]
  have l1:=eg 35 s
  have l2:=eg 63 (aL 35 s).1
  (refine ae (uD s 35 hl) ?_;simp only[ad,↓Xn,↓Xo,↓Xg,↓Xd,↓Xe,↓Xf,Tryz.VΓ,Tryz.Γs,Xp,Xi,Nat.reduceAdd,Nat.reduceSub,Nat.reduceLT,Nat.reduceLeDiff,reduceIte,reduceCtorEq,Nat.reduceEqDiff,implies_true,forall_const,aa])
  (refine ae (uD _ 63 (by omega)) ?_;simp only[ad,↓Xn,↓Xo,↓Xg,↓Xd,↓Xe,↓Xf,Tryz.VΓ,Tryz.Γs,Xp,Xi,Nat.reduceAdd,Nat.reduceSub,Nat.reduceLT,Nat.reduceLeDiff,reduceIte,reduceCtorEq,Nat.reduceEqDiff,implies_true,forall_const,aa])
  generalize aL 63 (aL 35 s).1=C2 at l2 ⊢
  generalize aL 35 s=C1 at l1 l2 ⊢
  obtain⟨s1,fr,hf⟩:=C1
  obtain⟨s2,qu,hqu⟩:=C2
  simp only at l1 l2 ⊢
  have hix:Lib.indexAny s2 [58,47]=if pre ak s2<s2.length then(pre ak s2:Int) else -1:=mf s2 [58,47]
  have p3:=uB s2 [58,47] (by decide) (by decide) (by decide) (by omega)
  -- the end: the authority and the path
  by_cases hp:pre ak s2<s2.length
  ·rw[if_pos hp]at hix
   rw[hix]at p3
   (refine ae (p3) ?_;simp only[ad,↓Xn,↓Xo,↓Xg,↓Xd,↓Xe,↓Xf,Tryz.VΓ,Tryz.Γs,Xp,Xi,Nat.reduceAdd,Nat.reduceSub,Nat.reduceLT,Nat.reduceLeDiff,reduceIte,reduceCtorEq,Nat.reduceEqDiff,implies_true,forall_const,aa])
   refine⟨fun _=>⟨⟨by omega,by omega⟩,fun h1=>⟨⟨by omega,by omega⟩,?_⟩,fun h1=>?_⟩,fun h1=>?_⟩
   ·have hh:(s2.drop (pre ak s2)).head? = some 58:=by
     rw[List.head?_drop,zMm hp]
     rw[cH (n:=58) hp 58 rfl]at h1
     rw[beq_iff_eq.1 h1]
    (refine ae (ze _ (by simp;omega)) ?_;simp only[ad,↓Xn,↓Xo,↓Xg,↓Xd,↓Xe,↓Xf,Tryz.VΓ,Tryz.Γs,Xp,Xi,Nat.reduceAdd,Nat.reduceSub,Nat.reduceLT,Nat.reduceLeDiff,reduceIte,reduceCtorEq,Nat.reduceEqDiff,implies_true,forall_const,aa])
    refine⟨fun h2=>?_,fun h2=>⟨⟨by omega,by omega⟩,⟨by omega,by omega⟩,⟨by omega,by omega⟩,(aq (by kernel_rfl)),?_⟩⟩
    ·have:aK s2 fr qu hf hqu=(Uri.none,6):=by
      unfold aK
      rw[if_pos hh,if_neg (by simpa using h2)]
     rw[this];rfl
    ·have hs:aK s2 fr qu hf hqu=(⟨s2.take (pre ak s2),(aD (s2.drop (pre ak s2+1))).1,(aD (s2.drop (pre ak s2+1))).2.2,qu,fr,true,(aD (s2.drop (pre ak s2+1))).2.1,hqu,hf⟩,0):=by
      unfold aK
      rw[if_pos hh,if_pos (by simpa using h2)]
     have Hj:(s2.drop (pre ak s2+1)).length≤s2.length:=by simp
     (
      (refine ae (kz (s2.drop (pre ak s2+1)) [47,47]) ?_;simp only[ad,↓Xn,↓Xo,↓Xg,↓Xd,↓Xe,↓Xf,Tryz.VΓ,Tryz.Γs,Xp,Xi,Nat.reduceAdd,Nat.reduceSub,Nat.reduceLT,Nat.reduceLeDiff,reduceIte,reduceCtorEq,Nat.reduceEqDiff,implies_true,forall_const,aa])
      cases gT:Lib.hasPrefix (s2.drop (pre ak s2+1)) [47,47]
      ·refine⟨fun h=>(by cases h),fun _=>?_⟩
       have ht:Lib.trimPrefix (s2.drop (pre ak s2+1)) [47,47]=s2.drop (pre ak s2+1):=by unfold Lib.trimPrefix;rw[gT];rfl
       rw[hs,cq gT];rfl
      ·refine⟨fun _=>?_,fun h=>(by cases h)⟩
       have hl3:=tU (s2.drop (pre ak s2+1)) [47,47]
       have Fp:=jx gT
       rw[hs,Fp]
       generalize Lib.trimPrefix (s2.drop (pre ak s2+1)) [47,47]=rest at hl3 Fp ⊢
       have oE:=cY rest 47
       have p4:=dI rest 47
       rw[oE]at p4
       have gd:=cx (·==47) rest
       by_cases hr:pre (·==47) rest<rest.length
       ·rw[if_pos hr]at p4
        (refine ae (p4) ?_;simp only[ad,↓Xn,↓Xo,↓Xg,↓Xd,↓Xe,↓Xf,Tryz.VΓ,Tryz.Γs,Xp,Xi,Nat.reduceAdd,Nat.reduceSub,Nat.reduceLT,Nat.reduceLeDiff,reduceIte,reduceCtorEq,Nat.reduceEqDiff,implies_true,forall_const,aa])
        refine⟨fun h=>?_,fun _=>⟨⟨by omega,by omega⟩,⟨by omega,by omega⟩,(aq (by kernel_rfl)),rfl⟩⟩
        simp at h;omega
       ·rw[if_neg hr]at p4
        (refine ae (p4) ?_;simp only[ad,↓Xn,↓Xo,↓Xg,↓Xd,↓Xe,↓Xf,Tryz.VΓ,Tryz.Γs,Xp,Xi,Nat.reduceAdd,Nat.reduceSub,Nat.reduceLT,Nat.reduceLeDiff,reduceIte,reduceCtorEq,Nat.reduceEqDiff,implies_true,forall_const,aa])
        refine⟨fun _=>⟨⟨by omega,by omega⟩,⟨by omega,by omega⟩,(aq (by kernel_rfl)),?_⟩,fun h=>?_⟩
        ·have:pre (·==47) rest=rest.length:=by omega
         rw[this];simp[usv]
        ·simp at h)
   ·have hs:aK s2 fr qu hf hqu=(⟨[],(aD s2).1,(aD s2).2.2,qu,fr,false,(aD s2).2.1,hqu,hf⟩,0):=by
     unfold aK
     rw[if_neg]
     rw[cH (n:=58) hp 58 rfl]at h1
     rw[List.head?_drop,zMm hp]
     simpa using h1
    (
     (refine ae (kz (s2) [47,47]) ?_;simp only[ad,↓Xn,↓Xo,↓Xg,↓Xd,↓Xe,↓Xf,Tryz.VΓ,Tryz.Γs,Xp,Xi,Nat.reduceAdd,Nat.reduceSub,Nat.reduceLT,Nat.reduceLeDiff,reduceIte,reduceCtorEq,Nat.reduceEqDiff,implies_true,forall_const,aa])
     cases gT:Lib.hasPrefix (s2) [47,47]
     ·refine⟨fun h=>(by cases h),fun _=>?_⟩
      have ht:Lib.trimPrefix (s2) [47,47]=s2:=by unfold Lib.trimPrefix;rw[gT];rfl
      rw[hs,cq gT];rfl
     ·refine⟨fun _=>?_,fun h=>(by cases h)⟩
      have hl3:=tU (s2) [47,47]
      have Fp:=jx gT
      rw[hs,Fp]
      generalize Lib.trimPrefix (s2) [47,47]=rest at hl3 Fp ⊢
      have oE:=cY rest 47
      have p4:=dI rest 47
      rw[oE]at p4
      have gd:=cx (·==47) rest
      by_cases hr:pre (·==47) rest<rest.length
      ·rw[if_pos hr]at p4
       (refine ae (p4) ?_;simp only[ad,↓Xn,↓Xo,↓Xg,↓Xd,↓Xe,↓Xf,Tryz.VΓ,Tryz.Γs,Xp,Xi,Nat.reduceAdd,Nat.reduceSub,Nat.reduceLT,Nat.reduceLeDiff,reduceIte,reduceCtorEq,Nat.reduceEqDiff,implies_true,forall_const,aa])
       refine⟨fun h=>?_,fun _=>⟨⟨by omega,by omega⟩,⟨by omega,by omega⟩,(aq (by kernel_rfl)),rfl⟩⟩
       simp at h;omega
      ·rw[if_neg hr]at p4
       (refine ae (p4) ?_;simp only[ad,↓Xn,↓Xo,↓Xg,↓Xd,↓Xe,↓Xf,Tryz.VΓ,Tryz.Γs,Xp,Xi,Nat.reduceAdd,Nat.reduceSub,Nat.reduceLT,Nat.reduceLeDiff,reduceIte,reduceCtorEq,Nat.reduceEqDiff,implies_true,forall_const,aa])
       refine⟨fun _=>⟨⟨by omega,by omega⟩,⟨by omega,by omega⟩,(aq (by kernel_rfl)),?_⟩,fun h=>?_⟩
       ·have:pre (·==47) rest=rest.length:=by omega
        rw[this];simp[usv]
       ·simp at h)
   ·simp at h1
  ·rw[if_neg hp]at hix
   rw[hix]at p3
   (refine ae (p3) ?_;simp only[ad,↓Xn,↓Xo,↓Xg,↓Xd,↓Xe,↓Xf,Tryz.VΓ,Tryz.Γs,Xp,Xi,Nat.reduceAdd,Nat.reduceSub,Nat.reduceLT,Nat.reduceLeDiff,reduceIte,reduceCtorEq,Nat.reduceEqDiff,implies_true,forall_const,aa])
   refine⟨fun h1=>?_,fun h1=>?_⟩
   ·simp at h1
   ·have hs:aK s2 fr qu hf hqu=(⟨[],(aD s2).1,(aD s2).2.2,qu,fr,false,(aD s2).2.1,hqu,hf⟩,0):=by
     unfold aK
     rw[if_neg]
     rw[zMg (by omega)];simp
    (
     (refine ae (kz (s2) [47,47]) ?_;simp only[ad,↓Xn,↓Xo,↓Xg,↓Xd,↓Xe,↓Xf,Tryz.VΓ,Tryz.Γs,Xp,Xi,Nat.reduceAdd,Nat.reduceSub,Nat.reduceLT,Nat.reduceLeDiff,reduceIte,reduceCtorEq,Nat.reduceEqDiff,implies_true,forall_const,aa])
     cases gT:Lib.hasPrefix (s2) [47,47]
     ·refine⟨fun h=>(by cases h),fun _=>?_⟩
      have ht:Lib.trimPrefix (s2) [47,47]=s2:=by unfold Lib.trimPrefix;rw[gT];rfl
      rw[hs,cq gT];rfl
     ·refine⟨fun _=>?_,fun h=>(by cases h)⟩
      have hl3:=tU (s2) [47,47]
      have Fp:=jx gT
      rw[hs,Fp]
      generalize Lib.trimPrefix (s2) [47,47]=rest at hl3 Fp ⊢
      have oE:=cY rest 47
      have p4:=dI rest 47
      rw[oE]at p4
      have gd:=cx (·==47) rest
      by_cases hr:pre (·==47) rest<rest.length
      ·rw[if_pos hr]at p4
       (refine ae (p4) ?_;simp only[ad,↓Xn,↓Xo,↓Xg,↓Xd,↓Xe,↓Xf,Tryz.VΓ,Tryz.Γs,Xp,Xi,Nat.reduceAdd,Nat.reduceSub,Nat.reduceLT,Nat.reduceLeDiff,reduceIte,reduceCtorEq,Nat.reduceEqDiff,implies_true,forall_const,aa])
       refine⟨fun h=>?_,fun _=>⟨⟨by omega,by omega⟩,⟨by omega,by omega⟩,(aq (by kernel_rfl)),rfl⟩⟩
       simp at h;omega
      ·rw[if_neg hr]at p4
       (refine ae (p4) ?_;simp only[ad,↓Xn,↓Xo,↓Xg,↓Xd,↓Xe,↓Xf,Tryz.VΓ,Tryz.Γs,Xp,Xi,Nat.reduceAdd,Nat.reduceSub,Nat.reduceLT,Nat.reduceLeDiff,reduceIte,reduceCtorEq,Nat.reduceEqDiff,implies_true,forall_const,aa])
       refine⟨fun _=>⟨⟨by omega,by omega⟩,⟨by omega,by omega⟩,(aq (by kernel_rfl)),?_⟩,fun h=>?_⟩
       ·have:pre (·==47) rest=rest.length:=by omega
        rw[this];simp[usv]
       ·simp at h)
def RdI (s:Bytes)(σ:St):Prop:=∃ (p o:Bytes) (j f:Nat),lk 0 σ.t=some (.str p)∧lk 3 σ.t=some (.o j o.length)∧σ.b[j]? = some (.own (o.map da) 5 1 o.length true)∧p.length+o.length≤s.length∧p.length≤f∧eb f p o=aO s
def RdM (σ:St):Nat:=match lk 0 σ.t with
 | some (.str p)=>p.length
 | _=>0
theorem Ke {σ:St}{p:Bytes}(h:lk 0 σ.t=some (.str p)):RdM σ=p.length:=by simp[RdM,h]
theorem iK {s p' o':Bytes}{j f n:Nat}{t:List (Nat × SV)}{b:List ax}(h0:lk 0 t=some (.str p'))(h3:lk 3 t=some (.o j o'.length))(hj:b[j]? = some (.own (o'.map da) 5 1 o'.length true))(hlen:p'.length+o'.length≤s.length)(hf:p'.length≤f)(kC:eb f p' o'=aO s)(aB:p'.length<n) :
 RdI s ⟨t,b⟩∧RdM ⟨t,b⟩<n:=⟨⟨p',o',j,f,h0,h3,hj,hlen,hf,kC⟩,by rw[Ke h0];exact aB⟩
theorem Ic (o:Bytes):∃ X:Int,(if 0<qF o 47 then qF o 47 else 0)=X∧0≤X∧X≤o.length∧o.take X.toNat=cX o:=by
 refine⟨_,rfl,by split <;> omega,?_,?_⟩
 ·have:=IF o;split <;> omega
 ·rw[← wR o]
  congr 2
  split <;> omega
theorem uq {o:Bytes}{X:Int}(h:X≤o.length):(o.take X.toNat).length=X.toNat:=by rw[zL3];omega
theorem rd_at {b:List ax}{j:Nat}{o:Bytes}{X:Int}(h:X≤o.length):(b.set j .gone++[.own ((o.map da).take (X.toNat * 1)) 5 1 X.toNat true])[b.length]? = some (.own ((o.take X.toNat).map da) 5 1 (o.take X.toNat).length true):=by
 rw[zLV (by simp),uq h]
 simp[List.map_take]
theorem Ie (b:List ax)(j:Nat)(o y:Bytes):(b.set j .gone++[.own (o.map da++y.map da) 5 1 (o.length+y.length) true])[b.length]? = some (.own ((o++y).map da) 5 1 (o++y).length true):=by
 rw[zLV (by simp)]
 simp
theorem rL (s:Bytes)(hs:s.length≤4294967281):PC Tryz.V 152 [.str s] (.str (aO s)):=by
 refine aQ 3000 Tryz.func152 rfl Tryz.ntmps152 Tryz.results152 Tryz.call152 (by simp) (by simp[flat,flat.ai]) (by simp[flat,flat.ai]) ?_
 simp only[ad,↓Xn,↓Xo,↓Xg,↓Xd,↓Xe,↓Xf,Tryz.VΓ,Tryz.Γs,Xp,Xi,Nat.reduceAdd,Nat.reduceSub,Nat.reduceLT,Nat.reduceLeDiff,reduceIte,reduceCtorEq,Nat.reduceEqDiff,implies_true,forall_const,aa]
 refine⟨by omega,aM (RdI s) RdM ⟨s,[],0,s.length,rfl,rfl,rfl,by simp,zLG _,rfl⟩ ?_⟩
 rintro⟨t,b⟩ ⟨p,o,j,f,h0,h3,hj,hlen,hf,kC⟩
 simp only at h0 h3 hj
 rw[Ke h0]
 simp only[ad,↓Xn,↓Xo,↓Xg,↓Xd,↓Xe,↓Xf,Tryz.VΓ,Tryz.Γs,Xp,Xi,Nat.reduceAdd,Nat.reduceSub,Nat.reduceLT,Nat.reduceLeDiff,reduceIte,reduceCtorEq,Nat.reduceEqDiff,implies_true,forall_const,aa,h0,h3,hj]
 have Cf:p=[]→o=aO s:=fun hp=>by subst hp;cases f <;> simpa[eb] using kC
 refine⟨fun hp=>?_,fun hp=>⟨gS o,?_⟩⟩
 rotate_left
 ·rw[gI,Cf (by simpa using hp)]
 replace hp:p≠[]:=by simpa using hp
 have gd:0<p.length:=zMv.2 hp
 obtain⟨f,rfl⟩:∃ f',f=f'+1:=⟨f - 1,by omega⟩
 rw[eb,if_neg hp]at kC
 (refine ae (ky p [46,46,47]) ?_
  simp only[ad,↓Xn,↓Xo,↓Xg,↓Xd,↓Xe,↓Xf,Tryz.VΓ,Tryz.Γs,Xp,Xi,Nat.reduceAdd,Nat.reduceSub,Nat.reduceLT,Nat.reduceLeDiff,reduceIte,reduceCtorEq,Nat.reduceEqDiff,implies_true,forall_const,aa,h0,h3,hj])
 refine⟨fun c1=>?_,fun c1=>?_⟩
 ·have h:=eE c1
  rw[show cG p o=(p.drop 3,o) from if_pos c1]at kC
  exact⟨⟨by omega,by simp at h;omega⟩,iK rfl h3 hj (by simp;omega) (by simp at h ⊢;omega) kC (by simp at h ⊢;omega)⟩
 (refine ae (ky p [46,47]) ?_
  simp only[ad,↓Xn,↓Xo,↓Xg,↓Xd,↓Xe,↓Xf,Tryz.VΓ,Tryz.Γs,Xp,Xi,Nat.reduceAdd,Nat.reduceSub,Nat.reduceLT,Nat.reduceLeDiff,reduceIte,reduceCtorEq,Nat.reduceEqDiff,implies_true,forall_const,aa,h0,h3,hj])
 refine⟨fun c2=>?_,fun c2=>?_⟩
 ·have h:=eE c2
  rw[show cG p o=(p.drop 2,o) by unfold cG;rw[if_neg (kA c1)];exact if_pos c2]at kC
  exact⟨⟨by omega,by simp at h;omega⟩,iK rfl h3 hj (by simp;omega) (by simp at h ⊢;omega) kC (by simp at h ⊢;omega)⟩
 (refine ae (ky p [47,46,47]) ?_
  simp only[ad,↓Xn,↓Xo,↓Xg,↓Xd,↓Xe,↓Xf,Tryz.VΓ,Tryz.Γs,Xp,Xi,Nat.reduceAdd,Nat.reduceSub,Nat.reduceLT,Nat.reduceLeDiff,reduceIte,reduceCtorEq,Nat.reduceEqDiff,implies_true,forall_const,aa,h0,h3,hj])
 refine⟨fun c3=>?_,fun c3=>?_⟩
 ·have h:=eE c3
  rw[show cG p o=(p.drop 2,o) by unfold cG;rw[if_neg (kA c1),if_neg (kA c2)];exact if_pos c3]at kC
  exact⟨⟨by omega,by simp at h;omega⟩,iK rfl h3 hj (by simp;omega) (by simp at h ⊢;omega) kC (by simp at h ⊢;omega)⟩
 refine⟨fun c4=>?_,fun c4=>?_⟩
 ·have h:p=[47,46]:=by simpa using c4
  subst h
  exact iK (p':=[47]) rfl h3 hj (by simp at hlen ⊢;omega) (by simp at hf ⊢;omega) kC (by simp)
 have n4:¬ p=[47,46]:=by simpa using c4
 have GH:cG p o=if [47,46,46,47].isPrefixOf p then(p.drop 3,cX o)
  else if p=[47,46,46] then([47],cX o)
  else if p=[46]∨p=[46,46] then([],o)
  else(p.drop (1+pre (·==47) (p.drop 1)),o++p.take (1+pre (·==47) (p.drop 1))):=by
  unfold cG;rw[if_neg (kA c1),if_neg (kA c2),if_neg (kA c3),if_neg n4]
 rw[GH]at kC
 (refine ae (ky p [47,46,46,47]) ?_
  simp only[ad,↓Xn,↓Xo,↓Xg,↓Xd,↓Xe,↓Xf,Tryz.VΓ,Tryz.Γs,Xp,Xi,Nat.reduceAdd,Nat.reduceSub,Nat.reduceLT,Nat.reduceLeDiff,reduceIte,reduceCtorEq,Nat.reduceEqDiff,implies_true,forall_const,aa,h0,h3,hj])
 refine⟨fun c5=>⟨fun c6=>?_,fun c6=>⟨fun c7=>⟨fun c8=>?_,fun c8=>?_⟩,fun c7=>?_⟩⟩,fun c5=>?_⟩
 ·have h:p=[47,46,46]:=by simpa using c6
  subst h
  refine⟨by simp,?_⟩
  (refine ae (qt _ [47]) ?_
   simp only[ad,↓Xn,↓Xo,↓Xg,↓Xd,↓Xe,↓Xf,Tryz.VΓ,Tryz.Γs,Xp,Xi,Nat.reduceAdd,Nat.reduceSub,Nat.reduceLT,Nat.reduceLeDiff,reduceIte,reduceCtorEq,Nat.reduceEqDiff,implies_true,forall_const,aa,h0,h3,hj])
  refine⟨by decide,gS o,?_⟩
  rw[gI]
  (refine ae (mE o 47 (by omega)) ?_
   simp only[ad,↓Xn,↓Xo,↓Xg,↓Xd,↓Xe,↓Xf,Tryz.VΓ,Tryz.Γs,Xp,Xi,Nat.reduceAdd,Nat.reduceSub,Nat.reduceLT,Nat.reduceLeDiff,reduceIte,reduceCtorEq,Nat.reduceEqDiff,implies_true,forall_const,aa,h0,h3,hj])
  obtain⟨X,hX,x0,x1,hx⟩:=Ic o
  rw[hX]
  refine⟨⟨x0,x1⟩,iK (p':=[47]) (o':=o.take X.toNat) (f:=f) rfl ?_ (rd_at x1) ?_ ?_ ?_ (by simp)⟩
  ·rw[uq x1];rfl
  ·rw[uq x1];simp at hlen ⊢;omega
  ·simp at hf ⊢;omega
  ·rw[hx];exact kC
 ·have h:p=[46,46]:=by simpa using c8
  subst h
  exact iK (p':=[]) rfl h3 hj (by simp at hlen ⊢;omega) (by simp at hf ⊢) kC (by simp)
 ·have n5:=kA c5
  have n6:¬ p=[47,46,46]:=by simpa using c6
  have n7:¬ (p=[46]∨p=[46,46]):=by rintro(h|h) <;> subst h <;> simp at c7 c8
  rw[if_neg n5,if_neg n6,if_neg n7]at kC
  simp only at kC
  have p4:=dI (p.drop 1) 47
  rw[cY]at p4
  have Hf:=cx (·==47) (p.drop 1)
  generalize pre (·==47) (p.drop 1)=q at kC p4 Hf
  simp only[List.length_drop]at p4 Hf
  refine⟨by omega,?_⟩
  by_cases hq:q<p.length - 1
  ·rw[if_pos hq]at p4
   (refine ae (p4) ?_
    simp only[ad,↓Xn,↓Xo,↓Xg,↓Xd,↓Xe,↓Xf,Tryz.VΓ,Tryz.Γs,Xp,Xi,Nat.reduceAdd,Nat.reduceSub,Nat.reduceLT,Nat.reduceLeDiff,reduceIte,reduceCtorEq,Nat.reduceEqDiff,implies_true,forall_const,aa,h0,h3,hj])
   have e:(1+(q:Int)).toNat=1+q:=by omega
   have el:(p.take (1+q)).length=1+q:=by rw[zL3];omega
   rw[e]
   refine⟨by omega,fun h=>(by simp at h;omega),fun _=>⟨by omega,⟨uI _,by rw[el];unfold maxLen;omega,by rw[el];omega⟩,by omega,iK (p':=p.drop (1+q)) (o':=o++p.take (1+q)) (f:=f) rfl ?_ (Ie ..) ?_ ?_ kC ?_⟩⟩
   ·rw[zLH];rfl
   ·simp;omega
   ·simp;omega
   ·simp;omega
  ·rw[if_neg hq]at p4
   have pN:1+q=p.length:=by omega
   rw[pN,List.drop_length,List.take_length]at kC
   (refine ae (p4) ?_
    simp only[ad,↓Xn,↓Xo,↓Xg,↓Xd,↓Xe,↓Xf,Tryz.VΓ,Tryz.Γs,Xp,Xi,Nat.reduceAdd,Nat.reduceSub,Nat.reduceLT,Nat.reduceLeDiff,reduceIte,reduceCtorEq,Nat.reduceEqDiff,implies_true,forall_const,aa,h0,h3,hj])
   refine⟨by omega,fun _=>⟨by omega,⟨uI _,by unfold maxLen;omega,by omega⟩,by omega,iK (p':=[]) (o':=o++p) (f:=f) ?_ ?_ (Ie ..) ?_ ?_ kC ?_⟩,fun h=>(by simp at h)⟩
   ·simp[lk]
   ·rw[zLH];rfl
   ·simp;omega
   ·simp
   ·exact gd
 ·have h:p=[46]:=by simpa using c7
  subst h
  exact iK (p':=[]) rfl h3 hj (by simp at hlen ⊢;omega) (by simp at hf ⊢) kC (by simp)
 ·rw[if_pos (show zL8 [47,46,46,47] p=true from c5)]at kC
  obtain⟨r,rfl⟩:=zLK.1 c5
  refine⟨by simp;omega,?_⟩
  (refine ae (qt _ [47]) ?_
   simp only[ad,↓Xn,↓Xo,↓Xg,↓Xd,↓Xe,↓Xf,Tryz.VΓ,Tryz.Γs,Xp,Xi,Nat.reduceAdd,Nat.reduceSub,Nat.reduceLT,Nat.reduceLeDiff,reduceIte,reduceCtorEq,Nat.reduceEqDiff,implies_true,forall_const,aa,h0,h3,hj])
  have ht:Lib.trimPrefix (47::r) [47]=r:=by simp[Lib.trimPrefix,Lib.hasPrefix]
  have hd:(47::46::46::47::r:Bytes).drop (Int.toNat 3)=47::r:=rfl
  rw[hd,ht]
  refine⟨by simp at hlen;omega,gS o,?_⟩
  rw[gI]
  (refine ae (mE o 47 (by omega)) ?_
   simp only[ad,↓Xn,↓Xo,↓Xg,↓Xd,↓Xe,↓Xf,Tryz.VΓ,Tryz.Γs,Xp,Xi,Nat.reduceAdd,Nat.reduceSub,Nat.reduceLT,Nat.reduceLeDiff,reduceIte,reduceCtorEq,Nat.reduceEqDiff,implies_true,forall_const,aa,h0,h3,hj])
  obtain⟨X,hX,x0,x1,hx⟩:=Ic o
  rw[hX]
  refine⟨⟨x0,x1⟩,iK (p':=47::r) (o':=o.take X.toNat) (f:=f) rfl ?_ (rd_at x1) ?_ ?_ ?_ (by simp)⟩
  ·rw[uq x1];rfl
  ·rw[uq x1];simp at hlen ⊢;omega
  ·simp at hf ⊢;omega
  ·rw[hx];exact kC
theorem CA (p o:Bytes)(hp:p≠[]):(cG p o).1.length+(cG p o).2.length≤p.length+o.length:=by
 have gd:0<p.length:=zMv.2 hp
 have hs:(cX o).length≤o.length:=by rw[gK,zL3];exact Nat.min_le_right _ _
 have hq:=cx (·==47) (p.drop 1)
 unfold cG
 split
 ·simp
 split
 ·simp
 split
 ·simp
 split
 ·rename_i h;subst h;simp
 split
 ·simp;omega
 split
 ·rename_i h;subst h;simp;omega
 split
 ·simp
 ·simp at hq ⊢
  omega
theorem vE:∀ (f:Nat)(p o:Bytes),(eb f p o).length≤p.length+o.length
 | 0,p,o=>by simp[eb]
 | f+1,p,o=>by
   rw[eb]
   split
   ·simp
   ·rename_i hp
    exact Nat.le_trans (vE f _ _) (CA p o hp)
theorem nw (s:Bytes):(aO s).length≤s.length:=by
 have:=vE s.length s []
 simpa[aO] using this
theorem pre_hit {p:UInt8→Bool}{s:Bytes}{k:Nat}(hk:k<s.length)(h:k≤pre p s)(hp:p s[k]=true):pre p s=k:=by
 rcases zLR k (pre p s) with h1|h1
 ·rw[gM h1 hk]at hp;cases hp
 ·omega
theorem Ii {p:UInt8→Bool}{s:Bytes}{k:Nat}(hk:k<s.length)(h:k≤pre p s)(hp:p s[k]=false):k+1≤pre p s:=by
 rcases zLR k (pre p s) with h1|h1
 ·exact h1
 ·have e:pre p s=k:=by omega
  have h2:=gi (p:=p) (l:=s) (by omega)
  simp only[e]at h2
  rw[hp]at h2;cases h2
theorem ue (s:Bytes):(dE s=0∧∀ j (h:j<s.length),s[j]≠47)∨(∃ i,∃ h:i<s.length,dE s=i+1∧s[i]=47∧∀ j (hj:j<s.length),i<j→s[j]≠47):=by
 have e:∀ j (h:j<s.length),(⟨zLv s⟩:ByteArray).data[j]! = s[j]:=fun j h=>by simp[h]
 have hb:=nO s
 have hz:(⟨zLv s⟩:ByteArray).size=s.length:=rfl
 rcases Lib.lastIndexByte_spec ⟨zLv s⟩ (UInt8.toNat 47) with⟨h1,h2⟩|⟨i,h1,h2,h3,h4⟩
 ·left
  refine⟨?_,fun j hj hs=>h2 j hj ?_⟩
  ·have:qF s 47=-1:=h1
   omega
  ·rw[e j hj,hs]
 ·right
  rw[hz]at h1
  refine⟨i,h1,?_,?_,fun j hj wm hs=>h4 j wm hj ?_⟩
  ·have:qF s 47=i:=h2
   omega
  ·rw[e i h1]at h3
   exact UInt8.toNat_inj.1 (by exact_mod_cast h3)
  ·rw[e j hj,hs]
theorem F2 {s:Bytes}{k:Nat}(hk:k<s.length)(h:dE s≤k+1)(hs:s[k]=47):dE s=k+1:=by
 rcases ue s with⟨-,h2⟩|⟨i,hi,h1,h2,h3⟩
 ·exact absurd hs (h2 k hk)
 ·rcases zLR i k with h4|h4
  ·exact absurd hs (h3 k hk h4)
  ·omega
theorem Dq {s:Bytes}{k:Nat}(hk:k<s.length)(h:dE s≤k+1)(hs:s[k]≠47):dE s≤k:=by
 rcases ue s with⟨h1,-⟩|⟨i,hi,h1,h2,h3⟩
 ·omega
 ·rcases zLR i k with h4|h4
  ·omega
  ·have:i=k:=by omega
   subst this
   exact absurd h2 hs
theorem kx (c:UInt8)(set:Bytes)(ht:set.length≤4294967281):PC Tryz.V 67 [.int .u8 c.toNat,.str set] (.bool (set.contains c)):=by
 refine aQ 3000 Tryz.func67 rfl Tryz.ntmps67 Tryz.results67 Tryz.call67 (by simp) (by simp[flat,flat.ai]) (by simp[flat,flat.ai]) ?_
 simp only[ad,↓Xn,↓Xo,↓Xg,↓Xd,↓Xe,↓Xf,Tryz.VΓ,Tryz.Γs,Xp,Xi,Nat.reduceAdd,Nat.reduceSub,Nat.reduceLT,Nat.reduceLeDiff,reduceIte,reduceCtorEq,Nat.reduceEqDiff,implies_true,forall_const,aa]
 refine aM (fun σ=>∃ k:Nat,k≤set.length∧(set.take k).contains c=false∧lk 0 σ.t=some (.int .u8 c.toNat)∧lk 1 σ.t=some (.str set)∧lk 4 σ.t=some (.bool false)∧lk 5 σ.t=some (.int .i64 k)) (fun σ=>set.length - ja 5 σ) ⟨0,by omega,rfl,rfl,rfl,rfl,rfl⟩ ?_
 rintro⟨t,b⟩ ⟨k,hk,hc,h0,h1,h4,h5⟩
 simp only at h0 h1 h4 h5
 rw[az h5]
 simp only[ad,↓Xn,↓Xo,↓Xg,↓Xd,↓Xe,↓Xf,Tryz.VΓ,Tryz.Γs,Xp,Xi,Nat.reduceAdd,Nat.reduceSub,Nat.reduceLT,Nat.reduceLeDiff,reduceIte,reduceCtorEq,Nat.reduceEqDiff,implies_true,forall_const,aa,h0,h1,h4,h5]
 refine⟨fun h=>?_,fun h=>?_⟩
 ·have hk':k<set.length:=by simpa using h
  rw[cH (n:=c.toNat) hk' c rfl]
  refine⟨by omega,fun e=>?_,fun e=>⟨by omega,⟨k+1,by omega,?_,by simp⟩,by rw[az rfl];omega⟩⟩
  ·rw[show set.contains c=true from zLZ.2 (by rw[← beq_iff_eq.1 e];exact List.getElem_mem hk')]
  ·apply Bool.eq_false_iff.2
   intro hh
   rw[zLZ,zL7 hk',zLN]at hh
   rcases hh with hh|hh
   ·exact absurd (zLZ.2 hh) (by rw[hc];simp)
   ·have hh:=zLL.1 hh
    rw[← hh]at e
    simp at e
 ·have:k=set.length:=by simp at h;omega
  subst this
  rw[List.take_length]at hc
  rw[hc]
theorem bR (s p:Bytes):PC Tryz.V 104 [.str s,.str p] (.bool (Lib.hasPrefix s p)):=by
 refine aQ 3000 Tryz.func104 rfl Tryz.ntmps104 Tryz.results104 Tryz.call104 (by simp) (by simp[flat,flat.ai]) (by simp[flat,flat.ai]) ?_
 simp only[ad,↓Xn,↓Xo,↓Xg,↓Xd,↓Xe,↓Xf,Tryz.VΓ,Tryz.Γs,Xp,Xi,Nat.reduceAdd,Nat.reduceSub,Nat.reduceLT,Nat.reduceLeDiff,reduceIte,reduceCtorEq,Nat.reduceEqDiff,implies_true,forall_const,aa]
 have e:Lib.hasPrefix s p=(s.take p.length==p):=by
  rw[zL9,Lib.hasPrefix,zLK,List.prefix_iff_eq_take,beq_iff_eq]
  exact eq_comm
 refine⟨fun h=>⟨by simp at h;omega,by rw[e]⟩,fun h=>?_⟩
 rw[e,show (s.take p.length==p)=false from beq_eq_false_iff_ne.2 fun q=>by
  have:=congrArg List.length q
  simp at h this
  omega]
theorem bl (s set:Bytes)(hs:s.length≤4294967281)(ht:set.length≤4294967281):PC Tryz.V 46 [.str s,.str set] (.int .i64 (pre (set.contains ·) s)):=by
 refine aQ 3000 Tryz.func46 rfl Tryz.ntmps46 Tryz.results46 Tryz.call46 (by simp) (by simp[flat,flat.ai]) (by simp[flat,flat.ai]) ?_
 simp only[ad,↓Xn,↓Xo,↓Xg,↓Xd,↓Xe,↓Xf,Tryz.VΓ,Tryz.Γs,Xp,Xi,Nat.reduceAdd,Nat.reduceSub,Nat.reduceLT,Nat.reduceLeDiff,reduceIte,reduceCtorEq,Nat.reduceEqDiff,implies_true,forall_const,aa]
 refine aM (fun σ=>∃ k:Nat,k≤s.length∧k≤pre (set.contains ·) s∧lk 0 σ.t=some (.str s)∧lk 1 σ.t=some (.str set)∧lk 5 σ.t=some (.int .i64 k)) (fun σ=>s.length - ja 5 σ) ⟨0,by omega,by omega,rfl,rfl,rfl⟩ ?_
 rintro⟨t,b⟩ ⟨k,hk,hc,h0,h1,h5⟩
 simp only at h0 h1 h5
 rw[az h5]
 simp only[ad,↓Xn,↓Xo,↓Xg,↓Xd,↓Xe,↓Xf,Tryz.VΓ,Tryz.Γs,Xp,Xi,Nat.reduceAdd,Nat.reduceSub,Nat.reduceLT,Nat.reduceLeDiff,reduceIte,reduceCtorEq,Nat.reduceEqDiff,implies_true,forall_const,aa,h0,h1,h5]
 have gd:=cx (set.contains ·) s
 refine⟨fun h=>?_,fun h=>?_⟩
 ·have hk':k<s.length:=by simpa using h
  have nW:=kx (s.getD k 0) set ht
  refine⟨by omega,?_⟩
  (refine ae (nW) ?_;simp only[ad,↓Xn,↓Xo,↓Xg,↓Xd,↓Xe,↓Xf,Tryz.VΓ,Tryz.Γs,Xp,Xi,Nat.reduceAdd,Nat.reduceSub,Nat.reduceLT,Nat.reduceLeDiff,reduceIte,reduceCtorEq,Nat.reduceEqDiff,implies_true,forall_const,aa,h0,h1,h5])
  rw[show s.getD k 0=s[k] by simp[List.getD,hk']]
  refine⟨fun e=>?_,fun e=>⟨by omega,⟨k+1,by omega,Ii hk' hc e,by simp⟩,by rw[az rfl];omega⟩⟩
  rw[pre_hit hk' hc e]
 ·have:k=s.length:=by simp at h;omega
  rw[show pre (set.contains ·) s=s.length by omega]
theorem qn (s:Bytes)(hs:s.length≤4294967281):PC Tryz.V 131 [.str s] (.str (cX s)):=by
 refine aQ 3000 Tryz.func131 rfl Tryz.ntmps131 Tryz.results131 Tryz.call131 (by simp) (by simp[flat,flat.ai]) (by simp[flat,flat.ai]) ?_
 simp only[ad,↓Xn,↓Xo,↓Xg,↓Xd,↓Xe,↓Xf,Tryz.VΓ,Tryz.Γs,Xp,Xi,Nat.reduceAdd,Nat.reduceSub,Nat.reduceLT,Nat.reduceLeDiff,reduceIte,reduceCtorEq,Nat.reduceEqDiff,implies_true,forall_const,aa]
 refine⟨by omega,aM (fun σ=>∃ k:Nat,k≤s.length∧dE s≤k∧lk 0 σ.t=some (.str s)∧lk 3 σ.t=some (.int .i64 ((k:Int) - 1))) (fun σ=>match lk 3 σ.t with|some (.int _ n)=>(n+1).toNat|_=>0) ⟨s.length,by omega,qE s,rfl,rfl⟩ ?_⟩
 rintro⟨t,b⟩ ⟨k,hk,hc,h0,h3⟩
 simp only at h0 h3
 simp only[ad,↓Xn,↓Xo,↓Xg,↓Xd,↓Xe,↓Xf,Tryz.VΓ,Tryz.Γs,Xp,Xi,Nat.reduceAdd,Nat.reduceSub,Nat.reduceLT,Nat.reduceLeDiff,reduceIte,reduceCtorEq,Nat.reduceEqDiff,implies_true,forall_const,aa,h0,h3]
 refine⟨fun h=>?_,fun h=>?_⟩
 ·have wk:0<k:=by simp at h;omega
  obtain⟨k,rfl⟩:∃ m,k=m+1:=⟨k - 1,by omega⟩
  have e:(((k+1:Nat):Int) - 1).toNat=k:=by omega
  rw[e,cH (n:=47) (by omega) 47 rfl]
  refine⟨by omega,fun q=>⟨by omega,?_⟩,fun q=>⟨by omega,⟨k,by omega,Dq (by omega) hc (by simpa using q),?_⟩,by omega⟩⟩
  ·rw[gK,F2 (by omega) hc (by simpa using q)];rfl
  ·congr 1;omega
 ·rw[gK,show dE s=0 by simp at h;omega]
  simp
theorem tk (s:Bytes)(hs:s.length≤4294967281):PC Tryz.V 100 [.str s] (.str (aO s)):=by
 refine aQ 3000 Tryz.func100 rfl Tryz.ntmps100 Tryz.results100 Tryz.call100 (by simp) (by simp[flat,flat.ai]) (by simp[flat,flat.ai]) ?_
 simp only[ad,↓Xn,↓Xo,↓Xg,↓Xd,↓Xe,↓Xf,Tryz.VΓ,Tryz.Γs,Xp,Xi,Nat.reduceAdd,Nat.reduceSub,Nat.reduceLT,Nat.reduceLeDiff,reduceIte,reduceCtorEq,Nat.reduceEqDiff,implies_true,forall_const,aa]
 refine aM (fun σ=>∃ (p o:Bytes) (f:Nat),lk 3 σ.t=some (.str p)∧lk 4 σ.t=some (.str o)∧p.length+o.length≤s.length∧p.length≤f∧eb f p o=aO s) (fun σ=>match lk 3 σ.t with|some (.str p)=>p.length|_=>0) ⟨s,[],s.length,rfl,rfl,by simp,zLG _,rfl⟩ ?_
 rintro⟨t,b⟩ ⟨p,o,f,h3,h4,hlen,hf,kC⟩
 simp only at h3 h4
 simp only[ad,↓Xn,↓Xo,↓Xg,↓Xd,↓Xe,↓Xf,Tryz.VΓ,Tryz.Γs,Xp,Xi,Nat.reduceAdd,Nat.reduceSub,Nat.reduceLT,Nat.reduceLeDiff,reduceIte,reduceCtorEq,Nat.reduceEqDiff,implies_true,forall_const,aa,h3,h4]
 have Cf:p=[]→o=aO s:=fun hp=>by subst hp;cases f <;> simpa[eb] using kC
 refine⟨fun hp=>?_,fun hp=>?_⟩
 rotate_left
 ·rw[Cf (by simpa using hp)]
 replace hp:p≠[]:=by simpa using hp
 have gd:0<p.length:=zMv.2 hp
 obtain⟨f,rfl⟩:∃ f',f=f'+1:=⟨f - 1,by omega⟩
 rw[eb,if_neg hp]at kC
 (refine ae (bR p [46,46,47]) ?_;simp only[ad,↓Xn,↓Xo,↓Xg,↓Xd,↓Xe,↓Xf,Tryz.VΓ,Tryz.Γs,Xp,Xi,Nat.reduceAdd,Nat.reduceSub,Nat.reduceLT,Nat.reduceLeDiff,reduceIte,reduceCtorEq,Nat.reduceEqDiff,implies_true,forall_const,aa,h3,h4])
 refine⟨fun c1=>?_,fun c1=>?_⟩
 ·have h:=eE c1
  rw[show cG p o=(p.drop 3,o) from if_pos c1]at kC
  exact⟨⟨by omega,by simp at h;omega⟩,⟨_,_,f,rfl,rfl,by simp;omega,by simp at h ⊢;omega,kC⟩,by simp at h ⊢;omega⟩
 (refine ae (bR p [46,47]) ?_;simp only[ad,↓Xn,↓Xo,↓Xg,↓Xd,↓Xe,↓Xf,Tryz.VΓ,Tryz.Γs,Xp,Xi,Nat.reduceAdd,Nat.reduceSub,Nat.reduceLT,Nat.reduceLeDiff,reduceIte,reduceCtorEq,Nat.reduceEqDiff,implies_true,forall_const,aa,h3,h4])
 refine⟨fun c2=>?_,fun c2=>?_⟩
 ·have h:=eE c2
  rw[show cG p o=(p.drop 2,o) by unfold cG;rw[if_neg (kA c1)];exact if_pos c2]at kC
  exact⟨⟨by omega,by simp at h;omega⟩,⟨_,_,f,rfl,rfl,by simp;omega,by simp at h ⊢;omega,kC⟩,by simp at h ⊢;omega⟩
 (refine ae (bR p [47,46,47]) ?_;simp only[ad,↓Xn,↓Xo,↓Xg,↓Xd,↓Xe,↓Xf,Tryz.VΓ,Tryz.Γs,Xp,Xi,Nat.reduceAdd,Nat.reduceSub,Nat.reduceLT,Nat.reduceLeDiff,reduceIte,reduceCtorEq,Nat.reduceEqDiff,implies_true,forall_const,aa,h3,h4])
 refine⟨fun c3=>?_,fun c3=>?_⟩
 ·have h:=eE c3
  rw[show cG p o=(p.drop 2,o) by unfold cG;rw[if_neg (kA c1),if_neg (kA c2)];exact if_pos c3]at kC
  exact⟨⟨by omega,by simp at h;omega⟩,⟨_,_,f,rfl,rfl,by simp;omega,by simp at h ⊢;omega,kC⟩,by simp at h ⊢;omega⟩
 refine⟨fun c4=>?_,fun c4=>?_⟩
 ·have h:p=[47,46]:=by simpa using c4
  subst h
  exact⟨⟨_,_,f,rfl,rfl,by simp at hlen ⊢;omega,by simp at hf ⊢;omega,kC⟩,by simp⟩
 have n4:¬ p=[47,46]:=by simpa using c4
 have GH:cG p o=if [47,46,46,47].isPrefixOf p then(p.drop 3,cX o)
  else if p=[47,46,46] then([47],cX o)
  else if p=[46]∨p=[46,46] then([],o)
  else(p.drop (1+pre (·==47) (p.drop 1)),o++p.take (1+pre (·==47) (p.drop 1))):=by
  unfold cG;rw[if_neg (kA c1),if_neg (kA c2),if_neg (kA c3),if_neg n4]
 rw[GH]at kC
 have ye:(cX o).length≤o.length:=by rw[gK,zL3];exact Nat.min_le_right _ _
 (refine ae (bR p [47,46,46,47]) ?_;simp only[ad,↓Xn,↓Xo,↓Xg,↓Xd,↓Xe,↓Xf,Tryz.VΓ,Tryz.Γs,Xp,Xi,Nat.reduceAdd,Nat.reduceSub,Nat.reduceLT,Nat.reduceLeDiff,reduceIte,reduceCtorEq,Nat.reduceEqDiff,implies_true,forall_const,aa,h3,h4])
 refine⟨fun c5=>?_,fun c5=>?_⟩
 ·have h:=eE c5
  rw[if_pos (show zL8 [47,46,46,47] p=true from c5)]at kC
  refine⟨⟨by omega,by simp at h;omega⟩,?_⟩
  have pd:=qn o (by omega)
  (refine aU (pd) ?_;simp only[ad,↓Xn,↓Xo,↓Xg,↓Xd,↓Xe,↓Xf,Tryz.VΓ,Tryz.Γs,Xp,Xi,Nat.reduceAdd,Nat.reduceSub,Nat.reduceLT,Nat.reduceLeDiff,reduceIte,reduceCtorEq,Nat.reduceEqDiff,implies_true,forall_const,aa,h3,h4])
  exact⟨(aq (by kernel_rfl)),⟨_,_,f,rfl,rfl,by simp;omega,by simp at h ⊢;omega,kC⟩,by simp at h ⊢;omega⟩
 rw[if_neg (kA c5)]at kC
 refine⟨fun c6=>?_,fun c6=>?_⟩
 ·have h:p=[47,46,46]:=by simpa using c6
  subst h
  have pd:=qn o (by omega)
  (refine ae (pd) ?_;simp only[ad,↓Xn,↓Xo,↓Xg,↓Xd,↓Xe,↓Xf,Tryz.VΓ,Tryz.Γs,Xp,Xi,Nat.reduceAdd,Nat.reduceSub,Nat.reduceLT,Nat.reduceLeDiff,reduceIte,reduceCtorEq,Nat.reduceEqDiff,implies_true,forall_const,aa,h3,h4])
  exact⟨[47],cX o,f,rfl,rfl,by simp at hlen ⊢;omega,by simp at hf ⊢;omega,kC⟩
 rw[if_neg (show ¬ p=[47,46,46] by simpa using c6)]at kC
 refine⟨fun c7=>⟨fun c8=>?_,fun c8=>?_⟩,fun c7=>?_⟩
 ·have h:p=[46,46]:=by simpa using c8
  subst h
  exact⟨⟨_,_,f,rfl,rfl,by simp at hlen ⊢;omega,by simp,kC⟩,by simp⟩
 ·rw[if_neg (show ¬ (p=[46]∨p=[46,46]) by rintro(h|h) <;> subst h <;> simp at c7 c8)]at kC
  have px:=bl (p.drop 1) [47] (by simp;omega) (by simp)
  have hpe:pre (([47]:Bytes).contains ·) (p.drop 1)=pre (·==47) (p.drop 1):=by
   congr 1
   funext c
   by_cases h:c=47
   ·subst h;rfl
   ·simp[h]
  rw[hpe]at px
  have hq:=cx (·==47) (p.drop 1)
  simp only[List.length_drop]at hq
  generalize pre (·==47) (p.drop 1)=q at px kC hq
  refine⟨by omega,?_⟩
  (refine ae (px) ?_;simp only[ad,↓Xn,↓Xo,↓Xg,↓Xd,↓Xe,↓Xf,Tryz.VΓ,Tryz.Γs,Xp,Xi,Nat.reduceAdd,Nat.reduceSub,Nat.reduceLT,Nat.reduceLeDiff,reduceIte,reduceCtorEq,Nat.reduceEqDiff,implies_true,forall_const,aa,h3,h4])
  have e:(1+(q:Int)).toNat=1+q:=by omega
  have el:(p.take (1+q)).length=1+q:=by rw[zL3];omega
  rw[e]
  exact⟨by omega,by omega,by omega,by rw[el];omega,(aq (by kernel_rfl)),⟨_,_,f,rfl,rfl,by simp;omega,by simp;omega,kC⟩,by simp;omega⟩
 ·have h:p=[46]:=by simpa using c7
  subst h
  exact⟨⟨_,_,f,rfl,rfl,by simp at hlen ⊢;omega,by simp,kC⟩,by simp⟩
end Go.Proofs.YteipdaijbncgeaaGreatDoor
