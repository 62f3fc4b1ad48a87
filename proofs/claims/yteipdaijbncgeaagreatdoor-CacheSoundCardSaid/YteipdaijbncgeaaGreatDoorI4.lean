/- Texts of this claim, laid together: PlainQ, AcctP, DidP, DidQ, DidR, WebP, WebQ, Row, IdxAny, Ascii, Bytes, Ascii2, Lib, Bld, Bld2, Pct, Comm, Uri, UriW, UriW2, RefUri. -/
import Derived.Lib.Replace
import Derived.Lib.OthersKept
import Derived.Deep.QuietTactic
import Derived.BigQuiet
import Derived.Test.YteipdaijbncgeaaGreatDoorProg
import Derived.Lib.ConvBytes
import Derived.Laws.IdiomStrings
import Derived.Test.YteipdaijbncgeaaGreatDoorI3
open List renaming toArray → zKv, flatMap_cons → zKw, mem_cons_of_mem → zKx, mem_cons_self → zKy, getElem?_append_left → zKz, cons_append → zKA, getElem?_set_ne → zKB, getElem?_eq_some_iff → zKC, length_cons → zKD, length_append → zKF, all_eq_true → zKG, drop_eq_getElem_cons → zKH, isPrefixOf_iff_prefix → zKI, mem_singleton → zKJ, mem_cons → zKK, mem_append → zKM, getElem?_set_self → zKO, nil_append → zKQ, append_nil → zKR, getElem?_append_right → zKS, take_append_drop → zKT, take_of_length_le → zKU, singleton_append → zKV, contains_iff_mem → zKW, cons → zKX, length_take → zKY, length_eq_zero_iff → zKZ, flatMap_append → zK0, take_succ_eq_append_getElem → zK1, isPrefixOf → zK2, getElem_of_mem → zK4, flatMap_map → zK6, drop_of_length_le → zK7, flatten_cons → zK9, mem_of_getLast? → zLa, mem_flatMap → zLb, mem_map → zLc, getElem?_eq_getElem → zLd, length_nil → zLf, flatMap_nil → zLg, getLast?_append → zLh, map_cons → zLi, all_cons → zLj, map_congr_left → zLk, drop_succ_cons → zLl, length_pos_iff → zLm, length_map → zLn, all_append → zLo
open Nat renaming le_refl → zKE, lt_or_ge → zKP
open Bool renaming and_eq_true → zKN, eq_iff_iff → zK3
open Prod renaming mk → zK5
open Option renaming some → zK8
set_option linter.all false
set_option maxHeartbeats 16000000
set_option maxRecDepth 20000
namespace Wf
open Go Go.RowKit
theorem eB (c:UInt8):cn (cn c)=cn c∧vF (cn c)=vF c∧isDigit (cn c)=isDigit c∧(cn c==45)=(c==45)∧(cn c==46)=(c==46)∧(cn c==58)=(c==58)∧(isDigit c=true→cn c=c):=by
 have h:=dy (p:=fun c=>decide (cn (cn c)=cn c∧vF (cn c)=vF c∧isDigit (cn c)=isDigit c∧(cn c==45)=(c==45)∧(cn c==46)=(c==46)∧(cn c==58)=(c==58)∧(isDigit c=true→cn c=c))) (by decide +kernel) c
 exact of_decide_eq_true h
theorem AZ (s:Bytes):lower (lower s)=lower s:=by
 unfold lower;rw[List.map_map];apply zLk;intro c _;exact(eB c).1
theorem fE (s:Bytes):(lower s).length=s.length:=by unfold lower;simp
theorem iz (s:Bytes):(lower s).isEmpty=s.isEmpty:=by unfold lower;cases s <;> rfl
theorem ru {p:UInt8→Bool}(hp:∀ c,p (cn c)=p c)(s:Bytes):(lower s).all p=s.all p:=by
 unfold lower;rw[List.all_map];congr 1;funext c;exact hp c
theorem yV {s:Bytes}(h:s.all isDigit=true):lower s=s:=by
 unfold lower
 rw[zKG]at h
 conv=>rhs;rw[← List.map_id s]
 apply zLk;intro c hc;exact(eB c).2.2.2.2.2.2 (h c hc)
theorem oy (s:Bytes):bz (lower s)=bz s:=by
 unfold bz
 rw[iz,fE,ru (fun c=>(eB c).2.1)]
 have h1:((lower s).head?==some 45)=(s.head?==some 45):=by
  unfold lower;rw[List.head?_map];cases s.head? with
  | none=>rfl
  | some c=>simpa using(eB c).2.2.2.1
 have h2:((lower s).getLast?==some 45)=(s.getLast?==some 45):=by
  unfold lower;rw[List.getLast?_map];cases s.getLast? with
  | none=>rfl
  | some c=>simpa using(eB c).2.2.2.1
 rw[h1,h2]
theorem nF (s:Bytes):cg (lower s)=cg s:=by
 unfold cg;rw[iz,ru (fun c=>(eB c).2.2.1)]
theorem pC (s:Bytes):aA 46 (lower s)=(aA 46 s).map lower:=by
 induction s with
 | nil=>rfl
 | cons x r ih =>
   have hx:=(eB x).2.2.2.2.1
   rw[show lower (x::r)=cn x::lower r from rfl,aA,aA,hx,ih]
   cases x==46
   ·simp only[Bool.false_eq_true,if_false]
    cases aA 46 r <;> rfl
   ·rfl
theorem sR (m:Nat)(s:Bytes):aV m (lower s)=aV m s:=by
 cases h:s.all isDigit
 ·have hd:cg s=false:=by unfold cg;simp[h]
  have hl:(lower s).all isDigit=false:=by rw[ru (fun c=>(eB c).2.2.1),h]
  unfold aV bK
  rw[nF,hd,hl,h,iz]
  simp
 ·rw[yV h]
theorem wm (s:Bytes):eZ (lower s)=eZ s:=by unfold eZ;rw[sR]
theorem Dm (s:Bytes):ipv4 (lower s)=ipv4 s:=by
 unfold ipv4
 rw[pC,zLn,List.all_map]
 congr 2;funext x;exact wm x
theorem AY (l:List Bytes):mq (l.map lower)=mq l:=by
 induction l with
 | nil=>rfl
 | cons x r ih =>
   cases r with
   | nil=>simp only[List.map,mq,oy,nF]
   | cons y r=>simp only[zLi,mq,oy]at ih ⊢;rw[ih]
theorem yT (s:Bytes):eA (lower s)=eA s:=by unfold eA;rw[pC,AY]
theorem nx {s x:Bytes}(h:bB s=(x,0)):x=lower s∧x.length≤253∧bB x=(x,0):=by
 unfold bB at h
 cases h1:s.isEmpty
 ·rw[h1]at h
  by_cases h2:253<s.length
  ·simp[h2]at h
  ·cases h3:(!ipv4 s&&!eA s)
   ·simp[h2,h3]at h
    subst h
    refine⟨rfl,by rw[fE];omega,?_⟩
    unfold bB
    rw[iz,fE,Dm,yT,h1,h3,AZ]
    simp[h2]
   ·simp[h2,h3]at h
 ·rw[h1]at h;simp at h
theorem Fk (s:Bytes):pre (·==58) (lower s)=pre (·==58) s:=by
 induction s with
 | nil=>rfl
 | cons x r ih =>
   rw[show lower (x::r)=cn x::lower r from rfl,cf,cf,ih,(eB x).2.2.2.2.2.1]
theorem tW (p:UInt8→Bool)(s:Bytes):pre p (s.take (pre p s))=(s.take (pre p s)).length:=by
 induction s with
 | nil=>rfl
 | cons x r ih =>
   rw[cf]
   cases hx:p x
   ·simp[cf,hx]
    have:=ih;simp at this;omega
   ·rfl
theorem I2 (c:UInt8)(s:Bytes):pre (·==c) (aG c s).1=(aG c s).1.length:=by
 unfold aG
 by_cases h:pre (·==c) s<s.length
 ·rw[if_pos h];exact tW _ s
 ·rw[if_neg h];have:=cq (·==c) s;show pre (·==c) s=s.length;omega
theorem fI {c:UInt8}{s:Bytes}(h:pre (·==c) s=s.length):aG c s=(s,[],false):=by
 unfold aG;rw[if_neg (by omega)]
theorem tm {p:UInt8→Bool}{x:Bytes}(h:pre p x=x.length)(c:UInt8)(r:Bytes)(hc:p c=true):pre p (x++c::r)=x.length:=by
 induction x with
 | nil=>simp[cf,hc]
 | cons y x ih =>
   rw[cf]at h
   cases hy:p y
   ·rw[hy]at h;simp at h
    simp[cf,hy,ih h]
   ·rw[hy]at h;simp at h
theorem lr {c:UInt8}{x:Bytes}(h:pre (·==c) x=x.length)(r:Bytes):aG c (x++c::r)=(x,r,true):=by
 unfold aG
 rw[tm h c r (by simp),if_pos (by simp)]
 simp
theorem uQ {n:Nat}(h:n<10):cw (sE n)=n∧isDigit (sE n)=true∧(sE n=48→n=0):=by
 have h:=(by decide +kernel:∀ n,n<10→cw (sE n)=n∧isDigit (sE n)=true∧(sE n=48→n=0)) n h
 exact h
theorem Fy {b m:Nat}(r:Bytes):∀ (l:Bytes){a v:Nat},dh b m a l=(v,0)→dh b m a (l++r)=dh b m v r:=by
 intro l
 induction l with
 | nil=>intro a v h;simp[dh]at h;rw[h];rfl
 | cons c l ih =>
   intro a v h
   rw[dh]at h
   rw[zKA,dh]
   by_cases hm:m<a * b+cw c
   ·rw[if_pos hm]at h;simp at h
   ·rw[if_neg hm]at h
    rw[if_neg hm]
    exact ih h
theorem xS (m:Nat):∀ (k n:Nat),n≤k→n≤m→dh 10 m 0 (cJ n)=(n,0)∧(cJ n).all isDigit=true∧(0<n→(cJ n).head? ≠ some 48):=by
 intro k
 induction k with
 | zero =>
   intro n h _
   obtain rfl:n=0:=by omega
   rw[gg (by omega)]
   exact⟨by simp[dh,sE,cw],by decide,fun h=>by omega⟩
 | succ k ih =>
   intro n h hm
   by_cases hn:n<10
   ·rw[gg hn]
    obtain⟨h1,h2,h3⟩:=uQ hn
    refine⟨?_,by simp[h2],?_⟩
    ·rw[dh,h1,if_neg (by omega),dh];simp
    ·intro h0 he;simp at he;exact absurd (h3 he) (by omega)
   ·rw[lq hn]
    obtain⟨h1,h2,h3⟩:=ih (n / 10) (by omega) (by omega)
    obtain⟨g1,g2,g3⟩:=uQ (show n % 10<10 by omega)
    refine⟨?_,by rw[zLo,h2];simp[g2],?_⟩
    ·rw[Fy _ _ h1,dh,g1,if_neg (by omega),dh]
     congr 1;omega
    ·intro _
     have:=vp (n / 10)
     rw[List.head?_append]
     have h3:=h3 (by omega)
     cases hd:(cJ (n / 10)).head? with
     | none=>rw[List.head?_eq_none_iff]at hd;rw[hd]at this;simp at this
     | some c=>rw[hd]at h3;simpa using h3
theorem Fl {n:Nat}(h0:0<n)(h:n≤65535):iX (cJ n)=((n:Int),0):=by
 obtain⟨h1,h2,h3⟩:=xS 65535 n n (by omega) h
 have hp:=vp n
 have bp:(cJ n).isEmpty=false:=by cases hd:cJ n <;> simp[hd]at hp ⊢
 have hs:aV 65535 (cJ n)=(n,0):=by
  unfold aV bK
  rw[if_neg (fun hh=>h3 h0 hh.2.2),bp,h2,h1]
  rfl
 unfold iX
 rw[hs]
 have:¬ n=0:=by omega
 simp[this]
theorem G4 {s:Bytes}{p:Int}(h:iX s=(p,0)):0<p∧p≤65535:=by
 have hle:=lM 65535 s
 unfold iX at h
 split at h
 ·simp at h
 ·rename_i hc
  simp at h
  subst h
  omega
theorem cu {s x:Bytes}{p:Int}(h:aE s=((x,p),0)):aE (bf x p)=((x,p),0)∧bB x=(x,0)∧p≠443∧x.length≤253∧0≤p∧p≤65535:=by
 have hf:=I2 58 s
 unfold aE at h
 generalize aG 58 s=C at hf h
 obtain⟨first,rest,colon⟩:=C
 simp only at hf h
 generalize hH:bB first=H at h
 obtain⟨y,e⟩:=H
 by_cases he:e=0
 ·subst he
  obtain⟨hy,hlen,iZ⟩:=nx hH
  have hpy:pre (·==58) y=y.length:=by rw[hy,Fk,fE];exact hf
  have plain:aE (bf y 0)=((y,0),0):=by
   unfold bf aE
   rw[if_pos rfl,fI hpy,iZ];rfl
  cases colon
  ·unfold cr at h
   simp at h
   obtain⟨rfl,rfl⟩:=h
   exact⟨plain,iZ,by omega,hlen,by omega,by omega⟩
  ·generalize hP:iX rest=P at h
   obtain⟨q,f⟩:=P
   unfold cr at h
   by_cases hf0:f=0
   ·subst hf0
    simp at h
    obtain⟨rfl,h⟩:=h
    obtain⟨q0,q1⟩:=G4 hP
    by_cases mD:q=443
    ·rw[if_pos mD]at h
     subst h
     exact⟨plain,iZ,by omega,hlen,by omega,by omega⟩
    ·rw[if_neg mD]at h
     subst h
     refine⟨?_,iZ,mD,hlen,by omega,q1⟩
     obtain⟨n,rfl⟩:∃ n:Nat,q=n:=⟨q.toNat,by omega⟩
     unfold bf aE
     rw[if_neg (by omega),if_neg (by omega)]
     have e:y++[58]++cJ (n:Int).natAbs=y++58::cJ n:=by simp
     rw[e,lr hpy]
     simp only[iZ,Fl (show 0<n by omega) (show n≤65535 by omega)]
     unfold cr
     simp[mD]
   ·simp[hf0]at h
 ·unfold cr at h
  simp[he]at h
open Go Go.RowKit
theorem uncut (c:UInt8)(s:Bytes):s=(aG c s).1++(if (aG c s).2.2 then [c]++(aG c s).2.1 else []):=by
 unfold aG
 split
 ·rename_i h
  have h2:=ga (p:=(·==c)) h
  simp only[if_true]
  have:s.drop (pre (·==c) s)=c::s.drop (pre (·==c) s+1):=by
   rw[zKH h]
   simp only[beq_iff_eq]at h2
   rw[h2]
  rw[zKV,← this,zKT]
 ·simp
theorem zO (c:UInt8)(s:Bytes)(h:(aG c s).2.2=false):(aG c s).2.1=[]:=by
 unfold aG at h ⊢
 split
 ·rename_i h2;rw[if_pos h2]at h;simp at h
 ·rfl
def fL (l:List Bytes):Bytes:=l.flatMap (47::·)
def lT (s:Bytes):Prop:=(47:UInt8) ∉ s∧s≠[46]∧s≠[46,46]
theorem ly (x:Bytes)(l:List Bytes):fL (x::l)=47::(x++fL l):=rfl
theorem Ch (l:List Bytes)(x:Bytes):fL (l++[x])=fL l++47::x:=by
 unfold fL;simp
theorem Ga (l:List Bytes):fL l=[]∨∃ r,fL l=47::r:=by
 cases l with
 | nil=>exact .inl rfl
 | cons x l=>exact .inr ⟨_,rfl⟩
theorem jV {x:Bytes}(h:(47:UInt8) ∉ x)(l:List Bytes):pre (·==47) (x++fL l)=x.length:=by
 induction x with
 | nil =>
   rcases Ga l with e|⟨r,e⟩
   ·simp[e,pre_nil]
   ·simp[e,cf]
 | cons c x ih =>
   simp only[zKK,not_or]at h
   rw[zKA,cf,if_neg (by simp;exact fun e=>h.1 e.symm),ih h.2]
   rfl
theorem Ab (l:List Bytes)(x:Bytes)(h:(47:UInt8) ∉ x):cX (fL (l++[x]))=fL l:=by
 rw[Ch]
 unfold cX
 rw[List.reverse_append,List.reverse_cons,List.append_assoc]
 have:(x.reverse++([47]++(fL l).reverse)).dropWhile (· != 47)=[47]++(fL l).reverse:=by
  rw[List.dropWhile_append_of_pos]
  ·simp
  ·intro c hc
   simp only[List.mem_reverse]at hc
   simp
   rintro rfl
   exact h hc
 rw[this]
 simp
theorem DK:∀ (f:Nat)(p:Bytes)(l:List Bytes),p.length≤f→(p=[]∨∃ r,p=47::r)→(p=[]→l≠[])→(∀ x∈l,lT x)→∃ l',dZ f p (fL l)=fL l'∧l'≠[]∧∀ x∈l',lT x:=by
 intro f
 induction f with
 | zero =>
   intro p l hp _ hn hg
   have:p=[]:=zKZ.1 (by omega)
   exact⟨l,rfl,hn this,hg⟩
 | succ f ih =>
   intro p l hp hs hn hg
   rw[dZ]
   rcases hs with rfl|⟨r,rfl⟩
   ·exact⟨l,by rw[if_pos rfl],hn rfl,hg⟩
   ·rw[if_neg (by simp)]
    have hsh:∃ l2,cX (fL l)=fL l2∧∀ x∈l2,lT x:=by
     rcases List.eq_nil_or_concat l with rfl|⟨l2,x,rfl⟩
     ·exact⟨[],rfl,by simp⟩
     ·refine⟨l2,?_,fun y hy=>hg y (by simp[hy])⟩
      have:=hg x (by simp)
      simpa using Ab l2 x this.1
    obtain⟨l2,gW,hg2⟩:=hsh
    unfold cD
    rw[if_neg (by simp[zK2]),if_neg (by simp[zK2])]
    by_cases c1:[47,46,47].isPrefixOf (47::r)
    ·rw[if_pos c1]
     obtain⟨q,hq⟩:=zKI.1 c1
     simp only[zKA,zKQ,zKX.injEq,true_and]at hq
     subst hq
     exact ih _ l (by simp at hp ⊢;omega) (.inr ⟨q,rfl⟩) (by simp) hg
    rw[if_neg c1]
    by_cases c2:(47::r)=[47,46]
    ·rw[if_pos c2]
     rw[c2]at hp
     exact ih _ l (by simp at hp ⊢;omega) (.inr ⟨[],rfl⟩) (by simp) hg
    rw[if_neg c2]
    by_cases c3:[47,46,46,47].isPrefixOf (47::r)
    ·rw[if_pos c3]
     obtain⟨q,hq⟩:=zKI.1 c3
     simp only[zKA,zKQ,zKX.injEq,true_and]at hq
     subst hq
     simp only[gW]
     exact ih _ l2 (by simp at hp ⊢;omega) (.inr ⟨q,rfl⟩) (by simp) hg2
    rw[if_neg c3]
    by_cases c4:(47::r)=[47,46,46]
    ·rw[if_pos c4]
     rw[c4]at hp
     simp only[gW]
     exact ih _ l2 (by simp at hp ⊢;omega) (.inr ⟨[],rfl⟩) (by simp) hg2
    rw[if_neg c4,if_neg (by simp)]
    simp only[zLl,List.drop_zero]
    have yZ:lT (r.take (pre (·==47) r)):=by
     refine⟨fun hm=>?_,fun e=>?_,fun e=>?_⟩
     ·obtain⟨k,hk,fQ⟩:=zK4 hm
      rw[zKY]at hk
      have:=gH (p:=(·==47)) (l:=r) (k:=k) (by omega) (by omega)
      rw[List.getElem_take]at fQ
      simp[fQ]at this
     ·have hp1:=congrArg List.length e
      simp only[zKY,zKD,zLf]at hp1
      have hr:=zKT (pre (·==47) r) r
      rw[e]at hr
      cases hd:r.drop (pre (·==47) r) with
      | nil=>rw[hd]at hr;exact c2 (by rw[← hr];rfl)
      | cons y t =>
        have aC:pre (·==47) r<r.length:=by
         apply Nat.lt_of_not_le;intro h;rw[zK7 h]at hd;cases hd
        have:=ga (p:=(·==47)) aC
        rw[zKH aC]at hd
        simp only[zKX.injEq]at hd
        rw[hd.1]at this
        simp only[beq_iff_eq]at this
        subst this
        rw[zKH aC,hd.1]at hr
        exact c1 (by rw[← hr];simp[zK2])
     ·have hp1:=congrArg List.length e
      simp only[zKY,zKD,zLf]at hp1
      have hr:=zKT (pre (·==47) r) r
      rw[e]at hr
      cases hd:r.drop (pre (·==47) r) with
      | nil=>rw[hd]at hr;exact c4 (by rw[← hr];rfl)
      | cons y t =>
        have aC:pre (·==47) r<r.length:=by
         apply Nat.lt_of_not_le;intro h;rw[zK7 h]at hd;cases hd
        have:=ga (p:=(·==47)) aC
        rw[zKH aC]at hd
        simp only[zKX.injEq]at hd
        rw[hd.1]at this
        simp only[beq_iff_eq]at this
        subst this
        rw[zKH aC,hd.1]at hr
        exact c3 (by rw[← hr];simp[zK2])
    have e1:(47::r).drop (1+pre (·==47) r)=r.drop (pre (·==47) r):=by rw[Nat.add_comm];rfl
    have e2:(47::r).take (1+pre (·==47) r)=47::r.take (pre (·==47) r):=by rw[Nat.add_comm];rfl
    rw[e1,e2,← Ch]
    refine ih _ _ (by simp at hp ⊢;omega) ?_ (by simp) (fun x hx=>?_)
    ·by_cases aC:pre (·==47) r<r.length
     ·right
      have:=ga (p:=(·==47)) aC
      simp only[beq_iff_eq]at this
      exact⟨_,by rw[zKH aC,this]⟩
     ·left
      exact zK7 (by omega)
    ·simp only[zKM,zKJ]at hx
     rcases hx with hx|rfl
     ·exact hg x hx
     ·exact yZ
theorem mY (r:Bytes):∃ l,aN (47::r)=fL l∧l≠[]∧∀ x∈l,lT x :=
 DK _ _ [] (zKE _) (.inr ⟨r,rfl⟩) (by simp) (by simp)
theorem nE:∀ (l:List Bytes)(f:Nat)(out:Bytes),(fL l).length≤f→(∀ x∈l,lT x)→dZ f (fL l) out=out++fL l
 | [],f,out,_,_=>by cases f <;> simp[fL,dZ]
 | x::l,f,out,hf,hg=>by
   rw[ly]at hf ⊢
   obtain⟨f,rfl⟩:∃ k,f=k+1:=⟨f - 1,by simp at hf;omega⟩
   rw[dZ,if_neg (by simp)]
   obtain⟨h1,h2,h3⟩:=hg x (by simp)
   have eh:=jV h1 l
   have seg:∀ (y:Bytes),(47:UInt8) ∉ y→y≠x→¬ (47::(y++[47])).isPrefixOf (47::(x++fL l))=true:=fun y hy bp hp=>by
    obtain⟨q,hq⟩:=zKI.1 hp
    simp only[zKA,List.append_assoc,zKX.injEq,true_and]at hq
    have hpy:=jV hy [q]
    have e:y++fL [q]=x++fL l:=by rw[← hq];simp[fL]
    rw[e,eh]at hpy
    have:=List.append_inj_left e hpy.symm
    exact bp this
   have seg2:∀ (y:Bytes),(47:UInt8) ∉ y→y≠x→(47::(x++fL l))≠47::y:=fun y hy bp he=>by
    simp only[zKX.injEq,true_and]at he
    have hpy:pre (·==47) y=y.length:=by simpa[fL] using jV hy []
    rw[← he,eh,zKF]at hpy
    have h0:fL l=[]:=zKZ.1 (by omega)
    rw[h0,zKR]at he
    exact bp he.symm
   have hd:cD (47::(x++fL l)) out=(fL l,out++47::x):=by
    unfold cD
    rw[if_neg (by simp[zK2]),if_neg (by simp[zK2]),if_neg (show ¬ ([47,46,47]:Bytes).isPrefixOf _=true from seg [46] (by decide) (fun e=>h2 e.symm)),if_neg (seg2 [46] (by decide) (fun e=>h2 e.symm)),if_neg (show ¬ ([47,46,46,47]:Bytes).isPrefixOf _=true from seg [46,46] (by decide) (fun e=>h3 e.symm)),if_neg (seg2 [46,46] (by decide) (fun e=>h3 e.symm)),if_neg (by simp)]
    simp only[zLl,List.drop_zero,eh]
    rw[Nat.add_comm]
    simp
   rw[hd]
   rw[nE l f _ (by simp at hf;omega) (fun y hy=>hg y (by simp[hy]))]
   simp
theorem rf (r:Bytes):aN (aN (47::r))=aN (47::r):=by
 obtain⟨l,h1,h2,h3⟩:=mY r
 rw[h1]
 unfold aN
 rw[nE l _ _ (zKE _) h3]
 rfl
theorem tM:∀ (l:List Bytes),l≠[]→(∀ x∈l,(47:UInt8) ∉ x)→aA 47 (fL l)=[]::l
 | [],h,_=>absurd rfl h
 | x::l,_,hg=>by
   rw[ly]
   have hx:=hg x (by simp)
   rw[aA,if_pos (by simp)]
   congr 1
   have eh:=jV hx l
   cases l with
   | nil =>
     simp only[fL,zLg,zKR]at eh ⊢
     rw[bZ (by omega)]
   | cons y l =>
     rw[cG (by rw[eh];simp[ly]),eh]
     have ih:=tM (y::l) (by simp) (fun z hz=>hg z (by simp[hz]))
     rw[ly,aA,if_pos (by simp)]at ih
     simp only[zKX.injEq,true_and]at ih
     rw[ly]
     simp[ih]
theorem vr (r:Bytes):(∃ q,aN (47::r)=47::q)∧∀ x∈aA 47 (aN (47::r)),x≠[46]∧x≠[46,46]:=by
 obtain⟨l,h1,h2,h3⟩:=mY r
 rw[h1]
 constructor
 ·cases l with
  | nil=>exact absurd rfl h2
  | cons x l=>exact⟨_,rfl⟩
 ·rw[tM l h2 (fun x hx=>(h3 x hx).1)]
  intro x hx
  simp only[zKK]at hx
  rcases hx with rfl|hx
  ·simp
  ·exact(h3 x hx).2
open Go Go.RowKit
def Can (also s:Bytes):Prop:=∃ l:List PU,s=l.flatMap PU.str∧∀ x∈l,canU also x
theorem iD (also:Bytes):Can also []:=⟨[],rfl,by simp⟩
theorem mc {also a b:Bytes}(ha:Can also a)(hb:Can also b):Can also (a++b):=by
 obtain⟨l,rfl,h1⟩:=ha
 obtain⟨m,rfl,h2⟩:=hb
 exact⟨l++m,by simp,fun x hx=>by
  rcases zKM.1 hx with h|h
  ·exact h1 x h
  ·exact h2 x h⟩
theorem qD {also:Bytes}{c:UInt8}(h:dp also c=true)(hc:c≠37):Can also [c]:=⟨[.lit c],rfl,fun x hx=>by
 obtain rfl:=zKJ.1 hx;exact⟨h,hc⟩⟩
theorem can_esc (also:Bytes){c:UInt8}(h:eX c=false):Can also (jQ c):=⟨[.hex (gY (c.toNat / 16)) (gY (c.toNat % 16))],rfl,fun x hx=>by
 obtain rfl:=zKJ.1 hx
 have hn:=c.toNat_lt
 have hv:=jo c
 exact⟨by rw[hv];exact h,by rw[hv],by rw[hv],fR _ (by omega),fR _ (by omega)⟩⟩
theorem B9 {also:Bytes}{c:UInt8}{r:Bytes}(hc:c≠37)(h:Can also (c::r)):dp also c=true∧Can also r:=by
 obtain⟨l,e,h1⟩:=h
 cases l with
 | nil=>simp at e
 | cons x l =>
   have hx:=h1 x zKy
   rw[zKw]at e
   cases x with
   | lit d =>
     simp only[PU.str,zKV,zKX.injEq]at e
     obtain⟨rfl,rfl⟩:=e
     exact⟨hx.1,l,rfl,fun y hy=>h1 y (zKx _ hy)⟩
   | hex a b =>
     simp only[PU.str,zKA,zKQ,zKX.injEq]at e
     exact absurd e.1 hc
   | bad=>exact hx.elim
theorem rP {also:Bytes}{c:UInt8}(hc:c≠37)(hx:bt c=false):∀ (l:List PU)(a b:Bytes),(∀ x∈l,canU also x)→a++c::b=l.flatMap PU.str→Can also a∧Can also (c::b)
 | [],a,b,_,e=>by simp at e
 | .lit d::l,[],b,h,e=>⟨iD _,_,e,h⟩
 | .lit d::l,y::a,b,h,e=>by
   rw[zKw]at e
   simp only[PU.str,zKV,zKA,zKX.injEq]at e
   obtain⟨rfl,e⟩:=e
   obtain⟨h1,h2⟩:=rP hc hx l a b (fun y hy=>h y (zKx _ hy)) e
   have hy:=h _ zKy
   exact⟨mc (a:=[y]) (qD hy.1 hy.2) h1,h2⟩
 | .hex u v::l,[],b,h,e=>by
   rw[zKw]at e
   simp only[PU.str,zKQ,zKA,zKX.injEq]at e
   exact absurd e.1 hc
 | .hex u v::l,[x],b,h,e=>by
   rw[zKw]at e
   simp only[PU.str,zKQ,zKA,zKX.injEq]at e
   have:=(h _ zKy).2.2.2.1
   rw[← e.2.1,hx]at this;cases this
 | .hex u v::l,[x,y],b,h,e=>by
   rw[zKw]at e
   simp only[PU.str,zKQ,zKA,zKX.injEq]at e
   have:=(h _ zKy).2.2.2.2
   rw[← e.2.2.1,hx]at this;cases this
 | .hex u v::l,x::y::z::a,b,h,e=>by
   rw[zKw]at e
   simp only[PU.str,zKQ,zKA,zKX.injEq]at e
   obtain⟨rfl,rfl,rfl,e⟩:=e
   obtain⟨h1,h2⟩:=rP hc hx l a b (fun y hy=>h y (zKx _ hy)) e
   refine⟨mc (a:=[37,y,z]) ⟨[.hex y z],rfl,fun x hx=>?_⟩ h1,h2⟩
   obtain rfl:=zKJ.1 hx
   exact h _ zKy
 | .bad::l,a,b,h,e=>(h _ zKy).elim
theorem Can.split {also a b:Bytes}{c:UInt8}(hc:c≠37)(hx:bt c=false)(h:Can also (a++c::b)):Can also a∧Can also (c::b):=by
 obtain⟨l,e,h1⟩:=h
 exact rP hc hx l a b h1 e
theorem can_bytes {also s:Bytes}(h:Can also s):∀ c∈s,dp also c=true∨c=37∨bt c=true:=by
 obtain⟨l,rfl,h1⟩:=h
 intro c hc
 obtain⟨x,hx,hcx⟩:=zLb.1 hc
 have hk:=h1 x hx
 cases x with
 | lit d =>
   obtain rfl:=zKJ.1 hcx
   exact .inl hk.1
 | hex a b =>
   simp only[PU.str,zKK,List.not_mem_nil,or_false]at hcx
   rcases hcx with rfl|rfl|rfl
   ·exact .inr (.inl rfl)
   ·exact .inr (.inr hk.2.2.2.1)
   ·exact .inr (.inr hk.2.2.2.2)
 | bad=>exact hk.elim
theorem pX {also s:Bytes}(h:(aX also s).2=0):Can also (aX also s).1:=by
 unfold aX at h ⊢
 split at h
 ·simp at h
 ·rename_i hs
  rw[if_neg hs]
  obtain⟨l',e,h1,-,-⟩:=ni also (ay s) (rV s) h
  exact⟨l',e,h1⟩
theorem can_cut {also s:Bytes}(n:Nat)(hd:s.drop n=[]∨∃ r,s.drop n=47::r)(h:Can also s):Can also (s.take n)∧Can also (s.drop n):=by
 rcases hd with hd|⟨r,hd⟩
 ·rw[hd]
  have e:s.take n=s:=zKU (by simpa using hd)
  rw[e];exact⟨h,iD _⟩
 ·rw[hd]
  have e:s=s.take n++47::r:=by rw[← hd,zKT]
  rw[e]at h
  exact h.split (by decide) (by decide)
theorem BW (s:Bytes):s.drop (pre (·==47) s)=[]∨∃ r,s.drop (pre (·==47) s)=47::r:=by
 by_cases h:pre (·==47) s<s.length
 ·right
  have:=ga h
  simp only[beq_iff_eq]at this
  exact⟨s.drop (pre (·==47) s+1),by rw[zKH h,this]⟩
 ·left;simp;omega
theorem vO (s:Bytes):cX s=[]∨∃ r,s=cX s++47::r:=by
 unfold cX
 have key:∀ t:Bytes,t.dropWhile (· != 47)=[]∨∃ a b,t=a++47::b∧t.dropWhile (· != 47)=47::b:=by
  intro t
  induction t with
  | nil=>left;rfl
  | cons x t ih =>
    by_cases hx:x=47
    ·subst hx
     right;exact⟨[],t,rfl,by simp⟩
    ·rw[List.dropWhile_cons_of_pos (by simp[hx])]
     rcases ih with ih|⟨a,b,h1,h2⟩
     ·left;exact ih
     ·right;exact⟨x::a,b,by rw[h1];rfl,h2⟩
 rcases key s.reverse with h|⟨a,b,h1,h2⟩
 ·left;rw[h];rfl
 ·right
  rw[h2]
  refine⟨a.reverse,?_⟩
  have:=congrArg List.reverse h1
  rw[List.reverse_reverse]at this
  rw[this];simp
theorem sJ {also s:Bytes}(h:Can also s):Can also (cX s):=by
 rcases vO s with e|⟨r,e⟩
 ·rw[e];exact iD _
 ·rw[e]at h;exact(h.split (by decide) (by decide)).1
theorem Ca {also p o:Bytes}(FU:dp also 47=true)(hp:Can also p)(ho:Can also o):Can also (cD p o).1∧Can also (cD p o).2:=by
 have c47:Can also [47]:=qD FU (by decide)
 have drop1:∀ {c:UInt8} {r:Bytes},c≠37→Can also (c::r)→Can also r:=fun hc h=>(B9 hc h).2
 unfold cD
 split
 ·rename_i h
  obtain⟨r,rfl⟩:=zKI.1 h
  exact⟨drop1 (by decide) (drop1 (by decide) (drop1 (by decide) hp)),ho⟩
 split
 ·rename_i h
  obtain⟨r,rfl⟩:=zKI.1 h
  exact⟨drop1 (by decide) (drop1 (by decide) hp),ho⟩
 split
 ·rename_i h
  obtain⟨r,rfl⟩:=zKI.1 h
  exact⟨drop1 (by decide) (drop1 (by decide) hp),ho⟩
 split
 ·exact⟨c47,ho⟩
 split
 ·rename_i h
  obtain⟨r,rfl⟩:=zKI.1 h
  exact⟨drop1 (by decide) (drop1 (by decide) (drop1 (by decide) hp)),sJ ho⟩
 split
 ·exact⟨c47,sJ ho⟩
 split
 ·exact⟨iD _,ho⟩
 ·have hd:p.drop (1+pre (·==47) (p.drop 1))=[]∨∃ r,p.drop (1+pre (·==47) (p.drop 1))=47::r:=by
   rw[← List.drop_drop];exact BW _
  obtain⟨h1,h2⟩:=can_cut _ hd hp
  exact⟨h2,mc ho h1⟩
theorem vw {also:Bytes}(FU:dp also 47=true):∀ (f:Nat)(p o:Bytes),Can also p→Can also o→Can also (dZ f p o)
 | 0,_,_,_,ho=>ho
 | f+1,p,o,hp,ho=>by
   rw[dZ]
   split
   ·exact ho
   ·obtain⟨h1,h2⟩:=Ca FU hp ho
    exact vw FU f _ _ h1 h2
theorem vt {also p:Bytes}(FU:dp also 47=true)(hp:Can also p):Can also (aN p):=vw FU _ _ _ hp (iD _)
theorem oP (d:UInt8):∀ (n:Nat)(s:Bytes),s.length≤n→∀ c∈s,c=d∨∃ x∈aA d s,c∈x
 | 0,s,h,c,hc=>by
   obtain rfl:=zKZ.1 (Nat.le_zero.1 h)
   simp at hc
 | n+1,s,h,c,hc=>by
   by_cases hp:pre (·==d) s<s.length
   ·rw[cG hp]
    have e:s=s.take (pre (·==d) s)++d::s.drop (pre (·==d) s+1):=by
     have:=ga hp
     simp only[beq_iff_eq]at this
     conv=>lhs;rw[← zKT (pre (·==d) s) s,zKH hp,this]
    rw[e]at hc
    rcases zKM.1 hc with h1|h1
    ·exact .inr ⟨_,zKy,h1⟩
    ·rcases zKK.1 h1 with h2|h2
     ·exact .inl h2
     ·rcases oP d n _ (by simp;omega) c h2 with h3|⟨x,h3,h4⟩
      ·exact .inl h3
      ·exact .inr ⟨x,zKx _ h3,h4⟩
   ·rw[bZ hp]
    exact .inr ⟨s,zKJ.2 rfl,hc⟩
theorem yQ {s:Bytes}(h:eZ s=true):s.all isDigit=true:=by
 unfold eZ aV at h
 split at h
 ·simp at h
 ·have:=(kL 255 s).1 (.inl (by simpa using h))
  unfold cg at this
  simp only[zKN]at this
  exact this.2
theorem xr:∀ (l:List Bytes),mq l=true→∀ x∈l,bz x=true
 | [],_,x,h=>by simp at h
 | [y],h,x,hx=>by
   simp only[mq,zKN]at h
   obtain rfl:=zKJ.1 hx
   exact h.1
 | y::z::r,h,x,hx=>by
   simp only[mq,zKN]at h
   rcases zKK.1 hx with rfl|hx
   ·exact h.1
   ·exact xr (z::r) h.2 x hx
theorem sy {s x:Bytes}(h:bB s=(x,0)):∀ c∈x,vF c=true∨c=46:=by
 have hx:=(nx h).2.2
 clear h
 unfold bB at hx
 split at hx
 ·simp at hx
 split at hx
 ·simp at hx
 split at hx
 ·simp at hx
 ·rename_i h3
  intro c hc
  rcases oP 46 _ x (zKE _) c hc with h4|⟨y,h4,h5⟩
  ·exact .inr h4
  ·left
   cases hi:ipv4 x
   ·have hn:eA x=true:=by simpa[hi] using h3
    have:=xr _ hn y h4
    unfold bz at this
    simp only[zKN]at this
    exact zKG.1 this.2 c h5
   ·unfold ipv4 at hi
    simp only[zKN]at hi
    have:=yQ (zKG.1 hi.2 y h4)
    have:=zKG.1 this c h5
    unfold vF;rw[this];simp
theorem sG (n:Nat):∀ c∈cJ n,isDigit c=true:=fun c hc=>zKG.1 ((xS n n n (zKE _) (zKE _)).2.1) c hc
theorem hostPort_bytes {s x:Bytes}{p:Int}(h:aE s=((x,p),0)):∀ c∈bf x p,vF c=true∨c=46∨c=58:=by
 obtain⟨-,h1,-,-,h2,-⟩:=cu h
 have hb:=sy h1
 unfold bf
 split
 ·intro c hc;exact(hb c hc).imp id .inl
 split
 ·omega
 ·intro c hc
  rcases zKM.1 hc with hc|hc
  ·rcases zKM.1 hc with hc|hc
   ·exact(hb c hc).imp id .inl
   ·exact .inr (.inr (zKJ.1 hc))
  ·left;unfold vF;rw[sG _ c hc];simp
theorem eM {c:UInt8}{l:Bytes}(h:c ∉ l):pre (·==c) l=l.length:=by
 induction l with
 | nil=>rfl
 | cons x l ih =>
   simp only[zKK,not_or]at h
   rw[cf,if_neg (by simpa using fun e=>h.1 e.symm),ih h.2];rfl
open Go Go.RowKit
theorem split_join (u:Uri)(h1:u.scheme=di)(h2:u.ik=true)(h3:u.dI=true)(ha:∀ c∈u.authority,c≠47∧c≠63∧c≠35)(hp:∃ r,u.path=47::r)(hpb:∀ c∈u.path,c≠63∧c≠35)(hq:(35:UInt8) ∉ u.query)(hq0:u.bl=false→u.query=[])(hf0:u.bE=false→u.fragment=[])(hl:(uriJoin u).length≤16384) :
 bd (uriJoin u)=(u,0):=by
 obtain⟨sc,au,pa,qu,fr,b1,b2,b3,b4⟩:=u
 simp only at h1 h2 h3 ha hp hpb hq hq0 hf0
 subst h1 h2 h3
 have c1:aG 35 (uriJoin ⟨di,au,pa,qu,fr,true,true,b3,b4⟩)=(di++[58]++([47,47]++au)++pa++(if b3 then [63]++qu else []),fr,b4):=by
  have hn:(35:UInt8) ∉ di++[58]++([47,47]++au)++pa++(if b3 then [63]++qu else []):=by
   simp only[zKM,not_or]
   refine⟨⟨⟨⟨by decide,by decide⟩,by decide,fun h=>(ha _ h).2.2 rfl⟩,fun h=>(hpb _ h).2 rfl⟩,?_⟩
   split
   ·simp only[zKM,not_or];exact⟨by decide,hq⟩
   ·simp
  cases b4
  ·have:uriJoin ⟨di,au,pa,qu,fr,true,true,b3,false⟩=di++[58]++([47,47]++au)++pa++(if b3 then [63]++qu else []):=by simp[uriJoin]
   rw[this,fI (eM hn),hf0 rfl]
  ·have:uriJoin ⟨di,au,pa,qu,fr,true,true,b3,true⟩=(di++[58]++([47,47]++au)++pa++(if b3 then [63]++qu else []))++35::fr:=by simp[uriJoin]
   rw[this,lr (eM hn)]
 have c2:aG 63 (di++[58]++([47,47]++au)++pa++(if b3 then [63]++qu else []))=(di++[58]++([47,47]++au)++pa,qu,b3):=by
  have hn:(63:UInt8) ∉ di++[58]++([47,47]++au)++pa:=by
   simp only[zKM,not_or]
   exact⟨⟨⟨by decide,by decide⟩,by decide,fun h=>(ha _ h).2.1 rfl⟩,fun h=>(hpb _ h).1 rfl⟩
  cases b3
  ·rw[if_neg (by simp),zKR,fI (eM hn),hq0 rfl]
  ·rw[if_pos rfl,zKV,lr (eM hn)]
 unfold bd
 rw[if_neg (by omega),c1]
 simp only
 rw[c2]
 simp only
 obtain⟨r,rfl⟩:=hp
 have e:di++[58]++([47,47]++au)++47::r=104::116::116::112::115::58::47::47::(au++47::r):=by simp[di]
 have p5:pre aq (104::116::116::112::115::58::47::47::(au++47::r))=5:=by
  simp only[cf]
  rw[if_neg (by decide),if_neg (by decide),if_neg (by decide),if_neg (by decide),if_neg (by decide),if_pos (by decide)]
 have pa:pre (·==47) (au++47::r)=au.length:=tm (eM (fun h=>(ha _ h).1 rfl)) 47 r (by decide)
 rw[e]
 unfold aF
 rw[p5]
 simp only[zLl,List.drop_zero,List.take_succ_cons,List.take_zero,List.head?_cons,if_true,aB,pa,List.take_left,List.drop_left]
 rw[if_pos (by decide)]
 rfl
def urlUri (u:fc):Uri:=⟨di,bf u.host u.port,u.path,u.query,u.fragment,true,true,u.bl,u.bE⟩
theorem urlText_join (u:fc):cB u=uriJoin (urlUri u):=by
 unfold cB uriJoin urlUri eQ
 cases u.bl <;> simp[di]
structure iW (u:fc):Prop where
 host:aE (bf u.host u.port)=((u.host,u.port),0)
 path:Can cQ u.path
 DX:∃ r,u.path=47::r
 dots:aN u.path=u.path
 query:Can cP u.query
 frag:Can cP u.fragment
 noq:u.bl=false→u.query=[]
 nof:u.bE=false→u.fragment=[]
 len:(cB u).length≤4096
theorem host_no {x:Bytes}{p:Int}(h:aE (bf x p)=((x,p),0)):∀ c∈bf x p,c≠47∧c≠63∧c≠35∧c≠64:=by
 intro c hc
 have h1:=hostPort_bytes h c hc
 have:=dy (p:=fun c=>!(vF c||c==46||c==58)||(c != 47&&c != 63&&c != 35&&c != 64)) (by decide +kernel) c
 have h2:(vF c||c==46||c==58)=true:=by rcases h1 with h|rfl|rfl <;> simp[*]
 rw[h2]at this
 simpa[and_assoc] using this
theorem path_no {s:Bytes}(h:Can cQ s):∀ c∈s,c≠63∧c≠35:=by
 intro c hc
 have h1:=can_bytes h c hc
 have:=dy (p:=fun c=>!(dp cQ c||c==37||bt c)||(c != 63&&c != 35)) (by decide +kernel) c
 have h2:(dp cQ c||c==37||bt c)=true:=by rcases h1 with h|rfl|h <;> simp[*]
 rw[h2]at this
 simpa using this
theorem query_no {s:Bytes}(h:Can cP s):(35:UInt8) ∉ s:=by
 intro hc
 have:=can_bytes h _ hc
 revert this;decide
theorem iW.split {u:fc}(h:iW u):bd (cB u)=(urlUri u,0):=by
 rw[urlText_join]
 refine split_join (urlUri u) rfl rfl rfl (fun c hc=>?_) h.DX (path_no h.path) (query_no h.query) h.noq h.nof (by rw[← urlText_join];have:=h.len;omega)
 have:=host_no h.host c hc
 exact⟨this.1,this.2.1,this.2.2.1⟩
theorem mK (u:fc):u.path.length≤(cB u).length∧(u.bl=true→u.query.length≤(cB u).length)∧(u.bE=true→u.fragment.length≤(cB u).length):=by
 unfold cB eQ
 refine⟨?_,fun h=>?_,fun h=>?_⟩
 ·split <;> split <;> (simp;omega)
 ·rw[if_pos h];split <;> (simp;omega)
 ·rw[if_pos h];split <;> (simp;omega)
theorem E3 {h:Bytes × Int}{p q f:Bytes}{hq hf:Bool}{u:fc}(k:tF h p q f hq hf=(u,0)):u=⟨h.1,h.2,if aN p=[] then [47] else aN p,q,f,hq,hf⟩∧(cB u).length≤4096:=by
 unfold tF at k
 generalize (if aN p=[] then [47] else aN p)=d at k ⊢
 split at k
 ·simp at k
 ·obtain rfl:=(zK5.inj k).1
  exact⟨rfl,by omega⟩
theorem tT:aN [47]=[47]:=by decide
theorem E7 (s:Bytes)(h:(bd s).2=0):((bd s).1.bl=false→(bd s).1.query=[])∧((bd s).1.bE=false→(bd s).1.fragment=[])∧((bd s).1.dI=true→(bd s).1.path=[]∨∃ r,(bd s).1.path=47::r):=by
 unfold bd at h ⊢
 split
 ·rename_i h1;rw[if_pos h1]at h;simp at h
 rename_i h1
 rw[if_neg h1]at h
 have q1:=zO 63 (aG 35 s).1
 have q2:=zO 35 s
 have ha:∀ t:Bytes,(aB t).2.1=true→(aB t).2.2=[]∨∃ r,(aB t).2.2=47::r:=by
  intro t
  unfold aB
  split
  ·intro _;exact BW _
  ·intro h;simp at h
 unfold aF at h ⊢
 split
 ·rename_i h2
  rw[if_pos h2]at h
  split
  ·exact⟨q1,q2,ha _⟩
  ·rename_i h3;rw[if_neg h3]at h;simp at h
 ·exact⟨q1,q2,ha _⟩
theorem ma {s:Bytes}{u:fc}(h:bG s=(u,0)):iW u:=by
 unfold bG at h
 split at h
 ·simp at h
 split at h
 ·rename_i h1 h2;exact absurd (zK5.inj h).2 h2
 rename_i h1 h2
 have h2:(bd s).2=0:=by simpa using h2
 obtain⟨q1,q2,q3⟩:=E7 s h2
 generalize (bd s).1=r at h q1 q2 q3
 unfold wP at h
 split at h
 ·simp at h
 split at h
 ·simp at h
 split at h
 ·simp at h
 rename_i h3 h4 h5
 have Iy:=q3 (by simpa using h4)
 unfold pA at h
 split at h
 ·rename_i h6;exact absurd (zK5.inj h).2 h6
 split at h
 ·rename_i h6;exact absurd (zK5.inj h).2 h6
 split at h
 ·rename_i h6;exact absurd (zK5.inj h).2 h6
 split at h
 ·rename_i h6;exact absurd (zK5.inj h).2 h6
 rename_i e1 e2 e3 e4
 obtain⟨h,hlen⟩:=E3 h
 have hp:=pX (also:=cQ) (s:=r.path) (by simpa using e2)
 have hq:=pX (also:=cP) (s:=r.query) (by simpa using e3)
 have hf:=pX (also:=cP) (s:=r.fragment) (by simpa using e4)
 have hd:aN (aX cQ r.path).1=[]∨∃ q,aN (aX cQ r.path).1=47::q∧aN (47::q)=47::q:=by
  have hh:(aX cQ r.path).1=[]∨∃ q,(aX cQ r.path).1=47::q:=by
   rcases Iy with h|⟨q,h⟩
   ·left;rw[h];rfl
   ·right
    have e2':(aX cQ r.path).2=0:=by simpa using e2
    rw[h]at e2' ⊢
    unfold aX at e2' ⊢
    split
    ·rename_i hx;rw[if_pos hx]at e2';simp at e2'
    rename_i hx
    rw[if_neg hx,df (by decide),bD,if_pos (by decide)]at e2'
    rw[df (by decide),bD,if_pos (by decide)]
    unfold comb at e2' ⊢
    split
    ·exact⟨_,rfl⟩
    ·rename_i hy;rw[if_neg hy]at e2';exact absurd e2' hy
  rcases hh with h|⟨q,h⟩
  ·left;rw[h];rfl
  ·right
   rw[h]
   obtain⟨⟨q',hq'⟩,-⟩:=vr q
   exact⟨q',hq',by have:=rf q;rw[hq']at this;exact this⟩
 have hhp:aE r.authority=(((aE r.authority).1.1,(aE r.authority).1.2),0):=by
  have:(aE r.authority).2=0:=by simpa using e1
  rw[← this]
 subst h
 refine⟨(cu hhp).1,?_,?_,?_,hq,hf,fun k=>by simp only at k ⊢;rw[q1 k];rfl,fun k=>by simp only at k ⊢;rw[q2 k];rfl,by omega⟩
 ·simp only
  rcases hd with hd|⟨q,hd,-⟩
  ·rw[if_pos hd];exact qD (by decide) (by decide)
  ·rw[if_neg (by rw[hd];simp)];exact vt (by decide) hp
 ·simp only
  rcases hd with hd|⟨q,hd,-⟩
  ·rw[if_pos hd];exact⟨_,rfl⟩
  ·rw[if_neg (by rw[hd];simp)];exact⟨_,hd⟩
 ·simp only
  rcases hd with hd|⟨q,hd,oe⟩
  ·rw[if_pos hd];exact tT
  ·rw[if_neg (by rw[hd];simp),hd];exact oe
def fc.bare (u:fc):fc:={ u with fragment:=[],bE:=false }
theorem iW.bare {u:fc}(h:iW u):iW u.bare :=
 ⟨h.host,h.path,h.DX,h.dots,h.query,iD _,h.noq,fun _=>rfl,by
  have:=h.len
  unfold cB at this ⊢
  unfold fc.bare eQ at *
  simp at this ⊢
  omega⟩
theorem qR {u:fc}(h:fO u=true):iW u:=ma (of_decide_eq_true h)
open Go Go.RowKit
structure nN where
 user:Bytes
 host:Bytes
 deriving DecidableEq
def nN.none:nN:=⟨[],[]⟩
def nv:Bytes:=[33,36,38,39,40,41,42,43,44,59,61]
def mz:Bytes:=[97,99,99,116,58]
def vB (n:Bytes × Int)(h:Bytes × Int):nN × Int :=
 if n.2≠0∨n.1=[]∨n.1.head? = some 37 then(nN.none,80)
 else if h.2≠0 then(nN.none,h.2)
 else(⟨n.1,h.1⟩,0)
def qK (s:Bytes):nN × Int :=
 if (aG 64 s).2.2=false then(nN.none,6)
 else vB (aX nv (aG 64 s).1) (bB (aG 64 s).2.1)
def bM (s:Bytes):nN × Int :=
 if 4096<s.length then(nN.none,5)
 else if s.length<5∨lower (s.take 5)≠mz then(nN.none,60)
 else qK (s.drop 5)
def iL (a:nN):Bytes:=mz++a.user++[64]++a.host
theorem xU {c:UInt8}{s:Bytes}(h:(aG c s).2.2=true):s.length=(aG c s).1.length+1+(aG c s).2.1.length:=by
 have:=congrArg List.length (uncut c s)
 rw[if_pos h]at this
 simp at this;omega
structure CanAcct (a:nN):Prop where
 user:Can nv a.user
 ne:a.user≠[]
 no:a.user.head? ≠ some 37
 host:bB a.host=(a.host,0)
theorem Ja {s:Bytes}{a:nN}(h:bM s=(a,0)):CanAcct a∧(iL a).length≤s.length∧s.length≤4096:=by
 unfold bM at h
 split at h
 ·simp at h
 split at h
 ·simp at h
 rename_i h1 h2
 unfold qK at h
 split at h
 ·simp at h
 rename_i h3
 have hlen:=xU (c:=64) (s:=s.drop 5) (by simpa using h3)
 rw[List.length_drop]at hlen
 unfold vB at h
 split at h
 ·simp at h
 rename_i h4
 simp only[not_or]at h4
 split at h
 ·rename_i h5;exact absurd (zK5.inj h).2 h5
 rename_i h5
 simp only[zK5.injEq,and_true]at h
 subst h
 have e:bB (aG 64 (s.drop 5)).2.1=((bB (aG 64 (s.drop 5)).2.1).1,0):=by
  have:(bB (aG 64 (s.drop 5)).2.1).2=0:=by simpa using h5
  rw[← this]
 obtain⟨k1,k2,k3⟩:=nx e
 refine⟨⟨pX (by simpa using h4.1),h4.2.1,h4.2.2,k3⟩,?_,by omega⟩
 have:=dF nv (aG 64 (s.drop 5)).1
 have hl:(bB (aG 64 (s.drop 5)).2.1).1.length=(aG 64 (s.drop 5)).2.1.length:=by rw[k1,fE]
 simp only[iL,mz,zKF,zKD,zLf]
 simp only[not_or]at h2
 omega
open Go Go.RowKit
structure fN where
 method:Bytes
 id:Bytes
 deriving DecidableEq
def fN.none:fN:=⟨[],[]⟩
structure DidUrl where
 did:fN
 path:Bytes
 query:Bytes
 fragment:Bytes
 bl:Bool
 bE:Bool
 deriving DecidableEq
def DidUrl.none:DidUrl:=⟨fN.none,[],[],[],false,false⟩
def bW (c:UInt8):Bool:=isAlpha c||isDigit c||([46,45,95]:Bytes).contains c
def fb (c:UInt8):Bool:=isDigit c||decide (97≤c.toNat∧c.toNat≤122)
def dH (s:Bytes):Bool:=!s.isEmpty&&s.all fb
def gS (c:UInt8):Bytes:=if bW c then [c] else jQ c
def aK (s:Bytes):Bytes:=s.flatMap gS
def mE:PU→Bytes
 | .lit c=>[c]
 | .hex a b=>gS (unhex a b)
 | .bad=>[]
def ns:PU→Bool
 | .lit c=>bW c||c==58
 | _=>true
def cA (s:Bytes):Bytes × Int :=
 if PU.bad∈ay s then([],2) else if (ay s).all ns=false then([],1) else((ay s).flatMap mE,0)
def jH (m:Bytes)(c:Bytes × Int):fN × Int :=
 if c.2≠0 then(fN.none,c.2) else if c.1=[]∨c.1.getLast? = some 58 then(fN.none,3) else(⟨m,c.1⟩,0)
def lW (s:Bytes):fN × Int :=
 if (aG 58 s).2.2=false then(fN.none,6)
 else if dH (aG 58 s).1=false then(fN.none,100)
 else jH (aG 58 s).1 (cA (aG 58 s).2.1)
def jR:Bytes:=[100,105,100,58]
def aY (s:Bytes):fN × Int :=
 if 4096<s.length then(fN.none,5)
 else if jR.isPrefixOf s=false then(fN.none,60)
 else lW (s.drop 4)
def bA (d:fN):Bytes:=jR++d.method++[58]++d.id
theorem qS:∀ (l:List PU),(∀ x∈l,(∀ c,x=.lit c→c≠37)∧(∀ a b,x=.hex a b→bt a=true∧bt b=true)∧x≠.bad)→ay (l.flatMap PU.str)=l
 | [],_=>rfl
 | .lit c::r,h=>by
   have h1:=(h _ zKy).1 c rfl
   rw[zKw,PU.str,zKV,df h1,qS r (fun x hx=>h x (zKx _ hx))]
 | .hex a b::r,h=>by
   have h1:=(h _ zKy).2.1 a b rfl
   rw[zKw,PU.str]
   simp only[zKA,zKQ]
   rw[fC h1.1 h1.2,qS r (fun x hx=>h x (zKx _ hx))]
 | .bad::r,h=>((h _ zKy).2.2 rfl).elim
theorem lE:∀ (f:Nat)(s:Bytes),s.length≤f→PU.bad ∉ bH f s→(bH f s).flatMap PU.str=s
 | 0,s,h,_=>by
   obtain rfl:=zKZ.1 (Nat.le_zero.1 h)
   rfl
 | f+1,[],_,_=>rfl
 | f+1,c::r,h,hb=>by
   rw[bH]at hb ⊢
   simp only[zKD]at h
   split
   ·rename_i hc
    rw[if_pos hc]at hb
    cases hp:cZ r with
    | none=>rw[hp]at hb;simp at hb
    | some x =>
      obtain⟨a,b,r'⟩:=x
      rw[hp]at hb
      obtain⟨rfl,-,-⟩:=cS hp
      simp only[zKK,reduceCtorEq,false_or]at hb
      simp only[zKD]at h
      simp only[zKw,PU.str,lE f r' (by omega) hb]
      rw[hc];rfl
   ·rename_i hc
    rw[if_neg hc]at hb
    simp only[zKK,reduceCtorEq,false_or]at hb
    simp only[zKw,PU.str,lE f r (by omega) hb]
    rfl
theorem jv {s:Bytes}(h:PU.bad ∉ ay s):(ay s).flatMap PU.str=s:=lE _ s (zKE _) h
theorem mO:∀ (f:Nat)(s:Bytes)(a b:UInt8),PU.hex a b∈bH f s→bt a=true∧bt b=true
 | 0,_,_,_,h=>by simp[bH]at h
 | _+1,[],_,_,h=>by simp[bH]at h
 | f+1,d::r,a,b,h=>by
   rw[bH]at h
   split at h
   ·cases hp:cZ r with
    | none=>rw[hp]at h;simp at h
    | some x =>
      obtain⟨a',b',r'⟩:=x
      rw[hp]at h
      obtain⟨-,h2,h3⟩:=cS hp
      simp only[zKK,PU.hex.injEq]at h
      rcases h with⟨rfl,rfl⟩|h
      ·exact⟨h2,h3⟩
      ·exact mO f _ a b h
   ·simp only[zKK,reduceCtorEq,false_or]at h
    exact mO f _ a b h
theorem mL {s:Bytes}{a b:UInt8}(h:PU.hex a b∈ay s):bt a=true∧bt b=true:=mO _ s a b h
theorem eJ:∀ (n:Nat)(a b:Bytes),a.length≤n→PU.bad ∉ ay a→ay (a++58::b)=ay a++.lit 58::ay b
 | 0,a,b,h,_=>by
   obtain rfl:=zKZ.1 (Nat.le_zero.1 h)
   rw[zKQ,df (by decide)];rfl
 | n+1,[],b,_,_=>by rw[zKQ,df (by decide)];rfl
 | n+1,c::a,b,h,hb=>by
   simp only[zKD]at h
   by_cases hc:c=37
   ·subst hc
    cases hp:cZ a with
    | none=>rw[qU hp]at hb;simp at hb
    | some x =>
      obtain⟨u,v,r⟩:=x
      obtain⟨rfl,h1,h2⟩:=cS hp
      rw[fC h1 h2]at hb ⊢
      simp only[zKD]at h
      simp only[zKA]
      rw[fC h1 h2,eJ n r b (by omega) (by simpa using hb)]
   ·rw[df hc]at hb ⊢
    rw[zKA,df hc,eJ n a b (by omega) (by simpa using hb)]
    rfl
def canD:PU→Prop
 | .lit c=>(bW c||c==58)=true
 | .hex a b=>bW (unhex a b)=false∧a=gY ((unhex a b).toNat / 16)∧b=gY ((unhex a b).toNat % 16)∧bt a=true∧bt b=true
 | .bad=>False
def qL (s:Bytes):Prop:=∃ l:List PU,s=l.flatMap PU.str∧∀ x∈l,canD x
theorem rm {c:UInt8}(h:(bW c||c==58)=true):c≠37∧c≠47∧c≠63∧c≠35:=by
 have:=dy (p:=fun c=>!(bW c||c==58)||(c != 37&&c != 47&&c != 63&&c != 35)) (by decide +kernel) c
 rw[h]at this
 simpa[and_assoc] using this
theorem Ii {c:UInt8}(h:bt c=true):c≠37∧c≠47∧c≠63∧c≠35∧c≠58:=by
 have:=dy (p:=fun c=>!(bt c)||(c != 37&&c != 47&&c != 63&&c != 35&&c != 58)) (by decide +kernel) c
 rw[h]at this
 simpa[and_assoc] using this
theorem DO {l:List PU}(h:∀ x∈l,canD x):ay (l.flatMap PU.str)=l :=
 qS l fun x hx=>by
  have:=h x hx
  cases x with
  | lit c=>exact⟨fun d e=>by cases e;exact(rm this).1,by simp,by simp⟩
  | hex a b=>exact⟨by simp,fun u v e=>by cases e;exact this.2.2.2,by simp⟩
  | bad=>exact this.elim
theorem DP {s:Bytes}(h:qL s):cA s=(s,0):=by
 obtain⟨l,rfl,hl⟩:=h
 unfold cA
 rw[DO hl,if_neg (fun k=>absurd (hl _ k) (by simp[canD])),if_neg ?_]
 ·congr 1
  have:∀ m:List PU,(∀ x∈m,canD x)→m.flatMap mE=m.flatMap PU.str:=by
   intro m
   induction m with
   | nil=>intro _;rfl
   | cons x m ih =>
     intro hm
     rw[zKw,zKw,ih (fun y hy=>hm y (zKx _ hy))]
     congr 1
     have:=hm x zKy
     cases x with
     | lit c=>rfl
     | hex a b =>
       simp only[mE,gS,PU.str]
       rw[if_neg (by simp[this.1])]
       unfold jQ
       rw[← this.2.1,← this.2.2.1]
     | bad=>exact this.elim
  exact this l hl
 ·simp only[Bool.not_eq_false]
  refine zKG.2 fun x hx=>?_
  have:=hl x hx
  cases x with
  | lit c=>exact this
  | hex a b=>rfl
  | bad=>rfl
theorem F7 {s x:Bytes}(h:cA s=(x,0)):qL x∧x.length≤s.length∧(∀ c∈s,c≠47∧c≠63∧c≠35):=by
 unfold cA at h
 split at h
 ·simp at h
 rename_i hb
 split at h
 ·simp at h
 rename_i ha
 simp only[zK5.injEq,and_true]at h
 subst h
 have ha:(ay s).all ns=true:=by simpa using ha
 have hs:=jv hb
 have hlit:∀ c,PU.lit c∈ay s→(bW c||c==58)=true:=fun c hc=>zKG.1 ha _ hc
 have hhex:=fun a b=>mL (s:=s) (a:=a) (b:=b)
 generalize ay s=l at *
 subst hs
 have key:∀ m:List PU,(∀ c,PU.lit c∈m→(bW c||c==58)=true)→(∀ a b,PU.hex a b∈m→bt a=true∧bt b=true)→PU.bad ∉ m →
  qL (m.flatMap mE)∧(m.flatMap mE).length≤(m.flatMap PU.str).length∧(∀ c∈m.flatMap PU.str,c≠47∧c≠63∧c≠35):=by
  intro m
  induction m with
  | nil=>intro _ _ _;exact⟨⟨[],rfl,by simp⟩,by simp,by simp⟩
  | cons x m ih =>
    intro h1 h2 h3
    obtain⟨⟨l',e',k'⟩,i2,i3⟩:=ih (fun c hc=>h1 c (zKx _ hc)) (fun a b hc=>h2 a b (zKx _ hc)) (fun hc=>h3 (zKx _ hc))
    simp only[zKw,zKF]
    cases x with
    | lit c =>
      have hc:=h1 c zKy
      refine⟨⟨.lit c::l',by rw[e'];rfl,fun y hy=>?_⟩,by rw[show (mE (.lit c)).length=1 from rfl,show (PU.str (.lit c)).length=1 from rfl];omega,fun d hd=>?_⟩
      ·rcases zKK.1 hy with rfl|hy
       ·exact hc
       ·exact k' y hy
      ·rcases zKM.1 hd with hd|hd
       ·obtain rfl:=zKJ.1 hd;exact(rm hc).2
       ·exact i3 d hd
    | hex a b =>
      obtain⟨ha',hb'⟩:=h2 a b zKy
      have rF:∀ d∈PU.str (.hex a b)++m.flatMap PU.str,d≠47∧d≠63∧d≠35:=by
       intro d hd
       rcases zKM.1 hd with hd|hd
       ·simp only[PU.str,zKK,List.not_mem_nil,or_false]at hd
        rcases hd with rfl|rfl|rfl
        ·decide
        ·have:=Ii ha';exact⟨this.2.1,this.2.2.1,this.2.2.2.1⟩
        ·have:=Ii hb';exact⟨this.2.1,this.2.2.1,this.2.2.2.1⟩
       ·exact i3 d hd
      have q1:(mE (.hex a b)).length≤3:=by simp only[mE,gS];split <;> simp[jQ]
      have q2:(PU.str (.hex a b)).length=3:=rfl
      have q3:(if bW (unhex a b)=true then 1 else 3)=(mE (.hex a b)).length:=by simp only[mE,gS];split <;> simp[jQ]
      by_cases hp:bW (unhex a b)=true
      ·refine⟨⟨.lit (unhex a b)::l',by rw[e',zKw];simp only[mE,gS,hp,PU.str,if_true],fun y hy=>?_⟩,by omega,rF⟩
       rcases zKK.1 hy with rfl|hy
       ·show (bW _||_)=true;rw[hp];rfl
       ·exact k' y hy
      ·have hp:bW (unhex a b)=false:=by simpa using hp
       have hn:=(unhex a b).toNat_lt
       have hv:=jo (unhex a b)
       refine⟨⟨.hex (gY ((unhex a b).toNat / 16)) (gY ((unhex a b).toNat % 16))::l',by rw[e',zKw];simp only[mE,gS,hp,PU.str,jQ,Bool.false_eq_true,if_false],fun y hy=>?_⟩,by omega,rF⟩
       rcases zKK.1 hy with rfl|hy
       ·exact⟨by rw[hv];exact hp,by rw[hv],by rw[hv],fR _ (by omega),fR _ (by omega)⟩
       ·exact k' y hy
    | bad=>exact(h3 zKy).elim
 exact key l hlit hhex hb
structure zw (d:fN):Prop where
 method:dH d.method=true
 id:qL d.id
 ne:d.id≠[]
 last:d.id.getLast? ≠ some 58
theorem xt {s:Bytes}(h:dH s=true):∀ c∈s,c≠47∧c≠63∧c≠35∧c≠58:=by
 intro c hc
 unfold dH at h
 simp only[zKN]at h
 have h1:=zKG.1 h.2 c hc
 have:=dy (p:=fun c=>!(fb c)||(c != 47&&c != 63&&c != 35&&c != 58)) (by decide +kernel) c
 rw[h1]at this
 simpa[and_assoc] using this
theorem EM {s:Bytes}{d:fN}(h:aY s=(d,0)):zw d∧(bA d).length≤s.length∧s.length≤4096∧∀ c∈s,c≠47∧c≠63∧c≠35:=by
 unfold aY at h
 split at h
 ·simp at h
 split at h
 ·simp at h
 rename_i h1 h2
 have h2:jR.isPrefixOf s=true:=by simpa using h2
 obtain⟨r,rfl⟩:=zKI.1 h2
 have e4:(jR++r).drop 4=r:=rfl
 rw[e4]at h
 unfold lW at h
 split at h
 ·simp at h
 split at h
 ·simp at h
 rename_i h3 h4
 have h3:(aG 58 r).2.2=true:=by simpa using h3
 have h4:dH (aG 58 r).1=true:=by simpa using h4
 unfold jH at h
 split at h
 ·rename_i h5;exact absurd (zK5.inj h).2 h5
 split at h
 ·simp at h
 rename_i h5 h6
 simp only[not_or]at h6
 simp only[zK5.injEq,and_true]at h
 subst h
 have e:cA (aG 58 r).2.1=((cA (aG 58 r).2.1).1,0):=by
  have:(cA (aG 58 r).2.1).2=0:=by simpa using h5
  rw[← this]
 obtain⟨k1,k2,k3⟩:=F7 e
 have hlen:=xU h3
 refine⟨⟨h4,k1,h6.1,h6.2⟩,?_,by omega,?_⟩
 ·simp only[bA,zKF,zKD,zLf];omega
 ·have hu:=uncut 58 r
  rw[if_pos h3]at hu
  intro c hc
  rcases zKM.1 hc with hc|hc
  ·have:∀ c∈jR,c≠47∧c≠63∧c≠35:=by decide
   exact this c hc
  ·rw[hu]at hc
   rcases zKM.1 hc with hc|hc
   ·have:=xt h4 c hc;exact⟨this.1,this.2.1,this.2.2.1⟩
   ·rcases zKM.1 hc with hc|hc
    ·obtain rfl:=zKJ.1 hc;decide
    ·exact k3 c hc
theorem zi (s:Bytes)(h:(aY s).2≠0):(aY s).1=fN.none:=by
 unfold aY at h ⊢
 split
 ·rfl
 rename_i h1
 rw[if_neg h1]at h
 split
 ·rfl
 rename_i h2
 rw[if_neg h2]at h
 unfold lW at h ⊢
 split
 ·rfl
 rename_i h3
 rw[if_neg h3]at h
 split
 ·rfl
 rename_i h4
 rw[if_neg h4]at h
 unfold jH at h ⊢
 split
 ·rfl
 rename_i h5
 rw[if_neg h5]at h
 split
 ·rfl
 rename_i h6
 rw[if_neg h6]at h
 exact absurd rfl h
theorem BY {d:fN}(h:zw d)(hl:(bA d).length≤4096):aY (bA d)=(d,0):=by
 unfold aY
 have e1:jR.isPrefixOf (bA d)=true:=rfl
 have e2:(bA d).drop 4=d.method++58::d.id:=by show d.method++[58]++d.id=_;simp
 rw[if_neg (by omega),if_neg (by rw[e1];simp),e2]
 unfold lW
 rw[lr (eM (fun k=>(xt h.method _ k).2.2.2 rfl)),if_neg (by simp),if_neg (by simp[h.method])]
 simp only
 rw[DP h.id]
 unfold jH
 rw[if_neg (by simp),if_neg (by simp only[not_or];exact⟨h.ne,h.last⟩)]
open Go Go.RowKit
def mW (c:UInt8)(new:Bytes)(d:UInt8):Bytes:=if d=c then new else [d]
theorem As {c:UInt8}{new s:Bytes}(h:c ∉ s):s.flatMap (mW c new)=s:=by
 induction s with
 | nil=>rfl
 | cons d s ih =>
   simp only[zKK,not_or]at h
   rw[zKw,ih h.2]
   unfold mW
   rw[if_neg (fun e=>h.1 e.symm)];rfl
theorem yq (c:UInt8)(new:Bytes):∀ (k:Nat)(s:Bytes),s.count c=k→Lib.replaceK [c] new k s=s.flatMap (mW c new):=by
 intro k
 induction k with
 | zero =>
   intro s h
   rw[As (fun hm=>by have:=List.count_pos_iff.2 hm;omega)];rfl
 | succ k ih =>
   intro s h
   by_cases hp:pre (·==c) s<s.length
   ·have hk:Lib.index s [c]=(pre (·==c) s:Nat):=by rw[index_one,cY,if_pos hp]
    rw[Lib.replaceK_hit [c] new k s _ hk]
    rw[iv hp]at h
    have e:s=s.take (pre (·==c) s)++c::s.drop (pre (·==c) s+1):=by
     have:=ga hp
     simp only[beq_iff_eq]at this
     conv=>lhs;rw[← zKT (pre (·==c) s) s,zKH hp,this]
    have hn:c ∉ s.take (pre (·==c) s):=by
     intro hm
     have h1:=tW (·==c) s
     obtain⟨j,hj,e⟩:=zK4 hm
     have:=gH (p:=(·==c)) (l:=s.take (pre (·==c) s)) (k:=j) (by omega) hj
     rw[e]at this
     simp at this
    rw[show [c].length=1 from rfl,ih _ (by omega)]
    conv=>rhs;rw[e,zK0,zKw,As hn]
    simp[mW]
   ·rw[lZ hp]at h;omega
theorem tR (c:UInt8)(new s:Bytes)(bp:([c]==new)=false):Lib.replaceAll s [c] new=s.flatMap (mW c new):=by
 unfold Lib.replaceAll Lib.replace Lib.replaceNum
 rw[bp,if_neg (by simp),if_pos (.inl (by omega)),Lib.count_one,yq c new _ s rfl]
def nU:PU→Bytes
 | .lit c=>[c]
 | .hex a b=>kM (unhex a b)
 | .bad=>[]
def lN (also:Bytes):PU→Bool
 | .lit c=>dp also c
 | _=>true
theorem nj (also:Bytes):∀ l:List PU,PU.bad ∉ l→bD also l=if l.all (lN also) then(l.flatMap nU,0) else([],1)
 | [],_=>rfl
 | .bad::r,h=>by simp at h
 | .lit c::r,h=>by
   rw[bD,nj also r (by simpa using h),zLj]
   cases hk:dp also c
   ·simp[lN,hk]
   ·cases hr:r.all (lN also) <;> simp[lN,hk,comb,nU]
 | .hex a b::r,h=>by
   rw[bD,nj also r (by simpa using h),zLj]
   cases hr:r.all (lN also) <;> simp[lN,comb,nU]
def eT (s:Bytes):Bytes × Int :=
 if (ak s).2≠0 then([],(ak s).2)
 else((aX [58] s).1.flatMap (mW 126 [37,55,69]),if (aX [58] s).2=0∧(126:UInt8)∈s then 1 else(aX [58] s).2)
theorem GX (v:UInt8):(kM v).flatMap (mW 126 [37,55,69])=gS v:=by
 have:=dy (p:=fun v=>(kM v).flatMap (mW 126 [37,55,69])==gS v) (by decide +kernel) v
 simpa using this
theorem Eg {s:Bytes}{c:UInt8}(hb:PU.bad ∉ ay s)(hc:c≠37)(hx:bt c=false):c∈s↔PU.lit c∈ay s:=by
 have hs:=jv hb
 constructor
 ·intro h
  rw[← hs]at h
  obtain⟨u,hu,h⟩:=zLb.1 h
  cases u with
  | lit d=>obtain rfl:=zKJ.1 h;exact hu
  | hex a b =>
    have:=mL hu
    simp only[PU.str,zKK,List.not_mem_nil,or_false]at h
    rcases h with rfl|rfl|rfl
    ·exact absurd rfl hc
    ·rw[this.1]at hx;cases hx
    ·rw[this.2]at hx;cases hx
  | bad=>simp[PU.str]at h
 ·intro h
  rw[← hs]
  exact zLb.2 ⟨_,h,zKJ.2 rfl⟩
theorem yw (s:Bytes)(hl:s.length≤16384):(eT s).2=(cA s).2∧((cA s).2=0→(eT s).1=(cA s).1):=by
 have d1:ak s=if PU.bad∈ay s then([],2) else((ay s).map PU.val,0):=if_neg (by omega)
 have d2:aX [58] s=bD [58] (ay s):=by unfold aX;first|rfl|exact if_neg (by omega)
 unfold eT cA
 rw[d1,d2]
 clear d1 d2
 by_cases hb:PU.bad∈ay s
 ·rw[if_pos hb,if_pos hb];simp
 ·rw[if_neg hb,if_neg hb,nj [58] _ hb]
  simp only[ne_eq,not_true,if_false]
  have key:∀ c:UInt8,(bW c||c==58)=(dp [58] c&&c != 126):=fun c=>by
   have:=dy (p:=fun c=>(bW c||c==58)==(dp [58] c&&c != 126)) (by decide +kernel) c
   simpa using this
  have h126:=Eg (s:=s) (c:=126) hb (by decide) (by decide)
  generalize ay s=l at *
  by_cases ha:l.all (lN [58])=true
  ·rw[if_pos ha]
   by_cases hm:PU.lit 126∈l
   ·have iT:l.all ns=false:=by
     rw[← Bool.not_eq_true]
     intro h
     have:=zKG.1 h _ hm
     revert this;decide
    rw[if_pos iT,if_pos ⟨rfl,h126.2 hm⟩]
    exact⟨rfl,fun h=>by simp at h⟩
   ·have hyes:¬ l.all ns=false:=by
     rw[Bool.not_eq_false]
     refine zKG.2 fun u hu=>?_
     have:=zKG.1 ha u hu
     cases u with
     | lit c =>
       show (bW c||c==58)=true
       rw[key]
       have h1:dp [58] c=true:=this
       rw[h1,Bool.true_and,bne_iff_ne]
       rintro rfl;exact hm hu
     | hex a b=>rfl
     | bad=>rfl
    rw[if_neg hyes,if_neg (fun k=>hm (h126.1 k.2))]
    refine⟨rfl,fun _=>?_⟩
    show (l.flatMap nU).flatMap (mW 126 [37,55,69])=l.flatMap mE
    clear hyes h126 ha
    induction l with
    | nil=>rfl
    | cons u l ih =>
      rw[zKw,zK0,zKw,ih (fun k=>hb (zKx _ k)) (fun k=>hm (zKx _ k)) rfl]
      congr 1
      cases u with
      | lit c =>
        have:c≠126:=by rintro rfl;exact hm zKy
        show ([c]:Bytes).flatMap (mW 126 [37,55,69])=[c]
        simp[mW,this]
      | hex a b=>exact GX _
      | bad=>rfl
  ·rw[if_neg ha]
   have iT:l.all ns=false:=by
    rw[← Bool.not_eq_true]
    intro h
    refine ha (zKG.2 fun u hu=>?_)
    have:=zKG.1 h u hu
    cases u with
    | lit c =>
      have h1:(bW c||c==58)=true:=this
      rw[key,zKN]at h1
      exact h1.1
    | hex a b=>rfl
    | bad=>rfl
   rw[if_pos iT,if_neg (by simp)]
   exact⟨rfl,fun h=>by simp at h⟩
theorem kq:∀ (n:Nat)(a b:Bytes),a.length≤n→PU.bad∈ay a→PU.bad∈ay (a++58::b)
 | _,[],b,_,h=>by simp[dU]at h
 | 0,c::a,b,h,_=>by simp at h
 | n+1,c::a,b,h,hb=>by
   simp only[zKD]at h
   by_cases hc:c=37
   ·subst hc
    cases hp:cZ a with
    | none =>
      have:cZ (a++58::b)=none:=by
       rcases a with _|⟨u,_|⟨v,r⟩⟩
       ·cases b <;> simp[cZ,show bt 58=false by decide]
       ·simp[cZ,show bt 58=false by decide]
       ·unfold cZ at hp ⊢
        simp only[zKA]
        by_cases hx:(bt u&&bt v)=true
        ·simp[hx]at hp
        ·simp[hx]
      rw[zKA,qU this];simp
    | some x =>
      obtain⟨u,v,r⟩:=x
      obtain⟨rfl,h1,h2⟩:=cS hp
      rw[fC h1 h2]at hb
      simp only[zKD]at h
      simp only[zKA]
      rw[fC h1 h2]
      exact zKx _ (kq n r b (by omega) (by simpa using hb))
   ·rw[df hc]at hb
    rw[zKA,df hc]
    exact zKx _ (kq n a b (by omega) (by simpa using hb))
theorem oI:∀ (l:List Bytes)(x:Bytes),((∃ y∈x::l,PU.bad∈ay y)↔PU.bad∈ay (x++l.flatMap (58::·))) ∧
 ((∀ y∈x::l,PU.bad ∉ ay y)→ay (x++l.flatMap (58::·))=ay x++l.flatMap (fun y=>.lit 58::ay y))
 | [],x=>by simp
 | y::l,x=>by
   obtain⟨h1,h2⟩:=oI l y
   have e:x++(y::l).flatMap (58::·)=x++58::(y++l.flatMap (58::·)):=by simp
   rw[e]
   constructor
   ·constructor
    ·rintro⟨z,hz,hb⟩
     by_cases hx:PU.bad∈ay x
     ·exact kq _ _ _ (zKE _) hx
     ·rw[eJ _ _ _ (zKE _) hx]
      rcases zKK.1 hz with rfl|hz
      ·exact absurd hb hx
      ·exact List.mem_append_right _ (zKx _ (h1.1 ⟨z,hz,hb⟩))
    ·intro hb
     by_cases hx:PU.bad∈ay x
     ·exact⟨x,zKy,hx⟩
     ·rw[eJ _ _ _ (zKE _) hx]at hb
      rcases zKM.1 hb with hb|hb
      ·exact absurd hb hx
      ·simp only[zKK,reduceCtorEq,false_or]at hb
       obtain⟨z,hz,hb⟩:=h1.2 hb
       exact⟨z,zKx _ hz,hb⟩
   ·intro h
    rw[eJ _ _ _ (zKE _) (h x zKy),h2 (fun z hz=>h z (zKx _ hz))]
    simp
def dE (y:Bytes):Bool:=y.all fun c=>bW c||c==37
def jl (y:Bytes):Bytes:=(ay y).map PU.val
theorem xM {c:UInt8}(h:bt c=true):bW c=true:=by
 have:=dy (p:=fun c=>!(bt c)||bW c) (by decide +kernel) c
 rw[h]at this
 simpa using this
theorem jy {y:Bytes}(hb:PU.bad ∉ ay y)(hc:(58:UInt8) ∉ y):dE y=(ay y).all ns:=by
 have key:∀ l:List PU,(∀ a b,PU.hex a b∈l→bt a=true∧bt b=true)→(∀ c,PU.lit c∈l→c≠37)→(58:UInt8) ∉ l.flatMap PU.str →
  (l.flatMap PU.str).all (fun c=>bW c||c==37)=l.all ns:=by
  intro l
  induction l with
  | nil=>intros;rfl
  | cons u l ih =>
    intro hh hl hc
    have ih:=ih (fun a b k=>hh a b (zKx _ k)) (fun c k=>hl c (zKx _ k)) (fun k=>hc (by rw[zKw];exact List.mem_append_right _ k))
    rw[zKw,zLo,zLj,ih]
    congr 1
    cases u with
    | lit c =>
      have h1:c≠37:=hl c zKy
      have h2:c≠58:=by rintro rfl;exact hc (by simp[PU.str])
      have e1:(c==37)=false:=by simpa using h1
      have e2:(c==58)=false:=by simpa using h2
      simp[PU.str,ns,e1,e2]
    | hex a b =>
      obtain⟨h1,h2⟩:=hh a b zKy
      simp[PU.str,ns,xM h1,xM h2]
    | bad=>rfl
 have:=key (ay y) (fun a b=>mL) (rV y) (by rw[jv hb];exact hc)
 rw[jv hb]at this
 exact this
theorem wH {l:List PU}(h:∀ c,PU.lit c∈l→bW c=true)(hb:PU.bad ∉ l):l.flatMap mE=aK (l.map PU.val):=by
 induction l with
 | nil=>rfl
 | cons u l ih =>
   have ih:=ih (fun c k=>h c (zKx _ k)) (fun k=>hb (zKx _ k))
   rw[zKw,ih,zLi]
   show _=gS u.val++aK (l.map PU.val)
   congr 1
   cases u with
   | lit c=>simp[mE,PU.val,gS,h c zKy]
   | hex a b=>rfl
   | bad=>exact absurd zKy hb
def iQ (x:Bytes)(l:List Bytes):Bytes:=aK (jl x)++l.flatMap fun y=>58::aK (jl y)
theorem CK {s x:Bytes}{l:List Bytes}(e:s=x++l.flatMap (58::·))(hn:∀ y∈x::l,(58:UInt8) ∉ y) :
 cA s=if ∃ y∈x::l,PU.bad∈ay y then([],2) else if (x::l).all dE=false then([],1) else(iQ x l,0):=by
 obtain⟨h1,h2⟩:=oI l x
 rw[← e]at h1 h2
 unfold cA
 by_cases hb:∃ y∈x::l,PU.bad∈ay y
 ·rw[if_pos hb,if_pos (h1.1 hb)]
 ·rw[if_neg hb,if_neg (fun k=>hb (h1.2 k))]
  have hb:∀ y∈x::l,PU.bad ∉ ay y:=fun y hy k=>hb ⟨y,hy,k⟩
  rw[h2 hb]
  have aP:(ay x++l.flatMap fun y=>PU.lit 58::ay y).all ns=(x::l).all dE:=by
   rw[zLo,zLj,jy (hb x zKy) (hn x zKy)]
   congr 1
   have:∀ m:List Bytes,(∀ y∈m,PU.bad ∉ ay y∧(58:UInt8) ∉ y)→(m.flatMap fun y=>PU.lit 58::ay y).all ns=m.all dE:=by
    intro m
    induction m with
    | nil=>intro _;rfl
    | cons y m ih =>
      intro hm
      rw[zKw,zLo,zLj,zLj,ih (fun z hz=>hm z (zKx _ hz)),jy (hm y zKy).1 (hm y zKy).2]
      rfl
   exact this l fun y hy=>⟨hb y (zKx _ hy),hn y (zKx _ hy)⟩
  rw[aP]
  by_cases ha:(x::l).all dE=false
  ·rw[if_pos ha,if_pos ha]
  ·rw[if_neg ha,if_neg ha]
   have ha:(x::l).all dE=true:=by simpa using ha
   congr 1
   have hp:∀ y∈x::l,(ay y).flatMap mE=aK (jl y):=by
    intro y hy
    refine wH (fun c hc=>?_) (hb y hy)
    have h3:=zKG.1 ha y hy
    rw[jy (hb y hy) (hn y hy)]at h3
    have h4:(bW c||c==58)=true:=zKG.1 h3 _ hc
    have h5:c≠58:=by
     rintro rfl
     exact hn y hy ((Eg (hb y hy) (by decide) (by decide)).2 hc)
    simpa[h5] using h4
   rw[zK0,hp x zKy]
   unfold iQ
   congr 1
   have:∀ m:List Bytes,(∀ y∈m,(ay y).flatMap mE=aK (jl y))→(m.flatMap fun y=>PU.lit 58::ay y).flatMap mE=m.flatMap fun y=>58::aK (jl y):=by
    intro m
    induction m with
    | nil=>intro _;rfl
    | cons y m ih =>
      intro hm
      rw[zKw,zK0,zKw,zKw,ih (fun z hz=>hm z (zKx _ hz)),hm y zKy]
      rfl
   exact this l fun y hy=>hp y (zKx _ hy)
theorem IP (s:Bytes):(58:UInt8) ∉ aK s:=by
 intro hc
 obtain⟨d,-,hd⟩:=zLb.1 hc
 have h1:=dy (p:=fun d=>(gS d).all fun c=>c != 58) (by decide +kernel) d
 have:=zKG.1 h1 _ hd
 simp at this
theorem EH {s:Bytes}:aK s=[]↔s=[]:=by
 constructor
 ·intro h
  cases s with
  | nil=>rfl
  | cons c s =>
    have:gS c++aK s=[]:=h
    have h2:gS c=[]:=(List.append_eq_nil_iff.1 this).1
    unfold gS jQ at h2
    split at h2 <;> simp at h2
 ·rintro rfl;rfl
theorem B5 {y:Bytes}(hb:PU.bad ∉ ay y):jl y=[]↔y=[]:=by
 constructor
 ·intro h
  have:ay y=[]:=List.map_eq_nil_iff.1 h
  rw[← jv hb,this];rfl
 ·rintro rfl;rfl
theorem Fb {x:Bytes}{l:List Bytes}(hb:∀ y∈x::l,PU.bad ∉ ay y):(iQ x l=[]∨(iQ x l).getLast? = some 58)↔(x::l).getLast? = some []:=by
 have last:∀ y:Bytes,(aK y).getLast? ≠ some 58:=fun y k=>IP y (zLa k)
 rcases List.eq_nil_or_concat l with rfl|⟨m,z,rfl⟩
 ·unfold iQ
  rw[zLg,zKR,EH,B5 (hb x zKy)]
  simp[last]
 ·rw[List.concat_eq_append]at *
  have hz:=hb z (by simp)
  have e:iQ x (m++[z])=iQ x m++58::aK (jl z):=by simp[iQ]
  rw[e,show x::(m++[z])=(x::m)++[z] by simp,zLh,zLh]
  simp only[List.getLast?_singleton,Option.some_or,zK8.injEq]
  constructor
  ·rintro(h|h)
   ·simp at h
   ·cases hd:aK (jl z) with
    | nil=>exact(B5 hz).1 (EH.1 hd)
    | cons a r =>
      rw[hd]at h
      rw[List.getLast?_cons_cons,← hd]at h
      cases hq:(aK (jl z)).getLast? with
      | none=>rw[List.getLast?_eq_none_iff]at hq;rw[hq]at hd;cases hd
      | some w=>rw[hq]at h;exact absurd (by rw[hq];simpa using h) (last (jl z))
  ·rintro rfl
   right
   simp[jl,dU,aK]
open Go Go.RowKit
theorem AA {p:UInt8→Bool}:∀ {a:Bytes}(r:Bytes),(∀ c∈a,p c=false)→pre p (a++r)=a.length+pre p r
 | [],r,_=>by simp
 | c::a,r,h=>by
   have h1:=h c zKy
   have ih:=AA (a:=a) r (fun d hd=>h d (zKx _ hd))
   rw[zKA,cf,h1,if_neg (by simp),ih,zKD]
   omega
theorem F4 {c:UInt8}{a:Bytes}(r:Bytes)(h:c ∉ a):aG c (a++r)=(a++(aG c r).1,(aG c r).2.1,(aG c r).2.2):=by
 have hp:pre (·==c) (a++r)=a.length+pre (·==c) r:=AA r fun d hd=>by
  have:d≠c:=by rintro rfl;exact h hd
  simpa using this
 by_cases hr:pre (·==c) r<r.length
 ·rw[show aG c r=(r.take (pre (·==c) r),r.drop (pre (·==c) r+1),true) from if_pos hr]
  rw[show aG c (a++r)=((a++r).take (pre (·==c) (a++r)),(a++r).drop (pre (·==c) (a++r)+1),true) from if_pos (by rw[hp,zKF];omega)]
  rw[hp,List.take_length_add_append,Nat.add_assoc,List.drop_length_add_append]
 ·have hle:=cq (·==c) r
  rw[fI (s:=r) (by omega),fI (s:=a++r) (by rw[hp,zKF];omega)]
theorem oG (c:UInt8):∀ (n:Nat)(s:Bytes),s.length≤n→∃ x l,aA c s=x::l∧s=x++l.flatMap (c::·)∧∀ y∈x::l,c ∉ y:=by
 intro n
 induction n with
 | zero =>
   intro s h
   obtain rfl:=zKZ.1 (Nat.le_zero.1 h)
   exact⟨[],[],rfl,rfl,by simp⟩
 | succ n ih =>
   intro s h
   have iT:c ∉ s.take (pre (·==c) s):=by
    intro hm
    obtain⟨j,hj,e⟩:=zK4 hm
    have ij:j<pre (·==c) s∧j<s.length:=by rw[zKY]at hj;omega
    have:=gH (p:=(·==c)) (l:=s) (k:=j) ij.1 ij.2
    rw[List.getElem_take]at e
    rw[e]at this
    simp at this
   by_cases hp:pre (·==c) s<s.length
   ·obtain⟨x,l,e1,e2,e3⟩:=ih (s.drop (pre (·==c) s+1)) (by simp;omega)
    refine⟨s.take (pre (·==c) s),x::l,by rw[cG hp,e1],?_,?_⟩
    ·have hg:=ga hp
     simp only[beq_iff_eq]at hg
     conv=>lhs;rw[← zKT (pre (·==c) s) s,zKH hp,hg,e2]
     simp
    ·intro y hy
     rcases zKK.1 hy with rfl|hy
     ·exact iT
     ·exact e3 y hy
   ·have hq:=cq (·==c) s
    rw[zKU (by omega)]at iT
    exact⟨s,[],bZ hp,by simp,by simpa using iT⟩
def eL:List Bytes→Bytes
 | []=>[]
 | x::l=>iQ x l
theorem vQ (l:List Bytes)(y:Bytes):eL (l++[y])=eL l++(if l=[] then [] else [58])++aK (jl y):=by
 cases l with
 | nil=>simp[eL,iQ]
 | cons x l=>simp[eL,iQ]
theorem vP {l:List Bytes}{k:Nat}(h:k<l.length):eL (l.take (k+1))=eL (l.take k)++(if k=0 then [] else [58])++aK (jl l[k]):=by
 rw[zK1 h,vQ]
 congr 2
 cases k with
 | zero=>simp
 | succ k=>cases l with
   | nil=>simp at h
   | cons x l=>simp
theorem IY (c:UInt8):(gS c).length≤3:=by unfold gS;split <;> simp[jQ]
theorem fw (s:Bytes):(aK s).length≤3 * s.length:=by
 induction s with
 | nil=>simp[aK]
 | cons c s ih =>
   have:=IY c
   show (gS c++aK s).length≤_
   rw[zKF,zKD]
   omega
theorem mP:∀ (f:Nat)(s:Bytes),(bH f s).length≤f
 | 0,s=>by simp[bH]
 | f+1,[]=>by simp[bH]
 | f+1,c::r=>by
   rw[bH]
   split
   ·split
    ·rename_i a b r' h
     have:=mP f r'
     simpa using this
    ·simp
   ·have:=mP f r
    simpa using this
theorem jI (y:Bytes):(jl y).length≤y.length:=by
 have:=mP y.length y
 simpa[jl,ay] using this
theorem yg:∀ (l:List Bytes),(eL l).length≤3 * l.flatten.length+l.length
 | []=>by simp[eL]
 | x::l=>by
   have h1:=fw (jl x)
   have h2:=jI x
   have h3:∀ m:List Bytes,(m.flatMap fun y=>58::aK (jl y)).length≤3 * m.flatten.length+m.length:=by
    intro m
    induction m with
    | nil=>simp
    | cons y m ih =>
      have k1:=fw (jl y)
      have k2:=jI y
      simp only[zKw,zKF,zKD,zK9]at ih ⊢
      omega
   have h4:=h3 l
   simp only[eL,iQ,zKF,zK9,zKD]
   omega
theorem B0 (m s:Bytes):jH m (cA s) =
 if ∃ y∈aA 58 s,PU.bad∈ay y then(fN.none,2) else if (aA 58 s).all dE=false then(fN.none,1)
 else if (aA 58 s).getLast? = some [] then(fN.none,3) else(⟨m,eL (aA 58 s)⟩,0):=by
 obtain⟨x,l,e1,e2,e3⟩:=oG 58 _ s (zKE _)
 rw[e1,CK e2 e3]
 by_cases hb:∃ y∈x::l,PU.bad∈ay y
 ·rw[if_pos hb,if_pos hb];rfl
 rw[if_neg hb,if_neg hb]
 by_cases ha:(x::l).all dE=false
 ·rw[if_pos ha,if_pos ha];rfl
 rw[if_neg ha,if_neg ha]
 have hb:∀ y∈x::l,PU.bad ∉ ay y:=fun y hy k=>hb ⟨y,hy,k⟩
 have hs:=Fb hb
 unfold jH
 rw[if_neg (by simp)]
 by_cases hq:(x::l).getLast? = some []
 ·rw[if_pos hq,if_pos (hs.2 hq)]
 ·rw[if_neg hq,if_neg (fun k=>hq (hs.1 k))];rfl
theorem lY {y:Bytes}(h:y.length≤16384):ak y=if PU.bad∈ay y then([],2) else(jl y,0):=if_neg (by omega)
open Go Go.RowKit
def dK:Bytes:=[119,101,98]
def cI:Bytes:=[47,46,119,101,108,108,45,107,110,111,119,110,47,100,105,100,46,106,115,111,110]
def fk:Bytes:=[100,105,100,46,106,115,111,110]
def bg (d:fN):(Bytes × Int) × Int :=
 if d.method≠dK then(([],0),100)
 else if (aY (bA d)).2≠0 then(([],0),(aY (bA d)).2)
 else aE (ak (aG 58 d.id).1).1
def en (x:Bytes):Bool:=(ak x).2==0&&(ak x).1 != []&&(ak x).1 != [46]&&(ak x).1 != [46,46]
def gG (x:Bytes):Bytes:=47::aD [] (ak x).1
def ia (l:List Bytes):Bytes:=if l=[] then cI else l.flatMap gG++47::fk
def jw (u:fc):fc × Int:=if 4096<(cB u).length then(fc.none,5) else(u,0)
def eK (d:fN):fc × Int :=
 if (bg d).2≠0 then(fc.none,(bg d).2)
 else if (aA 58 d.id).tail.all en=false then(fc.none,110)
 else jw ⟨(bg d).1.1,(bg d).1.2,ia (aA 58 d.id).tail,[],[],false,false⟩
def db (c:UInt8):Bool:=c==37||eX c
def bL (x:Bytes):Bool:=x.all db&&(ak x).2==0&&(ak x).1 != []
def bu (x:Bytes):Bytes:=58::aK (ak x).1
def bh (u:fc):Bytes:=u.host++(if u.port=0 then [] else [37,51,65]++cJ u.port.natAbs)
def gQ (d:fN):fN × Int:=if 4096<(bA d).length then(fN.none,5) else(d,0)
def fv (u:fc)(l:List Bytes):fN × Int :=
 if u.path=cI then gQ ⟨dK,bh u⟩
 else if l.all bL=false then(fN.none,110)
 else gQ ⟨dK,bh u++l.flatMap bu⟩
def fW (u:fc):fN × Int :=
 if fO u=false then(fN.none,8)
 else if u.bl=true∨u.bE=true∨(aA 47 u.path).tail.getLast? ≠ some fk then(fN.none,6)
 else if (aA 47 u.path).tail.length=1 then(fN.none,110)
 else fv u (aA 47 u.path).tail.dropLast
def eG (d:fN):fN × Int:=if (eK d).2≠0 then(fN.none,(eK d).2) else fW (eK d).1
theorem rY (c:UInt8):∀ (l:List Bytes)(x:Bytes),c ∉ x→(∀ y∈l,c ∉ y)→aA c (x++l.flatMap (c::·))=x::l
 | [],x,hx,_=>by
   rw[zLg,zKR]
   exact bZ (by rw[eM hx];omega)
 | y::l,x,hx,hl=>by
   have hp:pre (·==c) (x++(y::l).flatMap (c::·))=x.length:=by
    rw[zKw,zKA]
    exact tm (eM hx) c _ (by simp)
   rw[cG (by rw[hp];simp),hp,List.take_left,← List.drop_drop,List.drop_left,zKw,zKA,zLl,List.drop_zero,
    rY c l y (hl y zKy) (fun z hz=>hl z (zKx _ hz))]
theorem rW (c:UInt8):∀ (n:Nat)(s:Bytes),s.length≤n→∃ x l,aA c s=x::l∧s=x++l.flatMap (c::·)∧c ∉ x∧∀ y∈l,c ∉ y
 | n,s,h=>by
   by_cases hp:pre (·==c) s<s.length
   ·match n,h with
    | 0,h=>omega
    | n+1,h =>
      obtain⟨x,l,e1,e2,e3,e4⟩:=rW c n (s.drop (pre (·==c) s+1)) (by simp;omega)
      refine⟨s.take (pre (·==c) s),x::l,by rw[cG hp,e1],?_,?_,?_⟩
      ·have:=ga hp
       simp only[beq_iff_eq]at this
       conv=>lhs;rw[← zKT (pre (·==c) s) s,zKH hp,this,e2]
       simp
      ·intro hm
       have h1:=(tW (·==c) s)
       obtain⟨k,hk,e⟩:=zK4 hm
       have:=gH (p:=(·==c)) (l:=s.take (pre (·==c) s)) (k:=k) (by omega) hk
       rw[e]at this
       simp at this
      ·intro y hy
       rcases zKK.1 hy with rfl|hy
       ·exact e3
       ·exact e4 y hy
   ·refine⟨s,[],bZ hp,by simp,fun hm=>?_,by simp⟩
    obtain⟨k,hk,e⟩:=zK4 hm
    have:=gH (p:=(·==c)) (l:=s) (k:=k) (by omega) hk
    rw[e]at this
    simp at this
theorem can_enc (also s:Bytes):Can also (aD [] s):=by
 induction s with
 | nil=>exact iD _
 | cons c s ih =>
   show Can also (iu [] c++aD [] s)
   refine mc ?_ ih
   unfold iu
   cases h:eX c
   ·simp;exact can_esc also h
   ·simp;exact qD (by unfold dp;rw[h];rfl) (zM h)
theorem IT (s:Bytes):(47:UInt8) ∉ aD [] s:=by
 intro hc
 obtain⟨d,-,hd⟩:=zLb.1 hc
 have h1:=dy (p:=fun d=>(iu [] d).all fun c=>c != 47) (by decide +kernel) d
 have:=zKG.1 h1 _ hd
 simp at this
theorem EJ {s t:Bytes}(h:aD [] s=aD [] t):s=t:=by
 have h1:=(lC [] s).1
 rw[h,(lC [] t).1]at h1
 exact h1.symm
theorem lX:∀ s:Bytes,(ay (aK s)).map PU.val=s∧PU.bad ∉ ay (aK s)
 | []=>⟨rfl,by simp[aK,dU]⟩
 | c::s=>by
   obtain⟨h1,h2⟩:=lX s
   have e:aK (c::s)=gS c++aK s:=rfl
   rw[e]
   unfold gS
   split
   ·rename_i hc
    have bp:c≠37:=by rintro rfl;exact absurd hc (by decide)
    rw[zKV,df bp]
    exact⟨by simp[PU.val,h1],by simpa using h2⟩
   ·rw[wQ]
    exact⟨by simp[PU.val,h1,jo],by simpa using h2⟩
theorem wI {s:Bytes}(h:(aK s).length≤16384):ak (aK s)=(s,0):=by
 obtain⟨h1,h2⟩:=lX s
 unfold ak
 rw[if_neg (by omega),if_neg h2,h1]
theorem qB (s:Bytes):∀ c∈aK s,c≠58:=by
 intro c hc
 obtain⟨d,-,hd⟩:=zLb.1 hc
 have h1:=dy (p:=fun d=>(gS d).all fun c=>c != 58) (by decide +kernel) d
 have:=zKG.1 h1 _ hd
 simpa using this
theorem vy:qL []:=⟨[],rfl,by simp⟩
theorem jJ {a b:Bytes}(ha:qL a)(hb:qL b):qL (a++b):=by
 obtain⟨l,rfl,h1⟩:=ha
 obtain⟨m,rfl,h2⟩:=hb
 exact⟨l++m,by simp,fun x hx=>by
  rcases zKM.1 hx with h|h
  ·exact h1 x h
  ·exact h2 x h⟩
theorem vx {c:UInt8}(h:(bW c||c==58)=true):qL [c]:=⟨[.lit c],rfl,fun x hx=>by
 obtain rfl:=zKJ.1 hx;exact h⟩
theorem I4 {c:UInt8}(h:bW c=false):qL (jQ c):=⟨[.hex (gY (c.toNat / 16)) (gY (c.toNat % 16))],rfl,fun x hx=>by
 obtain rfl:=zKJ.1 hx
 have hn:=c.toNat_lt
 have hv:=jo c
 exact⟨by rw[hv];exact h,by rw[hv],by rw[hv],fR _ (by omega),fR _ (by omega)⟩⟩
theorem Cb (s:Bytes):qL (aK s):=by
 induction s with
 | nil=>exact vy
 | cons c s ih =>
   show qL (gS c++aK s)
   refine jJ ?_ ih
   unfold gS
   cases h:bW c
   ·simp;exact I4 h
   ·simp;exact vx (by rw[h];rfl)
theorem oX {s:Bytes}(h:∀ c∈s,bW c=true):qL s:=by
 induction s with
 | nil=>exact vy
 | cons c s ih=>exact jJ (a:=[c]) (vx (by rw[h c zKy];rfl)) (ih fun d hd=>h d (zKx _ hd))
theorem Dt {x:Bytes}(h:bB x=(x,0)):∀ c∈x,bW c=true:=by
 intro c hc
 have h1:=sy h c hc
 have:=dy (p:=fun c=>!(vF c||c==46)||bW c) (by decide +kernel) c
 have h2:(vF c||c==46)=true:=by rcases h1 with h|rfl <;> simp[*]
 rw[h2]at this
 simpa using this
theorem rO (n:Nat):∀ c∈cJ n,bW c=true:=by
 intro c hc
 have:=sG n c hc
 unfold bW;rw[this];simp
theorem host_ne {x:Bytes}(h:bB x=(x,0)):x≠[]:=by
 rintro rfl
 revert h;decide
theorem qk {u:fc}(h:aE (bf u.host u.port)=((u.host,u.port),0)):qL (bh u)∧(58:UInt8) ∉ bh u∧bh u≠[]∧(ay (bh u)).map PU.val=bf u.host u.port∧PU.bad ∉ ay (bh u):=by
 obtain⟨-,h1,-,-,h2,-⟩:=cu h
 have hp:=Dt h1
 have fU:∀ s:Bytes,(∀ c∈s,bW c=true)→∀ r,ay (s++r)=s.map PU.lit++ay r:=by
  intro s
  induction s with
  | nil=>intro _ r;rfl
  | cons c s ih =>
    intro hs r
    have:=(rm (c:=c) (by rw[hs c zKy];rfl)).1
    rw[zKA,df this,ih (fun d hd=>hs d (zKx _ hd))]
    rfl
 have vl:∀ s:Bytes,(s.map PU.lit).map PU.val=s:=by intro s;simp[Function.comp_def,PU.val]
 have n58:∀ s:Bytes,(∀ c∈s,bW c=true)→(58:UInt8) ∉ s:=fun s hs hm=>absurd (hs _ hm) (by decide)
 have nb:∀ s:Bytes,PU.bad ∉ s.map PU.lit:=by intro s;simp
 by_cases h0:u.port=0
 ·have e:bh u=u.host:=by unfold bh;rw[if_pos h0,zKR]
  have e2:bf u.host u.port=u.host:=by unfold bf;rw[if_pos h0]
  have e3:=fU u.host hp []
  rw[zKR,dU,zKR]at e3
  rw[e,e2,e3]
  exact⟨oX hp,n58 _ hp,host_ne h1,vl _,nb _⟩
 ·have e:bh u=u.host++([37,51,65]++cJ u.port.natAbs):=by unfold bh;rw[if_neg h0]
  have e2:bf u.host u.port=u.host++[58]++cJ u.port.natAbs:=by unfold bf;rw[if_neg h0,if_neg (by omega)]
  have e3:=fU u.host hp ([37,51,65]++cJ u.port.natAbs)
  have e4:=fU _ (rO u.port.natAbs) []
  rw[zKR,dU,zKR]at e4
  have e5:ay ([37,51,65]++cJ u.port.natAbs)=.hex 51 65::ay (cJ u.port.natAbs):=fC (by decide) (by decide) _
  rw[e,e2,e3,e5,e4]
  refine⟨jJ (oX hp) (jJ (a:=[37,51,65]) ⟨[.hex 51 65],rfl,fun x hx=>?_⟩ (oX (rO _))),?_,by simp,?_,?_⟩
  ·obtain rfl:=zKJ.1 hx
   refine⟨by decide,by decide,by decide,by decide,by decide⟩
  ·simp only[zKM,not_or]
   exact⟨n58 _ hp,by decide,n58 _ (rO _)⟩
  ·rw[List.map_append,zLi,vl,vl]
   simp[PU.val]
   decide
  ·simp
theorem xP (c:UInt8):∀ (l:List Bytes),l≠[]→(∀ x∈l,x≠[])→(l.flatMap (c::·)).getLast? = (l.getLast?.getD []).getLast?
 | [],h,_=>absurd rfl h
 | [x],_,h=>by
   have hx:=h x zKy
   cases x with
   | nil=>exact absurd rfl hx
   | cons a x=>simp
 | x::y::l,_,h=>by
   have ih:=xP c (y::l) (by simp) (fun z hz=>h z (zKx _ hz))
   rw[zKw,zLh,ih]
   have bp:((y::l).getLast?.getD [])≠[]:=by
    cases hl:(y::l).getLast? with
    | none=>simp at hl
    | some z=>exact h z (zKx _ (zLa hl))
   rw[List.getLast?_cons_cons]
   cases hz:((y::l).getLast?.getD []).getLast? with
   | none=>rw[List.getLast?_eq_none_iff]at hz;exact absurd hz bp
   | some z=>rfl
theorem DT {u:fc}{ss:List Bytes}(hh:aE (bf u.host u.port)=((u.host,u.port),0))(hs:∀ s∈ss,s≠[]∧s≠[46]∧s≠[46,46])
 (hl:(bA ⟨dK,bh u++ss.flatMap fun s=>58::aK s⟩).length≤4096):zw ⟨dK,bh u++ss.flatMap fun s=>58::aK s⟩:=by
 obtain⟨b1,b2,b3,b4,b5⟩:=qk hh
 have ef:(ss.flatMap fun s=>58::aK s)=(ss.map aK).flatMap (58::·):=by rw[zK6]
 have bp:∀ s∈ss,aK s≠[]:=fun s hm e=>by
  have h1:s≠[]:=(hs s hm).1
  have:=(lX s).1
  rw[e,dU]at this
  exact h1 this.symm
 refine⟨show dH dK=true by decide,jJ b1 ?_,by simp[b3],?_⟩
 ·clear hl bp hs ef
  induction ss with
  | nil=>exact vy
  | cons s ss ih=>exact jJ (jJ (a:=[58]) (vx (by decide)) (Cb s)) ih
 ·simp only
  cases ss with
  | nil =>
    rw[zLg,zKR]
    intro k
    exact b2 (zLa k)
  | cons s ss =>
    rw[ef,zLh,xP 58 _ (by simp) (by
     intro x hx
     obtain⟨t,ht,rfl⟩:=zLc.1 hx
     exact bp t ht)]
    obtain⟨t,ht,e⟩:∃ t∈s::ss,((s::ss).map aK).getLast?.getD []=aK t:=by
     rw[List.getLast?_map]
     cases hq:(s::ss).getLast? with
     | none=>simp at hq
     | some t=>exact⟨t,zLa hq,rfl⟩
    rw[e]
    cases hz:(aK t).getLast? with
    | none=>rw[List.getLast?_eq_none_iff]at hz;exact absurd hz (bp t ht)
    | some z =>
      intro k
      obtain rfl:z=58:=by simpa using k
      exact qB t _ (zLa hz) rfl
theorem zH {u:fc}{ss:List Bytes}(hh:aE (bf u.host u.port)=((u.host,u.port),0))(hs:∀ s∈ss,s≠[]∧s≠[46]∧s≠[46,46])
 (hl:(bA ⟨dK,bh u++ss.flatMap fun s=>58::aK s⟩).length≤4096) :
 bg ⟨dK,bh u++ss.flatMap fun s=>58::aK s⟩=((u.host,u.port),0)∧(aA 58 (bh u++ss.flatMap fun s=>58::aK s)).tail=ss.map aK∧(ss.map aK).all en=true∧∀ s∈ss,(ak (aK s)).1=s:=by
 obtain⟨b1,b2,b3,b4,b5⟩:=qk hh
 have ef:(ss.flatMap fun s=>58::aK s)=(ss.map aK).flatMap (58::·):=by rw[zK6]
 have hlen:∀ s∈ss,(aK s).length≤4096:=by
  intro s hm
  have h1:(aK s).length≤(ss.flatMap fun s=>58::aK s).length:=by
   obtain⟨p,q,rfl⟩:=List.append_of_mem hm
   simp;omega
  simp[bA]at hl
  simp at h1
  omega
 have mu:(bh u).length≤4096:=by simp[bA]at hl;omega
 have BI:∀ s∈ss,ak (aK s)=(s,0):=fun s hm=>wI (by have:=hlen s hm;omega)
 have bp:∀ s∈ss,aK s≠[]:=fun s hm e=>by
  have:=BI s hm
  rw[e]at this
  exact(hs s hm).1 (zK5.inj this).1.symm
 have mr:aA 58 (bh u++ss.flatMap fun s=>58::aK s)=bh u::ss.map aK:=by
  rw[ef]
  refine rY 58 _ _ b2 fun y hy=>?_
  obtain⟨s,-,rfl⟩:=zLc.1 hy
  exact fun k=>qB s _ k rfl
 have DC:=DT hh hs hl
 have hr:=BY DC hl
 refine⟨?_,by rw[mr];rfl,zKG.2 fun x hx=>?_,fun s hm=>by rw[BI s hm]⟩
 ·unfold bg
  rw[if_neg (by simp),hr,if_neg (by simp)]
  simp only
  have hc:(aG 58 (bh u++ss.flatMap fun s=>58::aK s)).1=bh u:=by
   cases ss with
   | nil=>rw[zLg,zKR,fI (eM b2)]
   | cons s ss=>rw[zKw,zKA,lr (eM b2)]
  rw[hc]
  have hd:ak (bh u)=(bf u.host u.port,0):=by
   unfold ak
   rw[if_neg (by omega),if_neg b5,b4]
  rw[hd]
  exact hh
 ·obtain⟨s,hm,rfl⟩:=zLc.1 hx
  unfold en
  rw[BI s hm]
  have:=hs s hm
  simp[this.1,this.2.1,this.2.2]
theorem zR {d:fN}{u:fc}(h:eK d=(u,0)):bg d=((u.host,u.port),0)∧aE (bf u.host u.port)=((u.host,u.port),0)∧(∃ ss:List Bytes,(∀ s∈ss,s≠[]∧s≠[46]∧s≠[46,46])∧u=⟨u.host,u.port,if ss=[] then cI else ss.flatMap (fun s=>47::aD [] s)++47::fk,[],[],false,false⟩)∧(cB u).length≤4096:=by
 unfold eK at h
 split at h
 ·rename_i h1;exact absurd (zK5.inj h).2 h1
 rename_i h1
 split at h
 ·simp at h
 rename_i h2
 unfold jw at h
 split at h
 ·simp at h
 rename_i h3
 simp only[zK5.injEq,and_true]at h
 subst h
 have h1:(bg d).2=0:=by simpa using h1
 have e:bg d=(((bg d).1.1,(bg d).1.2),0):=by rw[← h1]
 refine⟨e,?_,⟨(aA 58 d.id).tail.map fun x=>(ak x).1,?_,?_⟩,by omega⟩
 ·simp only
  unfold bg at e h1 ⊢
  split at h1
  ·simp at h1
  rename_i k1
  rw[if_neg k1]at e ⊢
  split at h1
  ·rename_i k2;exact absurd h1 k2
  rename_i k2
  rw[if_neg k2]at e ⊢
  exact(cu e).1
 ·intro s hs
  obtain⟨x,hx,rfl⟩:=zLc.1 hs
  have h2:(aA 58 d.id).tail.all en=true:=by simpa using h2
  have:=zKG.1 h2 x hx
  unfold en at this
  simp only[zKN,bne_iff_ne,ne_eq]at this
  exact⟨this.1.1.2,this.1.2,this.2⟩
 ·simp only[fc.mk.injEq,true_and,and_true]
  unfold ia
  by_cases k:(aA 58 d.id).tail=[]
  ·rw[if_pos k,if_pos (by rw[k];rfl)]
  ·rw[if_neg k,if_neg (by rw[List.map_eq_nil_iff];exact k),zK6]
   rfl
theorem GJ {s:Bytes}(h:s≠[46]∧s≠[46,46]):lT (aD [] s):=by
 refine⟨IT s,fun e=>h.1 (EJ (e.trans (by decide))),fun e=>h.2 (EJ (e.trans (by decide)))⟩
theorem He (ss:List Bytes):ss.flatMap (fun s=>47::aD [] s)++47::fk=fL (ss.map (aD [])++[fk]):=by
 unfold fL
 rw[zK0,zK6]
 simp
theorem Hb {ss:List Bytes}(h:∀ s∈ss,s≠[]∧s≠[46]∧s≠[46,46]):Can cQ (ss.flatMap (fun s=>47::aD [] s)++47::fk)∧(∃ r,ss.flatMap (fun s=>47::aD [] s)++47::fk=47::r)∧aN (ss.flatMap (fun s=>47::aD [] s)++47::fk)=ss.flatMap (fun s=>47::aD [] s)++47::fk:=by
 refine⟨mc ?_ ?_,?_,?_⟩
 ·clear h
  induction ss with
  | nil=>exact iD _
  | cons s ss ih=>exact mc (mc (a:=[47]) (qD (by decide) (by decide)) (can_enc _ s)) ih
 ·refine⟨(47::fk).map PU.lit,by decide,?_⟩
  intro x hx
  obtain⟨c,hc,rfl⟩:=zLc.1 hx
  show dp cQ c=true∧c≠37
  revert c;decide
 ·cases ss with
  | nil=>exact⟨_,rfl⟩
  | cons s ss=>exact⟨_,rfl⟩
 ·rw[He]
  show dZ _ _ []=_
  rw[nE _ _ _ (zKE _),zKQ]
  intro x hx
  rcases zKM.1 hx with hx|hx
  ·obtain⟨s,hs,rfl⟩:=zLc.1 hx
   exact GJ (h s hs).2
  ·obtain rfl:=zKJ.1 hx
   refine⟨by decide,by decide,by decide⟩
theorem Aq:Can cQ cI∧aN cI=cI:=by
 refine⟨⟨cI.map PU.lit,by decide,?_⟩,by decide +kernel⟩
 intro x hx
 obtain⟨c,hc,rfl⟩:=zLc.1 hx
 show dp cQ c=true∧c≠37
 revert c;decide
theorem wR {d:fN}{u:fc}(h:eK d=(u,0)):iW u∧u.bl=false∧u.bE=false∧bg d=((u.host,u.port),0):=by
 obtain⟨h1,h2,⟨ss,h3,h4⟩,h5⟩:=zR h
 have hq:u.bl=false:=by rw[h4]
 have hf:u.bE=false:=by rw[h4]
 have hqu:u.query=[]:=by rw[h4]
 have jM:u.fragment=[]:=by rw[h4]
 have hp:Can cQ u.path∧(∃ r,u.path=47::r)∧aN u.path=u.path:=by
  rw[h4]
  simp only
  split
  ·exact⟨Aq.1,⟨_,rfl⟩,Aq.2⟩
  ·exact Hb h3
 exact⟨⟨h2,hp.1,hp.2.1,hp.2.2,by rw[hqu];exact iD _,by rw[jM];exact iD _,fun _=>hqu,fun _=>jM,h5⟩,hq,hf,h1⟩
theorem uX {d c:fN}(h:gQ d=(c,0)):c=d∧(bA d).length≤4096:=by
 unfold gQ at h
 split at h
 ·simp at h
 ·exact⟨(zK5.inj h).1.symm,by omega⟩
theorem zQ {u:fc}{ss:List Bytes}(hu:iW u)(hq:u.bl=false)(hf:u.bE=false)(hs:∀ s∈ss,s≠[]∧s≠[46]∧s≠[46,46])(hp:u.path=if ss=[] then cI else ss.flatMap (fun s=>47::aD [] s)++47::fk)
 (hl:(bA ⟨dK,bh u++ss.flatMap fun s=>58::aK s⟩).length≤4096):eK ⟨dK,bh u++ss.flatMap fun s=>58::aK s⟩=(u,0):=by
 obtain⟨h1,h2,h3,h4⟩:=zH hu.host hs hl
 have e:ia (ss.map aK)=u.path:=by
  rw[hp]
  unfold ia
  by_cases k:ss=[]
  ·rw[if_pos (by rw[k];rfl),if_pos k]
  ·rw[if_neg (by simpa using k),if_neg k,zK6]
   congr 1
   clear hp hl h1 h2 h3 k hs
   induction ss with
   | nil=>rfl
   | cons s ss ih =>
     rw[zKw,zKw,ih (fun t ht=>h4 t (zKx _ ht)),gG,h4 s zKy]
 unfold eK
 rw[h1,if_neg (by simp)]
 simp only
 rw[h2,h3,if_neg (by simp),e]
 have eu:(⟨u.host,u.port,u.path,[],[],false,false⟩:fc)=u:=by
  have q1:=hu.noq hq
  have q2:=hu.nof hf
  obtain⟨a,b,c,d,f,g,h⟩:=u
  simp only at hq hf q1 q2
  subst hq hf q1 q2
  rfl
 rw[eu]
 unfold jw
 rw[if_neg (by have:=hu.len;omega)]
theorem BQ {also:Bytes}:∀ (l:List Bytes)(x:Bytes),Can also (x++l.flatMap (47::·))→Can also x∧∀ y∈l,Can also y
 | [],x,h=>⟨by simpa using h,by simp⟩
 | y::l,x,h=>by
   rw[zKw,zKA]at h
   obtain⟨h1,h2⟩:=h.split (by decide) (by decide)
   obtain⟨h3,h4⟩:=BQ l y (B9 (by decide) h2).2
   refine⟨h1,fun z hz=>?_⟩
   rcases zKK.1 hz with rfl|hz
   ·exact h3
   ·exact h4 z hz
theorem IU {also x:Bytes}(h:Can also x)(hd:x.all db=true):aD [] (ak x).1=x∨16384<x.length:=by
 by_cases hl:16384<x.length
 ·exact .inr hl
 left
 obtain⟨l,rfl,hk⟩:=h
 have hu:=qT also l hk
 have hb:PU.bad ∉ ay (l.flatMap PU.str):=by rw[hu];exact fun k=>(hk _ k).elim
 unfold ak
 rw[if_neg hl,if_neg hb,hu]
 clear hu hb hl
 simp only
 induction l with
 | nil=>rfl
 | cons y l ih =>
   rw[zKw,zLo,zKN]at hd
   have ih:=ih (fun z hz=>hk z (zKx _ hz)) hd.2
   have hy:=hk y zKy
   rw[zKw,zLi]
   show iu [] y.val++aD [] (l.map PU.val)=_
   rw[ih]
   congr 1
   cases y with
   | lit c =>
     have:db c=true:=by simpa[PU.str] using hd.1
     unfold db at this
     have vI:(c==37)=false:=by simpa using hy.2
     rw[vI,Bool.false_or]at this
     simp[PU.val,iu,this,PU.str]
   | hex a b =>
     simp only[PU.val,iu,hy.1,PU.str]
     rw[if_neg (by simp)]
     unfold jQ
     rw[← hy.2.1,← hy.2.2.1]
   | bad=>exact hy.elim
theorem from_to {u:fc}{x:fN}(hu:iW u)(h:fW u=(x,0)):eK x=(u,0)∧∃ ss:List Bytes,x=⟨dK,bh u++ss.flatMap fun s=>58::aK s⟩∧(bA x).length≤4096∧∀ s∈ss,s≠[]∧s≠[46]∧s≠[46,46]:=by
 unfold fW at h
 split at h
 ·simp at h
 split at h
 ·simp at h
 rename_i h1 h2
 simp only[not_or,ne_eq,Classical.not_not]at h2
 obtain⟨h2,h3,h4⟩:=h2
 have h2:u.bl=false:=by simpa using h2
 have h3:u.bE=false:=by simpa using h3
 split at h
 ·simp at h
 rename_i h5
 unfold fv at h
 split at h
 ·rename_i h6
  obtain⟨rfl,hl⟩:=uX h
  refine⟨?_,[],by simp,hl,by simp⟩
  have:=zQ (ss:=[]) hu h2 h3 (by simp) (by rw[if_pos rfl];exact h6) (by simpa using hl)
  simpa using this
 rename_i h6
 split at h
 ·simp at h
 rename_i h7
 have h7:(aA 47 u.path).tail.dropLast.all bL=true:=by simpa using h7
 obtain⟨x0,l0,e1,e2,e3,e4⟩:=rW 47 _ u.path (zKE _)
 obtain⟨r,hr⟩:=hu.DX
 have hx0:x0=[]:=by
  cases x0 with
  | nil=>rfl
  | cons a x0 =>
    rw[e2]at hr
    have:a=47:=by simpa using(zKX.inj hr).1
    subst this
    exact absurd zKy e3
 subst hx0
 rw[e1,List.tail_cons]at h h4 h5 h7
 rw[zKQ]at e2
 obtain⟨l,rfl⟩:∃ l,l0=l++[fk]:=by
  have bp:l0≠[]:=by rintro rfl;simp at h4
  refine⟨l0.dropLast,?_⟩
  have:=List.dropLast_concat_getLast bp
  rw[List.getLast?_eq_some_getLast bp]at h4
  rw[← zK8.inj h4];exact this.symm
 rw[List.dropLast_concat]at h h7
 obtain⟨rfl,hl⟩:=uX h
 have DC:∀ y∈l,Can cQ y:=by
  have:=hu.path
  rw[e2]at this
  exact fun y hy=>(BQ (l++[fk]) [] (by simpa using this)).2 y (List.mem_append_left _ hy)
 have FN:∀ y∈l,y≠[46]∧y≠[46,46]:=by
  intro y hy
  have hc:=(vr r).2
  have hd:=hu.dots
  rw[hr]at hd
  rw[hd]at hc
  rw[hr]at e1
  exact hc y (by rw[e1];exact zKx _ (List.mem_append_left _ hy))
 have hplen:u.path.length≤4096:=by have:=(mK u).1;have:=hu.len;omega
 have hyl:∀ y∈l,y.length≤4096:=by
  intro y hy
  have:y.length≤u.path.length:=by
   rw[e2]
   obtain⟨p,q,rfl⟩:=List.append_of_mem hy
   simp;omega
  omega
 have henc:∀ y∈l,aD [] (ak y).1=y:=by
  intro y hy
  have hd:=zKG.1 h7 y hy
  unfold bL at hd
  simp only[zKN]at hd
  rcases IU (DC y hy) hd.1.1 with k|k
  ·exact k
  ·have:=hyl y hy;omega
 have hss:∀ s∈l.map (fun y=>(ak y).1),s≠[]∧s≠[46]∧s≠[46,46]:=by
  intro s hs
  obtain⟨y,hy,rfl⟩:=zLc.1 hs
  have hd:=zKG.1 h7 y hy
  unfold bL at hd
  simp only[zKN,bne_iff_ne,ne_eq]at hd
  have he:=henc y hy
  refine⟨hd.2,fun k=>(FN y hy).1 ?_,fun k=>(FN y hy).2 ?_⟩
  ·rw[← he,k];decide
  ·rw[← he,k];decide
 have hid:l.flatMap bu=(l.map (fun y=>(ak y).1)).flatMap fun s=>58::aK s:=by
  rw[zK6];rfl
 have hpath:u.path=if l.map (fun y=>(ak y).1)=[] then cI else(l.map (fun y=>(ak y).1)).flatMap (fun s=>47::aD [] s)++47::fk:=by
  rw[if_neg (by intro k;rw[List.map_eq_nil_iff]at k;subst k;simp at h5)]
  rw[e2,zK0,zK6]
  have:∀ m:List Bytes,(∀ y∈m,aD [] (ak y).1=y)→m.flatMap (fun y=>47::aD [] (ak y).1)=m.flatMap (47::·):=by
   intro m
   induction m with
   | nil=>intro _;rfl
   | cons y m ih =>
     intro hm
     rw[zKw,zKw,ih (fun z hz=>hm z (zKx _ hz)),hm y zKy]
  rw[this l henc]
  simp
 rw[hid]at hl ⊢
 exact⟨zQ hu h2 h3 hss hpath hl,_,rfl,hl,hss⟩
theorem oC {d c:fN}(h:eG d=(c,0)):∃ u,iW u∧eK c=(u,0)∧fW u=(c,0)∧eG c=(c,0)∧bg c=((u.host,u.port),0)∧aY (bA c)=(c,0)∧(∃ r,c.id=bh u++r)∧c.method=dK:=by
 unfold eG at h
 split at h
 ·rename_i h1;exact absurd (zK5.inj h).2 h1
 rename_i h1
 have e:eK d=((eK d).1,0):=by
  have:(eK d).2=0:=by simpa using h1
  rw[← this]
 obtain⟨hu,-⟩:=wR e
 obtain⟨h2,ss,h3,h4,h5⟩:=from_to hu h
 have hw:=zH hu.host h5 (by rw[← h3];exact h4)
 rw[← h3]at hw
 have hc:zw c:=by
  have hl:(bA ⟨dK,bh (eK d).1++ss.flatMap fun s=>58::aK s⟩).length≤4096:=by rw[← h3];exact h4
  have:=DT hu.host h5 hl
  rw[← h3]at this
  exact this
 exact⟨_,hu,h2,h,by unfold eG;rw[h2];simp only[ne_eq,not_true,if_false];exact h,hw.1,BY hc h4,⟨ss.flatMap fun s=>58::aK s,by rw[h3]⟩,by rw[h3]⟩
open Go Go.RowKit
theorem nI (c:UInt8)(s:Bytes):∃ l,aA c s=(aG c s).1::l:=by
 by_cases hp:pre (·==c) s<s.length
 ·rw[cG hp,show aG c s=(s.take (pre (·==c) s),s.drop (pre (·==c) s+1),true) from if_pos hp]
  exact⟨_,rfl⟩
 ·rw[bZ hp,show aG c s=(s,[],false) from if_neg hp]
  exact⟨_,rfl⟩
theorem B8 {s:Bytes}(h:(cA s).2=0):PU.bad ∉ ay s:=by
 intro hb
 unfold cA at h
 rw[if_pos hb]at h
 simp at h
theorem nL {d:fN}(hm:d.method=dK)(h:(aY (bA d)).2=0):d.id.length≤4096∧∀ y∈aA 58 d.id,PU.bad ∉ ay y∧y.length≤4096:=by
 obtain⟨m,i⟩:=d
 simp only at hm
 subst hm
 have ht:bA ⟨dK,i⟩=jR++(dK++58::i):=by simp[bA]
 unfold aY at h
 split at h
 ·simp at h
 rename_i h1
 have hp:jR.isPrefixOf (bA ⟨dK,i⟩)=true:=by rw[ht];exact zKI.2 ⟨_,rfl⟩
 rw[if_neg (by rw[hp];simp),ht,show (jR++(dK++58::i)).drop 4=dK++58::i from rfl]at h
 have hc:aG 58 (dK++58::i)=(dK,i,true):=by
  rw[F4 (c:=58) (a:=dK) (58::i) (by decide)]
  rfl
 unfold lW at h
 rw[hc]at h
 simp only at h
 rw[if_neg (by simp),if_neg (by decide)]at h
 have h2:(cA i).2=0:=by
  by_cases k:(cA i).2=0
  ·exact k
  ·unfold jH at h
   rw[if_pos k]at h
   exact h
 have hb:=B8 h2
 obtain⟨x,l,e1,e2,e3⟩:=oG 58 _ i (zKE _)
 have hu:=(oI l x).1
 rw[← e2]at hu
 have eF:i.length≤4096:=by
  rw[ht]at h1
  simp only[zKF,zKD]at h1
  omega
 refine⟨eF,fun y hy=>⟨fun k=>hb (hu.1 ⟨y,by rw[← e1];exact hy,k⟩),?_⟩⟩
 have:=ib 58 i y hy
 omega
theorem vA {d:fN}(hm:d.method=dK)(h:(aY (bA d)).2=0):ak (aG 58 d.id).1=(jl (aG 58 d.id).1,0):=by
 obtain⟨h1,h2⟩:=nL hm h
 obtain⟨l,e⟩:=nI 58 d.id
 obtain⟨h3,h4⟩:=h2 (aG 58 d.id).1 (by rw[e];exact zKy)
 rw[lY (by omega),if_neg h3]
theorem cN (s:Bytes):(ak s).1.length≤s.length:=by
 unfold ak
 split
 ·simp
 ·split
  ·simp
  ·exact jI s
theorem Fc (x:Bytes):(gG x).length≤3 * x.length+1:=by
 have h1:=dM [] (ak x).1
 have h2:=cN x
 unfold gG
 simp only[zKD]
 omega
theorem Af (x:Bytes):(bu x).length≤3 * x.length+1:=by
 have h1:=fw (ak x).1
 have h2:=cN x
 unfold bu
 simp only[zKD]
 omega
theorem zf:∀ l:List Bytes,(l.flatMap gG).length≤3 * l.flatten.length+l.length
 | []=>by simp
 | x::l=>by
   have:=Fc x
   have:=zf l
   simp only[zKw,zKF,zK9,zKD]
   omega
theorem rK:∀ l:List Bytes,(l.flatMap bu).length≤3 * l.flatten.length+l.length
 | []=>by simp
 | x::l=>by
   have:=Af x
   have:=rK l
   simp only[zKw,zKF,zK9,zKD]
   omega
theorem lG (c:UInt8)(s:Bytes):(aA c s).flatten.length+(aA c s).length=s.length+1:=by
 obtain⟨x,l,e1,e2,-⟩:=oG c _ s (zKE _)
 rw[e1]
 conv=>rhs;rw[e2]
 have:∀ l:List Bytes,(l.flatMap (c::·)).length=l.flatten.length+l.length:=by
  intro l
  induction l with
  | nil=>rfl
  | cons y l ih=>simp only[zKw,zKF,zK9,zKD,ih];omega
 simp only[zK9,zKF,zKD,this]
 omega
theorem escDown (s:Bytes):(aD [] s).flatMap (mW 126 [37,55,69])=aK s:=by
 induction s with
 | nil=>rfl
 | cons c s ih =>
   show (iu [] c++aD [] s).flatMap _=gS c++aK s
   rw[zK0,ih]
   congr 1
   have:=dy (p:=fun c=>(iu [] c).flatMap (mW 126 [37,55,69])==gS c) (by decide +kernel) c
   simpa using this
theorem wS (c:UInt8)(s:Bytes):Lib.splitK [c] 0 (Lib.count s [c]) s=aA c s:=tL c _ s (Lib.count_one c s).symm
theorem vj {d:fN}(h:(bg d).2=0):aE (bf (bg d).1.1 (bg d).1.2)=(((bg d).1.1,(bg d).1.2),0)∧d.method=dK∧(aY (bA d)).2=0:=by
 unfold bg at h ⊢
 by_cases h1:d.method=dK
 ·rw[if_neg (by simp[h1])]at h ⊢
  by_cases h2:(aY (bA d)).2=0
  ·rw[if_neg (by simp[h2])]at h ⊢
   refine⟨?_,h1,h2⟩
   generalize hX:aE (ak (aG 58 d.id).1).1=X at h ⊢
   obtain⟨⟨x,p⟩,e⟩:=X
   simp only at h ⊢
   subst h
   exact(cu hX).1
  ·rw[if_pos h2]at h
   exact absurd h h2
 ·rw[if_pos h1]at h
  simp at h
theorem rU {u:fc}(hv:fO u=true):∃ (T:List Bytes) (z:Bytes),aA 47 u.path=(aG 47 u.path).1::T∧T.getLast? = some z∧0<T.length∧u.path.length≤4096:=by
 have hc:=qR hv
 obtain⟨r,hr⟩:=hc.DX
 have hl:=(mK u).1
 have hlen:=hc.len
 obtain⟨T,hT⟩:=nI 47 u.path
 have h0:pre (·==47) (47::r)=0:=by simp[cf]
 have e:aA 47 (47::r)=[]::aA 47 r:=by
  rw[cG (by rw[h0];simp),h0]
  rfl
 have hT2:=hT
 rw[hr,e]at hT2
 have h2:=iw 47 r
 have h3:aA 47 r=T:=(zKX.inj hT2).2
 have hT0:T≠[]:=by rintro rfl;rw[h3]at h2;simp at h2
 refine⟨T,T.getLast hT0,hT,List.getLast?_eq_some_getLast hT0,zLm.2 hT0,by omega⟩
theorem uW {u:fc}{c z:Bytes}{T:List Bytes}(hv:fO u=true)(hT:aA 47 u.path=c::T)(hz:T.getLast? = some z) :
 fW u=if u.bl=true then(fN.none,6) else if u.bE=true then(fN.none,6) else if (z != fk)=true then(fN.none,6) else if T.length=1 then(fN.none,110) else fv u T.dropLast:=by
 unfold fW
 rw[if_neg (by rw[hv];simp),hT,List.tail_cons,hz]
 by_cases h1:u.bl=true
 ·rw[if_pos (.inl h1),if_pos h1]
 rw[if_neg h1]
 by_cases h2:u.bE=true
 ·rw[if_pos (.inr (.inl h2)),if_pos h2]
 rw[if_neg h2]
 by_cases h3:z=fk
 ·have hn:¬ (u.bl=true∨u.bE=true∨some z≠some fk):=by simp[h1,h2,h3]
  have hm:¬ (z != fk)=true:=by simp[h3]
  rw[if_neg hn,if_neg hm]
 ·rw[if_pos (.inr (.inr (by simpa using h3))),if_pos (by simpa using h3)]
end Wf
namespace Go.Proofs.YteipdaijbncgeaaGreatDoor
open Go Vc Go.RowKit
theorem FM (w:World)(o:Obj):(w.alloc o).heap[w.heap.size]? = some o:=by
 show (w.heap.push o)[w.heap.size]? = some o
 simp
theorem DA (w:World)(o:Obj):(w.alloc o).heap.size=w.heap.size+1:=by
 show (w.heap.push o).size=_
 simp
theorem sc_row {V:Cx}{f:FuncId}{args:List SV}{bs:List aw}{c:List SV}{T:TypeId}(jE:Vc.Enters V f)(hfa:flat.ai args=true)(hfc:flat.ai c=true)(hn:c.length≤maxLen)
 (h:∀ w,V.E w→Calls V.P f (aJ kH args).toArray w fun e w'=>e=.returned (.slice (some ⟨w.heap.size,0,none⟩) c.length c.length)∧w'=w.alloc (.cells (aJ kH c).toArray T)) :
 SC V f args bs (fun r b=>r=.o bs.length c.length∧b=bs++[.own c T 1 c.length true]):=by
 refine⟨jE,fun β fp w gC hG hE=>?_⟩
 rw[dx args hfa β kH]
 refine(h w hE).mono ?_
 rintro e w' ⟨rfl,rfl⟩
 have hb:Below w.heap.size w (w.alloc (.cells (aJ kH c).toArray T)):=Below.alloc (Below.refl _ _) (zKE _) _
 refine⟨.o bs.length c.length,bs++[.own c T 1 c.length true],fun i=>if i<bs.length then β i else⟨w.heap.size,0,c.length+1⟩,
  fun i k=>if i<bs.length then fp i k else(i=bs.length∧k=w.heap.size),⟨rfl,rfl⟩,fun i hi=>by simp[hi],by simp,fun β' hβ=>?_,mJ.jA hb,?_⟩
 ·have hAgr:bC bs.length β β':=fun i hi=>by
   have:=hβ i (by rw[zKF];omega)
   simpa[hi] using this
  have Gl:β' bs.length=⟨w.heap.size,0,c.length+1⟩:=by
   have:=hβ bs.length (by simp)
   simpa using this.symm
  have hbw:=gC β' hAgr
  refine⟨?_,?_,?_,?_⟩
  ·simp[ah,Gl,oV]
  ·intro i r hi
   rcases zKP i bs.length with aC|rC
   ·rw[zKz aC]at hi
    have:=(hbw.holds i r hi).stays (w':=w.alloc (.cells (aJ kH c).toArray T)) (fun k hk=>hb.block k (hbw.lt i r hi k hk))
    simpa[aC] using this
   ·rw[zKS rC]at hi
    obtain rfl:i=bs.length:=by
     rcases Nat.eq_or_lt_of_le rC with e|e
     ·exact e.symm
     ·rw[List.getElem?_eq_none (by simp;omega)]at hi;cases hi
    simp only[Nat.sub_self,List.getElem?_cons_zero,zK8.injEq]at hi
    subst hi
    right
    have hc:(aJ kH c)=c.map (ah β'):=by rw[← bV,dx c hfc kH β']
    have hhd:Head (w.alloc (.cells (aJ kH c).toArray T)) w.heap.size T (c.map (ah β')) [] (0,0):=⟨by rw[zKR,← hc];exact FM _ _,.inr (zKE _)⟩
    rw[Gl]
    exact⟨by simp,by simp,by simpa using hn,by simp,hhd.sS,fun _=>⟨rfl,[],(0,0),hhd,.inr (.inl (zKE _)),by simp⟩,fun k=>by simp⟩
  ·intro i r hi k hk
   rcases zKP i bs.length with aC|rC
   ·rw[zKz aC]at hi
    simp only[aC,if_true]at hk
    exact Nat.lt_of_lt_of_le (hbw.lt i r hi k hk) hb.size
   ·simp only[show ¬ i<bs.length by omega,if_false]at hk
    rw[hk.2,DA]
    omega
  ·intro i j r r' hi hj xL hm k hk hk'
   rcases zKP i bs.length with aC|rC
   ·rw[zKz aC]at hi
    simp only[aC,if_true]at hk
    rcases zKP j bs.length with Cs|hjg
    ·rw[zKz Cs]at hj
     simp only[Cs,if_true]at hk'
     exact hbw.sep i j r r' hi hj xL hm k hk hk'
    ·simp only[show ¬ j<bs.length by omega,if_false]at hk'
     have:=hbw.lt i r hi k hk
     omega
   ·simp only[show ¬ i<bs.length by omega,if_false]at hk
    rcases zKP j bs.length with Cs|hjg
    ·rw[zKz Cs]at hj
     simp only[Cs,if_true]at hk'
     have:=hbw.lt j r' hj k hk'
     omega
    ·simp only[show ¬ j<bs.length by omega,if_false]at hk'
     omega
 ·refine⟨fun i r' hi hm k hk=>?_,fun i r' hi k hk=>?_⟩
  ·rcases zKP i bs.length with aC|rC
   ·rw[zKz aC]at hi
    simp only[aC,if_true]at hk
    exact .inr ⟨i,r',hi,hm,hk⟩
   ·simp only[show ¬ i<bs.length by omega,if_false]at hk
    exact .inl (by omega)
  ·rcases zKP i bs.length with aC|rC
   ·rw[zKz aC]at hi
    simp only[aC,if_true]at hk
    exact .inr ⟨i,r',hi,hk⟩
   ·simp only[show ¬ i<bs.length by omega,if_false]at hk
    exact .inl (by omega)
open Go.RowKit Wf
attribute [local go_sem] fH eP get_list
theorem BU (r:Int)(h1:128≤r)(h4:Lib.validRune r=true):∃ el:Bytes,Utf8.encode r=⟨zKv el⟩∧2≤el.length∧el.length≤4∧∀ h:el.length - 1<el.length,128≤el[el.length - 1].toNat:=by
 have hv:Utf8.valid r=true:=by
  unfold Lib.validRune at h4
  have:=of_decide_eq_true h4
  unfold Utf8.valid
  simp
  omega
 obtain⟨n,rfl⟩:=Int.eq_ofNat_of_zero_le (show 0≤r by omega)
 have hn:128≤n:=by omega
 have key:∀ m:Nat,128≤(UInt8.ofNat (0x80+m % 64)).toNat:=by
  intro m
  rw[UInt8.toNat_ofNat']
  omega
 unfold Utf8.encode
 rw[if_pos hv]
 simp only[Int.toNat_natCast]
 rw[if_neg (show ¬ n<128 by omega)]
 split
 ·exact⟨_,rfl,by simp,by simp,fun _=>key _⟩
 ·split
  ·exact⟨_,rfl,by simp,by simp,fun _=>key _⟩
  ·exact⟨_,rfl,by simp,by simp,fun _=>key _⟩
theorem yY (l:Bytes)(c:UInt8)(h:∀ b∈l,b≠c):Lib.indexByte l c=-1:=by
 induction l with
 | nil=>rfl
 | cons b l ih =>
   have h1:=h b (by simp)
   have h2:=ih fun x hx=>h x (by simp[hx])
   simp[Lib.indexByte,h1,h2]
set_option maxRecDepth 100000 in
theorem wu (l:Bytes)(w:World)(ha:∀ i (h:i<l.length),l[i].toNat<128)(hl:l.length≤1000000) :
 Calls Tryz.prog 193 #[(Value.string ⟨zKv (l)⟩),.int .i32 65533] w fun e w'=>e=.returned (.int .i64 (-1))∧Below w.heap.size w w':=by
 go_enter Tryz.func193,Tryz.ntmps193
 have Ha:=hid ha
 clear ha
 go_wp2_with fail
 go_loopw [] (fun wr=>∃ i:Nat,i≤l.length∧wr=w.iter ⟨zKv l⟩ i) (fun wr=>l.length - wr.iterPos w.heap.size)
 case atStart=>exact⟨0,by omega,rfl⟩
 case round =>
  obtain⟨i,hi,rfl⟩:=hrel
  by_cases aC:i<l.length
  ·have hnx:=fun ty=>run_next_ascii (P:=Tryz.prog) w ⟨zKv l⟩ i ty aC (Ha.out i aC)
   have hb:=Ha.out i aC
   have hx:((l[i].toNat:Int)==65533)=false:=beq_eq_false_iff_ne.2 (by omega)
   simp only[get_list]at hnx
   go_wp2_with fail
   go_roundw
   case rel=>exact⟨i+1,by omega,rfl⟩
   case measure=>simp;omega
  ·have hnx:=run_next_end (P:=Tryz.prog) w ⟨zKv l⟩ i
   have kS:l.length≤i:=by omega
   go_wp2_with fail
   go_ret
   exact⟨rfl,(Below.refl _ _).alloc (zKE _) _⟩
set_option maxRecDepth 100000 in
theorem wv (l:Bytes)(r:Int)(w:World)(h1:128≤r)(h2:r≤2147483647)(h3:(r==65533)=false)(h4:Lib.validRune r=false) :
 Calls Tryz.prog 193 #[(Value.string ⟨zKv (l)⟩),.int .i32 r] w fun e w'=>e=.returned (.int .i64 (-1))∧Below w.heap.size w w':=by
 have h5:=hid h4
 go_enter Tryz.func193,Tryz.ntmps193
 go_wp2_with (go_at_call 207;refine(Tryz.utf8_ValidRune _ _).mono ?_;rintro e w' ⟨rfl,rfl⟩)
 go_ret
 exact⟨rfl,Below.refl _ _⟩
set_option maxRecDepth 100000 in
theorem uF (l:Bytes)(r:Int)(w:World)(ha:∀ i (h:i<l.length),l[i].toNat<128)(hl:l.length≤1000000)(h1:128≤r)(h2:r≤2147483647)(h3:(r==65533)=false)(h4:Lib.validRune r=true) :
 Calls Tryz.prog 193 #[(Value.string ⟨zKv (l)⟩),.int .i32 r] w fun e w'=>e=.returned (.int .i64 (-1))∧Below w.heap.size w w':=by
 have Ha:=hid ha
 clear ha
 go_enter Tryz.func193,Tryz.ntmps193
 go_wp2_with (go_at_call 207;refine(Tryz.utf8_ValidRune _ _).mono ?_;rintro e w' ⟨rfl,rfl⟩)
 go_step3
 go_wp2_with fail
 obtain⟨el,jN,he1,he2,he3⟩:=BU r h1 h4
 have He3:=hid he3
 clear he3
 rw[jN]
 have hx:wrap64 ((ByteArray.size ⟨zKv el⟩:Int) - 1)=((el.length - 1:Nat):Int):=by
  have:ByteArray.size ⟨zKv el⟩=el.length:=rfl
  rw[this,IntWalk.wrap64_in _ ⟨by omega,by omega⟩]
  omega
 rw[hx]
 clear jN hx h1 h2 h3 h4
 refine wp_loop_once ?_
 by_cases aC:el.length - 1<l.length
 ·have hle:el.length - 1<el.length:=by omega
  have hbt:=Ha.out _ aC
  have hc:=He3.out (by omega)
  have bp:((l[el.length - 1].toNat:Int) != (el[el.length - 1].toNat:Int))=true:=by rw[bne_iff_ne];omega
  have iT:=yY (l.drop (el.length - 1+1)) el[el.length - 1] (fun b hb hx=>by
   obtain⟨j,hj,rfl⟩:=List.mem_iff_getElem.1 hb
   rw[List.getElem_drop]at hx
   have h1:=Ha.out (el.length - 1+1+j) (by simp at hj;omega)
   rw[hx]at h1
   omega)
  have Hno:=hid iT
  clear iT
  go_wp2_with fail
  go_step3
  go_wp2_with fail
  go_quiet (fail)
  go_wp2_with fail
  have hb:Below w'.heap.size w' (w'.drewN nq):=below_drewN (Below.refl _ _) _
  generalize w'.drewN nq=w2 at hb ⊢
  have Cr:IntKind.i64.wrap (((el.length - 1:Nat):Int)+1)=((el.length - 1:Nat):Int)+1:=IntWalk.i64_in _ (by omega)
  have fT:(0:Int)≤((el.length - 1:Nat):Int)+1:=by omega
  have hs3:(((el.length - 1:Nat):Int)+1).toNat=el.length - 1+1:=by omega
  have hs4:((el.length - 1:Nat):Int)+1≤(l.length:Int):=by omega
  go_quiet ((go_at_call 144;refine Calls.quiet_of_same (Tryz.strings_IndexByte _ _ _)))
  clear Cr fT hs3 hs4
  rw[show ((el[el.length - 1].toNat:Int)).toNat.toUInt8=el[el.length - 1] from by simp,Hno.out]
  go_wp2_with fail
  rw[Exit.noGoto_ret]
  go_wp2_with fail
  rw[Exit.noGoto_ret]
  go_ret
  exact⟨rfl,below_drewN hb _⟩
 ·go_wp2_with fail
  rw[Exit.noGoto_ret]
  go_ret
  exact⟨rfl,Below.refl _ _⟩
theorem De (s:ByteArray)(set:Bytes)(i k:Nat)(hn:Lib.NoAny s.data.toList set i)(jD:∀ j (h:j<set.length),set[j].toNat<128)(hh:∀ j,i≤j→j<i+k→∀ h:j<s.size,128≤s[j].toNat):Lib.NoAny s.data.toList set (i+k):=by
 intro j b hj hb
 by_cases lR:j<i
 ·exact hn j b lR hb
 ·obtain⟨hjs,rfl⟩:=zKC.1 hb
  have hs:j<s.size:=by rw[Lib.size_eq];exact hjs
  have h1:128≤(s.data.toList[j]).toNat:=hh j (by omega) hj hs
  rw[Bool.eq_false_iff]
  intro hc
  have wB:=zKW.1 hc
  obtain⟨q,hq,he⟩:=List.mem_iff_getElem.1 wB
  have h2:=jD q hq
  rw[he]at h2
  omega
theorem ID (s:ByteArray)(j:Nat)(h:j<s.size):(s.get! j).toNat=s[j].toNat:=by
 have:=get_at s j h
 rw[Nat.add_zero]at this
 rw[this]
theorem js (s:ByteArray)(j:Nat)(h:(decide (j<s.size)&&(s.get! j).toNat / 64==2)=true):j<s.size∧∀ h:j<s.size,128≤s[j].toNat:=by
 simp only[zKN,decide_eq_true_eq,beq_iff_eq]at h
 refine⟨h.1,fun hj=>?_⟩
 have:=h.2
 rw[ID s j hj]at this
 omega
def Span (s:ByteArray)(i:Nat)(p:Nat × Nat):Prop:=i+p.2≤s.size∧∀ j,i≤j→j<i+p.2→∀ h:j<s.size,128≤s[j].toNat
theorem B4 (s:ByteArray)(i:Nat)(h:i<s.size)(hx:128≤s[i].toNat):Span s i (Utf8.decode s i):=by
 have one:∀ e,Span s i (e,1):=fun e=>⟨by dsimp only;omega,fun j h1 h2 h3=>by
  dsimp only at h2
  obtain rfl:j=i:=by omega
  exact hx⟩
 unfold Utf8.decode
 dsimp only
 split
 ·exact one _
 split
 ·rename_i hc
  simp only[zKN]at hc
  have c1:=js s (i+1) (by simpa using hc.2)
  split
  ·refine⟨by dsimp only;omega,fun j h1 h2 h3=>?_⟩
   dsimp only at h2
   rcases zKP j (i+1) with h' | h'
   ·exact(one 0).2 j h1 h' h3
   ·obtain rfl:j=i+1:=by omega
    exact c1.2 h3
  ·exact one _
 ·split
  ·rename_i hc
   simp only[zKN]at hc
   have c1:=js s (i+1) (by simpa using hc.1.2)
   have c2:=js s (i+2) (by simpa using hc.2)
   split
   ·refine⟨by dsimp only;omega,fun j h1 h2 h3=>?_⟩
    dsimp only at h2
    rcases zKP j (i+1) with h' | h'
    ·exact(one 0).2 j h1 h' h3
    ·rcases zKP j (i+2) with h'' | h''
     ·obtain rfl:j=i+1:=by omega
      exact c1.2 h3
     ·obtain rfl:j=i+2:=by omega
      exact c2.2 h3
   ·exact one _
  ·split
   ·rename_i hc
    simp only[zKN]at hc
    have c1:=js s (i+1) (by simpa using hc.1.1.2)
    have c2:=js s (i+2) (by simpa using hc.1.2)
    have c3:=js s (i+3) (by simpa using hc.2)
    split
    ·refine⟨by dsimp only;omega,fun j h1 h2 h3=>?_⟩
     dsimp only at h2
     rcases zKP j (i+1) with h' | h'
     ·exact(one 0).2 j h1 h' h3
     ·rcases zKP j (i+2) with h'' | h''
      ·obtain rfl:j=i+1:=by omega
       exact c1.2 h3
      ·rcases zKP j (i+3) with h4|h4
       ·obtain rfl:j=i+2:=by omega
        exact c2.2 h3
       ·obtain rfl:j=i+3:=by omega
        exact c3.2 h3
    ·exact one _
   ·exact one _
theorem wx (l:Bytes)(r:Int)(w:World)(ha:∀ i (h:i<l.length),l[i].toNat<128)(hl:l.length≤1000000)(h1:128≤r)(h2:r≤2147483647) :
 Calls Tryz.prog 193 #[(Value.string ⟨zKv (l)⟩),.int .i32 r] w fun e w'=>e=.returned (.int .i64 (-1))∧Below w.heap.size w w':=by
 by_cases h3:r=65533
 ·subst h3
  exact wu l w ha hl
 ·cases h4:Lib.validRune r
  ·exact wv l r w h1 h2 (beq_eq_false_iff_ne.2 h3) h4
  ·exact uF l r w ha hl h1 h2 (beq_eq_false_iff_ne.2 h3) h4
theorem uD {w:World}{k:Nat}{s:ByteArray}{p:Nat}(h:w.heap[k]? = some (.stringIter s p)):w.iterPos k=p:=by unfold World.iterPos;rw[h]
set_option maxRecDepth 100000 in
theorem uG (s l:Bytes)(w:World)(ha:∀ i (h:i<l.length),l[i].toNat<128)(hl:l.length≤1000000)(h2:2≤l.length)(h8:s.length≤8) :
 Calls Tryz.prog 168 #[(Value.string ⟨zKv (s)⟩),(Value.string ⟨zKv (l)⟩)] w fun e w'=>e=.returned (.int .i64 (Lib.indexAny s l))∧Below w.heap.size w w':=by
 have Ha:=hid ha
 clear ha
 have hemp:l.isEmpty=false:=by cases l <;> simp at h2 ⊢
 have Gl:((l.length:Int)==1)=false:=beq_eq_false_iff_ne.2 (by omega)
 have h8z:decide ((8:Int)<(s.length:Int))=false:=decide_eq_false (by omega)
 go_enter Tryz.func168,Tryz.ntmps168
 go_wp2_with (go_at_call 194;refine(Tryz.strings_shouldUseASCIISet _ _).mono ?_;rintro e w' ⟨rfl,hw⟩;rw[hw,h8z])
 go_loopw [] (fun wr=>∃ i:Nat,i≤s.length∧wr.heap[w.heap.size]? = some (.stringIter ⟨zKv s⟩ i)∧Below w.heap.size w wr∧Lib.NoAny s l i) (fun wr=>s.length - wr.iterPos w.heap.size)
 case atStart=>exact⟨0,by omega,World.iter_heap _ _ _,(Below.refl _ _).alloc (zKE _) _,Lib.NoAny.zero _ _⟩
 case round =>
  obtain⟨i,hi,hit,mu,iT⟩:=hrel
  have Hit:=hid hit
  have Hbl:=hid mu
  have Hno:=hid iT
  clear hit mu iT
  have Dr:wr.iterPos w.heap.size=i:=by unfold World.iterPos;rw[Hit.out]
  have Hpos:=hid Dr
  clear Dr
  have zb:w.heap.size<wr.heap.size:=(Array.getElem?_eq_some_iff.1 Hit.out).1
  by_cases aC:i<s.length
  ·by_cases hx:s[i].toNat<128
   ·have hnx:=fun ty=>Lib.run_next_ascii_at (P:=Tryz.prog) wr w.heap.size ⟨zKv s⟩ i ty Hit.out aC hx
    simp only[get_list]at hnx
    have FO:=Lib.contains_iff_indexByte l s[i]
    have iZ:((s[i].toNat:Int)).toNat.toUInt8=s[i]:=by simp
    cases nz:l.contains s[i]
    ·rw[nz]at FO
     have Dv:¬ ((0:Int)≤Lib.indexByte l s[i]):=of_decide_eq_false FO.symm
     clear FO
     go_wp2_with (go_at_call 193;refine(Tryz.strings_IndexRune_ascii _ _ _ (by omega) (by omega)).mono ?_;rintro e w' ⟨rfl,hw⟩;rw[hw,iZ])
     have hk:=Lib.iterAt_heap wr w.heap.size ⟨zKv s⟩ i (i+1) Hit.out
     have zz:(⟨zKv s⟩:ByteArray).data.toList[i]? = some s[i]:=zLd aC
     refine⟨⟨i+1,by omega,hk,Lib.below_iterAt Hbl.out (zKE _) _ _,Hno.out.succ zz nz⟩,?_⟩
     rw[uD hk,Hpos.out];omega
    ·rw[nz]at FO
     have rC:((0:Int)≤Lib.indexByte l s[i]):=of_decide_eq_true FO.symm
     clear FO
     go_wp2_with (go_at_call 193;refine(Tryz.strings_IndexRune_ascii _ _ _ (by omega) (by omega)).mono ?_;rintro e w' ⟨rfl,hw⟩;rw[hw,iZ])
     have zz:s[i]? = some s[i]:=zLd aC
     go_ret
     exact⟨tl (by rw[Lib.indexAny_hit Hno.out zz nz]),Lib.below_iterAt Hbl.out (zKE _) _ _⟩
   ·have hnx:=fun ty=>Lib.run_next_any_at (P:=Tryz.prog) wr w.heap.size ⟨zKv s⟩ i ty Hit.out aC
    have hd:=decode_high ⟨zKv s⟩ i aC (by simp only[get_list];omega)
    have oe:=decode_le ⟨zKv s⟩ i
    go_wp2_with (go_at_call 193;refine(wx l _ _ Ha.out hl (by omega) (by omega)).mono ?_;rintro e w' ⟨rfl,hw⟩)
    have mr:=B4 ⟨zKv s⟩ i aC (by simp only[get_list];omega)
    have hk:=Lib.iterAt_heap wr w.heap.size ⟨zKv s⟩ i (i+(Utf8.decode ⟨zKv s⟩ i).2) Hit.out
    have fQ:=(hw.block w.heap.size (by rw[Lib.iterAt_size];exact zb)).trans hk
    have hle:i+(Utf8.decode ⟨zKv s⟩ i).2≤s.length:=mr.1
    refine⟨⟨_,hle,fQ,(Lib.below_iterAt Hbl.out (zKE _) _ _).trans (hw.mono (by rw[Lib.iterAt_size];omega)),De ⟨zKv s⟩ l i _ Hno.out Ha.out mr.2⟩,?_⟩
    rw[uD fQ,Hpos.out];omega
  ·have hnx:=fun ty=>Lib.run_next_end_at (P:=Tryz.prog) wr w.heap.size ⟨zKv s⟩ i ty Hit.out aC
   go_wp2_with fail
   go_ret
   exact⟨tl (by rw[Lib.indexAny_none (by rw[show s.length=i by omega];exact Hno.out)]),Hbl.out⟩
theorem strings_IndexAny (s l:Bytes)(w:World)(ha:∀ i (h:i<l.length),l[i].toNat<128)(hl:l.length≤1000000)(h2:2≤l.length)(hs:s.length<4294967281) :
 Calls Tryz.prog 168 #[(Value.string ⟨zKv (s)⟩),(Value.string ⟨zKv (l)⟩)] w fun e w'=>e=.returned (.int .i64 (Lib.indexAny s l))∧Below w.heap.size w w':=by
 rcases zKP 8 s.length with h8|h8
 ·refine(Tryz.strings_IndexAny_long (fun _=>by kernel_rfl) ⟨zKv s⟩ ⟨zKv l⟩ w h2 h8 hs (show l.length<4294967281 by omega) (fun j b hb=>?_)).mono ?_
  ·obtain⟨hj,rfl⟩:=zKC.1 hb
   exact ha j hj
  ·rintro e w' ⟨rfl,rfl⟩
   exact⟨rfl,((Below.refl _ _).alloc (zKE _) _).alloc (by simp) _⟩
 ·exact uG s l w ha hl h2 h8
open Go.RowKit Wf
attribute [local go_sem] fH eP get_list
theorem bF (c:UInt8)(w:World):Calls Tryz.prog 182 #[.int .u8 c.toNat] w fun e w'=>e=.returned (.bool (isDigit c))∧w=w':=by
 go_enter Tryz.func182,Tryz.ntmps182
 go_wp2
 all_goals
  go_ret
  refine⟨aZ ?_,rfl⟩
  have hb:=C9 c
  have hc:=c.toNat_lt
  rw[zK3]
  simp[isDigit]
  try omega
theorem cO (c:UInt8)(w:World):Calls Tryz.prog 197 #[.int .u8 c.toNat] w fun e w'=>e=.returned (.bool (isAlpha c))∧w=w':=by
 go_enter Tryz.func197,Tryz.ntmps197
 go_wp2
 all_goals
  go_ret
  refine⟨aZ ?_,rfl⟩
  have hb:=C9 c
  have hc:=c.toNat_lt
  rw[zK3]
  simp[isAlpha]
  try omega
theorem Cf (c:UInt8)(w:World):Calls Tryz.prog 189 #[.int .u8 c.toNat] w fun e w'=>e=.returned (.bool (bt c))∧w=w':=by
 go_enter Tryz.func189,Tryz.ntmps189
 go_wp2
 all_goals
  go_ret
  refine⟨aZ ?_,rfl⟩
  have hb:=C9 c
  have hc:=c.toNat_lt
  rw[zK3]
  simp[bt]
  try omega
theorem dr (c:UInt8)(w:World):Calls Tryz.prog 94 #[.int .u8 c.toNat] w fun e w'=>e=.returned (.bool (isDigit c))∧w=w':=by
 go_enter Tryz.func94,Tryz.ntmps94
 go_wp2
 all_goals
  go_ret
  refine⟨aZ ?_,rfl⟩
  have hb:=C9 c
  have hc:=c.toNat_lt
  rw[zK3]
  simp[isDigit]
  try omega
theorem ix (c:UInt8)(w:World):Calls Tryz.prog 93 #[.int .u8 c.toNat] w fun e w'=>e=.returned (.bool (isAlpha c))∧w=w':=by
 go_enter Tryz.func93,Tryz.ntmps93
 go_wp2
 all_goals
  go_ret
  refine⟨aZ ?_,rfl⟩
  have hb:=C9 c
  have hc:=c.toNat_lt
  rw[zK3]
  simp[isAlpha]
  try omega
theorem Av (c:UInt8)(w:World):Calls Tryz.prog 124 #[.int .u8 c.toNat] w fun e w'=>e=.returned (.bool (bt c))∧w=w':=by
 go_enter Tryz.func124,Tryz.ntmps124
 go_wp2
 all_goals
  go_ret
  refine⟨aZ ?_,rfl⟩
  have hb:=C9 c
  have hc:=c.toNat_lt
  rw[zK3]
  simp[bt]
  try omega
open Go.RowKit Wf
def u8V (b:UInt8):Value:=.int .u8 b.toNat
def jb (w:World)(b:Nat)(l:Bytes):Prop:=∃ (rest:List Value) (T:TypeId) (fz:Nat × Nat),w.heap[b]? = some (.cells (l.map u8V++rest).toArray T fz)∧(l.length≤fz.1∨fz.2≤fz.1)
theorem jb.cell {w:World}{b:Nat}{l:Bytes}(h:jb w b l){k:Nat}(hk:k<l.length):w.cell? ⟨b,k,none⟩=some (.int .u8 l[k].toNat):=by
 obtain⟨rest,T,fz,hb,_⟩:=h
 rw[Lib.cell_of_heap hb k]
 simp[zKz,hk,u8V]
theorem jb.frozen {w:World}{b:Nat}{l:Bytes}(h:jb w b l){k:Nat}(hk:k<l.length):w.frozen? ⟨b,k,none⟩=false:=by
 obtain⟨rest,T,fz,hb,hf⟩:=h
 simp only[World.frozen?,hb]
 simp
 omega
theorem jb.set {w:World}{b:Nat}{l:Bytes}(h:jb w b l){k:Nat}(hk:k<l.length)(x:UInt8):jb (w.setCell ⟨b,k,none⟩ (.int .u8 x.toNat)) b (l.set k x):=by
 obtain⟨rest,T,fz,hb,hf⟩:=h
 refine⟨rest,T,fz,?_,by simpa using hf⟩
 rw[heap_set hb]
 congr 2
 simp[List.set_append_left,hk,List.map_set,u8V]
theorem jb.back {w:World}{b:Nat}{l:Bytes}(h:jb w b l)(cap:Nat) :
 (convert 25 9 (.slice (some ⟨b,0,none⟩) l.length cap)).run Tryz.prog w=.ok (Value.string ⟨zKv (l)⟩) w:=by
 refine run_convert_bytes_back w _ _ 5 ⟨b,0,none⟩ cap l Tryz.underlying25 Tryz.underlying5 Tryz.underlying9 (fun j hj=>?_)
 have:(⟨b,0,none⟩:Addr).add j=⟨b,j,none⟩:=by
  unfold Addr.add
  split
  ·subst j;rfl
  ·simp
 rw[this]
 exact h.cell hj
theorem Cg (b o j:Nat):(⟨b,o,none⟩:Addr).add j=⟨b,o+j,none⟩:=by
 unfold Addr.add
 split
 ·subst j;rfl
 ·rfl
theorem jb.backAt {w:World}{b a:Nat}{y l:Bytes}(h:jb w b (y++l))(hy:y.length=a)(cap:Nat) :
 (convert 25 9 (.slice (some ⟨b,a,none⟩) l.length cap)).run Tryz.prog w=.ok (Value.string ⟨zKv (l)⟩) w:=by
 refine run_convert_bytes_back w _ _ 5 ⟨b,a,none⟩ cap l Tryz.underlying25 Tryz.underlying5 Tryz.underlying9 (fun j hj=>?_)
 rw[Cg]
 subst hy
 have h1:=h.cell (k:=y.length+j) (by simp;omega)
 have h2:(y++l)[y.length+j]'(by simp;omega)=l[j]:=by rw[List.getElem_append_right (Nat.le_add_right _ _)];simp
 rw[h2]at h1
 exact h1
theorem vq (w:World)(s:Bytes):∃ (w1:World) (cap:Nat),(convert 9 25 (Value.string ⟨zKv (s)⟩)).run Tryz.prog w=.ok (.slice (some ⟨w.heap.size,0,none⟩) s.length cap) w1∧jb w1 w.heap.size s∧Below w.heap.size w w1:=by
 refine⟨_,_,Lib.run_convert_string_bytes w _ _ 5 ⟨zKv s⟩ Tryz.underlying9 Tryz.underlying25 Tryz.underlying5,?_,?_⟩
 ·refine⟨(Array.replicate (grownCap w s.length 0 5 - s.length) (Value.int .u8 0)).toList,5,((Lib.bytesCells w 5 ⟨zKv s⟩).size,(Lib.bytesCells w 5 ⟨zKv s⟩).size+1),?_,?_⟩
  ·rw[Lib.bytesWorld_at_new]
   congr 2
   apply Array.ext'
   simp[Lib.bytesCells]
   rfl
  ·left
   simp[Lib.bytesCells]
 ·exact⟨by simp[Lib.bytesWorld,World.freeze];rfl,rfl,rfl,by rw[Lib.bytesWorld_size];omega,fun k hk=>Lib.bytesWorld_at_old _ _ _ k hk⟩
open Go.RowKit Wf
attribute [local go_sem] fH eP get_list
theorem nM (s:Bytes)(w:World)(hs:s.length≤9223372036854775807) :
 Calls Tryz.prog 66 #[(Value.string ⟨zKv (s)⟩)] w fun e w'=>e=.returned (Value.string ⟨zKv (lower s)⟩)∧Below w.heap.size w w':=by
 obtain⟨w1,cap,Io,eV,gA⟩:=vq w s
 have Hrow:=hid eV
 have Hw1:=hid gA
 clear eV gA
 go_enter Tryz.func66,Tryz.ntmps66
 go_wp2_with fail
 go_loopw [10] (fun i wr=>∃ k:Nat,k≤s.length∧i=.int .i64 k∧jb wr w.heap.size (gL k s)∧Below w.heap.size w wr) (fun i _=>s.length - (intOf i).toNat)
 case atStart=>exact⟨0,by omega,rfl,by rw[uv];exact Hrow.out,Hw1.out⟩
 case round =>
  obtain⟨k,hk,rfl,eV,hw⟩:=hrel
  have Hrow:=hid eV
  have Hw:=hid hw
  clear Io eV hw
  by_cases aC:k<s.length
  ·have hll:=jf k s
   have gu:=Hrow.out.cell (k:=k) (by omega)
   have wD:=Hrow.out.frozen (k:=k) (by omega)
   rw[xx aC]at gu
   clear hll
   by_cases lg:65≤s[k].toNat∧s[k].toNat≤90
   ·obtain⟨tz,uU⟩:=lg
    have oZ:=Hrow.out.set (k:=k) (by rw[jf];exact aC) (cn s[k])
    rw[xw aC,uu tz uU]at oZ
    have Hst:=hid oZ
    clear oZ
    go_wp2_with fail
    go_roundw
    case rel=>exact⟨k+1,by omega,by go_num,Hst.out,Hw.out.setCell (p:=⟨w.heap.size,k,none⟩) (zKE _) _⟩
    case measure=>simp[intOf];omega
   ·have Hn:=hid (uw aC (xu lg))
    have hor:s[k].toNat<65∨90<s[k].toNat:=by omega
    rcases hor with h|h
    all_goals
     go_wp2_with fail
     go_roundw
     case rel=>exact⟨k+1,by omega,by go_num,Hn.out ▸ Hrow.out,Hw.out⟩
     case measure=>simp[intOf];omega
  ·have hl:k=s.length:=by omega
   have uM:=Hrow.out
   rw[hl,xy]at uM
   have iZ:=uM.back cap
   rw[show (lower s).length=s.length by simp[lower]]at iZ
   clear hl uM
   go_wp2_with fail
   go_ret
   exact⟨rfl,Hw.out⟩
theorem mZ (s:Bytes)(w:World)(hs:s.length≤9223372036854775807) :
 Calls Tryz.prog 47 #[(Value.string ⟨zKv (s)⟩)] w fun e w'=>e=.returned (Value.string ⟨zKv (lower s)⟩)∧Below w.heap.size w w':=by
 obtain⟨w1,cap,Io,eV,gA⟩:=vq w s
 have Hrow:=hid eV
 have Hw1:=hid gA
 clear eV gA
 go_enter Tryz.func47,Tryz.ntmps47
 go_wp2_with fail
 go_loopw [9] (fun i wr=>∃ k:Nat,k≤s.length∧i=.int .i64 k∧jb wr w.heap.size (gL k s)∧Below w.heap.size w wr) (fun i _=>s.length - (intOf i).toNat)
 case atStart=>exact⟨0,by omega,rfl,by rw[uv];exact Hrow.out,Hw1.out⟩
 case round =>
  obtain⟨k,hk,rfl,eV,hw⟩:=hrel
  have Hrow:=hid eV
  have Hw:=hid hw
  clear Io eV hw
  by_cases aC:k<s.length
  ·have hll:=jf k s
   have gu:=Hrow.out.cell (k:=k) (by omega)
   have wD:=Hrow.out.frozen (k:=k) (by omega)
   rw[xx aC]at gu
   clear hll
   by_cases lg:65≤s[k].toNat∧s[k].toNat≤90
   ·obtain⟨tz,uU⟩:=lg
    have oZ:=Hrow.out.set (k:=k) (by rw[jf];exact aC) (cn s[k])
    rw[xw aC,uu tz uU]at oZ
    have Hst:=hid oZ
    clear oZ
    go_wp2_with fail
    go_roundw
    case rel=>exact⟨k+1,by omega,by go_num,Hst.out,Hw.out.setCell (p:=⟨w.heap.size,k,none⟩) (zKE _) _⟩
    case measure=>simp[intOf];omega
   ·have Hn:=hid (uw aC (xu lg))
    have hor:s[k].toNat<65∨90<s[k].toNat:=by omega
    rcases hor with h|h
    all_goals
     go_wp2_with fail
     go_roundw
     case rel=>exact⟨k+1,by omega,by go_num,Hn.out ▸ Hrow.out,Hw.out⟩
     case measure=>simp[intOf];omega
  ·have hl:k=s.length:=by omega
   have uM:=Hrow.out
   rw[hl,xy]at uM
   have iZ:=uM.back cap
   rw[show (lower s).length=s.length by simp[lower]]at iZ
   clear hl uM
   go_wp2_with fail
   go_ret
   exact⟨rfl,Hw.out⟩
theorem Ce (s:Bytes)(w:World)(hs:s.length≤9223372036854775807) :
 Calls Tryz.prog 206 #[(Value.string ⟨zKv (s)⟩),.func (.func 182) #[] #[]] w fun e w'=>e=.returned (.bool (s.all isDigit))∧w=w':=by
 go_enter Tryz.func206,Tryz.ntmps206
 go_wp2_with fail
 go_loop [8] (fun i=>∃ k:Nat,k≤s.length∧i=.int .i64 k∧(s.take k).all isDigit=true) (fun i=>s.length - (intOf i).toNat)
 case atStart=>exact⟨0,by omega,rfl,rfl⟩
 case round =>
  obtain⟨k,hk,rfl,aP⟩:=hrel
  have Hall:=hid aP
  clear aP
  by_cases aC:k<s.length
  ·cases hc:isDigit s[k]
   ·have Ha:=hid (cU aC hc)
    go_wp2_with (go_at_call 182;refine(bF _ _).mono ?_;rintro e w' ⟨rfl,rfl⟩)
    go_ret
    exact⟨aZ Ha.out.symm,rfl⟩
   ·go_wp2_with (go_at_call 182;refine(bF _ _).mono ?_;rintro e w' ⟨rfl,rfl⟩)
    go_round
    case rel=>exact⟨k+1,by omega,by go_num,aO aC Hall.out hc⟩
    case measure=>simp[intOf];omega
  ·have aP:=Hall.out
   rw[zKU (by omega)]at aP
   have Ha:=hid aP
   clear aP Hall
   go_wp2_with fail
   go_ret
   exact⟨aZ Ha.out.symm,rfl⟩
theorem gU (s:Bytes)(w:World)(hs:s.length≤9223372036854775807) :
 Calls Tryz.prog 192 #[(Value.string ⟨zKv (s)⟩)] w fun e w'=>e=.returned (.bool (cg s))∧w=w':=by
 cases hn:s.isEmpty
 all_goals
  have Hd:=hid (show cg s=(!s.isEmpty&&s.all isDigit) from rfl)
  rw[hn]at Hd
  go_enter Tryz.func192,Tryz.ntmps192
  go_wp2_with (go_at_call 206;refine(Ce _ _ hs).mono ?_;rintro e w' ⟨rfl,rfl⟩)
  go_ret
  exact⟨aZ (by rw[Hd.out];simp),rfl⟩
theorem yv (s:Bytes)(w:World)(hs:s.length≤9223372036854775807) :
 Calls Tryz.prog 127 #[(Value.string ⟨zKv (s)⟩)] w fun e w'=>e=.returned (.bool (cg s))∧w=w':=by
 go_enter Tryz.func127,Tryz.ntmps127
 go_wp2_with fail
 go_loop [3] (fun i=>∃ k:Nat,k≤s.length∧i=.int .i64 k∧(s.take k).all isDigit=true) (fun i=>s.length - (intOf i).toNat)
 case atStart=>exact⟨0,by omega,rfl,rfl⟩
 case round =>
  obtain⟨k,hk,rfl,aP⟩:=hrel
  have Hall:=hid aP
  clear aP
  by_cases aC:k<s.length
  ·cases hc:isDigit s[k]
   ·have Ha:=hid (cU aC hc)
    go_wp2_with (go_at_call 94;refine(dr _ _).mono ?_;rintro e w' ⟨rfl,rfl⟩)
    go_ret
    exact⟨aZ (by unfold cg;rw[Ha.out];simp),rfl⟩
   ·go_wp2_with (go_at_call 94;refine(dr _ _).mono ?_;rintro e w' ⟨rfl,rfl⟩)
    go_round
    case rel=>exact⟨k+1,by omega,by go_num,aO aC Hall.out hc⟩
    case measure=>simp[intOf];omega
  ·have aP:=Hall.out
   rw[zKU (by omega)]at aP
   have Ha:=hid aP
   clear aP Hall
   go_wp2_with fail
   go_ret
   exact⟨aZ (by unfold cg;rw[Ha.out];simp),rfl⟩
theorem Aw (c:UInt8)(s:Bytes)(w:World)(hs:s.length≤9223372036854775807) :
 Calls Tryz.prog 67 #[.int .u8 c.toNat,(Value.string ⟨zKv (s)⟩)] w fun e w'=>e=.returned (.bool (has s c))∧w=w':=by
 go_enter Tryz.func67,Tryz.ntmps67
 go_wp2_with fail
 go_loop [5] (fun i=>∃ k:Nat,k≤s.length∧i=.int .i64 k∧has (s.take k) c=false) (fun i=>s.length - (intOf i).toNat)
 case atStart=>exact⟨0,by omega,rfl,rfl⟩
 case round =>
  obtain⟨k,hk,rfl,aP⟩:=hrel
  have Hall:=hid aP
  clear aP
  by_cases aC:k<s.length
  ·by_cases hc:s[k]=c
   ·have hx:((s[k].toNat:Int)==(c.toNat:Int))=true:=by simp[hc]
    have Ha:=hid (show has s c=true by unfold has;rw[zKW];exact hc ▸ List.getElem_mem aC)
    go_wp2_with fail
    go_ret
    exact⟨aZ Ha.out.symm,rfl⟩
   ·have hx:((s[k].toNat:Int)==(c.toNat:Int))=false:=by
     rw[beq_eq_false_iff_ne]
     intro h
     exact hc (UInt8.toNat_inj.1 (by omega))
    go_wp2_with fail
    go_round
    case rel=>exact⟨k+1,by omega,by go_num,by
     have:=Hall.out
     unfold has at this ⊢
     rw[zK1 aC,List.contains_eq_any_beq,List.any_append,← List.contains_eq_any_beq,this]
     simp
     exact fun h=>hc h.symm⟩
    case measure=>simp[intOf];omega
  ·have aP:=Hall.out
   rw[zKU (by omega)]at aP
   have Ha:=hid aP
   clear aP Hall
   go_wp2_with fail
   go_ret
   exact⟨aZ Ha.out.symm,rfl⟩
theorem gl (s t:Bytes)(w:World)(hs:s.length≤9223372036854775807)(ht:t.length≤9223372036854775807) :
 Calls Tryz.prog 46 #[(Value.string ⟨zKv (s)⟩),(Value.string ⟨zKv (t)⟩)] w fun e w'=>e=.returned (.int .i64 (pre (has t ·) s))∧w=w':=by
 have hle:=cq (has t ·) s
 go_enter Tryz.func46,Tryz.ntmps46
 go_wp2_with fail
 go_loop [5] (fun i=>∃ k:Nat,k≤pre (has t ·) s∧i=.int .i64 k) (fun i=>s.length - (intOf i).toNat)
 case atStart=>exact⟨0,by omega,rfl⟩
 case round =>
  obtain⟨k,hk,rfl⟩:=hrel
  by_cases aC:k<pre (has t ·) s
  ·have hc:=gH aC (by omega)
   go_wp2_with (go_at_call 67;refine(Aw _ _ _ ht).mono ?_;rintro e w' ⟨rfl,rfl⟩)
   go_round
   case rel=>exact⟨k+1,by omega,by go_num⟩
   case measure=>simp[intOf];omega
  ·obtain rfl:k=pre (has t ·) s:=by omega
   clear hk aC
   by_cases BH:pre (has t ·) s<s.length
   ·have hc:=ga BH
    go_wp2_with (go_at_call 67;refine(Aw _ _ _ ht).mono ?_;rintro e w' ⟨rfl,rfl⟩)
    go_ret
    exact⟨rfl,rfl⟩
   ·have he:=hid (show pre (has t ·) s=s.length by omega)
    go_wp2_with fail
    go_ret
    exact⟨tl (by rw[he.out]),rfl⟩
open Go Vc Go.RowKit Wf
theorem below_draws {w w':World}(h:∃ n,w'=w.drewN n):Below w.heap.size w w':=by
 obtain⟨n,rfl⟩:=h
 exact below_drewN (Below.refl _ _) _
theorem cT {w w':World}(h:w=w'):Below w.heap.size w w':=by subst h;exact Below.refl _ _
theorem dG (l:Bytes)(c:UInt8):PC Tryz.V 144 [.str l,.int .u8 c.toNat] (.int .i64 (Lib.indexByte l c)) :=
 ⟨Tryz.call144,by simp[flat,flat.ai],by simp[flat,flat.ai],fun w hE=>(gj l c w).mono fun _ _ ⟨h,k⟩=>⟨h,cT k⟩⟩
theorem ka (l p:Bytes):PC Tryz.V 177 [.str l,.str p] (.bool (Lib.hasPrefix l p)) :=
 ⟨Tryz.call177,by simp[flat,flat.ai],by simp[flat,flat.ai],fun w hE=>(An l p w).mono fun _ _ ⟨h,k⟩=>⟨h,cT k⟩⟩
theorem kb (l p:Bytes):PC Tryz.V 156 [.str l,.str p] (.eR [.str (Lib.trimPrefix l p),.bool (Lib.hasPrefix l p)]) :=
 ⟨Tryz.call156,by simp[flat,flat.ai],by simp[flat,flat.ai],fun w hE=>(Ao l p w).mono fun _ _ ⟨h,k⟩=>⟨h,cT k⟩⟩
theorem pR (l p:Bytes):PC Tryz.V 178 [.str l,.str p] (.str (Lib.trimPrefix l p)) :=
 ⟨Tryz.call178,by simp[flat,flat.ai],by simp[flat,flat.ai],fun w hE=>(yk l p w).mono fun _ _ ⟨h,k⟩=>⟨h,cT k⟩⟩
theorem uf (l:Bytes)(c:UInt8)(hl:l.length<4294967281):PC Tryz.V 64 [.str l,.str [c]] (.eR [.str (aG c l).1,.str (aG c l).2.1,.bool (aG c l).2.2]) :=
 ⟨Tryz.call64,by simp[flat,flat.ai],by simp[flat,flat.ai],fun w hE=>(D4 l c w hE hl).mono fun _ _ ⟨h,k⟩=>⟨h,below_draws k⟩⟩
theorem ud (s l:Bytes)(ha:∀ i (h:i<l.length),l[i].toNat<128)(hl:l.length≤1000000)(h2:2≤l.length)(hs:s.length<4294967281) :
 PC Tryz.V 168 [.str s,.str l] (.int .i64 (Lib.indexAny s l)) :=
 ⟨Tryz.call168,by simp[flat,flat.ai],by simp[flat,flat.ai],fun w hE=>strings_IndexAny s l w ha hl h2 hs⟩
def qf (s:Bytes)(c:UInt8):Int:=Lib.lastIndexByte ⟨zKv s⟩ c.toNat
theorem HB (s:Bytes)(c:UInt8):qf s c=((s.reverse.dropWhile (· != c)).length:Int) - 1:=by
 have h:∀ k,k≤s.length→Lib.lastIdx ⟨zKv s⟩ c.toNat k=(((s.take k).reverse.dropWhile (· != c)).length:Int) - 1:=by
  intro k
  induction k with
  | zero=>intro _;simp[Lib.lastIdx]
  | succ k ih =>
    intro hk
    have hk':k<s.length:=by omega
    have e:(⟨zKv s⟩:ByteArray).data[k]! = s[k]:=by simp[hk']
    rw[zK1 hk',List.reverse_append,List.reverse_singleton,zKV,Lib.lastIdx,e]
    by_cases hc:s[k]=c
    ·rw[if_pos (by rw[hc]),List.dropWhile_cons_of_neg (by simp[hc])]
     simp
     omega
    ·rw[if_neg (fun h=>hc (UInt8.toNat_inj.1 (by exact_mod_cast h))),List.dropWhile_cons_of_pos (by simp[hc]),ih (by omega)]
 have:=h s.length (zKE _)
 rw[List.take_length]at this
 exact this
theorem mo (s:Bytes)(c:UInt8)(hs:s.length<4611686018427387904):PC Tryz.V 179 [.str s,.int .u8 c.toNat] (.int .i64 (qf s c)) :=
 ⟨Tryz.call179,by simp[flat,flat.ai],by simp[flat,flat.ai],fun w hE=>(Tryz.strings_LastIndexByte ⟨zKv s⟩ c.toNat hs w).mono fun _ _ ⟨h,k⟩=>⟨h,cT k.symm⟩⟩
theorem ke {p q:Bytes}(h:Lib.hasPrefix p q=false):¬ (q.isPrefixOf p=true):=by unfold Lib.hasPrefix at h;simp[h]
theorem eE {p q:Bytes}(h:Lib.hasPrefix p q=true):q.length≤p.length:=(zKI.1 h).length_le
theorem tG (s p:Bytes):(Lib.trimPrefix s p).length≤s.length:=by
 unfold Lib.trimPrefix;split <;> simp
theorem cE {s:Bytes}{k:Nat}(hk:k<s.length)(c:UInt8){n:Int}(hn:n=c.toNat):(((s.getD k 0).toNat:Int)==n)=(s[k]==c):=by
 subst hn
 rw[show s.getD k 0=s[k] by simp[List.getD,hk],zK3]
 simp only[beq_iff_eq]
 exact⟨fun h=>UInt8.toNat_inj.1 (by exact_mod_cast h),fun h=>by rw[h]⟩
theorem um (l:Bytes):(l.map da).all Vc.one=true:=by simp[da,Vc.one]
theorem yj {bs:List aw}{i:Nat}{x y:SV}(hi:bs[i]? = some (.cells [x,y] 193 true))(hx:x=.v (.pointer none)∨x=.p i 0) :
 SC Tryz.V 213 [.p i 0] bs (fun r bs'=>r=.eR []∧bs'=bs.set i (.cells [.p i 0,y] 193 true)):=by
 have eF:i<bs.length:=(zKC.1 hi).1
 refine wV hi rfl Tryz.call213 rfl (fun β fp w hE hh=>?_)
 obtain⟨h0,⟨rest,fz,hd,rfl⟩,h3⟩:=hh β (bC.refl _ _)
 have ea:(aJ β [.p i 0]).toArray=#[.pointer (some ⟨(β i).cK,0,none⟩)]:=by simp[aJ,ah,h0]
 rw[ea]
 have fG:w.cell? ⟨(β i).cK,0,none⟩=some (ah β x):=hd.sS 0 _ (by simp)
 rcases hx with rfl|rfl
 ·have kS:=hd.1
  have wD:=hd.2
  refine(Any.Builder_copyCheck_fresh { Tryz.Hu with } Tryz.uZ.toX72 (β i).cK w fG ?_ ?_).mono ?_
  ·simp[World.shape?,kS]
   rfl
  ·simp[World.frozen?,kS]
   simp at wD
   omega
  ·rintro e w' ⟨rfl,rfl⟩
   refine⟨rfl,?_,fp i,fun k hk=>hk,fun β' hβ=>?_⟩
   ·exact⟨rfl,rfl,rfl,by simp[World.setCell],fun k _ hn=>Below.heap_setCell _ _ _ _ (fun e=>hn ((h3 k).2 e))⟩
   ·have hb:=hβ i eF
    obtain⟨k0,⟨rest,fz',hd',rfl⟩,k3⟩:=hh β' hβ
    refine⟨k0,⟨[],fz',⟨?_,by simpa using hd'.2⟩,rfl⟩,k3⟩
    rw[hb,heap_set hd'.1]
    simp[ah,k0]
 ·refine(Any.Builder_copyCheck_used { Tryz.Hu with } Tryz.uZ.toX72 (β i).cK w ?_).mono ?_
  ·rw[fG];simp[ah,h0]
  ·rintro e w' ⟨rfl,rfl⟩
   exact⟨rfl,mJ.refl _ _,fp i,fun k hk=>hk,hh⟩
theorem vL {bs:List aw}{i j:Nat}{x:SV}{l s:Bytes}(hi:bs[i]? = some (.cells [x,.o j l.length] 193 true))(hx:x=.v (.pointer none)∨x=.p i 0)(hj:bs[j]? = some (.own (l.map da) 5 1 l.length true))(xL:i≠j)(hlen:l.length+s.length≤140737488355328) :
 SC Tryz.V 204 [.p i 0,.str s] bs (fun r bs'=>r=.eR [.int .i64 s.length,.v .nilIface]∧bs'[i]? = some (.cells [.p i 0,.o bs.length (l++s).length] 193 true)∧bs'[bs.length]? = some (.own ((l++s).map da) 5 1 (l++s).length true)∧∀ k,k<bs.length→k≠i→k≠j→bs'[k]? = bs[k]?):=by
 have eF:i<bs.length:=(zKC.1 hi).1
 refine cV 3000 Tryz.func204 rfl Tryz.ntmps204 Tryz.results204 Tryz.call204 (by simp) (ax bs.length _ (by simp[within,within.aS,eF])) ?_
 simp only[ae,↓Xn,↓Xo,↓Xg,↓Xd,↓Xe,↓Xf,Tryz.VΓ,Tryz.Γs,Xp,Xi,Nat.reduceAdd,Nat.reduceSub,Nat.reduceLT,Nat.reduceLeDiff,reduceIte,reduceCtorEq,Nat.reduceEqDiff,implies_true,forall_const,ad]
 refine aT (yj hi hx) ?_
 rintro r bs1 ⟨rfl,rfl⟩
 have h1:(bs.set i (.cells [.p i 0,.o j l.length] 193 true))[i]? = some (.cells [.p i 0,.o j l.length] 193 true):=zKO eF
 have h2:(bs.set i (.cells [.p i 0,.o j l.length] 193 true))[j]? = some (.own (l.map da) 5 1 l.length true):=by rw[zKB xL];exact hj
 have h3:∀ k,k≠i→(bs.set i (.cells [.p i 0,.o j l.length] 193 true))[k]? = bs[k]? := fun k hk=>zKB (fun e=>hk e.symm)
 have h4:(bs.set i (.cells [.p i 0,.o j l.length] 193 true)).length=bs.length:=List.length_set ..
 generalize bs.set i (.cells [.p i 0,.o j l.length] 193 true)=bs1 at h1 h2 h3 h4 ⊢
 have h5:∀ X,(bs1.set j .gone++[X])[i]? = some (.cells [.p i 0,.o j l.length] 193 true):=fun X=>by
  rw[zKz (by simp;omega),zKB (fun e=>xL e.symm)];exact h1
 simp only[ae,↓Xn,↓Xo,↓Xg,↓Xd,↓Xe,↓Xf,Tryz.VΓ,Tryz.Γs,Xp,Xi,Nat.reduceAdd,Nat.reduceSub,Nat.reduceLT,Nat.reduceLeDiff,reduceIte,reduceCtorEq,Nat.reduceEqDiff,implies_true,forall_const,ad,h1,h2,h5]
 refine⟨⟨um _,by unfold maxLen;omega,by omega⟩,?_,?_,fun k hk iO hkj=>?_⟩
 ·rw[zKO (by simp;omega),h4,zKF]
 ·rw[zKB (by omega),zKS (by simp;omega)]
  simp[h4]
 ·rw[zKB (fun e=>iO e.symm),zKz (by simp;omega),zKB (fun e=>hkj e.symm),h3 k iO]
theorem mU {bs:List aw}{i:Nat}{l s:Bytes}(hi:bs[i]? = some (.ext (rS 193 5 l)))(hlen:l.length+s.length≤140737488355328) :
 SC Tryz.V 204 [.p i 0,.str s] bs (fun r bs'=>r=.eR [.int .i64 s.length,.v .nilIface]∧bs'=bs.set i (.ext (rS 193 5 (l++s)))):=by
 have eF:i<bs.length:=(zKC.1 hi).1
 refine sc_open (R':=fun r bs'=>r=.eR [.int .i64 s.length,.v .nilIface]∧bs'[i]? = some (.cells [.p i 0,.o (bs.length+1) (l++s).length] 193 true)∧bs'[bs.length+1]? = some (.own ((l++s).map da) 5 1 (l++s).length true)∧∀ k,k<bs.length→k≠i→bs'[k]? = bs[k]?) hi (fun x hx=>(vL (j:=bs.length) (l:=l) (s:=s) ?_ hx ?_ (by omega) hlen).mono ?_) ?_ (by simp[within,within.aS,eF])
 ·rw[zKz (by simpa using eF),zKO eF]
 ·rw[zKS (by simp)];simp
 ·rintro r bs' ⟨rfl,h1,h2,h3⟩
  simp only[zKF,List.length_set,zKD,zLf]at h1 h2 h3
  refine⟨rfl,by simpa using h1,by simpa using h2,fun k hk iO=>?_⟩
  rw[h3 k (by omega) iO (by omega),zKz (by simpa using hk),zKB (fun e=>iO e.symm)]
 ·rintro r bs' ⟨rfl,h1,h2,h3⟩
  exact⟨.p i 0,bs.length+1,l++s,rfl,.inr rfl,⟨rfl,rfl⟩,h1,h2,by omega,h3⟩
set_option maxRecDepth 100000 in
theorem Gu {b:Nat}{p:Value}{t2:Bt}{f2:Nat→Prop}{l:Bytes}{w:World}{fz:Nat × Nat}(hd:Head w b 193 [p,oV t2 l.length] [] fz)(hr:Holds kH t2 f2 w (.own (l.map da) 5 1 l.length true)) :
 Calls Tryz.prog 205 #[.pointer (some ⟨b,0,none⟩)] w fun e w'=>e=.returned (Value.string ⟨zKv (l)⟩)∧mJ f2 w w':=by
 have mixed:Tryz.prog.follows .mixedOrders=true:=by kernel_rfl
 have hb:w.heap[b]? = some (.cells #[p,oV t2 l.length] 193 fz):=by simpa using hd.1
 have hdr:mJ f2 w w.drew:=⟨rfl,rfl,rfl,zKE _,fun _ _ _=>rfl⟩
 have hUN:∀ (W:World) (q:Option Addr),(Builtin.unsafeString_ #[208,3] 9 #[.pointer q,.int .i64 0]).run Tryz.prog W=.ok (.string .empty) W:=fun W q=>Lib.run_unsafeString_none W _ _ _ q
 have gu:∀ (W:World),W.heap[b]? = w.heap[b]? → W.cell? ⟨b,1,none⟩=some (oV t2 l.length):=fun W hW=>by
  rw[Lib.cell_of_heap (hW.trans hb)];rfl
 rcases hr with⟨h1,h2,h3,h4⟩|⟨h1,h2,h3,h4,h5,h6,h7⟩
 ·have hl:l=[]:=by simpa using h3
  subst hl
  have hv:oV t2 ([]:Bytes).length=.slice none 0 0:=by simp[oV,h1,mA,h4.2 rfl]
  rw[hv]at hb gu
  have c1:w.drew.cell? ⟨b,1,none⟩=some (.slice none 0 0):=gu _ rfl
  have hSD:(Builtin.unsafeSliceData_ #[25] 208 #[.slice none 0 0]).run Tryz.prog w.drew=.ok (.pointer none) w.drew:=rfl
  go_enter Tryz.func205,Tryz.ntmps205
  go_wp2
  go_region_o
  all_goals (go_wp2;go_ret;exact⟨rfl,hdr⟩)
 ·obtain⟨h8,rest,fr,h9,fm,IA⟩:=h6 rfl
  obtain⟨cK,off,cap⟩:=t2
  simp only at h1 h2 h3 h8 h9 IA h7
  subst h8
  obtain⟨cap,rfl⟩:∃ c,cap=c+1:=⟨cap - 1,by omega⟩
  have hv:oV ⟨cK,0,cap+1⟩ l.length=.slice (some ⟨cK,0,none⟩) l.length cap:=by simp[oV]
  rw[hv]at hb gu
  have hg:w.heap[cK]? = some (.cells ((l.map da).map (ah kH)++rest).toArray 5 fr):=h9.1
  have kS:((l.map da).map (ah kH)++rest).toArray.size=cap:=by
   simp at IA ⊢;omega
  by_cases hl:l=[]
  ·subst hl
   simp only[List.map_nil,zKQ,zLf]at hb gu hg kS
   have c1:w.drew.cell? ⟨b,1,none⟩=some (.slice (some ⟨cK,0,none⟩) 0 cap):=gu _ rfl
   by_cases hc:cap=0
   ·subst hc
    have mu:b<w.heap.size:=(Array.getElem?_eq_some_iff.1 hb).1
    have hSD:(Builtin.unsafeSliceData_ #[25] 208 #[.slice (some ⟨cK,0,none⟩) 0 0]).run Tryz.prog w.drew=.ok (.pointer (some ⟨w.drew.heap.size,0,none⟩)) (w.drew.alloc (.view ⟨cK,0,none⟩ 5)) :=
     Lib.run_unsafeSliceData_zero w.drew _ _ 5 Tryz.underlying208 ⟨cK,0,none⟩ 0 (5,rest.toArray.size) (by have hg':w.drew.heap[cK]? = _:=hg;simp[World.shape?,hg'])
    have c2:(w.drew.alloc (.view ⟨cK,0,none⟩ 5)).cell? ⟨b,1,none⟩=some (.slice (some ⟨cK,0,none⟩) 0 0):=gu _ (Lib.alloc_old w.drew _ b mu)
    have c3:(w.alloc (.view ⟨cK,0,none⟩ 5)).drew.cell? ⟨b,1,none⟩=some (.slice (some ⟨cK,0,none⟩) 0 0):=c2
    have c0:w.cell? ⟨b,1,none⟩=some (.slice (some ⟨cK,0,none⟩) 0 0):=c1
    have kW:mJ f2 w (w.drew.alloc (.view ⟨cK,0,none⟩ 5)):=⟨rfl,rfl,rfl,by simp,fun k hk _=>Lib.alloc_old w.drew _ k hk⟩
    go_enter Tryz.func205,Tryz.ntmps205
    go_wp2
    go_region_o
    all_goals (go_wp2;go_ret;exact⟨rfl,kW⟩)
   ·have hSD:(Builtin.unsafeSliceData_ #[25] 208 #[.slice (some ⟨cK,0,none⟩) 0 cap]).run Tryz.prog w.drew=.ok (.pointer (some ⟨cK,0,none⟩)) w.drew :=
     Lib.run_unsafeSliceData_row _ _ _ _ _ _ hc
    clear hc
    go_enter Tryz.func205,Tryz.ntmps205
    go_wp2
    go_region_o
    all_goals (go_wp2;go_ret;exact⟨rfl,hdr⟩)
  ·have hl0:l.length≠0:=by simpa using hl
   have c1:w.drew.cell? ⟨b,1,none⟩=some (.slice (some ⟨cK,0,none⟩) l.length cap):=gu _ rfl
   have hSD:(Builtin.unsafeSliceData_ #[25] 208 #[.slice (some ⟨cK,0,none⟩) l.length cap]).run Tryz.prog w.drew=.ok (.pointer (some ⟨cK,0,none⟩)) w.drew :=
    Lib.run_unsafeSliceData_row _ _ _ _ _ _ (by omega)
   have hUS:(Builtin.unsafeString_ #[208,3] 9 #[.pointer (some ⟨cK,0,none⟩),.int .i64 l.length]).run Tryz.prog w.drew=.ok (Value.string ⟨zKv (l)⟩) (w.drew.freeze ⟨cK,0,none⟩ l.length):=by
    refine Lib.run_unsafeString_row w.drew 208 3 9 5 Tryz.underlying208 Tryz.uZ.cellsByte cK cap (by have hg':w.drew.heap[cK]? = _:=hg;simp only[World.shape?,hg'];simp only[kS]) l hl (by omega) (by unfold maxLen at h3;omega) ?_
    intro j x hx
    have:=h5 j (ah kH (da x)) (by simp[hx])
    rw[dj]
    simpa[da,ah] using this
   have kW:mJ f2 w (w.drew.freeze ⟨cK,0,none⟩ l.length):=by
    unfold World.freeze
    split
    ·exact hdr
    ·refine⟨rfl,rfl,rfl,by simp,fun k hk hn=>?_⟩
     have bp:k≠cK:=fun e=>hn ((h7 k).2 e)
     simp only[Array.getElem?_modify]
     rw[if_neg (fun e=>bp e.symm)]
     rfl
   go_enter Tryz.func205,Tryz.ntmps205
   go_wp2
   go_region_o
   all_goals (go_wp2;go_ret;exact⟨rfl,kW⟩)
theorem wW {bs:List aw}{i:Nat}{l:Bytes}(hi:bs[i]? = some (.ext (rS 193 5 l))) :
 SC Tryz.V 205 [.p i 0] bs (fun r bs'=>r=.str l∧bs'=bs.set i .gone):=by
 refine wV hi rfl Tryz.call205 rfl (fun β fp w hE hh=>?_)
 obtain⟨h0,p,t2,f2,hp,⟨fz,hd⟩,h3,h4,h5⟩:=hh β (bC.refl _ _)
 have ea:(aJ β [.p i 0]).toArray=#[.pointer (some ⟨(β i).cK,0,none⟩)]:=by simp[aJ,ah,h0]
 rw[ea]
 refine(Gu hd h3).mono ?_
 rintro e w' ⟨rfl,hf⟩
 exact⟨rfl,hf.mono (fun k hk=>(h5 k).2 (.inr hk)),fun _=>False,fun _ h=>h.elim,fun _ _ _ h=>h⟩
theorem xO:∀ L:List Bytes,flat.ai (L.map SV.str)=true
 | []=>by simp[flat.ai]
 | x::L=>by simp[flat.ai,flat,xO L]
theorem sa {bs:List aw}(s sep:Bytes)(L:List Bytes)(hL:Lib.splitK sep 0 (Lib.count s sep) s=L)(hs:s.length≤1100000)(hp:1≤sep.length) :
 SC Tryz.V 172 [.str s,.str sep] bs (fun r b=>r=.o bs.length L.length∧b=bs++[.own (L.map SV.str) 9 1 L.length true]):=by
 have hd:=Lib.splitB_data ⟨zKv sep⟩ 0 (Lib.countB ⟨zKv s⟩ ⟨zKv sep⟩) ⟨zKv s⟩
 have hlen:=Lib.splitB_all ⟨zKv sep⟩ hp 0 _ ⟨zKv s⟩ rfl
 have hle:=Lib.countB_le ⟨zKv sep⟩ hp s.length ⟨zKv s⟩ (zKE _)
 have hz:(⟨zKv s⟩:ByteArray).size=s.length:=rfl
 have eg:Lib.countB ⟨zKv s⟩ ⟨zKv sep⟩+1=L.length:=by
  rw[← hlen,← hL]
  have:=congrArg List.length hd
  rw[zLn]at this
  exact this
 have e:(Lib.splitB ⟨zKv sep⟩ 0 (Lib.countB ⟨zKv s⟩ ⟨zKv sep⟩) ⟨zKv s⟩).map Value.string=L.map lF:=by
  rw[← hL]
  refine Eq.trans ?_ (congrArg (List.map lF) hd)
  rw[List.map_map]
  exact zLk fun x _=>rfl
 refine(sc_row (V:=Tryz.V) (c:=L.map SV.str) (T:=9) Tryz.call172 (by simp[flat,flat.ai]) ?_ ?_ fun w ⟨m,hm⟩=>?_).mono ?_
 ·exact xO L
 ·unfold maxLen;rw[zLn];omega
 ·refine(Tryz.strings_Split ⟨zKv s⟩ ⟨zKv sep⟩ m w (show s.length<4294967281 by omega) hm hp).mono fun _ _ ⟨h,k⟩=>⟨?_,?_⟩
  ·rw[h,eg,zLn]
  ·rw[k,e]
   congr 2
   rw[bV,List.map_map]
   exact congrArg zKv (zLk fun x _=>rfl)
 ·rintro r b ⟨h1,h2⟩
  rw[zLn]at h1 h2
  exact⟨h1,h2⟩
def Gf (i:Nat)(l:Bytes)(b:List aw):Prop:=b[i]? = some (.ext (rS 193 5 l))∨(l=[]∧b[i]? = some (.cells [.v (.pointer none),.aI] 193 true))
theorem Gf.lt {i:Nat}{l:Bytes}{b:List aw}(h:Gf i l b):i<b.length:=by
 rcases h with h|⟨-,h⟩ <;> exact(zKC.1 h).1
theorem Gf.set {i:Nat}{l m:Bytes}{b:List aw}(h:Gf i l b):Gf i m (b.set i (.ext (rS 193 5 m))):=.inl (zKO h.lt)
theorem Ad {α:Type}{b:List α}{i:Nat}{x:α}(h:b[i]? = some x):b.set i x=b:=by
 apply List.ext_getElem?
 intro k
 by_cases hk:k=i
 ·subst hk;rw[zKO (zKC.1 h).1,h]
 ·rw[zKB (fun e=>hk e.symm)]
theorem sc_WS {bs:List aw}{i:Nat}{l s:Bytes}(h:Gf i l bs)(hlen:l.length+s.length≤140737488355328) :
 SC Tryz.V 204 [.p i 0,.str s] bs (fun r bs'=>r=.eR [.int .i64 s.length,.v .nilIface]∧bs'=bs.set i (.ext (rS 193 5 (l++s)))):=by
 rcases h with h|⟨rfl,h⟩
 ·exact mU h hlen
 ·refine Ai h ((mU (l:=[]) (zKO (zKC.1 h).1) hlen).mono ?_)
  rintro r b ⟨h1,h2⟩
  exact⟨h1,by rw[h2,List.set_set]⟩
theorem GP {bs:List aw}{i:Nat}{l:Bytes}(h:Gf i l bs) :
 SC Tryz.V 205 [.p i 0] bs (fun r bs'=>r=.str l∧bs'=bs.set i .gone):=by
 rcases h with h|⟨rfl,h⟩
 ·exact wW h
 ·refine Ai h ((wW (l:=[]) (zKO (zKC.1 h).1)).mono ?_)
  rintro r b ⟨h1,h2⟩
  exact⟨h1,by rw[h2,List.set_set]⟩
theorem xp (c:UInt8):PC Tryz.V 197 [.int .u8 c.toNat] (.bool (isAlpha c)) :=
 ⟨Tryz.call197,by simp[flat,flat.ai],by simp[flat,flat.ai],fun w _=>(cO c w).mono fun _ _ ⟨h,k⟩=>⟨h,cT k⟩⟩
theorem nR (c:UInt8):PC Tryz.V 182 [.int .u8 c.toNat] (.bool (isDigit c)) :=
 ⟨Tryz.call182,by simp[flat,flat.ai],by simp[flat,flat.ai],fun w _=>(bF c w).mono fun _ _ ⟨h,k⟩=>⟨h,cT k⟩⟩
theorem Ed (c:UInt8):PC Tryz.V 189 [.int .u8 c.toNat] (.bool (bt c)) :=
 ⟨Tryz.call189,by simp[flat,flat.ai],by simp[flat,flat.ai],fun w _=>(Cf c w).mono fun _ _ ⟨h,k⟩=>⟨h,cT k⟩⟩
theorem qg (set:Bytes)(c:UInt8):decide (0≤Lib.indexByte set c)=set.contains c:=by
 rw[cY]
 by_cases h:pre (·==c) set<set.length
 ·rw[if_pos h]
  have:=ga (p:=(·==c)) h
  simp only[beq_iff_eq]at this
  simp only[Int.natCast_nonneg,decide_true]
  symm
  rw[zKW,← this]
  exact List.getElem_mem h
 ·rw[if_neg h]
  simp only[show ¬ (0:Int)≤-1 by omega,decide_false]
  symm
  rw[← Bool.not_eq_true,zKW]
  intro hm
  obtain⟨k,hk,rfl⟩:=zK4 hm
  have h2:=cq (·==set[k]) set
  have:=gH (p:=(·==set[k])) (l:=set) (k:=k) (by omega) hk
  simp at this
theorem p_among (c:UInt8)(set:Bytes):PC Tryz.V 170 [.int .u8 c.toNat,.str set] (.bool (set.contains c)):=by
 refine aQ 3000 Tryz.func170 rfl Tryz.ntmps170 Tryz.results170 Tryz.call170 (by simp) (by simp[flat,flat.ai]) (by simp[flat,flat.ai]) ?_
 simp only[ae,↓Xn,↓Xo,↓Xg,↓Xd,↓Xe,↓Xf,Tryz.VΓ,Tryz.Γs,Xp,Xi,Nat.reduceAdd,Nat.reduceSub,Nat.reduceLT,Nat.reduceLeDiff,reduceIte,reduceCtorEq,Nat.reduceEqDiff,implies_true,forall_const,ad]
 (refine aa (dG set c) ?_;simp only[ae,↓Xn,↓Xo,↓Xg,↓Xd,↓Xe,↓Xf,Tryz.VΓ,Tryz.Γs,Xp,Xi,Nat.reduceAdd,Nat.reduceSub,Nat.reduceLT,Nat.reduceLeDiff,reduceIte,reduceCtorEq,Nat.reduceEqDiff,implies_true,forall_const,ad])
 rw[qg]
theorem p_alnum (c:UInt8):PC Tryz.V 169 [.int .u8 c.toNat] (.bool (isAlpha c||isDigit c)):=by
 refine aQ 3000 Tryz.func169 rfl Tryz.ntmps169 Tryz.results169 Tryz.call169 (by simp) (by simp[flat,flat.ai]) (by simp[flat,flat.ai]) ?_
 simp only[ae,↓Xn,↓Xo,↓Xg,↓Xd,↓Xe,↓Xf,Tryz.VΓ,Tryz.Γs,Xp,Xi,Nat.reduceAdd,Nat.reduceSub,Nat.reduceLT,Nat.reduceLeDiff,reduceIte,reduceCtorEq,Nat.reduceEqDiff,implies_true,forall_const,ad]
 (refine aa (xp c) ?_;simp only[ae,↓Xn,↓Xo,↓Xg,↓Xd,↓Xe,↓Xf,Tryz.VΓ,Tryz.Γs,Xp,Xi,Nat.reduceAdd,Nat.reduceSub,Nat.reduceLT,Nat.reduceLeDiff,reduceIte,reduceCtorEq,Nat.reduceEqDiff,implies_true,forall_const,ad])
 refine⟨fun h=>?_,fun h=>by rw[h];rfl⟩
 (refine aa (nR c) ?_;simp only[ae,↓Xn,↓Xo,↓Xg,↓Xd,↓Xe,↓Xf,Tryz.VΓ,Tryz.Γs,Xp,Xi,Nat.reduceAdd,Nat.reduceSub,Nat.reduceLT,Nat.reduceLeDiff,reduceIte,reduceCtorEq,Nat.reduceEqDiff,implies_true,forall_const,ad])
 rw[h];rfl
theorem fj (c:UInt8):PC Tryz.V 143 [.int .u8 c.toNat] (.bool (eX c)):=by
 refine aQ 3000 Tryz.func143 rfl Tryz.ntmps143 Tryz.results143 Tryz.call143 (by simp) (by simp[flat,flat.ai]) (by simp[flat,flat.ai]) ?_
 simp only[ae,↓Xn,↓Xo,↓Xg,↓Xd,↓Xe,↓Xf,Tryz.VΓ,Tryz.Γs,Xp,Xi,Nat.reduceAdd,Nat.reduceSub,Nat.reduceLT,Nat.reduceLeDiff,reduceIte,reduceCtorEq,Nat.reduceEqDiff,implies_true,forall_const,ad]
 (refine aa (p_alnum c) ?_;simp only[ae,↓Xn,↓Xo,↓Xg,↓Xd,↓Xe,↓Xf,Tryz.VΓ,Tryz.Γs,Xp,Xi,Nat.reduceAdd,Nat.reduceSub,Nat.reduceLT,Nat.reduceLeDiff,reduceIte,reduceCtorEq,Nat.reduceEqDiff,implies_true,forall_const,ad])
 refine⟨fun h=>?_,fun h=>by unfold eX;rw[h];rfl⟩
 (refine aa (p_among c [45,46,95,126]) ?_;simp only[ae,↓Xn,↓Xo,↓Xg,↓Xd,↓Xe,↓Xf,Tryz.VΓ,Tryz.Γs,Xp,Xi,Nat.reduceAdd,Nat.reduceSub,Nat.reduceLT,Nat.reduceLeDiff,reduceIte,reduceCtorEq,Nat.reduceEqDiff,implies_true,forall_const,ad])
 unfold eX;rw[h];rfl
theorem dig_low (c:UInt8)(h:isDigit c=true):IntKind.u8.wrap ((c.toNat:Int) - 48)=cw c:=by
 have:=dy (p:=fun c=>!isDigit c||decide (IntKind.u8.wrap ((c.toNat:Int) - 48)=cw c)) (by decide +kernel) c
 simpa[h] using this
theorem IX (c:UInt8)(h:bt c=true)(h2:isDigit c=false):IntKind.u8.wrap (IntKind.u8.wrap (qF .or .u8 (c.toNat:Int) 32 - 97)+10)=cw c:=by
 have:=dy (p:=fun c=>!bt c||isDigit c||decide (IntKind.u8.wrap (IntKind.u8.wrap (qF .or .u8 (c.toNat:Int) 32 - 97)+10)=cw c)) (by decide +kernel) c
 simpa[h,h2] using this
theorem Ec (c:UInt8)(hc:bt c=true):PC Tryz.V 190 [.int .u8 c.toNat] (.int .u8 (cw c)):=by
 refine aQ 3000 Tryz.func190 rfl Tryz.ntmps190 Tryz.results190 Tryz.call190 (by simp) (by simp[flat,flat.ai]) (by simp[flat,flat.ai]) ?_
 simp only[ae,↓Xn,↓Xo,↓Xg,↓Xd,↓Xe,↓Xf,Tryz.VΓ,Tryz.Γs,Xp,Xi,Nat.reduceAdd,Nat.reduceSub,Nat.reduceLT,Nat.reduceLeDiff,reduceIte,reduceCtorEq,Nat.reduceEqDiff,implies_true,forall_const,ad]
 (refine aa (nR c) ?_;simp only[ae,↓Xn,↓Xo,↓Xg,↓Xd,↓Xe,↓Xf,Tryz.VΓ,Tryz.Γs,Xp,Xi,Nat.reduceAdd,Nat.reduceSub,Nat.reduceLT,Nat.reduceLeDiff,reduceIte,reduceCtorEq,Nat.reduceEqDiff,implies_true,forall_const,ad])
 refine⟨fun h=>?_,fun h=>?_⟩
 ·rw[dig_low c h]
 ·rw[IX c hc h]
theorem Cy (a b:UInt8)(ha:bt a=true)(hb:bt b=true):qF .or .u8 (shI .shl .u8 (cw a) 4) (cw b)=((unhex a b).toNat:Int):=by
 have h1:=kX ha
 have h2:=kX hb
 have:∀ x,x<16→∀ y,y<16→qF .or .u8 (shI .shl .u8 (x:Nat) 4) (y:Nat)=(((x * 16+y).toUInt8).toNat:Int):=by decide +kernel
 exact this _ (by omega) _ (by omega)
def ja (s:Bytes)(i:Nat):Option UInt8:=(cZ (s.drop (i+1))).map fun x=>unhex x.1 x.2.1
theorem qt (s:Bytes)(i:Nat):cZ (s.drop (i+1))=if i+2<s.length then(if bt (s.getD (i+1) 0)&&bt (s.getD (i+2) 0) then some (s.getD (i+1) 0,s.getD (i+2) 0,s.drop (i+3)) else none) else none:=by
 by_cases h:i+2<s.length
 ·rw[if_pos h,zKH (by omega:i+1<s.length),zKH (by omega:i+1+1<s.length)]
  simp only[cZ,List.getD_eq_getElem?_getD]
  simp[show i+1<s.length by omega,h]
 ·rw[if_neg h]
  have hl:(s.drop (i+1)).length≤1:=by simp;omega
  match hm:s.drop (i+1),hl with
  | [],_=>rfl
  | [_],_=>rfl
theorem xk (s:Bytes)(i:Nat)(hi:i<s.length)(hs:s.length≤9223372036854775807):PC Tryz.V 165 [.str s,.int .i64 i] (.eR [.int .u8 (((ja s i).getD 0).toNat:Int),.bool (ja s i).isSome]):=by
 refine aQ 3000 Tryz.func165 rfl Tryz.ntmps165 Tryz.results165 Tryz.call165 (by simp) (by simp[flat,flat.ai]) (by simp[flat,flat.ai]) ?_
 simp only[ae,↓Xn,↓Xo,↓Xg,↓Xd,↓Xe,↓Xf,Tryz.VΓ,Tryz.Γs,Xp,Xi,Nat.reduceAdd,Nat.reduceSub,Nat.reduceLT,Nat.reduceLeDiff,reduceIte,reduceCtorEq,Nat.reduceEqDiff,implies_true,forall_const,ad]
 unfold ja
 rw[qt]
 refine⟨⟨by omega,by omega⟩,fun hl=>?_,fun hl=>?_⟩
 ·have hl:i+2<s.length:=(by simp at hl;omega)
  rw[if_pos hl]
  refine⟨⟨by omega,by omega⟩,⟨by omega,by omega⟩,?_⟩
  (refine aa (Ed _) ?_;simp only[ae,↓Xn,↓Xo,↓Xg,↓Xd,↓Xe,↓Xf,Tryz.VΓ,Tryz.Γs,Xp,Xi,Nat.reduceAdd,Nat.reduceSub,Nat.reduceLT,Nat.reduceLeDiff,reduceIte,reduceCtorEq,Nat.reduceEqDiff,implies_true,forall_const,ad])
  refine⟨fun ha=>⟨⟨by omega,by omega⟩,⟨by omega,by omega⟩,?_⟩,fun ha=>?_⟩
  ·have ha:bt (s.getD (i+1) 0)=true:=by simpa using ha
   (refine aa (Ed _) ?_;simp only[ae,↓Xn,↓Xo,↓Xg,↓Xd,↓Xe,↓Xf,Tryz.VΓ,Tryz.Γs,Xp,Xi,Nat.reduceAdd,Nat.reduceSub,Nat.reduceLT,Nat.reduceLeDiff,reduceIte,reduceCtorEq,Nat.reduceEqDiff,implies_true,forall_const,ad])
   refine⟨fun hb=>?_,fun hb=>⟨⟨by omega,by omega⟩,⟨by omega,by omega⟩,?_⟩⟩
   ·have hb:bt (s.getD (i+2) 0)=false:=by simpa using hb
    rw[ha,hb];rfl
   ·have hb:bt (s.getD (i+2) 0)=true:=by simpa using hb
    (refine aR (Ec _ ha) ?_;simp only[ae,↓Xn,↓Xo,↓Xg,↓Xd,↓Xe,↓Xf,Tryz.VΓ,Tryz.Γs,Xp,Xi,Nat.reduceAdd,Nat.reduceSub,Nat.reduceLT,Nat.reduceLeDiff,reduceIte,reduceCtorEq,Nat.reduceEqDiff,implies_true,forall_const,ad])
    refine⟨by omega,⟨by omega,by omega⟩,⟨by omega,by omega⟩,?_⟩
    (refine aR (Ec _ hb) ?_;simp only[ae,↓Xn,↓Xo,↓Xg,↓Xd,↓Xe,↓Xf,Tryz.VΓ,Tryz.Γs,Xp,Xi,Nat.reduceAdd,Nat.reduceSub,Nat.reduceLT,Nat.reduceLeDiff,reduceIte,reduceCtorEq,Nat.reduceEqDiff,implies_true,forall_const,ad])
    refine⟨(aj (by kernel_rfl)),?_⟩
    rw[Cy _ _ ha hb,ha,hb];rfl
  ·have ha:bt (s.getD (i+1) 0)=false:=by simpa using ha
   rw[ha];rfl
 ·have hl:¬ i+2<s.length:=(by simp at hl;omega)
  rw[if_neg hl];rfl
theorem shr4 (c:UInt8):shI .shr .u8 (c.toNat:Int) 4=((c.toNat / 16:Nat):Int):=by
 have:=dy (p:=fun c=>decide (shI .shr .u8 (c.toNat:Int) 4=((c.toNat / 16:Nat):Int))) (by decide +kernel) c
 simpa using this
theorem and15 (c:UInt8):qF .and .u8 (c.toNat:Int) 15=((c.toNat % 16:Nat):Int):=by
 have:=dy (p:=fun c=>decide (qF .and .u8 (c.toNat:Int) 15=((c.toNat % 16:Nat):Int))) (by decide +kernel) c
 simpa using this
theorem tC:∀ n,n<16→([48,49,50,51,52,53,54,55,56,57,65,66,67,68,69,70]:Bytes).getD n 0=gY n:=by decide
theorem xR (c:UInt8):(jQ c).map da=[.int .u8 37,.int .u8 ((gY (c.toNat / 16)).toNat:Int),.int .u8 ((gY (c.toNat % 16)).toNat:Int)]:=rfl
structure th (bs:List aw) (i L:Nat) (x:SV) (l:Bytes):Prop where
 box:bs[i]? = some (.cells [x] 174 true)
 sl:Sl 5 1 L x bs (l.map da) l.length
 lt:i<L
theorem th.ne {bs:List aw}{i L j n:Nat}{l:Bytes}(h:th bs i L (.o j n) l):i≠j:=by
 rcases h.sl with⟨h1,-⟩|⟨j',h1,h2,-⟩
 ·cases h1
 ·cases h1;have:=h.lt;omega
theorem rb {bs:List aw}{i L:Nat}{x:SV}{l:Bytes}(h:th bs i L x l)(hL:L≤bs.length)(hl:l.length≤1000000)(c:UInt8) :
 SC Tryz.V 166 [.p i 0,.int .u8 c.toNat] bs (fun r b=>r=.eR []∧∃ x',th b i L x' (l++jQ c)∧bs.length≤b.length∧∀ k,k<L→k≠i→b[k]? = bs[k]?):=by
 have eF:i<bs.length:=(zKC.1 h.box).1
 have hc:=c.toNat_lt
 have d1:=tC (c.toNat / 16) (by omega)
 have d2:=tC (c.toNat % 16) (by omega)
 have s1:=shr4 c
 have s2:=and15 c
 have gB:=h.box
 have ec:=xR c
 refine cV 3000 Tryz.func166 rfl Tryz.ntmps166 Tryz.results166 Tryz.call166 (by simp) (ax bs.length _ (by simp[within,within.aS,eF])) ?_
 rcases h.sl with⟨rfl,fG,xJ⟩|⟨j,rfl,lA,hj⟩
 ·obtain rfl:l=[]:=by simpa using fG
  have ho:∀ X,(bs++[X])[i]? = some (.cells [.aI] 174 true):=fun X=>af gB [X]
  have lz:∀ X Y,(bs++[X]++[Y])[i]? = some (.cells [.aI] 174 true):=fun X Y=>af (ho X) [Y]
  simp only[ae,↓Xn,↓Xo,↓Xg,↓Xd,↓Xe,↓Xf,Tryz.VΓ,Tryz.Γs,Xp,Xi,Nat.reduceAdd,Nat.reduceSub,Nat.reduceLT,Nat.reduceLeDiff,reduceIte,reduceCtorEq,Nat.reduceEqDiff,implies_true,forall_const,ad,gB,s1,s2,Int.toNat_natCast,d1,d2,aW,ho,lz]
  rw[← ec]
  have n1:¬ bs.length=i:=by omega
  have n2:∀ X,¬ (bs++[X]).length=i:=fun X=>by simp;omega
  refine⟨by omega,⟨by omega,by omega⟩,⟨by omega,by omega⟩,by omega,⟨by unfold maxLen;omega,by omega⟩,?_,_,⟨zKO (by simp;omega),.inr ⟨_,rfl,by simp;omega,?_⟩,h.lt⟩,by simp,fun k hk iO=>?_⟩
  ·exact(by
   refine dm (fun n=>if n=i then 0 else 1) ?_
   simp only[zLi,List.map_nil,dW,iE,reduceIte,n1,n2]
   exact aj (by kernel_rfl))
  ·rw[zKB (fun e=>n2 _ e.symm),aW];rfl
  ·rw[zKB (fun e=>iO e.symm),zKz (by simp;omega),zKz (by omega)]
 ·have xL:=h.ne
  have mG:j<bs.length:=(zKC.1 hj).1
  have ho:∀ X,(bs++[X])[j]? = some (.own (l.map da) 5 1 l.length true):=fun X=>af hj [X]
  have lz:∀ X Y,((bs++[X]).set j .gone++[Y])[i]? = some (.cells [.o j l.length] 174 true):=fun X Y=>by
   rw[zKz (by simp;omega),zKB xL.symm];exact af gB [X]
  simp only[ae,↓Xn,↓Xo,↓Xg,↓Xd,↓Xe,↓Xf,Tryz.VΓ,Tryz.Γs,Xp,Xi,Nat.reduceAdd,Nat.reduceSub,Nat.reduceLT,Nat.reduceLeDiff,reduceIte,reduceCtorEq,Nat.reduceEqDiff,implies_true,forall_const,ad,gB,s1,s2,Int.toNat_natCast,d1,d2,aW,ho,lz]
  rw[← ec,← List.map_append]
  have n1:¬ bs.length=i:=by omega
  have n2:∀ X,¬ (bs++[X]).length=i:=fun X=>by simp;omega
  have n3:¬ j=i:=fun e=>xL e.symm
  refine⟨by omega,⟨by omega,by omega⟩,⟨by omega,by omega⟩,by omega,⟨by unfold maxLen;omega,by omega⟩,?_,_,⟨zKO (by simp;omega),.inr ⟨(bs++[aw.own ((jQ c).map da) 5 1 3 true]).length,by simp[jQ],by simp;omega,?_⟩,h.lt⟩,by simp;omega,fun k hk iO=>?_⟩
  ·exact(by
   refine dm (fun n=>if n=i then 0 else 1) ?_
   simp only[zLi,List.map_nil,dW,iE,reduceIte,n1,n2,n3]
   exact aj (by kernel_rfl))
  ·rw[zKB (fun e=>n2 _ e.symm),zKS (by simp)];simp[jQ]
  ·rw[zKB (fun e=>iO e.symm),zKz (by simp;omega),zKB (by omega),zKz (by omega)]
theorem pB {bs:List aw}{i L:Nat}{x:SV}{l:Bytes}(h:th bs i L x l)(hL:L≤bs.length)(c:UInt8)(hx:x=.aI):th ((bs++[aw.own [da c] 5 1 1 true]++[aw.own [da c] 5 1 1 true]).set i (aw.cells [.o (bs++[aw.own [da c] 5 1 1 true]).length 1] 174 true)) i L (.o (bs++[aw.own [da c] 5 1 1 true]).length 1) (l++[c]):=by
 have eF:i<bs.length:=(zKC.1 h.box).1
 have hl:l=[]:=by
  rcases h.sl with⟨-,h1,-⟩|⟨j,h1,-,-⟩
  ·simpa using h1
  ·rw[hx]at h1;cases h1
 subst hl
 have n2:∀ X,¬ (bs++[X]).length=i:=fun X=>by simp;omega
 refine⟨zKO (by simp;omega),.inr ⟨_,rfl,by simp;omega,?_⟩,h.lt⟩
 rw[zKB (fun e=>n2 _ e.symm),aW]
 rfl
theorem mQ {bs:List aw}{i L j:Nat}{l:Bytes}(h:th bs i L (.o j l.length) l)(hL:L≤bs.length)(c:UInt8)(lA:L≤j):th (((bs++[aw.own [da c] 5 1 1 true]).set j .gone++[aw.own (l.map da++[da c]) 5 1 (l.length+1) true]).set i (aw.cells [.o (bs++[aw.own [da c] 5 1 1 true]).length (l.length+1)] 174 true)) i L (.o (bs++[aw.own [da c] 5 1 1 true]).length (l.length+1)) (l++[c]):=by
 have eF:i<bs.length:=(zKC.1 h.box).1
 refine⟨zKO (by simp;omega),.inr ⟨(bs++[aw.own [da c] 5 1 1 true]).length,by simp,by simp;omega,?_⟩,h.lt⟩
 rw[zKB (by simp;omega),zKS (by simp)]
 simp
def NoI (also s:Bytes)(σ:St):Prop:=∃ (i:Nat) (x:SV) (d:Bytes),lk 0 σ.t=some (.str s)∧lk 1 σ.t=some (.str also)∧lk 6 σ.t=some (.p 0 0)∧lk 7 σ.t=some (.int .i64 i)∧i≤s.length∧d.length≤3 * i∧1≤σ.b.length∧th σ.b 0 1 x d∧comb d (bD also (ay (s.drop i)))=bD also (ay s)
def NoM (s:Bytes)(σ:St):Nat:=match lk 7 σ.t with
 | some (.int _ k)=>s.length - k.toNat
 | _=>0
theorem zv {s:Bytes}{σ:St}{k:Nat}(h:lk 7 σ.t=some (.int .i64 k)):NoM s σ=s.length - k:=by simp[NoM,h]
theorem uq {also s:Bytes}{t:List (Nat × SV)}{b:List aw}{i i':Nat}{x:SV}{d:Bytes}(h0:lk 0 t=some (.str s))(h1:lk 1 t=some (.str also))(h6:lk 6 t=some (.p 0 0))(h7:lk 7 t=some (.int .i64 i'))(h:i'≤s.length∧d.length≤3 * i')(hb:1≤b.length)(ht:th b 0 1 x d)
 (hn:comb d (bD also (ay (s.drop i')))=bD also (ay s)) (aC:i<i'):NoI also s ⟨t,b⟩∧NoM s ⟨t,b⟩<s.length - i :=
 ⟨⟨i',x,d,h0,h1,h6,h7,h.1,h.2,hb,ht,hn⟩,by rw[zv h7];omega⟩
theorem lB {s:Bytes}{i:Nat}(hi:i<s.length):ay (s.drop i)=if s[i]=37 then(match ja s i with
 | some _=>(match cZ (s.drop (i+1)) with
   | some (a,b,_)=>.hex a b::ay (s.drop (i+3))
   | none=>[.bad])
 | none=>[.bad]) else .lit s[i]::ay (s.drop (i+1)):=by
 rw[zKH hi]
 by_cases h:s[i]=37
 ·rw[if_pos h,h]
  unfold ja
  cases hp:cZ (s.drop (i+1)) with
  | none=>simp only[Option.map_none];exact qU hp
  | some x =>
    obtain⟨a,b,r⟩:=x
    obtain⟨h1,h2,h3⟩:=cS hp
    simp only[Option.map_some]
    rw[h1,fC h2 h3]
    congr 2
    have:=congrArg (List.drop 2) h1
    rw[List.drop_drop]at this
    exact this.symm
 ·rw[if_neg h,df h]
theorem iF (s also:Bytes)(ha:also.length≤1000):PC Tryz.V 139 [.str s,.str also] (.eR [.str (aX also s).1,.int .i64 (aX also s).2]):=by
 refine aQ 3000 Tryz.func139 rfl Tryz.ntmps139 Tryz.results139 Tryz.call139 (by simp) (by simp[flat,flat.ai]) (by simp[flat,flat.ai]) ?_
 simp only[ae,↓Xn,↓Xo,↓Xg,↓Xd,↓Xe,↓Xf,Tryz.VΓ,Tryz.Γs,Xp,Xi,Nat.reduceAdd,Nat.reduceSub,Nat.reduceLT,Nat.reduceLeDiff,reduceIte,reduceCtorEq,Nat.reduceEqDiff,implies_true,forall_const,ad]
 unfold aX
 refine⟨fun hl=>?_,fun hl=>?_⟩
 ·have hl:16384<s.length:=(by simp at hl;omega)
  rw[if_pos hl]
 have hl:s.length≤16384:=(by simp at hl;omega)
 rw[if_neg (by omega)]
 refine aL (NoI also s) (NoM s) ⟨0,.aI,[],rfl,rfl,rfl,rfl,by omega,by simp,by simp,⟨rfl,.inl ⟨rfl,rfl,rfl⟩,by omega⟩,qC _ (xq also _)⟩ ?_
 rintro⟨t,b⟩ ⟨i,x,d,h0,h1,h6,h7,hi,hd,mu,ht,hn⟩
 simp only at h0 h1 h6 h7 mu ht
 rw[zv h7]
 have gB:=ht.box
 by_cases aC:i<s.length
 ·have hu:=lB aC
  have hg:s.getD i 0=s[i]:=by simp[List.getD,aC]
  simp only[ae,↓Xn,↓Xo,↓Xg,↓Xd,↓Xe,↓Xf,Tryz.VΓ,Tryz.Γs,Xp,Xi,Nat.reduceAdd,Nat.reduceSub,Nat.reduceLT,Nat.reduceLeDiff,reduceIte,reduceCtorEq,Nat.reduceEqDiff,implies_true,forall_const,ad,h0,h1,h6,h7]
  refine⟨fun _=>⟨⟨by omega,by omega⟩,fun hc=>?_,fun hc=>?_⟩,fun h=>absurd h (by simp;omega)⟩
  ·rw[cE (n:=37) aC 37 rfl]at hc
   rw[if_pos (by simpa using hc)]at hu
   have pe:=xk s i aC (by omega)
   cases he:ja s i with
   | none =>
     rw[he]at pe hu
     simp only at hu
     rw[hu]at hn
     have kB:bD also (ay s)=([],2):=by rw[← hn];rfl
     rw[kB]
     (refine aa pe ?_;simp only[ae,↓Xn,↓Xo,↓Xg,↓Xd,↓Xe,↓Xf,Tryz.VΓ,Tryz.Γs,Xp,Xi,Nat.reduceAdd,Nat.reduceSub,Nat.reduceLT,Nat.reduceLeDiff,reduceIte,reduceCtorEq,Nat.reduceEqDiff,implies_true,forall_const,ad,h0,h1,h6,h7,Option.isSome_none])
   | some v =>
     rw[he]at pe hu
     have hx:=he
     unfold ja at hx
     obtain⟨⟨a,bb,r⟩,hp,hv⟩:=Option.map_eq_some_iff.1 hx
     simp only at hv
     rw[hp]at hu
     simp only at hu
     have hi3:i+3≤s.length:=by
      obtain⟨h1,-,-⟩:=cS hp
      have:=congrArg List.length h1
      simp at this
      omega
     have tw:comb (d++kM v) (bD also (ay (s.drop (i+2+1))))=bD also (ay s):=by
      rw[← hn,hu,bD,gv,hv]
     simp only[Option.getD_some,Option.isSome_some]at pe
     (refine aa pe ?_;simp only[ae,↓Xn,↓Xo,↓Xg,↓Xd,↓Xe,↓Xf,Tryz.VΓ,Tryz.Γs,Xp,Xi,Nat.reduceAdd,Nat.reduceSub,Nat.reduceLT,Nat.reduceLeDiff,reduceIte,reduceCtorEq,Nat.reduceEqDiff,implies_true,forall_const,ad,h0,h1,h6,h7])
     refine⟨⟨by omega,by omega⟩,?_⟩
     (refine aa (fj v) ?_;simp only[ae,↓Xn,↓Xo,↓Xg,↓Xd,↓Xe,↓Xf,Tryz.VΓ,Tryz.Γs,Xp,Xi,Nat.reduceAdd,Nat.reduceSub,Nat.reduceLT,Nat.reduceLeDiff,reduceIte,reduceCtorEq,Nat.reduceEqDiff,implies_true,forall_const,ad,h0,h1,h6,h7])
     refine⟨fun hq=>?_,fun hq=>?_⟩
     ·have FL:comb (d++[v]) (bD also (ay (s.drop (i+2+1))))=bD also (ay s):=by
       rw[← tw];unfold kM;rw[if_pos hq]
      (rcases ht.sl with⟨rfl,fG,xJ⟩|⟨j,rfl,lA,hj⟩
       ·have ho:∀ X,(b++[X])[0]? = some (.cells [.aI] 174 true):=fun X=>af gB [X]
        have lz:∀ X Y,(b++[X]++[Y])[0]? = some (.cells [.aI] 174 true):=fun X Y=>af (ho X) [Y]
        simp only[ae,↓Xn,↓Xo,↓Xg,↓Xd,↓Xe,↓Xf,Tryz.VΓ,Tryz.Γs,Xp,Xi,Nat.reduceAdd,Nat.reduceSub,Nat.reduceLT,Nat.reduceLeDiff,reduceIte,reduceCtorEq,Nat.reduceEqDiff,implies_true,forall_const,ad,h0,h1,h6,h7,gB,aW,ho,lz]
        refine⟨by omega,⟨by unfold maxLen;omega,by omega⟩,⟨by omega,by omega⟩,uq (i':=i+2+1) (x:=.o (b++[aw.own [da (v)] 5 1 1 true]).length 1) (d:=d++[v]) h0 h1 h6 (by simp only[lk,reduceIte,zK8.injEq,SV.int.injEq,true_and];omega) ⟨by omega,by simp;omega⟩ (by simp) (pB ht mu (v) rfl) (FL) (by omega)⟩
       ·have hlj:d.length=d.length:=rfl
        have ho:∀ X,(b++[X])[j]? = some (.own (d.map da) 5 1 d.length true):=fun X=>af hj [X]
        have lz:∀ X Y,((b++[X]).set j .gone++[Y])[0]? = some (.cells [.o j d.length] 174 true):=fun X Y=>by
         rw[zKz (by simp),zKB (by omega)];exact af gB [X]
        simp only[ae,↓Xn,↓Xo,↓Xg,↓Xd,↓Xe,↓Xf,Tryz.VΓ,Tryz.Γs,Xp,Xi,Nat.reduceAdd,Nat.reduceSub,Nat.reduceLT,Nat.reduceLeDiff,reduceIte,reduceCtorEq,Nat.reduceEqDiff,implies_true,forall_const,ad,h0,h1,h6,h7,gB,aW,ho,lz]
        refine⟨by omega,⟨by unfold maxLen;omega,by omega⟩,⟨by omega,by omega⟩,uq (i':=i+2+1) (x:=.o (b++[aw.own [da (v)] 5 1 1 true]).length (d.length+1)) (d:=d++[v]) h0 h1 h6 (by simp only[lk,reduceIte,zK8.injEq,SV.int.injEq,true_and];omega) ⟨by omega,by simp;omega⟩ (by simp) (mQ ht mu (v) lA) (FL) (by omega)⟩)
     ·have FL:comb (d++jQ v) (bD also (ay (s.drop (i+2+1))))=bD also (ay s):=by
       rw[← tw];unfold kM;rw[if_neg (by simp[hq])]
      refine aT (rb ht mu (by omega) v) ?_
      rintro r b' ⟨rfl,x',ht',hbl',-⟩
      simp only[ae,↓Xn,↓Xo,↓Xg,↓Xd,↓Xe,↓Xf,Tryz.VΓ,Tryz.Γs,Xp,Xi,Nat.reduceAdd,Nat.reduceSub,Nat.reduceLT,Nat.reduceLeDiff,reduceIte,reduceCtorEq,Nat.reduceEqDiff,implies_true,forall_const,ad,h0,h1,h6,h7]
      exact⟨⟨by omega,by omega⟩,uq (i':=i+2+1) (d:=d++jQ v) h0 h1 h6 (by simp only[lk,reduceIte,zK8.injEq,SV.int.injEq,true_and];omega) ⟨by omega,by simp[jQ];omega⟩ (by omega) ht' FL (by omega)⟩
  ·rw[cE (n:=37) aC 37 rfl]at hc
   rw[if_neg (by simpa using hc)]at hu
   rw[hu,bD]at hn
   rw[hg]
   have tw:dp also s[i]=true→comb (d++[s[i]]) (bD also (ay (s.drop (i+1))))=bD also (ay s):=fun hk=>by
    rw[← hn,if_pos hk,gv]
   (refine aa (fj s[i]) ?_;simp only[ae,↓Xn,↓Xo,↓Xg,↓Xd,↓Xe,↓Xf,Tryz.VΓ,Tryz.Γs,Xp,Xi,Nat.reduceAdd,Nat.reduceSub,Nat.reduceLT,Nat.reduceLeDiff,reduceIte,reduceCtorEq,Nat.reduceEqDiff,implies_true,forall_const,ad,h0,h1,h6,h7,hg])
   refine⟨fun hq=>?_,fun hq=>?_⟩
   ·(refine aa (dG also s[i]) ?_;simp only[ae,↓Xn,↓Xo,↓Xg,↓Xd,↓Xe,↓Xf,Tryz.VΓ,Tryz.Γs,Xp,Xi,Nat.reduceAdd,Nat.reduceSub,Nat.reduceLT,Nat.reduceLeDiff,reduceIte,reduceCtorEq,Nat.reduceEqDiff,implies_true,forall_const,ad,h0,h1,h6,h7,hg])
    rw[qg]
    refine⟨fun rA=>?_,fun rA=>?_⟩
    ·have hk:dp also s[i]=true:=by unfold dp;rw[rA];simp
     (rcases ht.sl with⟨rfl,fG,xJ⟩|⟨j,rfl,lA,hj⟩
      ·have ho:∀ X,(b++[X])[0]? = some (.cells [.aI] 174 true):=fun X=>af gB [X]
       have lz:∀ X Y,(b++[X]++[Y])[0]? = some (.cells [.aI] 174 true):=fun X Y=>af (ho X) [Y]
       simp only[ae,↓Xn,↓Xo,↓Xg,↓Xd,↓Xe,↓Xf,Tryz.VΓ,Tryz.Γs,Xp,Xi,Nat.reduceAdd,Nat.reduceSub,Nat.reduceLT,Nat.reduceLeDiff,reduceIte,reduceCtorEq,Nat.reduceEqDiff,implies_true,forall_const,ad,h0,h1,h6,h7,gB,aW,ho,lz]
       refine⟨by omega,⟨by unfold maxLen;omega,by omega⟩,⟨by omega,by omega⟩,uq (i':=i+1) (x:=.o (b++[aw.own [da (s[i])] 5 1 1 true]).length 1) (d:=d++[s[i]]) h0 h1 h6 (by simp only[lk,reduceIte,zK8.injEq,SV.int.injEq,true_and];omega) ⟨by omega,by simp;omega⟩ (by simp) (pB ht mu (s[i]) rfl) (tw hk) (by omega)⟩
      ·have hlj:d.length=d.length:=rfl
       have ho:∀ X,(b++[X])[j]? = some (.own (d.map da) 5 1 d.length true):=fun X=>af hj [X]
       have lz:∀ X Y,((b++[X]).set j .gone++[Y])[0]? = some (.cells [.o j d.length] 174 true):=fun X Y=>by
        rw[zKz (by simp),zKB (by omega)];exact af gB [X]
       simp only[ae,↓Xn,↓Xo,↓Xg,↓Xd,↓Xe,↓Xf,Tryz.VΓ,Tryz.Γs,Xp,Xi,Nat.reduceAdd,Nat.reduceSub,Nat.reduceLT,Nat.reduceLeDiff,reduceIte,reduceCtorEq,Nat.reduceEqDiff,implies_true,forall_const,ad,h0,h1,h6,h7,gB,aW,ho,lz]
       refine⟨by omega,⟨by unfold maxLen;omega,by omega⟩,⟨by omega,by omega⟩,uq (i':=i+1) (x:=.o (b++[aw.own [da (s[i])] 5 1 1 true]).length (d.length+1)) (d:=d++[s[i]]) h0 h1 h6 (by simp only[lk,reduceIte,zK8.injEq,SV.int.injEq,true_and];omega) ⟨by omega,by simp;omega⟩ (by simp) (mQ ht mu (s[i]) lA) (tw hk) (by omega)⟩)
    ·have hk:¬ dp also s[i]=true:=by unfold dp;rw[hq,rA];simp
     rw[if_neg hk]at hn
     have kB:bD also (ay s)=([],1):=by rw[← hn];rfl
     rw[kB]
   ·have hk:dp also s[i]=true:=by unfold dp;rw[hq];simp
    (rcases ht.sl with⟨rfl,fG,xJ⟩|⟨j,rfl,lA,hj⟩
     ·have ho:∀ X,(b++[X])[0]? = some (.cells [.aI] 174 true):=fun X=>af gB [X]
      have lz:∀ X Y,(b++[X]++[Y])[0]? = some (.cells [.aI] 174 true):=fun X Y=>af (ho X) [Y]
      simp only[ae,↓Xn,↓Xo,↓Xg,↓Xd,↓Xe,↓Xf,Tryz.VΓ,Tryz.Γs,Xp,Xi,Nat.reduceAdd,Nat.reduceSub,Nat.reduceLT,Nat.reduceLeDiff,reduceIte,reduceCtorEq,Nat.reduceEqDiff,implies_true,forall_const,ad,h0,h1,h6,h7,gB,aW,ho,lz]
      refine⟨by omega,⟨by unfold maxLen;omega,by omega⟩,⟨by omega,by omega⟩,uq (i':=i+1) (x:=.o (b++[aw.own [da (s[i])] 5 1 1 true]).length 1) (d:=d++[s[i]]) h0 h1 h6 (by simp only[lk,reduceIte,zK8.injEq,SV.int.injEq,true_and];omega) ⟨by omega,by simp;omega⟩ (by simp) (pB ht mu (s[i]) rfl) (tw hk) (by omega)⟩
     ·have hlj:d.length=d.length:=rfl
      have ho:∀ X,(b++[X])[j]? = some (.own (d.map da) 5 1 d.length true):=fun X=>af hj [X]
      have lz:∀ X Y,((b++[X]).set j .gone++[Y])[0]? = some (.cells [.o j d.length] 174 true):=fun X Y=>by
       rw[zKz (by simp),zKB (by omega)];exact af gB [X]
      simp only[ae,↓Xn,↓Xo,↓Xg,↓Xd,↓Xe,↓Xf,Tryz.VΓ,Tryz.Γs,Xp,Xi,Nat.reduceAdd,Nat.reduceSub,Nat.reduceLT,Nat.reduceLeDiff,reduceIte,reduceCtorEq,Nat.reduceEqDiff,implies_true,forall_const,ad,h0,h1,h6,h7,gB,aW,ho,lz]
      refine⟨by omega,⟨by unfold maxLen;omega,by omega⟩,⟨by omega,by omega⟩,uq (i':=i+1) (x:=.o (b++[aw.own [da (s[i])] 5 1 1 true]).length (d.length+1)) (d:=d++[s[i]]) h0 h1 h6 (by simp only[lk,reduceIte,zK8.injEq,SV.int.injEq,true_and];omega) ⟨by omega,by simp;omega⟩ (by simp) (mQ ht mu (s[i]) lA) (tw hk) (by omega)⟩)
 ·have jk:i=s.length:=by omega
  subst jk
  rw[List.drop_length,dU]at hn
  have kB:bD also (ay s)=(d,0):=by rw[← hn];simp[bD,comb]
  rw[kB]
  rcases ht.sl with⟨rfl,fG,xJ⟩|⟨j,rfl,lA,hj⟩
  ·obtain rfl:d=[]:=by simpa using fG
   simp only[ae,↓Xn,↓Xo,↓Xg,↓Xd,↓Xe,↓Xf,Tryz.VΓ,Tryz.Γs,Xp,Xi,Nat.reduceAdd,Nat.reduceSub,Nat.reduceLT,Nat.reduceLeDiff,reduceIte,reduceCtorEq,Nat.reduceEqDiff,implies_true,forall_const,ad,h0,h1,h6,h7,gB]
   exact fun h=>(by simp at h)
  ·simp only[ae,↓Xn,↓Xo,↓Xg,↓Xd,↓Xe,↓Xf,Tryz.VΓ,Tryz.Γs,Xp,Xi,Nat.reduceAdd,Nat.reduceSub,Nat.reduceLT,Nat.reduceLeDiff,reduceIte,reduceCtorEq,Nat.reduceEqDiff,implies_true,forall_const,ad,h0,h1,h6,h7,gB,hj]
   refine⟨fun h=>absurd h (by simp),fun _=>⟨gN d,?_⟩⟩
   rw[gD]
def ji (i:Nat)(σ:St):Nat:=match lk i σ.t with
 | some (.int _ n)=>n.toNat
 | _=>0
theorem az {i:Nat}{σ:St}{k:IntKind}{n:Int}(h:lk i σ.t=some (.int k n)):ji i σ=n.toNat:=by simp[ji,h]
theorem yp {ρ:Type}(cl:ρ→List SV)(s:Nat)(hs:∀ r,(cl r).length=s):∀ (L:List ρ)(k:Nat)(h:k<L.length),((L.flatMap cl).drop (k * s)).take s=cl L[k]
 | [],k,h=>by simp at h
 | r::L,0,_=>by
   have:=hs r
   simp[List.take_append,zKU (Nat.le_of_eq this),this]
 | r::L,k+1,h=>by
   have h1:=hs r
   have h2:((r::L).flatMap cl).drop ((k+1) * s)=(L.flatMap cl).drop (k * s):=by
    rw[zKw,List.drop_append,zK7 (by rw[Nat.add_mul];omega),zKQ,show (k+1) * s - (cl r).length=k * s by rw[Nat.add_mul];omega]
   rw[h2]
   simpa using yp cl s hs L k (by simpa using h)
theorem pK {ρ:Type}(cl:ρ→List SV)(s:Nat)(hs:∀ r,(cl r).length=s):∀ (L:List ρ),(L.flatMap cl).length=L.length * s
 | []=>by simp
 | r::L=>by rw[zKw,zKF,hs r,pK cl s hs L,zKD,Nat.add_mul];omega
theorem fD {V:Cx}{f:FuncId}{args:List SV}{bs:List aw}{x:SV}(hx:flat x=true)(h:SC V f args bs (fun r b=>r=x∧Kp bs b)):SC V f args bs (fun r b=>r=x∧b=bs):=by
 refine⟨h.1,fun β fp w gC hG hE=>(h.2 β fp w gC hG hE).mono ?_⟩
 rintro e w' ⟨r,bs',β₂,fp₂,⟨rfl,hlen,cL⟩,FP,-,aP,jM,qm,qp⟩
 have old:∀ {i r},bs[i]? = some r→bs'[i]? = some r:=fun {i r} hi=>(cL i (zKC.1 hi).1).trans hi
 refine⟨r,bs,β₂,fp₂,⟨rfl,rfl⟩,FP,zKE _,fun β' hβ=>?_,jM,fun i r' hi=>qm i r' (old hi),fun i r' hi=>qp i r' (old hi)⟩
 have hc:∀ i,i<bs.length→(if i<bs.length then β' i else β₂ i)=β' i:=fun i hi=>if_pos hi
 have hall2:=aP (fun i=>if i<bs.length then β' i else β₂ i) (fun i _=>by
  by_cases hi:i<bs.length
  ·exact(hβ i hi).trans (hc i hi).symm
  ·exact(if_neg hi).symm)
 have kG:=gC (fun i=>if i<bs.length then β' i else β₂ i) (fun i hi=>((FP i hi).trans (hβ i hi)).trans (hc i hi).symm)
 have oA:=gC β' (fun i hi=>(FP i hi).trans (hβ i hi))
 obtain⟨he,hbx2⟩:=hall2
 refine⟨by rw[he,fJ _ hx _ β'],⟨fun i r hi=>?_,fun i r hi=>hbx2.lt i r (old hi),fun i j r r' hi hj=>hbx2.sep i j r r' (old hi) (old hj)⟩⟩
 have h1:=kG.holds i r hi
 have h2:=oA.holds i r hi
 have h3:=hbx2.holds i r (old hi)
 have e:=hc i (zKC.1 hi).1
 simp only[e]at h1 h3
 exact D6 h1 h2 h3
theorem GL {V:Cx}{f:FuncId}{args:List SV}{bs:List aw}{x:SV}(dP:Vc.Enters V f)(fx:flat x=true)(h:∀ β fp w,vE β fp w bs→Calls V.P f (aJ β args).toArray w fun e w'=>e=.returned (ah β x)∧Below w.heap.size w w'):SC V f args bs (fun r b=>r=x∧b=bs):=by
 refine⟨dP,fun β fp w gC hG hE=>(h β fp w (gC β (bC.refl _ _))).mono ?_⟩
 rintro e w' ⟨he,hb⟩
 have fB:=gC β (bC.refl _ _)
 refine⟨x,bs,β,fp,⟨rfl,rfl⟩,bC.refl _ _,zKE _,fun β' hβ=>⟨by rw[he,fJ x fx β β'],⟨fun i r hi=>((gC β' hβ).holds i r hi).stays (fun k hk=>hb.block k (fB.lt i r hi k hk)),fun i r hi k hk=>Nat.lt_of_lt_of_le (fB.lt i r hi k hk) hb.size,fB.sep⟩⟩,mJ.jA hb,fun i r hi hm k hk=>.inr ⟨i,r,hi,hm,hk⟩,fun i r hi k hk=>.inr ⟨i,r,hi,hk⟩⟩
open Go.RowKit Wf
attribute [local go_sem] fH eP get_list
theorem oJ {s:Bytes}(h:0<s.length)(ha:isAlpha s[0]=true):cH (s.take 1)=true:=by
 cases s with
 | nil=>simp at h
 | cons c r=>simp at ha;simp[cH,ha]
theorem ot {s:Bytes}(h:0<s.length)(ha:isAlpha s[0]=false):cH s=false:=by
 cases s with
 | nil=>simp at h
 | cons c r=>simp at ha;simp[cH,ha]
theorem jS {s:Bytes}{k:Nat}(h0:0<k)(h:k<s.length)(ht:cH (s.take k)=true)(hc:eY s[k]=true):cH (s.take (k+1))=true:=by
 cases s with
 | nil=>simp at h
 | cons c r =>
   obtain⟨j,rfl⟩:∃ j,k=j+1:=⟨k - 1,by omega⟩
   rw[List.take_succ_cons]at ht ⊢
   unfold cH at ht ⊢
   simp only[zKN]at ht ⊢
   exact⟨ht.1,aO (by simpa using h) ht.2 (by simpa using hc)⟩
theorem wU {s:Bytes}{k:Nat}(h0:0<k)(h:k<s.length)(hc:eY s[k]=false):cH s=false:=by
 cases s with
 | nil=>simp at h
 | cons c r =>
   obtain⟨j,rfl⟩:∃ j,k=j+1:=⟨k - 1,by omega⟩
   have:=cU (p:=eY) (s:=r) (k:=j) (by simpa using h) (by simpa using hc)
   show (isAlpha c&&r.all eY)=false
   rw[this];simp
theorem G5 (c:UInt8):([43,45,46].contains c=true→0≤Lib.indexByte [43,45,46] c)∧([43,45,46].contains c=false→Lib.indexByte [43,45,46] c=-1):=by
 have h:=dy (p:=fun c=>decide (([43,45,46].contains c=true→0≤Lib.indexByte [43,45,46] c)∧([43,45,46].contains c=false→Lib.indexByte [43,45,46] c=-1))) (by decide +kernel) c
 exact of_decide_eq_true h
theorem Cw (s:Bytes)(w:World)(hs:s.length≤9223372036854775807) :
 Calls Tryz.prog 174 #[(Value.string ⟨zKv (s)⟩)] w fun e w'=>e=.returned (.bool (cH s))∧w=w':=by
 go_enter Tryz.func174,Tryz.ntmps174
 go_wp2_with fail
 go_loop [6] (fun i=>∃ k:Nat,k≤s.length∧i=.int .i64 k∧(k=0∨cH (s.take k)=true)) (fun i=>s.length - (intOf i).toNat)
 case atStart=>exact⟨0,by omega,rfl,.inl rfl⟩
 case round =>
  obtain⟨k,hk,rfl,hr⟩:=hrel
  have Hr:=hid hr
  clear hr
  by_cases aC:k<s.length
  ·cases ha:isAlpha s[k]
   ·by_cases h0:k=0
    ·subst h0
     have Hq:=hid (ot aC ha)
     go_wp2_with (first
      | (go_at_call 197;refine(cO _ _).mono ?_;rintro e w' ⟨rfl,rfl⟩)
      | (go_at_call 182;refine(bF _ _).mono ?_;rintro e w' ⟨rfl,rfl⟩)
      | (go_at_call 144;refine(gj [43,45,46] _ _).mono ?_;rintro e w' ⟨rfl,rfl⟩))
     go_ret
     exact⟨aZ Hq.out.symm,rfl⟩
    ·have sW:((k:Int)==0)=false:=by simp[h0]
     have Hr2:=hid (Hr.out.resolve_left h0)
     obtain⟨p1,p2⟩:=G5 s[k]
     cases hd:isDigit s[k]
     ·cases hp:[43,45,46].contains s[k]
      ·have p3:=p2 hp
       have Hq:=hid (wU (by omega) aC (by unfold eY;rw[ha,hd,hp];rfl))
       clear p1 p2 hp
       go_wp2_with (first
        | (go_at_call 197;refine(cO _ _).mono ?_;rintro e w' ⟨rfl,rfl⟩)
        | (go_at_call 182;refine(bF _ _).mono ?_;rintro e w' ⟨rfl,rfl⟩)
        | (go_at_call 144;refine(gj [43,45,46] _ _).mono ?_;rintro e w' ⟨rfl,rfl⟩))
       go_ret
       exact⟨aZ Hq.out.symm,rfl⟩
      ·have p3:=p1 hp
       have Hn:=hid (jS (by omega) aC Hr2.out (by unfold eY;rw[hp];simp))
       clear p1 p2 hp
       go_wp2_with (first
        | (go_at_call 197;refine(cO _ _).mono ?_;rintro e w' ⟨rfl,rfl⟩)
        | (go_at_call 182;refine(bF _ _).mono ?_;rintro e w' ⟨rfl,rfl⟩)
        | (go_at_call 144;refine(gj [43,45,46] _ _).mono ?_;rintro e w' ⟨rfl,rfl⟩))
       go_round
       case rel=>exact⟨k+1,by omega,by go_num,.inr Hn.out⟩
       case measure=>simp[intOf];omega
     ·have Hn:=hid (jS (by omega) aC Hr2.out (by unfold eY;rw[hd];simp))
      clear p1 p2
      go_wp2_with (first
       | (go_at_call 197;refine(cO _ _).mono ?_;rintro e w' ⟨rfl,rfl⟩)
       | (go_at_call 182;refine(bF _ _).mono ?_;rintro e w' ⟨rfl,rfl⟩)
       | (go_at_call 144;refine(gj [43,45,46] _ _).mono ?_;rintro e w' ⟨rfl,rfl⟩))
      go_round
      case rel=>exact⟨k+1,by omega,by go_num,.inr Hn.out⟩
      case measure=>simp[intOf];omega
   ·have Hn:Hid (cH (s.take (k+1))=true):=hid (by
     rcases Hr.out with rfl|hr
     ·exact oJ aC ha
     ·by_cases h0:k=0
      ·subst h0;exact oJ aC ha
      ·exact jS (by omega) aC hr (by unfold eY;rw[ha];rfl))
    go_wp2_with (first
     | (go_at_call 197;refine(cO _ _).mono ?_;rintro e w' ⟨rfl,rfl⟩)
     | (go_at_call 182;refine(bF _ _).mono ?_;rintro e w' ⟨rfl,rfl⟩)
     | (go_at_call 144;refine(gj [43,45,46] _ _).mono ?_;rintro e w' ⟨rfl,rfl⟩))
    go_round
    case rel=>exact⟨k+1,by omega,by go_num,.inr Hn.out⟩
    case measure=>simp[intOf];omega
  ·cases hem:s.isEmpty
   ·have Hq:Hid (cH s=true):=hid (by
     rcases Hr.out with rfl|hr
     ·cases s <;> simp at hem aC
     ·rw[zKU (by omega)]at hr;exact hr)
    go_wp2_with fail
    go_ret
    exact⟨aZ Hq.out.symm,rfl⟩
   ·have Hq:Hid (cH s=false):=hid (by cases s <;> simp at hem <;> rfl)
    go_wp2_with fail
    go_ret
    exact⟨aZ Hq.out.symm,rfl⟩
open Go Vc Go.RowKit Wf
def usv (u:Uri):SV:=.agg [.str u.scheme,.str u.authority,.str u.path,.str u.query,.str u.fragment,.bool u.ik,.bool u.dI,.bool u.bl,.bool u.bE]
theorem gF (s:Bytes):cX s=s.take (dC s - 1):=by
 unfold cX dC
 have h:=List.suffix_iff_eq_drop.1 (List.dropWhile_suffix (l:=s.reverse) (· != 47))
 have hle:=(List.dropWhile_suffix (l:=s.reverse) (· != 47)).length_le
 generalize (s.reverse.dropWhile (· != 47))=d at h hle
 rw[List.length_reverse]at hle
 rw[h,List.drop_drop,List.reverse_drop,List.reverse_reverse,List.length_reverse]
 congr 1
 simp
 omega
theorem nt (s:Bytes):qf s 47=(dC s:Int) - 1:=HB s 47
theorem qd (s:Bytes):dC s≤s.length:=by
 have:=(List.dropWhile_suffix (l:=s.reverse) (· != 47)).length_le
 rw[List.length_reverse]at this
 exact this
theorem wo (s:Bytes):s.take (max 0 (qf s 47)).toNat=cX s:=by
 rw[gF,nt]
 congr 1
 omega
theorem HA (s:Bytes):qf s 47≤s.length:=by
 have:=qd s
 rw[nt]
 omega
theorem yC (s:Bytes)(hs:s.length≤9223372036854775807):PC Tryz.V 174 [.str s] (.bool (cH s)) :=
 ⟨Tryz.call174,by simp[flat,flat.ai],by simp[flat,flat.ai],fun w _=>(Cw s w hs).mono fun _ _ ⟨h,k⟩=>⟨h,cT k⟩⟩
theorem ch {s:Bytes}(h:Lib.hasPrefix s [47,47]=false):aB s=([],false,s):=by
 unfold aB
 split
 ·simp[Lib.hasPrefix]at h
 ·rfl
theorem jm {s:Bytes}(h:Lib.hasPrefix s [47,47]=true):aB s=((Lib.trimPrefix s [47,47]).take (pre (·==47) (Lib.trimPrefix s [47,47])),true,(Lib.trimPrefix s [47,47]).drop (pre (·==47) (Lib.trimPrefix s [47,47]))):=by
 obtain⟨r,rfl⟩:=zKI.1 h
 have ht:Lib.trimPrefix ([47,47]++r) [47,47]=r:=by simp[Lib.trimPrefix,Lib.hasPrefix]
 rw[ht]
 rfl
theorem AG (s:Bytes):PC Tryz.V 149 [.str s] (.eR [usv (bd s).1,.int .i64 (bd s).2]):=by
 refine aQ 3000 Tryz.func149 rfl Tryz.ntmps149 Tryz.results149 Tryz.call149 (by simp) (by simp[flat,flat.ai]) (by simp[flat,flat.ai,usv]) ?_
 simp only[ae,↓Xn,↓Xo,↓Xg,↓Xd,↓Xe,↓Xf,Tryz.VΓ,Tryz.Γs,Xp,Xi,Nat.reduceAdd,Nat.reduceSub,Nat.reduceLT,Nat.reduceLeDiff,reduceIte,reduceCtorEq,Nat.reduceEqDiff,implies_true,forall_const,ad]
 refine⟨fun h=>?_,fun h=>?_⟩
 ·have:bd s=(Uri.none,5):=if_pos (by simp at h;omega)
  rw[this];rfl
 ·have hl:s.length<4294967281:=by simp at h;omega
  have hq:bd s=aF (aG 63 (aG 35 s).1).1 (aG 35 s).2.1 (aG 63 (aG 35 s).1).2.1 (aG 35 s).2.2 (aG 63 (aG 35 s).1).2.2:=if_neg (by simp at h;omega)
  rw[hq]
  have l1:=eb 35 s
  have l2:=eb 63 (aG 35 s).1
  (refine aa (uf s 35 hl) ?_;simp only[ae,↓Xn,↓Xo,↓Xg,↓Xd,↓Xe,↓Xf,Tryz.VΓ,Tryz.Γs,Xp,Xi,Nat.reduceAdd,Nat.reduceSub,Nat.reduceLT,Nat.reduceLeDiff,reduceIte,reduceCtorEq,Nat.reduceEqDiff,implies_true,forall_const,ad])
  (refine aa (uf _ 63 (by omega)) ?_;simp only[ae,↓Xn,↓Xo,↓Xg,↓Xd,↓Xe,↓Xf,Tryz.VΓ,Tryz.Γs,Xp,Xi,Nat.reduceAdd,Nat.reduceSub,Nat.reduceLT,Nat.reduceLeDiff,reduceIte,reduceCtorEq,Nat.reduceEqDiff,implies_true,forall_const,ad])
  generalize aG 63 (aG 35 s).1=C2 at l2 ⊢
  generalize aG 35 s=C1 at l1 l2 ⊢
  obtain⟨s1,fr,hf⟩:=C1
  obtain⟨s2,qu,hqu⟩:=C2
  simp only at l1 l2 ⊢
  have hix:Lib.indexAny s2 [58,47]=if pre aq s2<s2.length then(pre aq s2:Int) else -1:=lP s2 [58,47]
  have p3:=ud s2 [58,47] (by decide) (by decide) (by decide) (by omega)
  -- the end: the authority and the path
  by_cases hp:pre aq s2<s2.length
  ·rw[if_pos hp]at hix
   rw[hix]at p3
   (refine aa (p3) ?_;simp only[ae,↓Xn,↓Xo,↓Xg,↓Xd,↓Xe,↓Xf,Tryz.VΓ,Tryz.Γs,Xp,Xi,Nat.reduceAdd,Nat.reduceSub,Nat.reduceLT,Nat.reduceLeDiff,reduceIte,reduceCtorEq,Nat.reduceEqDiff,implies_true,forall_const,ad])
   refine⟨fun _=>⟨⟨by omega,by omega⟩,fun h1=>⟨⟨by omega,by omega⟩,?_⟩,fun h1=>?_⟩,fun h1=>?_⟩
   ·have hh:(s2.drop (pre aq s2)).head? = some 58:=by
     rw[List.head?_drop,zLd hp]
     rw[cE (n:=58) hp 58 rfl]at h1
     rw[beq_iff_eq.1 h1]
    (refine aa (yC _ (by simp;omega)) ?_;simp only[ae,↓Xn,↓Xo,↓Xg,↓Xd,↓Xe,↓Xf,Tryz.VΓ,Tryz.Γs,Xp,Xi,Nat.reduceAdd,Nat.reduceSub,Nat.reduceLT,Nat.reduceLeDiff,reduceIte,reduceCtorEq,Nat.reduceEqDiff,implies_true,forall_const,ad])
    refine⟨fun h2=>?_,fun h2=>⟨⟨by omega,by omega⟩,⟨by omega,by omega⟩,⟨by omega,by omega⟩,(aj (by kernel_rfl)),?_⟩⟩
    ·have:aF s2 fr qu hf hqu=(Uri.none,6):=by
      unfold aF
      rw[if_pos hh,if_neg (by simpa using h2)]
     rw[this];rfl
    ·have hs:aF s2 fr qu hf hqu=(⟨s2.take (pre aq s2),(aB (s2.drop (pre aq s2+1))).1,(aB (s2.drop (pre aq s2+1))).2.2,qu,fr,true,(aB (s2.drop (pre aq s2+1))).2.1,hqu,hf⟩,0):=by
      unfold aF
      rw[if_pos hh,if_pos (by simpa using h2)]
     have Gn:(s2.drop (pre aq s2+1)).length≤s2.length:=by simp
     (
      (refine aa (kb (s2.drop (pre aq s2+1)) [47,47]) ?_;simp only[ae,↓Xn,↓Xo,↓Xg,↓Xd,↓Xe,↓Xf,Tryz.VΓ,Tryz.Γs,Xp,Xi,Nat.reduceAdd,Nat.reduceSub,Nat.reduceLT,Nat.reduceLeDiff,reduceIte,reduceCtorEq,Nat.reduceEqDiff,implies_true,forall_const,ad])
      cases gO:Lib.hasPrefix (s2.drop (pre aq s2+1)) [47,47]
      ·refine⟨fun h=>(by cases h),fun _=>?_⟩
       have ht:Lib.trimPrefix (s2.drop (pre aq s2+1)) [47,47]=s2.drop (pre aq s2+1):=by unfold Lib.trimPrefix;rw[gO];rfl
       rw[hs,ch gO];rfl
      ·refine⟨fun _=>?_,fun h=>(by cases h)⟩
       have hl3:=tG (s2.drop (pre aq s2+1)) [47,47]
       have EB:=jm gO
       rw[hs,EB]
       generalize Lib.trimPrefix (s2.drop (pre aq s2+1)) [47,47]=rest at hl3 EB ⊢
       have qn:=cY rest 47
       have p4:=dG rest 47
       rw[qn]at p4
       have fU:=cq (·==47) rest
       by_cases hr:pre (·==47) rest<rest.length
       ·rw[if_pos hr]at p4
        (refine aa (p4) ?_;simp only[ae,↓Xn,↓Xo,↓Xg,↓Xd,↓Xe,↓Xf,Tryz.VΓ,Tryz.Γs,Xp,Xi,Nat.reduceAdd,Nat.reduceSub,Nat.reduceLT,Nat.reduceLeDiff,reduceIte,reduceCtorEq,Nat.reduceEqDiff,implies_true,forall_const,ad])
        refine⟨fun h=>?_,fun _=>⟨⟨by omega,by omega⟩,⟨by omega,by omega⟩,(aj (by kernel_rfl)),rfl⟩⟩
        simp at h;omega
       ·rw[if_neg hr]at p4
        (refine aa (p4) ?_;simp only[ae,↓Xn,↓Xo,↓Xg,↓Xd,↓Xe,↓Xf,Tryz.VΓ,Tryz.Γs,Xp,Xi,Nat.reduceAdd,Nat.reduceSub,Nat.reduceLT,Nat.reduceLeDiff,reduceIte,reduceCtorEq,Nat.reduceEqDiff,implies_true,forall_const,ad])
        refine⟨fun _=>⟨⟨by omega,by omega⟩,⟨by omega,by omega⟩,(aj (by kernel_rfl)),?_⟩,fun h=>?_⟩
        ·have:pre (·==47) rest=rest.length:=by omega
         rw[this];simp[usv]
        ·simp at h)
   ·have hs:aF s2 fr qu hf hqu=(⟨[],(aB s2).1,(aB s2).2.2,qu,fr,false,(aB s2).2.1,hqu,hf⟩,0):=by
     unfold aF
     rw[if_neg]
     rw[cE (n:=58) hp 58 rfl]at h1
     rw[List.head?_drop,zLd hp]
     simpa using h1
    (
     (refine aa (kb (s2) [47,47]) ?_;simp only[ae,↓Xn,↓Xo,↓Xg,↓Xd,↓Xe,↓Xf,Tryz.VΓ,Tryz.Γs,Xp,Xi,Nat.reduceAdd,Nat.reduceSub,Nat.reduceLT,Nat.reduceLeDiff,reduceIte,reduceCtorEq,Nat.reduceEqDiff,implies_true,forall_const,ad])
     cases gO:Lib.hasPrefix (s2) [47,47]
     ·refine⟨fun h=>(by cases h),fun _=>?_⟩
      have ht:Lib.trimPrefix (s2) [47,47]=s2:=by unfold Lib.trimPrefix;rw[gO];rfl
      rw[hs,ch gO];rfl
     ·refine⟨fun _=>?_,fun h=>(by cases h)⟩
      have hl3:=tG (s2) [47,47]
      have EB:=jm gO
      rw[hs,EB]
      generalize Lib.trimPrefix (s2) [47,47]=rest at hl3 EB ⊢
      have qn:=cY rest 47
      have p4:=dG rest 47
      rw[qn]at p4
      have fU:=cq (·==47) rest
      by_cases hr:pre (·==47) rest<rest.length
      ·rw[if_pos hr]at p4
       (refine aa (p4) ?_;simp only[ae,↓Xn,↓Xo,↓Xg,↓Xd,↓Xe,↓Xf,Tryz.VΓ,Tryz.Γs,Xp,Xi,Nat.reduceAdd,Nat.reduceSub,Nat.reduceLT,Nat.reduceLeDiff,reduceIte,reduceCtorEq,Nat.reduceEqDiff,implies_true,forall_const,ad])
       refine⟨fun h=>?_,fun _=>⟨⟨by omega,by omega⟩,⟨by omega,by omega⟩,(aj (by kernel_rfl)),rfl⟩⟩
       simp at h;omega
      ·rw[if_neg hr]at p4
       (refine aa (p4) ?_;simp only[ae,↓Xn,↓Xo,↓Xg,↓Xd,↓Xe,↓Xf,Tryz.VΓ,Tryz.Γs,Xp,Xi,Nat.reduceAdd,Nat.reduceSub,Nat.reduceLT,Nat.reduceLeDiff,reduceIte,reduceCtorEq,Nat.reduceEqDiff,implies_true,forall_const,ad])
       refine⟨fun _=>⟨⟨by omega,by omega⟩,⟨by omega,by omega⟩,(aj (by kernel_rfl)),?_⟩,fun h=>?_⟩
       ·have:pre (·==47) rest=rest.length:=by omega
        rw[this];simp[usv]
       ·simp at h)
   ·simp at h1
  ·rw[if_neg hp]at hix
   rw[hix]at p3
   (refine aa (p3) ?_;simp only[ae,↓Xn,↓Xo,↓Xg,↓Xd,↓Xe,↓Xf,Tryz.VΓ,Tryz.Γs,Xp,Xi,Nat.reduceAdd,Nat.reduceSub,Nat.reduceLT,Nat.reduceLeDiff,reduceIte,reduceCtorEq,Nat.reduceEqDiff,implies_true,forall_const,ad])
   refine⟨fun h1=>?_,fun h1=>?_⟩
   ·simp at h1
   ·have hs:aF s2 fr qu hf hqu=(⟨[],(aB s2).1,(aB s2).2.2,qu,fr,false,(aB s2).2.1,hqu,hf⟩,0):=by
     unfold aF
     rw[if_neg]
     rw[zK7 (by omega)];simp
    (
     (refine aa (kb (s2) [47,47]) ?_;simp only[ae,↓Xn,↓Xo,↓Xg,↓Xd,↓Xe,↓Xf,Tryz.VΓ,Tryz.Γs,Xp,Xi,Nat.reduceAdd,Nat.reduceSub,Nat.reduceLT,Nat.reduceLeDiff,reduceIte,reduceCtorEq,Nat.reduceEqDiff,implies_true,forall_const,ad])
     cases gO:Lib.hasPrefix (s2) [47,47]
     ·refine⟨fun h=>(by cases h),fun _=>?_⟩
      have ht:Lib.trimPrefix (s2) [47,47]=s2:=by unfold Lib.trimPrefix;rw[gO];rfl
      rw[hs,ch gO];rfl
     ·refine⟨fun _=>?_,fun h=>(by cases h)⟩
      have hl3:=tG (s2) [47,47]
      have EB:=jm gO
      rw[hs,EB]
      generalize Lib.trimPrefix (s2) [47,47]=rest at hl3 EB ⊢
      have qn:=cY rest 47
      have p4:=dG rest 47
      rw[qn]at p4
      have fU:=cq (·==47) rest
      by_cases hr:pre (·==47) rest<rest.length
      ·rw[if_pos hr]at p4
       (refine aa (p4) ?_;simp only[ae,↓Xn,↓Xo,↓Xg,↓Xd,↓Xe,↓Xf,Tryz.VΓ,Tryz.Γs,Xp,Xi,Nat.reduceAdd,Nat.reduceSub,Nat.reduceLT,Nat.reduceLeDiff,reduceIte,reduceCtorEq,Nat.reduceEqDiff,implies_true,forall_const,ad])
       refine⟨fun h=>?_,fun _=>⟨⟨by omega,by omega⟩,⟨by omega,by omega⟩,(aj (by kernel_rfl)),rfl⟩⟩
       simp at h;omega
      ·rw[if_neg hr]at p4
       (refine aa (p4) ?_;simp only[ae,↓Xn,↓Xo,↓Xg,↓Xd,↓Xe,↓Xf,Tryz.VΓ,Tryz.Γs,Xp,Xi,Nat.reduceAdd,Nat.reduceSub,Nat.reduceLT,Nat.reduceLeDiff,reduceIte,reduceCtorEq,Nat.reduceEqDiff,implies_true,forall_const,ad])
       refine⟨fun _=>⟨⟨by omega,by omega⟩,⟨by omega,by omega⟩,(aj (by kernel_rfl)),?_⟩,fun h=>?_⟩
       ·have:pre (·==47) rest=rest.length:=by omega
        rw[this];simp[usv]
       ·simp at h)
def RdI (s:Bytes)(σ:St):Prop:=∃ (p o:Bytes) (j f:Nat),lk 0 σ.t=some (.str p)∧lk 3 σ.t=some (.o j o.length)∧σ.b[j]? = some (.own (o.map da) 5 1 o.length true)∧p.length+o.length≤s.length∧p.length≤f∧dZ f p o=aN s
def RdM (σ:St):Nat:=match lk 0 σ.t with
 | some (.str p)=>p.length
 | _=>0
theorem Jc {σ:St}{p:Bytes}(h:lk 0 σ.t=some (.str p)):RdM σ=p.length:=by simp[RdM,h]
theorem iy {s p' o':Bytes}{j f n:Nat}{t:List (Nat × SV)}{b:List aw}(h0:lk 0 t=some (.str p'))(h3:lk 3 t=some (.o j o'.length))(hj:b[j]? = some (.own (o'.map da) 5 1 o'.length true))(hlen:p'.length+o'.length≤s.length)(hf:p'.length≤f)(kg:dZ f p' o'=aN s)(aC:p'.length<n) :
 RdI s ⟨t,b⟩∧RdM ⟨t,b⟩<n:=⟨⟨p',o',j,f,h0,h3,hj,hlen,hf,kg⟩,by rw[Jc h0];exact aC⟩
theorem GZ (o:Bytes):∃ X:Int,(if 0<qf o 47 then qf o 47 else 0)=X∧0≤X∧X≤o.length∧o.take X.toNat=cX o:=by
 refine⟨_,rfl,by split <;> omega,?_,?_⟩
 ·have:=HA o;split <;> omega
 ·rw[← wo o]
  congr 2
  split <;> omega
theorem tV {o:Bytes}{X:Int}(h:X≤o.length):(o.take X.toNat).length=X.toNat:=by rw[zKY];omega
theorem rd_at {b:List aw}{j:Nat}{o:Bytes}{X:Int}(h:X≤o.length):(b.set j .gone++[.own ((o.map da).take (X.toNat * 1)) 5 1 X.toNat true])[b.length]? = some (.own ((o.take X.toNat).map da) 5 1 (o.take X.toNat).length true):=by
 rw[zKS (by simp),tV h]
 simp[List.map_take]
theorem G0 (b:List aw)(j:Nat)(o y:Bytes):(b.set j .gone++[.own (o.map da++y.map da) 5 1 (o.length+y.length) true])[b.length]? = some (.own ((o++y).map da) 5 1 (o++y).length true):=by
 rw[zKS (by simp)]
 simp
theorem rp (s:Bytes)(hs:s.length≤4294967281):PC Tryz.V 152 [.str s] (.str (aN s)):=by
 refine aQ 3000 Tryz.func152 rfl Tryz.ntmps152 Tryz.results152 Tryz.call152 (by simp) (by simp[flat,flat.ai]) (by simp[flat,flat.ai]) ?_
 simp only[ae,↓Xn,↓Xo,↓Xg,↓Xd,↓Xe,↓Xf,Tryz.VΓ,Tryz.Γs,Xp,Xi,Nat.reduceAdd,Nat.reduceSub,Nat.reduceLT,Nat.reduceLeDiff,reduceIte,reduceCtorEq,Nat.reduceEqDiff,implies_true,forall_const,ad]
 refine⟨by omega,aL (RdI s) RdM ⟨s,[],0,s.length,rfl,rfl,rfl,by simp,zKE _,rfl⟩ ?_⟩
 rintro⟨t,b⟩ ⟨p,o,j,f,h0,h3,hj,hlen,hf,kg⟩
 simp only at h0 h3 hj
 rw[Jc h0]
 simp only[ae,↓Xn,↓Xo,↓Xg,↓Xd,↓Xe,↓Xf,Tryz.VΓ,Tryz.Γs,Xp,Xi,Nat.reduceAdd,Nat.reduceSub,Nat.reduceLT,Nat.reduceLeDiff,reduceIte,reduceCtorEq,Nat.reduceEqDiff,implies_true,forall_const,ad,h0,h3,hj]
 have BH:p=[]→o=aN s:=fun hp=>by subst hp;cases f <;> simpa[dZ] using kg
 refine⟨fun hp=>?_,fun hp=>⟨gN o,?_⟩⟩
 rotate_left
 ·rw[gD,BH (by simpa using hp)]
 replace hp:p≠[]:=by simpa using hp
 have fU:0<p.length:=zLm.2 hp
 obtain⟨f,rfl⟩:∃ f',f=f'+1:=⟨f - 1,by omega⟩
 rw[dZ,if_neg hp]at kg
 (refine aa (ka p [46,46,47]) ?_
  simp only[ae,↓Xn,↓Xo,↓Xg,↓Xd,↓Xe,↓Xf,Tryz.VΓ,Tryz.Γs,Xp,Xi,Nat.reduceAdd,Nat.reduceSub,Nat.reduceLT,Nat.reduceLeDiff,reduceIte,reduceCtorEq,Nat.reduceEqDiff,implies_true,forall_const,ad,h0,h3,hj])
 refine⟨fun c1=>?_,fun c1=>?_⟩
 ·have h:=eE c1
  rw[show cD p o=(p.drop 3,o) from if_pos c1]at kg
  exact⟨⟨by omega,by simp at h;omega⟩,iy rfl h3 hj (by simp;omega) (by simp at h ⊢;omega) kg (by simp at h ⊢;omega)⟩
 (refine aa (ka p [46,47]) ?_
  simp only[ae,↓Xn,↓Xo,↓Xg,↓Xd,↓Xe,↓Xf,Tryz.VΓ,Tryz.Γs,Xp,Xi,Nat.reduceAdd,Nat.reduceSub,Nat.reduceLT,Nat.reduceLeDiff,reduceIte,reduceCtorEq,Nat.reduceEqDiff,implies_true,forall_const,ad,h0,h3,hj])
 refine⟨fun c2=>?_,fun c2=>?_⟩
 ·have h:=eE c2
  rw[show cD p o=(p.drop 2,o) by unfold cD;rw[if_neg (ke c1)];exact if_pos c2]at kg
  exact⟨⟨by omega,by simp at h;omega⟩,iy rfl h3 hj (by simp;omega) (by simp at h ⊢;omega) kg (by simp at h ⊢;omega)⟩
 (refine aa (ka p [47,46,47]) ?_
  simp only[ae,↓Xn,↓Xo,↓Xg,↓Xd,↓Xe,↓Xf,Tryz.VΓ,Tryz.Γs,Xp,Xi,Nat.reduceAdd,Nat.reduceSub,Nat.reduceLT,Nat.reduceLeDiff,reduceIte,reduceCtorEq,Nat.reduceEqDiff,implies_true,forall_const,ad,h0,h3,hj])
 refine⟨fun c3=>?_,fun c3=>?_⟩
 ·have h:=eE c3
  rw[show cD p o=(p.drop 2,o) by unfold cD;rw[if_neg (ke c1),if_neg (ke c2)];exact if_pos c3]at kg
  exact⟨⟨by omega,by simp at h;omega⟩,iy rfl h3 hj (by simp;omega) (by simp at h ⊢;omega) kg (by simp at h ⊢;omega)⟩
 refine⟨fun c4=>?_,fun c4=>?_⟩
 ·have h:p=[47,46]:=by simpa using c4
  subst h
  exact iy (p':=[47]) rfl h3 hj (by simp at hlen ⊢;omega) (by simp at hf ⊢;omega) kg (by simp)
 have n4:¬ p=[47,46]:=by simpa using c4
 have FN:cD p o=if [47,46,46,47].isPrefixOf p then(p.drop 3,cX o)
  else if p=[47,46,46] then([47],cX o)
  else if p=[46]∨p=[46,46] then([],o)
  else(p.drop (1+pre (·==47) (p.drop 1)),o++p.take (1+pre (·==47) (p.drop 1))):=by
  unfold cD;rw[if_neg (ke c1),if_neg (ke c2),if_neg (ke c3),if_neg n4]
 rw[FN]at kg
 (refine aa (ka p [47,46,46,47]) ?_
  simp only[ae,↓Xn,↓Xo,↓Xg,↓Xd,↓Xe,↓Xf,Tryz.VΓ,Tryz.Γs,Xp,Xi,Nat.reduceAdd,Nat.reduceSub,Nat.reduceLT,Nat.reduceLeDiff,reduceIte,reduceCtorEq,Nat.reduceEqDiff,implies_true,forall_const,ad,h0,h3,hj])
 refine⟨fun c5=>⟨fun c6=>?_,fun c6=>⟨fun c7=>⟨fun c8=>?_,fun c8=>?_⟩,fun c7=>?_⟩⟩,fun c5=>?_⟩
 ·have h:p=[47,46,46]:=by simpa using c6
  subst h
  refine⟨by simp,?_⟩
  (refine aa (pR _ [47]) ?_
   simp only[ae,↓Xn,↓Xo,↓Xg,↓Xd,↓Xe,↓Xf,Tryz.VΓ,Tryz.Γs,Xp,Xi,Nat.reduceAdd,Nat.reduceSub,Nat.reduceLT,Nat.reduceLeDiff,reduceIte,reduceCtorEq,Nat.reduceEqDiff,implies_true,forall_const,ad,h0,h3,hj])
  refine⟨by decide,gN o,?_⟩
  rw[gD]
  (refine aa (mo o 47 (by omega)) ?_
   simp only[ae,↓Xn,↓Xo,↓Xg,↓Xd,↓Xe,↓Xf,Tryz.VΓ,Tryz.Γs,Xp,Xi,Nat.reduceAdd,Nat.reduceSub,Nat.reduceLT,Nat.reduceLeDiff,reduceIte,reduceCtorEq,Nat.reduceEqDiff,implies_true,forall_const,ad,h0,h3,hj])
  obtain⟨X,hX,x0,x1,hx⟩:=GZ o
  rw[hX]
  refine⟨⟨x0,x1⟩,iy (p':=[47]) (o':=o.take X.toNat) (f:=f) rfl ?_ (rd_at x1) ?_ ?_ ?_ (by simp)⟩
  ·rw[tV x1];rfl
  ·rw[tV x1];simp at hlen ⊢;omega
  ·simp at hf ⊢;omega
  ·rw[hx];exact kg
 ·have h:p=[46,46]:=by simpa using c8
  subst h
  exact iy (p':=[]) rfl h3 hj (by simp at hlen ⊢;omega) (by simp at hf ⊢) kg (by simp)
 ·have n5:=ke c5
  have n6:¬ p=[47,46,46]:=by simpa using c6
  have n7:¬ (p=[46]∨p=[46,46]):=by rintro(h|h) <;> subst h <;> simp at c7 c8
  rw[if_neg n5,if_neg n6,if_neg n7]at kg
  simp only at kg
  have p4:=dG (p.drop 1) 47
  rw[cY]at p4
  have hpr:=cq (·==47) (p.drop 1)
  generalize pre (·==47) (p.drop 1)=q at kg p4 hpr
  simp only[List.length_drop]at p4 hpr
  refine⟨by omega,?_⟩
  by_cases hq:q<p.length - 1
  ·rw[if_pos hq]at p4
   (refine aa (p4) ?_
    simp only[ae,↓Xn,↓Xo,↓Xg,↓Xd,↓Xe,↓Xf,Tryz.VΓ,Tryz.Γs,Xp,Xi,Nat.reduceAdd,Nat.reduceSub,Nat.reduceLT,Nat.reduceLeDiff,reduceIte,reduceCtorEq,Nat.reduceEqDiff,implies_true,forall_const,ad,h0,h3,hj])
   have e:(1+(q:Int)).toNat=1+q:=by omega
   have el:(p.take (1+q)).length=1+q:=by rw[zKY];omega
   rw[e]
   refine⟨by omega,fun h=>(by simp at h;omega),fun _=>⟨by omega,⟨um _,by rw[el];unfold maxLen;omega,by rw[el];omega⟩,by omega,iy (p':=p.drop (1+q)) (o':=o++p.take (1+q)) (f:=f) rfl ?_ (G0 ..) ?_ ?_ kg ?_⟩⟩
   ·rw[zKF];rfl
   ·simp;omega
   ·simp;omega
   ·simp;omega
  ·rw[if_neg hq]at p4
   have rA:1+q=p.length:=by omega
   rw[rA,List.drop_length,List.take_length]at kg
   (refine aa (p4) ?_
    simp only[ae,↓Xn,↓Xo,↓Xg,↓Xd,↓Xe,↓Xf,Tryz.VΓ,Tryz.Γs,Xp,Xi,Nat.reduceAdd,Nat.reduceSub,Nat.reduceLT,Nat.reduceLeDiff,reduceIte,reduceCtorEq,Nat.reduceEqDiff,implies_true,forall_const,ad,h0,h3,hj])
   refine⟨by omega,fun _=>⟨by omega,⟨um _,by unfold maxLen;omega,by omega⟩,by omega,iy (p':=[]) (o':=o++p) (f:=f) ?_ ?_ (G0 ..) ?_ ?_ kg ?_⟩,fun h=>(by simp at h)⟩
   ·simp[lk]
   ·rw[zKF];rfl
   ·simp;omega
   ·simp
   ·exact fU
 ·have h:p=[46]:=by simpa using c7
  subst h
  exact iy (p':=[]) rfl h3 hj (by simp at hlen ⊢;omega) (by simp at hf ⊢) kg (by simp)
 ·rw[if_pos (show zK2 [47,46,46,47] p=true from c5)]at kg
  obtain⟨r,rfl⟩:=zKI.1 c5
  refine⟨by simp;omega,?_⟩
  (refine aa (pR _ [47]) ?_
   simp only[ae,↓Xn,↓Xo,↓Xg,↓Xd,↓Xe,↓Xf,Tryz.VΓ,Tryz.Γs,Xp,Xi,Nat.reduceAdd,Nat.reduceSub,Nat.reduceLT,Nat.reduceLeDiff,reduceIte,reduceCtorEq,Nat.reduceEqDiff,implies_true,forall_const,ad,h0,h3,hj])
  have ht:Lib.trimPrefix (47::r) [47]=r:=by simp[Lib.trimPrefix,Lib.hasPrefix]
  have hd:(47::46::46::47::r:Bytes).drop (Int.toNat 3)=47::r:=rfl
  rw[hd,ht]
  refine⟨by simp at hlen;omega,gN o,?_⟩
  rw[gD]
  (refine aa (mo o 47 (by omega)) ?_
   simp only[ae,↓Xn,↓Xo,↓Xg,↓Xd,↓Xe,↓Xf,Tryz.VΓ,Tryz.Γs,Xp,Xi,Nat.reduceAdd,Nat.reduceSub,Nat.reduceLT,Nat.reduceLeDiff,reduceIte,reduceCtorEq,Nat.reduceEqDiff,implies_true,forall_const,ad,h0,h3,hj])
  obtain⟨X,hX,x0,x1,hx⟩:=GZ o
  rw[hX]
  refine⟨⟨x0,x1⟩,iy (p':=47::r) (o':=o.take X.toNat) (f:=f) rfl ?_ (rd_at x1) ?_ ?_ ?_ (by simp)⟩
  ·rw[tV x1];rfl
  ·rw[tV x1];simp at hlen ⊢;omega
  ·simp at hf ⊢;omega
  ·rw[hx];exact kg
theorem BX (p o:Bytes)(hp:p≠[]):(cD p o).1.length+(cD p o).2.length≤p.length+o.length:=by
 have fU:0<p.length:=zLm.2 hp
 have hs:(cX o).length≤o.length:=by rw[gF,zKY];exact Nat.min_le_right _ _
 have hq:=cq (·==47) (p.drop 1)
 unfold cD
 split
 ·simp
 split
 ·simp
 split
 ·simp
 split
 ·rename_i h;subst h;simp
 split
 ·simp;omega
 split
 ·rename_i h;subst h;simp;omega
 split
 ·simp
 ·simp at hq ⊢
  omega
theorem vi:∀ (f:Nat)(p o:Bytes),(dZ f p o).length≤p.length+o.length
 | 0,p,o=>by simp[dZ]
 | f+1,p,o=>by
   rw[dZ]
   split
   ·simp
   ·rename_i hp
    exact Nat.le_trans (vi f _ _) (BX p o hp)
theorem mX (s:Bytes):(aN s).length≤s.length:=by
 have:=vi s.length s []
 simpa[aN] using this
theorem pre_hit {p:UInt8→Bool}{s:Bytes}{k:Nat}(hk:k<s.length)(h:k≤pre p s)(hp:p s[k]=true):pre p s=k:=by
 rcases zKP k (pre p s) with h1|h1
 ·rw[gH h1 hk]at hp;cases hp
 ·omega
theorem G3 {p:UInt8→Bool}{s:Bytes}{k:Nat}(hk:k<s.length)(h:k≤pre p s)(hp:p s[k]=false):k+1≤pre p s:=by
 rcases zKP k (pre p s) with h1|h1
 ·exact h1
 ·have e:pre p s=k:=by omega
  have h2:=ga (p:=p) (l:=s) (by omega)
  simp only[e]at h2
  rw[hp]at h2;cases h2
theorem tN (s:Bytes):(dC s=0∧∀ j (h:j<s.length),s[j]≠47)∨(∃ i,∃ h:i<s.length,dC s=i+1∧s[i]=47∧∀ j (hj:j<s.length),i<j→s[j]≠47):=by
 have e:∀ j (h:j<s.length),(⟨zKv s⟩:ByteArray).data[j]! = s[j]:=fun j h=>by simp[h]
 have hb:=nt s
 have hz:(⟨zKv s⟩:ByteArray).size=s.length:=rfl
 rcases Lib.lastIndexByte_spec ⟨zKv s⟩ (UInt8.toNat 47) with⟨h1,h2⟩|⟨i,h1,h2,h3,h4⟩
 ·left
  refine⟨?_,fun j hj hs=>h2 j hj ?_⟩
  ·have:qf s 47=-1:=h1
   omega
  ·rw[e j hj,hs]
 ·right
  rw[hz]at h1
  refine⟨i,h1,?_,?_,fun j hj xL hs=>h4 j xL hj ?_⟩
  ·have:qf s 47=i:=h2
   omega
  ·rw[e i h1]at h3
   exact UInt8.toNat_inj.1 (by exact_mod_cast h3)
  ·rw[e j hj,hs]
theorem E9 {s:Bytes}{k:Nat}(hk:k<s.length)(h:dC s≤k+1)(hs:s[k]=47):dC s=k+1:=by
 rcases tN s with⟨-,h2⟩|⟨i,hi,h1,h2,h3⟩
 ·exact absurd hs (h2 k hk)
 ·rcases zKP i k with h4|h4
  ·exact absurd hs (h3 k hk h4)
  ·omega
theorem CH {s:Bytes}{k:Nat}(hk:k<s.length)(h:dC s≤k+1)(hs:s[k]≠47):dC s≤k:=by
 rcases tN s with⟨h1,-⟩|⟨i,hi,h1,h2,h3⟩
 ·omega
 ·rcases zKP i k with h4|h4
  ·omega
  ·have:i=k:=by omega
   subst this
   exact absurd h2 hs
theorem jZ (c:UInt8)(set:Bytes)(ht:set.length≤4294967281):PC Tryz.V 67 [.int .u8 c.toNat,.str set] (.bool (set.contains c)):=by
 refine aQ 3000 Tryz.func67 rfl Tryz.ntmps67 Tryz.results67 Tryz.call67 (by simp) (by simp[flat,flat.ai]) (by simp[flat,flat.ai]) ?_
 simp only[ae,↓Xn,↓Xo,↓Xg,↓Xd,↓Xe,↓Xf,Tryz.VΓ,Tryz.Γs,Xp,Xi,Nat.reduceAdd,Nat.reduceSub,Nat.reduceLT,Nat.reduceLeDiff,reduceIte,reduceCtorEq,Nat.reduceEqDiff,implies_true,forall_const,ad]
 refine aL (fun σ=>∃ k:Nat,k≤set.length∧(set.take k).contains c=false∧lk 0 σ.t=some (.int .u8 c.toNat)∧lk 1 σ.t=some (.str set)∧lk 4 σ.t=some (.bool false)∧lk 5 σ.t=some (.int .i64 k)) (fun σ=>set.length - ji 5 σ) ⟨0,by omega,rfl,rfl,rfl,rfl,rfl⟩ ?_
 rintro⟨t,b⟩ ⟨k,hk,hc,h0,h1,h4,h5⟩
 simp only at h0 h1 h4 h5
 rw[az h5]
 simp only[ae,↓Xn,↓Xo,↓Xg,↓Xd,↓Xe,↓Xf,Tryz.VΓ,Tryz.Γs,Xp,Xi,Nat.reduceAdd,Nat.reduceSub,Nat.reduceLT,Nat.reduceLeDiff,reduceIte,reduceCtorEq,Nat.reduceEqDiff,implies_true,forall_const,ad,h0,h1,h4,h5]
 refine⟨fun h=>?_,fun h=>?_⟩
 ·have hk':k<set.length:=by simpa using h
  rw[cE (n:=c.toNat) hk' c rfl]
  refine⟨by omega,fun e=>?_,fun e=>⟨by omega,⟨k+1,by omega,?_,by simp⟩,by rw[az rfl];omega⟩⟩
  ·rw[show set.contains c=true from zKW.2 (by rw[← beq_iff_eq.1 e];exact List.getElem_mem hk')]
  ·apply Bool.eq_false_iff.2
   intro hh
   rw[zKW,zK1 hk',zKM]at hh
   rcases hh with hh|hh
   ·exact absurd (zKW.2 hh) (by rw[hc];simp)
   ·have hh:=zKJ.1 hh
    rw[← hh]at e
    simp at e
 ·have:k=set.length:=by simp at h;omega
  subst this
  rw[List.take_length]at hc
  rw[hc]
theorem bR (s p:Bytes):PC Tryz.V 104 [.str s,.str p] (.bool (Lib.hasPrefix s p)):=by
 refine aQ 3000 Tryz.func104 rfl Tryz.ntmps104 Tryz.results104 Tryz.call104 (by simp) (by simp[flat,flat.ai]) (by simp[flat,flat.ai]) ?_
 simp only[ae,↓Xn,↓Xo,↓Xg,↓Xd,↓Xe,↓Xf,Tryz.VΓ,Tryz.Γs,Xp,Xi,Nat.reduceAdd,Nat.reduceSub,Nat.reduceLT,Nat.reduceLeDiff,reduceIte,reduceCtorEq,Nat.reduceEqDiff,implies_true,forall_const,ad]
 have e:Lib.hasPrefix s p=(s.take p.length==p):=by
  rw[zK3,Lib.hasPrefix,zKI,List.prefix_iff_eq_take,beq_iff_eq]
  exact eq_comm
 refine⟨fun h=>⟨by simp at h;omega,by rw[e]⟩,fun h=>?_⟩
 rw[e,show (s.take p.length==p)=false from beq_eq_false_iff_ne.2 fun q=>by
  have:=congrArg List.length q
  simp at h this
  omega]
theorem bk (s set:Bytes)(hs:s.length≤4294967281)(ht:set.length≤4294967281):PC Tryz.V 46 [.str s,.str set] (.int .i64 (pre (set.contains ·) s)):=by
 refine aQ 3000 Tryz.func46 rfl Tryz.ntmps46 Tryz.results46 Tryz.call46 (by simp) (by simp[flat,flat.ai]) (by simp[flat,flat.ai]) ?_
 simp only[ae,↓Xn,↓Xo,↓Xg,↓Xd,↓Xe,↓Xf,Tryz.VΓ,Tryz.Γs,Xp,Xi,Nat.reduceAdd,Nat.reduceSub,Nat.reduceLT,Nat.reduceLeDiff,reduceIte,reduceCtorEq,Nat.reduceEqDiff,implies_true,forall_const,ad]
 refine aL (fun σ=>∃ k:Nat,k≤s.length∧k≤pre (set.contains ·) s∧lk 0 σ.t=some (.str s)∧lk 1 σ.t=some (.str set)∧lk 5 σ.t=some (.int .i64 k)) (fun σ=>s.length - ji 5 σ) ⟨0,by omega,by omega,rfl,rfl,rfl⟩ ?_
 rintro⟨t,b⟩ ⟨k,hk,hc,h0,h1,h5⟩
 simp only at h0 h1 h5
 rw[az h5]
 simp only[ae,↓Xn,↓Xo,↓Xg,↓Xd,↓Xe,↓Xf,Tryz.VΓ,Tryz.Γs,Xp,Xi,Nat.reduceAdd,Nat.reduceSub,Nat.reduceLT,Nat.reduceLeDiff,reduceIte,reduceCtorEq,Nat.reduceEqDiff,implies_true,forall_const,ad,h0,h1,h5]
 have fU:=cq (set.contains ·) s
 refine⟨fun h=>?_,fun h=>?_⟩
 ·have hk':k<s.length:=by simpa using h
  have nz:=jZ (s.getD k 0) set ht
  refine⟨by omega,?_⟩
  (refine aa (nz) ?_;simp only[ae,↓Xn,↓Xo,↓Xg,↓Xd,↓Xe,↓Xf,Tryz.VΓ,Tryz.Γs,Xp,Xi,Nat.reduceAdd,Nat.reduceSub,Nat.reduceLT,Nat.reduceLeDiff,reduceIte,reduceCtorEq,Nat.reduceEqDiff,implies_true,forall_const,ad,h0,h1,h5])
  rw[show s.getD k 0=s[k] by simp[List.getD,hk']]
  refine⟨fun e=>?_,fun e=>⟨by omega,⟨k+1,by omega,G3 hk' hc e,by simp⟩,by rw[az rfl];omega⟩⟩
  rw[pre_hit hk' hc e]
 ·have:k=s.length:=by simp at h;omega
  rw[show pre (set.contains ·) s=s.length by omega]
theorem pO (s:Bytes)(hs:s.length≤4294967281):PC Tryz.V 131 [.str s] (.str (cX s)):=by
 refine aQ 3000 Tryz.func131 rfl Tryz.ntmps131 Tryz.results131 Tryz.call131 (by simp) (by simp[flat,flat.ai]) (by simp[flat,flat.ai]) ?_
 simp only[ae,↓Xn,↓Xo,↓Xg,↓Xd,↓Xe,↓Xf,Tryz.VΓ,Tryz.Γs,Xp,Xi,Nat.reduceAdd,Nat.reduceSub,Nat.reduceLT,Nat.reduceLeDiff,reduceIte,reduceCtorEq,Nat.reduceEqDiff,implies_true,forall_const,ad]
 refine⟨by omega,aL (fun σ=>∃ k:Nat,k≤s.length∧dC s≤k∧lk 0 σ.t=some (.str s)∧lk 3 σ.t=some (.int .i64 ((k:Int) - 1))) (fun σ=>match lk 3 σ.t with|some (.int _ n)=>(n+1).toNat|_=>0) ⟨s.length,by omega,qd s,rfl,rfl⟩ ?_⟩
 rintro⟨t,b⟩ ⟨k,hk,hc,h0,h3⟩
 simp only at h0 h3
 simp only[ae,↓Xn,↓Xo,↓Xg,↓Xd,↓Xe,↓Xf,Tryz.VΓ,Tryz.Γs,Xp,Xi,Nat.reduceAdd,Nat.reduceSub,Nat.reduceLT,Nat.reduceLeDiff,reduceIte,reduceCtorEq,Nat.reduceEqDiff,implies_true,forall_const,ad,h0,h3]
 refine⟨fun h=>?_,fun h=>?_⟩
 ·have sW:0<k:=by simp at h;omega
  obtain⟨k,rfl⟩:∃ m,k=m+1:=⟨k - 1,by omega⟩
  have e:(((k+1:Nat):Int) - 1).toNat=k:=by omega
  rw[e,cE (n:=47) (by omega) 47 rfl]
  refine⟨by omega,fun q=>⟨by omega,?_⟩,fun q=>⟨by omega,⟨k,by omega,CH (by omega) hc (by simpa using q),?_⟩,by omega⟩⟩
  ·rw[gF,E9 (by omega) hc (by simpa using q)];rfl
  ·congr 1;omega
 ·rw[gF,show dC s=0 by simp at h;omega]
  simp
theorem sM (s:Bytes)(hs:s.length≤4294967281):PC Tryz.V 100 [.str s] (.str (aN s)):=by
 refine aQ 3000 Tryz.func100 rfl Tryz.ntmps100 Tryz.results100 Tryz.call100 (by simp) (by simp[flat,flat.ai]) (by simp[flat,flat.ai]) ?_
 simp only[ae,↓Xn,↓Xo,↓Xg,↓Xd,↓Xe,↓Xf,Tryz.VΓ,Tryz.Γs,Xp,Xi,Nat.reduceAdd,Nat.reduceSub,Nat.reduceLT,Nat.reduceLeDiff,reduceIte,reduceCtorEq,Nat.reduceEqDiff,implies_true,forall_const,ad]
 refine aL (fun σ=>∃ (p o:Bytes) (f:Nat),lk 3 σ.t=some (.str p)∧lk 4 σ.t=some (.str o)∧p.length+o.length≤s.length∧p.length≤f∧dZ f p o=aN s) (fun σ=>match lk 3 σ.t with|some (.str p)=>p.length|_=>0) ⟨s,[],s.length,rfl,rfl,by simp,zKE _,rfl⟩ ?_
 rintro⟨t,b⟩ ⟨p,o,f,h3,h4,hlen,hf,kg⟩
 simp only at h3 h4
 simp only[ae,↓Xn,↓Xo,↓Xg,↓Xd,↓Xe,↓Xf,Tryz.VΓ,Tryz.Γs,Xp,Xi,Nat.reduceAdd,Nat.reduceSub,Nat.reduceLT,Nat.reduceLeDiff,reduceIte,reduceCtorEq,Nat.reduceEqDiff,implies_true,forall_const,ad,h3,h4]
 have BH:p=[]→o=aN s:=fun hp=>by subst hp;cases f <;> simpa[dZ] using kg
 refine⟨fun hp=>?_,fun hp=>?_⟩
 rotate_left
 ·rw[BH (by simpa using hp)]
 replace hp:p≠[]:=by simpa using hp
 have fU:0<p.length:=zLm.2 hp
 obtain⟨f,rfl⟩:∃ f',f=f'+1:=⟨f - 1,by omega⟩
 rw[dZ,if_neg hp]at kg
 (refine aa (bR p [46,46,47]) ?_;simp only[ae,↓Xn,↓Xo,↓Xg,↓Xd,↓Xe,↓Xf,Tryz.VΓ,Tryz.Γs,Xp,Xi,Nat.reduceAdd,Nat.reduceSub,Nat.reduceLT,Nat.reduceLeDiff,reduceIte,reduceCtorEq,Nat.reduceEqDiff,implies_true,forall_const,ad,h3,h4])
 refine⟨fun c1=>?_,fun c1=>?_⟩
 ·have h:=eE c1
  rw[show cD p o=(p.drop 3,o) from if_pos c1]at kg
  exact⟨⟨by omega,by simp at h;omega⟩,⟨_,_,f,rfl,rfl,by simp;omega,by simp at h ⊢;omega,kg⟩,by simp at h ⊢;omega⟩
 (refine aa (bR p [46,47]) ?_;simp only[ae,↓Xn,↓Xo,↓Xg,↓Xd,↓Xe,↓Xf,Tryz.VΓ,Tryz.Γs,Xp,Xi,Nat.reduceAdd,Nat.reduceSub,Nat.reduceLT,Nat.reduceLeDiff,reduceIte,reduceCtorEq,Nat.reduceEqDiff,implies_true,forall_const,ad,h3,h4])
 refine⟨fun c2=>?_,fun c2=>?_⟩
 ·have h:=eE c2
  rw[show cD p o=(p.drop 2,o) by unfold cD;rw[if_neg (ke c1)];exact if_pos c2]at kg
  exact⟨⟨by omega,by simp at h;omega⟩,⟨_,_,f,rfl,rfl,by simp;omega,by simp at h ⊢;omega,kg⟩,by simp at h ⊢;omega⟩
 (refine aa (bR p [47,46,47]) ?_;simp only[ae,↓Xn,↓Xo,↓Xg,↓Xd,↓Xe,↓Xf,Tryz.VΓ,Tryz.Γs,Xp,Xi,Nat.reduceAdd,Nat.reduceSub,Nat.reduceLT,Nat.reduceLeDiff,reduceIte,reduceCtorEq,Nat.reduceEqDiff,implies_true,forall_const,ad,h3,h4])
 refine⟨fun c3=>?_,fun c3=>?_⟩
 ·have h:=eE c3
  rw[show cD p o=(p.drop 2,o) by unfold cD;rw[if_neg (ke c1),if_neg (ke c2)];exact if_pos c3]at kg
  exact⟨⟨by omega,by simp at h;omega⟩,⟨_,_,f,rfl,rfl,by simp;omega,by simp at h ⊢;omega,kg⟩,by simp at h ⊢;omega⟩
 refine⟨fun c4=>?_,fun c4=>?_⟩
 ·have h:p=[47,46]:=by simpa using c4
  subst h
  exact⟨⟨_,_,f,rfl,rfl,by simp at hlen ⊢;omega,by simp at hf ⊢;omega,kg⟩,by simp⟩
 have n4:¬ p=[47,46]:=by simpa using c4
 have FN:cD p o=if [47,46,46,47].isPrefixOf p then(p.drop 3,cX o)
  else if p=[47,46,46] then([47],cX o)
  else if p=[46]∨p=[46,46] then([],o)
  else(p.drop (1+pre (·==47) (p.drop 1)),o++p.take (1+pre (·==47) (p.drop 1))):=by
  unfold cD;rw[if_neg (ke c1),if_neg (ke c2),if_neg (ke c3),if_neg n4]
 rw[FN]at kg
 have zA:(cX o).length≤o.length:=by rw[gF,zKY];exact Nat.min_le_right _ _
 (refine aa (bR p [47,46,46,47]) ?_;simp only[ae,↓Xn,↓Xo,↓Xg,↓Xd,↓Xe,↓Xf,Tryz.VΓ,Tryz.Γs,Xp,Xi,Nat.reduceAdd,Nat.reduceSub,Nat.reduceLT,Nat.reduceLeDiff,reduceIte,reduceCtorEq,Nat.reduceEqDiff,implies_true,forall_const,ad,h3,h4])
 refine⟨fun c5=>?_,fun c5=>?_⟩
 ·have h:=eE c5
  rw[if_pos (show zK2 [47,46,46,47] p=true from c5)]at kg
  refine⟨⟨by omega,by simp at h;omega⟩,?_⟩
  have pd:=pO o (by omega)
  (refine aR (pd) ?_;simp only[ae,↓Xn,↓Xo,↓Xg,↓Xd,↓Xe,↓Xf,Tryz.VΓ,Tryz.Γs,Xp,Xi,Nat.reduceAdd,Nat.reduceSub,Nat.reduceLT,Nat.reduceLeDiff,reduceIte,reduceCtorEq,Nat.reduceEqDiff,implies_true,forall_const,ad,h3,h4])
  exact⟨(aj (by kernel_rfl)),⟨_,_,f,rfl,rfl,by simp;omega,by simp at h ⊢;omega,kg⟩,by simp at h ⊢;omega⟩
 rw[if_neg (ke c5)]at kg
 refine⟨fun c6=>?_,fun c6=>?_⟩
 ·have h:p=[47,46,46]:=by simpa using c6
  subst h
  have pd:=pO o (by omega)
  (refine aa (pd) ?_;simp only[ae,↓Xn,↓Xo,↓Xg,↓Xd,↓Xe,↓Xf,Tryz.VΓ,Tryz.Γs,Xp,Xi,Nat.reduceAdd,Nat.reduceSub,Nat.reduceLT,Nat.reduceLeDiff,reduceIte,reduceCtorEq,Nat.reduceEqDiff,implies_true,forall_const,ad,h3,h4])
  exact⟨[47],cX o,f,rfl,rfl,by simp at hlen ⊢;omega,by simp at hf ⊢;omega,kg⟩
 rw[if_neg (show ¬ p=[47,46,46] by simpa using c6)]at kg
 refine⟨fun c7=>⟨fun c8=>?_,fun c8=>?_⟩,fun c7=>?_⟩
 ·have h:p=[46,46]:=by simpa using c8
  subst h
  exact⟨⟨_,_,f,rfl,rfl,by simp at hlen ⊢;omega,by simp,kg⟩,by simp⟩
 ·rw[if_neg (show ¬ (p=[46]∨p=[46,46]) by rintro(h|h) <;> subst h <;> simp at c7 c8)]at kg
  have px:=bk (p.drop 1) [47] (by simp;omega) (by simp)
  have hpe:pre (([47]:Bytes).contains ·) (p.drop 1)=pre (·==47) (p.drop 1):=by
   congr 1
   funext c
   by_cases h:c=47
   ·subst h;rfl
   ·simp[h]
  rw[hpe]at px
  have hq:=cq (·==47) (p.drop 1)
  simp only[List.length_drop]at hq
  generalize pre (·==47) (p.drop 1)=q at px kg hq
  refine⟨by omega,?_⟩
  (refine aa (px) ?_;simp only[ae,↓Xn,↓Xo,↓Xg,↓Xd,↓Xe,↓Xf,Tryz.VΓ,Tryz.Γs,Xp,Xi,Nat.reduceAdd,Nat.reduceSub,Nat.reduceLT,Nat.reduceLeDiff,reduceIte,reduceCtorEq,Nat.reduceEqDiff,implies_true,forall_const,ad,h3,h4])
  have e:(1+(q:Int)).toNat=1+q:=by omega
  have el:(p.take (1+q)).length=1+q:=by rw[zKY];omega
  rw[e]
  exact⟨by omega,by omega,by omega,by rw[el];omega,(aj (by kernel_rfl)),⟨_,_,f,rfl,rfl,by simp;omega,by simp;omega,kg⟩,by simp;omega⟩
 ·have h:p=[46]:=by simpa using c7
  subst h
  exact⟨⟨_,_,f,rfl,rfl,by simp at hlen ⊢;omega,by simp,kg⟩,by simp⟩
end Go.Proofs.YteipdaijbncgeaaGreatDoor
