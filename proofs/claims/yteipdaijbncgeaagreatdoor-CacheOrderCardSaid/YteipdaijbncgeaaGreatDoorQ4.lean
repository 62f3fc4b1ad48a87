/- Texts of this claim, laid together: PlainQ, AcctP, DidP, DidQ, DidR, WebP, WebQ, Row, IdxAny, Ascii, Bytes, Ascii2, Lib, Bld, Bld2, Pct, Comm, Uri, UriW, UriW2, RefUri. -/
import Derived.Lib.Replace
import Derived.Lib.OthersKept
import Derived.Deep.QuietTactic
import Derived.BigQuiet
import Derived.Test.YteipdaijbncgeaaGreatDoorProg
import Derived.Lib.ConvBytes
import Derived.Laws.IdiomStrings
import Derived.Test.YteipdaijbncgeaaGreatDoorQ3
open List renaming toArray → zJ9, flatMap_cons → zKa, mem_cons_of_mem → zKb, mem_cons_self → zKc, getElem?_append_left → zKe, cons_append → zKf, getElem?_set_ne → zKg, getElem?_eq_some_iff → zKh, length_cons → zKi, length_append → zKk, all_eq_true → zKl, drop_eq_getElem_cons → zKm, isPrefixOf_iff_prefix → zKn, mem_singleton → zKo, mem_cons → zKq, mem_append → zKr, getElem?_set_self → zKt, nil_append → zKv, append_nil → zKw, getElem?_append_right → zKx, take_append_drop → zKy, take_of_length_le → zKz, singleton_append → zKA, contains_iff_mem → zKB, cons → zKC, length_take → zKD, length_eq_zero_iff → zKE, flatMap_append → zKF, take_succ_eq_append_getElem → zKG, isPrefixOf → zKH, getElem_of_mem → zKJ, flatMap_map → zKM, drop_of_length_le → zKN, flatten_cons → zKP, mem_of_getLast? → zKQ, mem_flatMap → zKR, mem_map → zKS, getElem?_eq_getElem → zKT, length_nil → zKU, flatMap_nil → zKV, getLast?_append → zKW, map_cons → zKX, all_cons → zKY, map_congr_left → zKZ, drop_succ_cons → zK0, length_pos_iff → zK1, length_map → zK2, all_append → zK3
open Nat renaming le_refl → zKj, lt_or_ge → zKu
open Bool renaming and_eq_true → zKs, eq_iff_iff → zKI
open Prod renaming mk → zKK
open Option renaming some → zKO
set_option linter.all false
set_option maxHeartbeats 16000000
set_option maxRecDepth 20000
namespace Wf
open Go Go.RowKit
theorem eg (c:UInt8):ck (ck c)=ck c∧vu (ck c)=vu c∧isDigit (ck c)=isDigit c∧(ck c==45)=(c==45)∧(ck c==46)=(c==46)∧(ck c==58)=(c==58)∧(isDigit c=true→ck c=c):=by
 have h:=dj (p:=fun c=>decide (ck (ck c)=ck c∧vu (ck c)=vu c∧isDigit (ck c)=isDigit c∧(ck c==45)=(c==45)∧(ck c==46)=(c==46)∧(ck c==58)=(c==58)∧(isDigit c=true→ck c=c))) (by decide +kernel) c
 exact of_decide_eq_true h
theorem Av (s:Bytes):lower (lower s)=lower s:=by
 unfold lower;rw[List.map_map];apply zKZ;intro c _;exact(eg c).1
theorem fw (s:Bytes):(lower s).length=s.length:=by unfold lower;simp
theorem iG (s:Bytes):(lower s).isEmpty=s.isEmpty:=by unfold lower;cases s <;> rfl
theorem rf {p:UInt8→Bool}(hp:∀ c,p (ck c)=p c)(s:Bytes):(lower s).all p=s.all p:=by
 unfold lower;rw[List.all_map];congr 1;funext c;exact hp c
theorem yz {s:Bytes}(h:s.all isDigit=true):lower s=s:=by
 unfold lower
 rw[zKl]at h
 conv=>rhs;rw[← List.map_id s]
 apply zKZ;intro c hc;exact(eg c).2.2.2.2.2.2 (h c hc)
theorem oB (s:Bytes):bt (lower s)=bt s:=by
 unfold bt
 rw[iG,fw,rf (fun c=>(eg c).2.1)]
 have h1:((lower s).head?==some 45)=(s.head?==some 45):=by
  unfold lower;rw[List.head?_map];cases s.head? with
  | none=>rfl
  | some c=>simpa using(eg c).2.2.2.1
 have h2:((lower s).getLast?==some 45)=(s.getLast?==some 45):=by
  unfold lower;rw[List.getLast?_map];cases s.getLast? with
  | none=>rfl
  | some c=>simpa using(eg c).2.2.2.1
 rw[h1,h2]
theorem nI (s:Bytes):bY (lower s)=bY s:=by
 unfold bY;rw[iG,rf (fun c=>(eg c).2.2.1)]
theorem pE (s:Bytes):aB 46 (lower s)=(aB 46 s).map lower:=by
 induction s with
 | nil=>rfl
 | cons x r ih =>
   have hx:=(eg x).2.2.2.2.1
   rw[show lower (x::r)=ck x::lower r from rfl,aB,aB,hx,ih]
   cases x==46
   ·simp only[Bool.false_eq_true,if_false]
    cases aB 46 r <;> rfl
   ·rfl
theorem sy (m:Nat)(s:Bytes):aW m (lower s)=aW m s:=by
 cases h:s.all isDigit
 ·have hd:bY s=false:=by unfold bY;simp[h]
  have hl:(lower s).all isDigit=false:=by rw[rf (fun c=>(eg c).2.2.1),h]
  unfold aW bH
  rw[nI,hd,hl,h,iG]
  simp
 ·rw[yz h]
theorem vW (s:Bytes):eP (lower s)=eP s:=by unfold eP;rw[sy]
theorem CH (s:Bytes):ipv4 (lower s)=ipv4 s:=by
 unfold ipv4
 rw[pE,zK2,List.all_map]
 congr 2;funext x;exact vW x
theorem At (l:List Bytes):mc (l.map lower)=mc l:=by
 induction l with
 | nil=>rfl
 | cons x r ih =>
   cases r with
   | nil=>simp only[List.map,mc,oB,nI]
   | cons y r=>simp only[zKX,mc,oB]at ih ⊢;rw[ih]
theorem yx (s:Bytes):eb (lower s)=eb s:=by unfold eb;rw[pE,At]
theorem nw {s x:Bytes}(h:bw s=(x,0)):x=lower s∧x.length≤253∧bw x=(x,0):=by
 unfold bw at h
 cases h1:s.isEmpty
 ·rw[h1]at h
  by_cases h2:253<s.length
  ·simp[h2]at h
  ·cases h3:(!ipv4 s&&!eb s)
   ·simp[h2,h3]at h
    subst h
    refine⟨rfl,by rw[fw];omega,?_⟩
    unfold bw
    rw[iG,fw,CH,yx,h1,h3,Av]
    simp[h2]
   ·simp[h2,h3]at h
 ·rw[h1]at h;simp at h
theorem EW (s:Bytes):pre (·==58) (lower s)=pre (·==58) s:=by
 induction s with
 | nil=>rfl
 | cons x r ih =>
   rw[show lower (x::r)=ck x::lower r from rfl,bX,bX,ih,(eg x).2.2.2.2.2.1]
theorem tI (p:UInt8→Bool)(s:Bytes):pre p (s.take (pre p s))=(s.take (pre p s)).length:=by
 induction s with
 | nil=>rfl
 | cons x r ih =>
   rw[bX]
   cases hx:p x
   ·simp[bX,hx]
    have:=ih;simp at this;omega
   ·rfl
theorem IH (c:UInt8)(s:Bytes):pre (·==c) (aM c s).1=(aM c s).1.length:=by
 unfold aM
 by_cases h:pre (·==c) s<s.length
 ·rw[if_pos h];exact tI _ s
 ·rw[if_neg h];have:=cq (·==c) s;show pre (·==c) s=s.length;omega
theorem fC {c:UInt8}{s:Bytes}(h:pre (·==c) s=s.length):aM c s=(s,[],false):=by
 unfold aM;rw[if_neg (by omega)]
theorem sM {p:UInt8→Bool}{x:Bytes}(h:pre p x=x.length)(c:UInt8)(r:Bytes)(hc:p c=true):pre p (x++c::r)=x.length:=by
 induction x with
 | nil=>simp[bX,hc]
 | cons y x ih =>
   rw[bX]at h
   cases hy:p y
   ·rw[hy]at h;simp at h
    simp[bX,hy,ih h]
   ·rw[hy]at h;simp at h
theorem lh {c:UInt8}{x:Bytes}(h:pre (·==c) x=x.length)(r:Bytes):aM c (x++c::r)=(x,r,true):=by
 unfold aM
 rw[sM h c r (by simp),if_pos (by simp)]
 simp
theorem uK {n:Nat}(h:n<10):cu (sg n)=n∧isDigit (sg n)=true∧(sg n=48→n=0):=by
 have h:=(by decide +kernel:∀ n,n<10→cu (sg n)=n∧isDigit (sg n)=true∧(sg n=48→n=0)) n h
 exact h
theorem E6 {b m:Nat}(r:Bytes):∀ (l:Bytes){a v:Nat},cY b m a l=(v,0)→cY b m a (l++r)=cY b m v r:=by
 intro l
 induction l with
 | nil=>intro a v h;simp[cY]at h;rw[h];rfl
 | cons c l ih =>
   intro a v h
   rw[cY]at h
   rw[zKf,cY]
   by_cases hm:m<a * b+cu c
   ·rw[if_pos hm]at h;simp at h
   ·rw[if_neg hm]at h
    rw[if_neg hm]
    exact ih h
theorem xx (m:Nat):∀ (k n:Nat),n≤k→n≤m→cY 10 m 0 (cG n)=(n,0)∧(cG n).all isDigit=true∧(0<n→(cG n).head? ≠ some 48):=by
 intro k
 induction k with
 | zero =>
   intro n h _
   obtain rfl:n=0:=by omega
   rw[gg (by omega)]
   exact⟨by simp[cY,sg,cu],by decide,fun h=>by omega⟩
 | succ k ih =>
   intro n h hm
   by_cases hn:n<10
   ·rw[gg hn]
    obtain⟨h1,h2,h3⟩:=uK hn
    refine⟨?_,by simp[h2],?_⟩
    ·rw[cY,h1,if_neg (by omega),cY];simp
    ·intro h0 he;simp at he;exact absurd (h3 he) (by omega)
   ·rw[lg hn]
    obtain⟨h1,h2,h3⟩:=ih (n / 10) (by omega) (by omega)
    obtain⟨g1,g2,g3⟩:=uK (show n % 10<10 by omega)
    refine⟨?_,by rw[zK3,h2];simp[g2],?_⟩
    ·rw[E6 _ _ h1,cY,g1,if_neg (by omega),cY]
     congr 1;omega
    ·intro _
     have:=ZZ5 (n / 10)
     rw[List.head?_append]
     have h3:=h3 (by omega)
     cases hd:(cG (n / 10)).head? with
     | none=>rw[List.head?_eq_none_iff]at hd;rw[hd]at this;simp at this
     | some c=>rw[hd]at h3;simpa using h3
theorem EX {n:Nat}(h0:0<n)(h:n≤65535):jb (cG n)=((n:Int),0):=by
 obtain⟨h1,h2,h3⟩:=xx 65535 n n (by omega) h
 have hp:=ZZ5 n
 have bk:(cG n).isEmpty=false:=by cases hd:cG n <;> simp[hd]at hp ⊢
 have hs:aW 65535 (cG n)=(n,0):=by
  unfold aW bH
  rw[if_neg (fun hh=>h3 h0 hh.2.2),bk,h2,h1]
  rfl
 unfold jb
 rw[hs]
 have:¬ n=0:=by omega
 simp[this]
theorem GP {s:Bytes}{p:Int}(h:jb s=(p,0)):0<p∧p≤65535:=by
 have hle:=lI 65535 s
 unfold jb at h
 split at h
 ·simp at h
 ·rename_i hc
  simp at h
  subst h
  omega
theorem ct {s x:Bytes}{p:Int}(h:aH s=((x,p),0)):aH (bc x p)=((x,p),0)∧bw x=(x,0)∧p≠443∧x.length≤253∧0≤p∧p≤65535:=by
 have hf:=IH 58 s
 unfold aH at h
 generalize aM 58 s=C at hf h
 obtain⟨first,rest,colon⟩:=C
 simp only at hf h
 generalize hH:bw first=H at h
 obtain⟨y,e⟩:=H
 by_cases he:e=0
 ·subst he
  obtain⟨hy,hlen,jd⟩:=nw hH
  have hpy:pre (·==58) y=y.length:=by rw[hy,EW,fw];exact hf
  have plain:aH (bc y 0)=((y,0),0):=by
   unfold bc aH
   rw[if_pos rfl,fC hpy,jd];rfl
  cases colon
  ·unfold cr at h
   simp at h
   obtain⟨rfl,rfl⟩:=h
   exact⟨plain,jd,by omega,hlen,by omega,by omega⟩
  ·generalize hP:jb rest=P at h
   obtain⟨q,f⟩:=P
   unfold cr at h
   by_cases y8:f=0
   ·subst y8
    simp at h
    obtain⟨rfl,h⟩:=h
    obtain⟨q0,q1⟩:=GP hP
    by_cases my:q=443
    ·rw[if_pos my]at h
     subst h
     exact⟨plain,jd,by omega,hlen,by omega,by omega⟩
    ·rw[if_neg my]at h
     subst h
     refine⟨?_,jd,my,hlen,by omega,q1⟩
     obtain⟨n,rfl⟩:∃ n:Nat,q=n:=⟨q.toNat,by omega⟩
     unfold bc aH
     rw[if_neg (by omega),if_neg (by omega)]
     have e:y++[58]++cG (n:Int).natAbs=y++58::cG n:=by simp
     rw[e,lh hpy]
     simp only[jd,EX (show 0<n by omega) (show n≤65535 by omega)]
     unfold cr
     simp[my]
   ·simp[y8]at h
 ·unfold cr at h
  simp[he]at h
open Go Go.RowKit
theorem uncut (c:UInt8)(s:Bytes):s=(aM c s).1++(if (aM c s).2.2 then [c]++(aM c s).2.1 else []):=by
 unfold aM
 split
 ·rename_i h
  have h2:=fZ (p:=(·==c)) h
  simp only[if_true]
  have:s.drop (pre (·==c) s)=c::s.drop (pre (·==c) s+1):=by
   rw[zKm h]
   simp only[beq_iff_eq]at h2
   rw[h2]
  rw[zKA,← this,zKy]
 ·simp
theorem zm (c:UInt8)(s:Bytes)(h:(aM c s).2.2=false):(aM c s).2.1=[]:=by
 unfold aM at h ⊢
 split
 ·rename_i h2;rw[if_pos h2]at h;simp at h
 ·rfl
def fF (l:List Bytes):Bytes:=l.flatMap (47::·)
def lN (s:Bytes):Prop:=(47:UInt8) ∉ s∧s≠[46]∧s≠[46,46]
theorem ln (x:Bytes)(l:List Bytes):fF (x::l)=47::(x++fF l):=rfl
theorem BK (l:List Bytes)(x:Bytes):fF (l++[x])=fF l++47::x:=by
 unfold fF;simp
theorem FR (l:List Bytes):fF l=[]∨∃ r,fF l=47::r:=by
 cases l with
 | nil=>exact .inl rfl
 | cons x l=>exact .inr ⟨_,rfl⟩
theorem j5 {x:Bytes}(h:(47:UInt8) ∉ x)(l:List Bytes):pre (·==47) (x++fF l)=x.length:=by
 induction x with
 | nil =>
   rcases FR l with e|⟨r,e⟩
   ·simp[e,pre_nil]
   ·simp[e,bX]
 | cons c x ih =>
   simp only[zKq,not_or]at h
   rw[zKf,bX,if_neg (by simp;exact fun e=>h.1 e.symm),ih h.2]
   rfl
theorem zC (l:List Bytes)(x:Bytes)(h:(47:UInt8) ∉ x):cR (fF (l++[x]))=fF l:=by
 rw[BK]
 unfold cR
 rw[List.reverse_append,List.reverse_cons,List.append_assoc]
 have:(x.reverse++([47]++(fF l).reverse)).dropWhile (· != 47)=[47]++(fF l).reverse:=by
  rw[List.dropWhile_append_of_pos]
  ·simp
  ·intro c hc
   simp only[List.mem_reverse]at hc
   simp
   rintro rfl
   exact h hc
 rw[this]
 simp
theorem Dh:∀ (f:Nat)(p:Bytes)(l:List Bytes),p.length≤f→(p=[]∨∃ r,p=47::r)→(p=[]→l≠[])→(∀ x∈l,lN x)→∃ l',dP f p (fF l)=fF l'∧l'≠[]∧∀ x∈l',lN x:=by
 intro f
 induction f with
 | zero =>
   intro p l hp _ hn hg
   have:p=[]:=zKE.1 (by omega)
   exact⟨l,rfl,hn this,hg⟩
 | succ f ih =>
   intro p l hp hs hn hg
   rw[dP]
   rcases hs with rfl|⟨r,rfl⟩
   ·exact⟨l,by rw[if_pos rfl],hn rfl,hg⟩
   ·rw[if_neg (by simp)]
    have hsh:∃ l2,cR (fF l)=fF l2∧∀ x∈l2,lN x:=by
     rcases List.eq_nil_or_concat l with rfl|⟨l2,x,rfl⟩
     ·exact⟨[],rfl,by simp⟩
     ·refine⟨l2,?_,fun y hy=>hg y (by simp[hy])⟩
      have:=hg x (by simp)
      simpa using zC l2 x this.1
    obtain⟨l2,gF,hg2⟩:=hsh
    unfold cz
    rw[if_neg (by simp[zKH]),if_neg (by simp[zKH])]
    by_cases c1:[47,46,47].isPrefixOf (47::r)
    ·rw[if_pos c1]
     obtain⟨q,hq⟩:=zKn.1 c1
     simp only[zKf,zKv,zKC.injEq,true_and]at hq
     subst hq
     exact ih _ l (by simp at hp ⊢;omega) (.inr ⟨q,rfl⟩) (by simp) hg
    rw[if_neg c1]
    by_cases c2:(47::r)=[47,46]
    ·rw[if_pos c2]
     rw[c2]at hp
     exact ih _ l (by simp at hp ⊢;omega) (.inr ⟨[],rfl⟩) (by simp) hg
    rw[if_neg c2]
    by_cases c3:[47,46,46,47].isPrefixOf (47::r)
    ·rw[if_pos c3]
     obtain⟨q,hq⟩:=zKn.1 c3
     simp only[zKf,zKv,zKC.injEq,true_and]at hq
     subst hq
     simp only[gF]
     exact ih _ l2 (by simp at hp ⊢;omega) (.inr ⟨q,rfl⟩) (by simp) hg2
    rw[if_neg c3]
    by_cases c4:(47::r)=[47,46,46]
    ·rw[if_pos c4]
     rw[c4]at hp
     simp only[gF]
     exact ih _ l2 (by simp at hp ⊢;omega) (.inr ⟨[],rfl⟩) (by simp) hg2
    rw[if_neg c4,if_neg (by simp)]
    simp only[zK0,List.drop_zero]
    have yD:lN (r.take (pre (·==47) r)):=by
     refine⟨fun hm=>?_,fun e=>?_,fun e=>?_⟩
     ·obtain⟨k,hk,fH⟩:=zKJ hm
      rw[zKD]at hk
      have:=gN (p:=(·==47)) (l:=r) (k:=k) (by omega) (by omega)
      rw[List.getElem_take]at fH
      simp[fH]at this
     ·have hp1:=congrArg List.length e
      simp only[zKD,zKi,zKU]at hp1
      have hr:=zKy (pre (·==47) r) r
      rw[e]at hr
      cases hd:r.drop (pre (·==47) r) with
      | nil=>rw[hd]at hr;exact c2 (by rw[← hr];rfl)
      | cons y t =>
        have aA:pre (·==47) r<r.length:=by
         apply Nat.lt_of_not_le;intro h;rw[zKN h]at hd;cases hd
        have:=fZ (p:=(·==47)) aA
        rw[zKm aA]at hd
        simp only[zKC.injEq]at hd
        rw[hd.1]at this
        simp only[beq_iff_eq]at this
        subst this
        rw[zKm aA,hd.1]at hr
        exact c1 (by rw[← hr];simp[zKH])
     ·have hp1:=congrArg List.length e
      simp only[zKD,zKi,zKU]at hp1
      have hr:=zKy (pre (·==47) r) r
      rw[e]at hr
      cases hd:r.drop (pre (·==47) r) with
      | nil=>rw[hd]at hr;exact c4 (by rw[← hr];rfl)
      | cons y t =>
        have aA:pre (·==47) r<r.length:=by
         apply Nat.lt_of_not_le;intro h;rw[zKN h]at hd;cases hd
        have:=fZ (p:=(·==47)) aA
        rw[zKm aA]at hd
        simp only[zKC.injEq]at hd
        rw[hd.1]at this
        simp only[beq_iff_eq]at this
        subst this
        rw[zKm aA,hd.1]at hr
        exact c3 (by rw[← hr];simp[zKH])
    have e1:(47::r).drop (1+pre (·==47) r)=r.drop (pre (·==47) r):=by rw[Nat.add_comm];rfl
    have e2:(47::r).take (1+pre (·==47) r)=47::r.take (pre (·==47) r):=by rw[Nat.add_comm];rfl
    rw[e1,e2,← BK]
    refine ih _ _ (by simp at hp ⊢;omega) ?_ (by simp) (fun x hx=>?_)
    ·by_cases aA:pre (·==47) r<r.length
     ·right
      have:=fZ (p:=(·==47)) aA
      simp only[beq_iff_eq]at this
      exact⟨_,by rw[zKm aA,this]⟩
     ·left
      exact zKN (by omega)
    ·simp only[zKr,zKo]at hx
     rcases hx with hx|rfl
     ·exact hg x hx
     ·exact yD
theorem mT (r:Bytes):∃ l,aR (47::r)=fF l∧l≠[]∧∀ x∈l,lN x :=
 Dh _ _ [] (zKj _) (.inr ⟨r,rfl⟩) (by simp) (by simp)
theorem nH:∀ (l:List Bytes)(f:Nat)(out:Bytes),(fF l).length≤f→(∀ x∈l,lN x)→dP f (fF l) out=out++fF l
 | [],f,out,_,_=>by cases f <;> simp[fF,dP]
 | x::l,f,out,hf,hg=>by
   rw[ln]at hf ⊢
   obtain⟨f,rfl⟩:∃ k,f=k+1:=⟨f - 1,by simp at hf;omega⟩
   rw[dP,if_neg (by simp)]
   obtain⟨h1,h2,h3⟩:=hg x (by simp)
   have dz:=j5 h1 l
   have seg:∀ (y:Bytes),(47:UInt8) ∉ y→y≠x→¬ (47::(y++[47])).isPrefixOf (47::(x++fF l))=true:=fun y hy bk hp=>by
    obtain⟨q,hq⟩:=zKn.1 hp
    simp only[zKf,List.append_assoc,zKC.injEq,true_and]at hq
    have hpy:=j5 hy [q]
    have e:y++fF [q]=x++fF l:=by rw[← hq];simp[fF]
    rw[e,dz]at hpy
    have:=List.append_inj_left e hpy.symm
    exact bk this
   have seg2:∀ (y:Bytes),(47:UInt8) ∉ y→y≠x→(47::(x++fF l))≠47::y:=fun y hy bk he=>by
    simp only[zKC.injEq,true_and]at he
    have hpy:pre (·==47) y=y.length:=by simpa[fF] using j5 hy []
    rw[← he,dz,zKk]at hpy
    have h0:fF l=[]:=zKE.1 (by omega)
    rw[h0,zKw]at he
    exact bk he.symm
   have hd:cz (47::(x++fF l)) out=(fF l,out++47::x):=by
    unfold cz
    rw[if_neg (by simp[zKH]),if_neg (by simp[zKH]),if_neg (show ¬ ([47,46,47]:Bytes).isPrefixOf _=true from seg [46] (by decide) (fun e=>h2 e.symm)),if_neg (seg2 [46] (by decide) (fun e=>h2 e.symm)),if_neg (show ¬ ([47,46,46,47]:Bytes).isPrefixOf _=true from seg [46,46] (by decide) (fun e=>h3 e.symm)),if_neg (seg2 [46,46] (by decide) (fun e=>h3 e.symm)),if_neg (by simp)]
    simp only[zK0,List.drop_zero,dz]
    rw[Nat.add_comm]
    simp
   rw[hd]
   rw[nH l f _ (by simp at hf;omega) (fun y hy=>hg y (by simp[hy]))]
   simp
theorem qX (r:Bytes):aR (aR (47::r))=aR (47::r):=by
 obtain⟨l,h1,h2,h3⟩:=mT r
 rw[h1]
 unfold aR
 rw[nH l _ _ (zKj _) h3]
 rfl
theorem tk:∀ (l:List Bytes),l≠[]→(∀ x∈l,(47:UInt8) ∉ x)→aB 47 (fF l)=[]::l
 | [],h,_=>absurd rfl h
 | x::l,_,hg=>by
   rw[ln]
   have hx:=hg x (by simp)
   rw[aB,if_pos (by simp)]
   congr 1
   have dz:=j5 hx l
   cases l with
   | nil =>
     simp only[fF,zKV,zKw]at dz ⊢
     rw[bW (by omega)]
   | cons y l =>
     rw[cD (by rw[dz];simp[ln]),dz]
     have ih:=tk (y::l) (by simp) (fun z hz=>hg z (by simp[hz]))
     rw[ln,aB,if_pos (by simp)]at ih
     simp only[zKC.injEq,true_and]at ih
     rw[ln]
     simp[ih]
theorem u9 (r:Bytes):(∃ q,aR (47::r)=47::q)∧∀ x∈aB 47 (aR (47::r)),x≠[46]∧x≠[46,46]:=by
 obtain⟨l,h1,h2,h3⟩:=mT r
 rw[h1]
 constructor
 ·cases l with
  | nil=>exact absurd rfl h2
  | cons x l=>exact⟨_,rfl⟩
 ·rw[tk l h2 (fun x hx=>(h3 x hx).1)]
  intro x hx
  simp only[zKq]at hx
  rcases hx with rfl|hx
  ·simp
  ·exact(h3 x hx).2
open Go Go.RowKit
def Can (also s:Bytes):Prop:=∃ l:List PU,s=l.flatMap PU.str∧∀ x∈l,canU also x
theorem iL (also:Bytes):Can also []:=⟨[],rfl,by simp⟩
theorem lV {also a b:Bytes}(ha:Can also a)(hb:Can also b):Can also (a++b):=by
 obtain⟨l,rfl,h1⟩:=ha
 obtain⟨m,rfl,h2⟩:=hb
 exact⟨l++m,by simp,fun x hx=>by
  rcases zKr.1 hx with h|h
  ·exact h1 x h
  ·exact h2 x h⟩
theorem qy {also:Bytes}{c:UInt8}(h:c9 also c=true)(hc:c≠37):Can also [c]:=⟨[.lit c],rfl,fun x hx=>by
 obtain rfl:=zKo.1 hx;exact⟨h,hc⟩⟩
theorem can_esc (also:Bytes){c:UInt8}(h:eM c=false):Can also (jX c):=⟨[.hex (hU (c.toNat / 16)) (hU (c.toNat % 16))],rfl,fun x hx=>by
 obtain rfl:=zKo.1 hx
 have hn:=c.toNat_lt
 have hv:=ju c
 exact⟨by rw[hv];exact h,by rw[hv],by rw[hv],fQ _ (by omega),fQ _ (by omega)⟩⟩
theorem BD {also:Bytes}{c:UInt8}{r:Bytes}(hc:c≠37)(h:Can also (c::r)):c9 also c=true∧Can also r:=by
 obtain⟨l,e,h1⟩:=h
 cases l with
 | nil=>simp at e
 | cons x l =>
   have hx:=h1 x zKc
   rw[zKa]at e
   cases x with
   | lit d =>
     simp only[PU.str,zKA,zKC.injEq]at e
     obtain⟨rfl,rfl⟩:=e
     exact⟨hx.1,l,rfl,fun y hy=>h1 y (zKb _ hy)⟩
   | hex a b =>
     simp only[PU.str,zKf,zKv,zKC.injEq]at e
     exact absurd e.1 hc
   | bad=>exact hx.elim
theorem rC {also:Bytes}{c:UInt8}(hc:c≠37)(hx:bm c=false):∀ (l:List PU)(a b:Bytes),(∀ x∈l,canU also x)→a++c::b=l.flatMap PU.str→Can also a∧Can also (c::b)
 | [],a,b,_,e=>by simp at e
 | .lit d::l,[],b,h,e=>⟨iL _,_,e,h⟩
 | .lit d::l,y::a,b,h,e=>by
   rw[zKa]at e
   simp only[PU.str,zKA,zKf,zKC.injEq]at e
   obtain⟨rfl,e⟩:=e
   obtain⟨h1,h2⟩:=rC hc hx l a b (fun y hy=>h y (zKb _ hy)) e
   have hy:=h _ zKc
   exact⟨lV (a:=[y]) (qy hy.1 hy.2) h1,h2⟩
 | .hex u v::l,[],b,h,e=>by
   rw[zKa]at e
   simp only[PU.str,zKv,zKf,zKC.injEq]at e
   exact absurd e.1 hc
 | .hex u v::l,[x],b,h,e=>by
   rw[zKa]at e
   simp only[PU.str,zKv,zKf,zKC.injEq]at e
   have:=(h _ zKc).2.2.2.1
   rw[← e.2.1,hx]at this;cases this
 | .hex u v::l,[x,y],b,h,e=>by
   rw[zKa]at e
   simp only[PU.str,zKv,zKf,zKC.injEq]at e
   have:=(h _ zKc).2.2.2.2
   rw[← e.2.2.1,hx]at this;cases this
 | .hex u v::l,x::y::z::a,b,h,e=>by
   rw[zKa]at e
   simp only[PU.str,zKv,zKf,zKC.injEq]at e
   obtain⟨rfl,rfl,rfl,e⟩:=e
   obtain⟨h1,h2⟩:=rC hc hx l a b (fun y hy=>h y (zKb _ hy)) e
   refine⟨lV (a:=[37,y,z]) ⟨[.hex y z],rfl,fun x hx=>?_⟩ h1,h2⟩
   obtain rfl:=zKo.1 hx
   exact h _ zKc
 | .bad::l,a,b,h,e=>(h _ zKc).elim
theorem Can.split {also a b:Bytes}{c:UInt8}(hc:c≠37)(hx:bm c=false)(h:Can also (a++c::b)):Can also a∧Can also (c::b):=by
 obtain⟨l,e,h1⟩:=h
 exact rC hc hx l a b h1 e
theorem can_bytes {also s:Bytes}(h:Can also s):∀ c∈s,c9 also c=true∨c=37∨bm c=true:=by
 obtain⟨l,rfl,h1⟩:=h
 intro c hc
 obtain⟨x,hx,hcx⟩:=zKR.1 hc
 have hk:=h1 x hx
 cases x with
 | lit d =>
   obtain rfl:=zKo.1 hcx
   exact .inl hk.1
 | hex a b =>
   simp only[PU.str,zKq,List.not_mem_nil,or_false]at hcx
   rcases hcx with rfl|rfl|rfl
   ·exact .inr (.inl rfl)
   ·exact .inr (.inr hk.2.2.2.1)
   ·exact .inr (.inr hk.2.2.2.2)
 | bad=>exact hk.elim
theorem pX {also s:Bytes}(h:(aY also s).2=0):Can also (aY also s).1:=by
 unfold aY at h ⊢
 split at h
 ·simp at h
 ·rename_i hs
  rw[if_neg hs]
  obtain⟨l',e,h1,-,-⟩:=nd also (az s) (rH s) h
  exact⟨l',e,h1⟩
theorem can_cut {also s:Bytes}(n:Nat)(hd:s.drop n=[]∨∃ r,s.drop n=47::r)(h:Can also s):Can also (s.take n)∧Can also (s.drop n):=by
 rcases hd with hd|⟨r,hd⟩
 ·rw[hd]
  have e:s.take n=s:=zKz (by simpa using hd)
  rw[e];exact⟨h,iL _⟩
 ·rw[hd]
  have e:s=s.take n++47::r:=by rw[← hd,zKy]
  rw[e]at h
  exact h.split (by decide) (by decide)
theorem Bq (s:Bytes):s.drop (pre (·==47) s)=[]∨∃ r,s.drop (pre (·==47) s)=47::r:=by
 by_cases h:pre (·==47) s<s.length
 ·right
  have:=fZ h
  simp only[beq_iff_eq]at this
  exact⟨s.drop (pre (·==47) s+1),by rw[zKm h,this]⟩
 ·left;simp;omega
theorem vF (s:Bytes):cR s=[]∨∃ r,s=cR s++47::r:=by
 unfold cR
 have key:∀ t:Bytes,t.dropWhile (· != 47)=[]∨∃ a b,t=a++47::b∧t.dropWhile (· != 47)=47::b:=by
  intro t
  induction t with
  | nil=>left;rfl
  | cons x t ih =>
    by_cases hx:x=47
    ·subst hx
     right;exact⟨[],t,rfl,by simp⟩
    ·rw[List.dropWhile_cons_of_pos (by simp[hx])]
     rcases ih with ih|⟨a,b,h1,h2⟩
     ·left;exact ih
     ·right;exact⟨x::a,b,by rw[h1];rfl,h2⟩
 rcases key s.reverse with h|⟨a,b,h1,h2⟩
 ·left;rw[h];rfl
 ·right
  rw[h2]
  refine⟨a.reverse,?_⟩
  have:=congrArg List.reverse h1
  rw[List.reverse_reverse]at this
  rw[this];simp
theorem sk {also s:Bytes}(h:Can also s):Can also (cR s):=by
 rcases vF s with e|⟨r,e⟩
 ·rw[e];exact iL _
 ·rw[e]at h;exact(h.split (by decide) (by decide)).1
theorem BE {also p o:Bytes}(FB:c9 also 47=true)(hp:Can also p)(ho:Can also o):Can also (cz p o).1∧Can also (cz p o).2:=by
 have c47:Can also [47]:=qy FB (by decide)
 have drop1:∀ {c:UInt8} {r:Bytes},c≠37→Can also (c::r)→Can also r:=fun hc h=>(BD hc h).2
 unfold cz
 split
 ·rename_i h
  obtain⟨r,rfl⟩:=zKn.1 h
  exact⟨drop1 (by decide) (drop1 (by decide) (drop1 (by decide) hp)),ho⟩
 split
 ·rename_i h
  obtain⟨r,rfl⟩:=zKn.1 h
  exact⟨drop1 (by decide) (drop1 (by decide) hp),ho⟩
 split
 ·rename_i h
  obtain⟨r,rfl⟩:=zKn.1 h
  exact⟨drop1 (by decide) (drop1 (by decide) hp),ho⟩
 split
 ·exact⟨c47,ho⟩
 split
 ·rename_i h
  obtain⟨r,rfl⟩:=zKn.1 h
  exact⟨drop1 (by decide) (drop1 (by decide) (drop1 (by decide) hp)),sk ho⟩
 split
 ·exact⟨c47,sk ho⟩
 split
 ·exact⟨iL _,ho⟩
 ·have hd:p.drop (1+pre (·==47) (p.drop 1))=[]∨∃ r,p.drop (1+pre (·==47) (p.drop 1))=47::r:=by
   rw[← List.drop_drop];exact Bq _
  obtain⟨h1,h2⟩:=can_cut _ hd hp
  exact⟨h2,lV ho h1⟩
theorem vf {also:Bytes}(FB:c9 also 47=true):∀ (f:Nat)(p o:Bytes),Can also p→Can also o→Can also (dP f p o)
 | 0,_,_,_,ho=>ho
 | f+1,p,o,hp,ho=>by
   rw[dP]
   split
   ·exact ho
   ·obtain⟨h1,h2⟩:=BE FB hp ho
    exact vf FB f _ _ h1 h2
theorem vd {also p:Bytes}(FB:c9 also 47=true)(hp:Can also p):Can also (aR p):=vf FB _ _ _ hp (iL _)
theorem oZ (d:UInt8):∀ (n:Nat)(s:Bytes),s.length≤n→∀ c∈s,c=d∨∃ x∈aB d s,c∈x
 | 0,s,h,c,hc=>by
   obtain rfl:=zKE.1 (Nat.le_zero.1 h)
   simp at hc
 | n+1,s,h,c,hc=>by
   by_cases hp:pre (·==d) s<s.length
   ·rw[cD hp]
    have e:s=s.take (pre (·==d) s)++d::s.drop (pre (·==d) s+1):=by
     have:=fZ hp
     simp only[beq_iff_eq]at this
     conv=>lhs;rw[← zKy (pre (·==d) s) s,zKm hp,this]
    rw[e]at hc
    rcases zKr.1 hc with h1|h1
    ·exact .inr ⟨_,zKc,h1⟩
    ·rcases zKq.1 h1 with h2|h2
     ·exact .inl h2
     ·rcases oZ d n _ (by simp;omega) c h2 with h3|⟨x,h3,h4⟩
      ·exact .inl h3
      ·exact .inr ⟨x,zKb _ h3,h4⟩
   ·rw[bW hp]
    exact .inr ⟨s,zKo.2 rfl,hc⟩
theorem yu {s:Bytes}(h:eP s=true):s.all isDigit=true:=by
 unfold eP aW at h
 split at h
 ·simp at h
 ·have:=(kL 255 s).1 (.inl (by simpa using h))
  unfold bY at this
  simp only[zKs]at this
  exact this.2
theorem wS:∀ (l:List Bytes),mc l=true→∀ x∈l,bt x=true
 | [],_,x,h=>by simp at h
 | [y],h,x,hx=>by
   simp only[mc,zKs]at h
   obtain rfl:=zKo.1 hx
   exact h.1
 | y::z::r,h,x,hx=>by
   simp only[mc,zKs]at h
   rcases zKq.1 hx with rfl|hx
   ·exact h.1
   ·exact wS (z::r) h.2 x hx
theorem r9 {s x:Bytes}(h:bw s=(x,0)):∀ c∈x,vu c=true∨c=46:=by
 have hx:=(nw h).2.2
 clear h
 unfold bw at hx
 split at hx
 ·simp at hx
 split at hx
 ·simp at hx
 split at hx
 ·simp at hx
 ·rename_i h3
  intro c hc
  rcases oZ 46 _ x (zKj _) c hc with h4|⟨y,h4,h5⟩
  ·exact .inr h4
  ·left
   cases hi:ipv4 x
   ·have hn:eb x=true:=by simpa[hi] using h3
    have:=wS _ hn y h4
    unfold bt at this
    simp only[zKs]at this
    exact zKl.1 this.2 c h5
   ·unfold ipv4 at hi
    simp only[zKs]at hi
    have:=yu (zKl.1 hi.2 y h4)
    have:=zKl.1 this c h5
    unfold vu;rw[this];simp
theorem si (n:Nat):∀ c∈cG n,isDigit c=true:=fun c hc=>zKl.1 ((xx n n n (zKj _) (zKj _)).2.1) c hc
theorem hostPort_bytes {s x:Bytes}{p:Int}(h:aH s=((x,p),0)):∀ c∈bc x p,vu c=true∨c=46∨c=58:=by
 obtain⟨-,h1,-,-,h2,-⟩:=ct h
 have hb:=r9 h1
 unfold bc
 split
 ·intro c hc;exact(hb c hc).imp id .inl
 split
 ·omega
 ·intro c hc
  rcases zKr.1 hc with hc|hc
  ·rcases zKr.1 hc with hc|hc
   ·exact(hb c hc).imp id .inl
   ·exact .inr (.inr (zKo.1 hc))
  ·left;unfold vu;rw[si _ c hc];simp
theorem eC {c:UInt8}{l:Bytes}(h:c ∉ l):pre (·==c) l=l.length:=by
 induction l with
 | nil=>rfl
 | cons x l ih =>
   simp only[zKq,not_or]at h
   rw[bX,if_neg (by simpa using fun e=>h.1 e.symm),ih h.2];rfl
open Go Go.RowKit
theorem split_join (u:Uri)(h1:u.scheme=cZ)(h2:u.ix=true)(h3:u.dA=true)(ha:∀ c∈u.authority,c≠47∧c≠63∧c≠35)(hp:∃ r,u.path=47::r)(hpb:∀ c∈u.path,c≠63∧c≠35)(hq:(35:UInt8) ∉ u.query)(F1:u.bh=false→u.query=[])(y8:u.bA=false→u.fragment=[])(hl:(uriJoin u).length≤16384) :
 a8 (uriJoin u)=(u,0):=by
 obtain⟨sc,au,pa,qu,fr,b1,b2,b3,b4⟩:=u
 simp only at h1 h2 h3 ha hp hpb hq F1 y8
 subst h1 h2 h3
 have c1:aM 35 (uriJoin ⟨cZ,au,pa,qu,fr,true,true,b3,b4⟩)=(cZ++[58]++([47,47]++au)++pa++(if b3 then [63]++qu else []),fr,b4):=by
  have hn:(35:UInt8) ∉ cZ++[58]++([47,47]++au)++pa++(if b3 then [63]++qu else []):=by
   simp only[zKr,not_or]
   refine⟨⟨⟨⟨by decide,by decide⟩,by decide,fun h=>(ha _ h).2.2 rfl⟩,fun h=>(hpb _ h).2 rfl⟩,?_⟩
   split
   ·simp only[zKr,not_or];exact⟨by decide,hq⟩
   ·simp
  cases b4
  ·have:uriJoin ⟨cZ,au,pa,qu,fr,true,true,b3,false⟩=cZ++[58]++([47,47]++au)++pa++(if b3 then [63]++qu else []):=by simp[uriJoin]
   rw[this,fC (eC hn),y8 rfl]
  ·have:uriJoin ⟨cZ,au,pa,qu,fr,true,true,b3,true⟩=(cZ++[58]++([47,47]++au)++pa++(if b3 then [63]++qu else []))++35::fr:=by simp[uriJoin]
   rw[this,lh (eC hn)]
 have c2:aM 63 (cZ++[58]++([47,47]++au)++pa++(if b3 then [63]++qu else []))=(cZ++[58]++([47,47]++au)++pa,qu,b3):=by
  have hn:(63:UInt8) ∉ cZ++[58]++([47,47]++au)++pa:=by
   simp only[zKr,not_or]
   exact⟨⟨⟨by decide,by decide⟩,by decide,fun h=>(ha _ h).2.1 rfl⟩,fun h=>(hpb _ h).1 rfl⟩
  cases b3
  ·rw[if_neg (by simp),zKw,fC (eC hn),F1 rfl]
  ·rw[if_pos rfl,zKA,lh (eC hn)]
 unfold a8
 rw[if_neg (by omega),c1]
 simp only
 rw[c2]
 simp only
 obtain⟨r,rfl⟩:=hp
 have e:cZ++[58]++([47,47]++au)++47::r=104::116::116::112::115::58::47::47::(au++47::r):=by simp[cZ]
 have p5:pre aq (104::116::116::112::115::58::47::47::(au++47::r))=5:=by
  simp only[bX]
  rw[if_neg (by decide),if_neg (by decide),if_neg (by decide),if_neg (by decide),if_neg (by decide),if_pos (by decide)]
 have pa:pre (·==47) (au++47::r)=au.length:=sM (eC (fun h=>(ha _ h).1 rfl)) 47 r (by decide)
 rw[e]
 unfold aL
 rw[p5]
 simp only[zK0,List.drop_zero,List.take_succ_cons,List.take_zero,List.head?_cons,if_true,aC,pa,List.take_left,List.drop_left]
 rw[if_pos (by decide)]
 rfl
def urlUri (u:eS):Uri:=⟨cZ,bc u.host u.port,u.path,u.query,u.fragment,true,true,u.bh,u.bA⟩
theorem urlText_join (u:eS):cy u=uriJoin (urlUri u):=by
 unfold cy uriJoin urlUri eG
 cases u.bh <;> simp[cZ]
structure ja (u:eS):Prop where
 host:aH (bc u.host u.port)=((u.host,u.port),0)
 path:Can cM u.path
 Du:∃ r,u.path=47::r
 dots:aR u.path=u.path
 query:Can cL u.query
 frag:Can cL u.fragment
 noq:u.bh=false→u.query=[]
 nof:u.bA=false→u.fragment=[]
 len:(cy u).length≤4096
theorem host_no {x:Bytes}{p:Int}(h:aH (bc x p)=((x,p),0)):∀ c∈bc x p,c≠47∧c≠63∧c≠35∧c≠64:=by
 intro c hc
 have h1:=hostPort_bytes h c hc
 have:=dj (p:=fun c=>!(vu c||c==46||c==58)||(c != 47&&c != 63&&c != 35&&c != 64)) (by decide +kernel) c
 have h2:(vu c||c==46||c==58)=true:=by rcases h1 with h|rfl|rfl <;> simp[*]
 rw[h2]at this
 simpa[and_assoc] using this
theorem path_no {s:Bytes}(h:Can cM s):∀ c∈s,c≠63∧c≠35:=by
 intro c hc
 have h1:=can_bytes h c hc
 have:=dj (p:=fun c=>!(c9 cM c||c==37||bm c)||(c != 63&&c != 35)) (by decide +kernel) c
 have h2:(c9 cM c||c==37||bm c)=true:=by rcases h1 with h|rfl|h <;> simp[*]
 rw[h2]at this
 simpa using this
theorem query_no {s:Bytes}(h:Can cL s):(35:UInt8) ∉ s:=by
 intro hc
 have:=can_bytes h _ hc
 revert this;decide
theorem ja.split {u:eS}(h:ja u):a8 (cy u)=(urlUri u,0):=by
 rw[urlText_join]
 refine split_join (urlUri u) rfl rfl rfl (fun c hc=>?_) h.Du (path_no h.path) (query_no h.query) h.noq h.nof (by rw[← urlText_join];have:=h.len;omega)
 have:=host_no h.host c hc
 exact⟨this.1,this.2.1,this.2.2.1⟩
theorem mE (u:eS):u.path.length≤(cy u).length∧(u.bh=true→u.query.length≤(cy u).length)∧(u.bA=true→u.fragment.length≤(cy u).length):=by
 unfold cy eG
 refine⟨?_,fun h=>?_,fun h=>?_⟩
 ·split <;> split <;> (simp;omega)
 ·rw[if_pos h];split <;> (simp;omega)
 ·rw[if_pos h];split <;> (simp;omega)
theorem EE {h:Bytes × Int}{p q f:Bytes}{hq hf:Bool}{u:eS}(k:s6 h p q f hq hf=(u,0)):u=⟨h.1,h.2,if aR p=[] then [47] else aR p,q,f,hq,hf⟩∧(cy u).length≤4096:=by
 unfold s6 at k
 generalize (if aR p=[] then [47] else aR p)=d at k ⊢
 split at k
 ·simp at k
 ·obtain rfl:=(zKK.inj k).1
  exact⟨rfl,by omega⟩
theorem tD:aR [47]=[47]:=by decide
theorem EJ (s:Bytes)(h:(a8 s).2=0):((a8 s).1.bh=false→(a8 s).1.query=[])∧((a8 s).1.bA=false→(a8 s).1.fragment=[])∧((a8 s).1.dA=true→(a8 s).1.path=[]∨∃ r,(a8 s).1.path=47::r):=by
 unfold a8 at h ⊢
 split
 ·rename_i h1;rw[if_pos h1]at h;simp at h
 rename_i h1
 rw[if_neg h1]at h
 have q1:=zm 63 (aM 35 s).1
 have q2:=zm 35 s
 have ha:∀ t:Bytes,(aC t).2.1=true→(aC t).2.2=[]∨∃ r,(aC t).2.2=47::r:=by
  intro t
  unfold aC
  split
  ·intro _;exact Bq _
  ·intro h;simp at h
 unfold aL at h ⊢
 split
 ·rename_i h2
  rw[if_pos h2]at h
  split
  ·exact⟨q1,q2,ha _⟩
  ·rename_i h3;rw[if_neg h3]at h;simp at h
 ·exact⟨q1,q2,ha _⟩
theorem lU {s:Bytes}{u:eS}(h:bC s=(u,0)):ja u:=by
 unfold bC at h
 split at h
 ·simp at h
 split at h
 ·rename_i h1 h2;exact absurd (zKK.inj h).2 h2
 rename_i h1 h2
 have h2:(a8 s).2=0:=by simpa using h2
 obtain⟨q1,q2,q3⟩:=EJ s h2
 generalize (a8 s).1=r at h q1 q2 q3
 unfold wy at h
 split at h
 ·simp at h
 split at h
 ·simp at h
 split at h
 ·simp at h
 rename_i h3 h4 h5
 have Ib:=q3 (by simpa using h4)
 unfold pC at h
 split at h
 ·rename_i h6;exact absurd (zKK.inj h).2 h6
 split at h
 ·rename_i h6;exact absurd (zKK.inj h).2 h6
 split at h
 ·rename_i h6;exact absurd (zKK.inj h).2 h6
 split at h
 ·rename_i h6;exact absurd (zKK.inj h).2 h6
 rename_i e1 e2 e3 e4
 obtain⟨h,hlen⟩:=EE h
 have hp:=pX (also:=cM) (s:=r.path) (by simpa using e2)
 have hq:=pX (also:=cL) (s:=r.query) (by simpa using e3)
 have hf:=pX (also:=cL) (s:=r.fragment) (by simpa using e4)
 have hd:aR (aY cM r.path).1=[]∨∃ q,aR (aY cM r.path).1=47::q∧aR (47::q)=47::q:=by
  have hh:(aY cM r.path).1=[]∨∃ q,(aY cM r.path).1=47::q:=by
   rcases Ib with h|⟨q,h⟩
   ·left;rw[h];rfl
   ·right
    have e2':(aY cM r.path).2=0:=by simpa using e2
    rw[h]at e2' ⊢
    unfold aY at e2' ⊢
    split
    ·rename_i hx;rw[if_pos hx]at e2';simp at e2'
    rename_i hx
    rw[if_neg hx,cW (by decide),bz,if_pos (by decide)]at e2'
    rw[cW (by decide),bz,if_pos (by decide)]
    unfold comb at e2' ⊢
    split
    ·exact⟨_,rfl⟩
    ·rename_i hy;rw[if_neg hy]at e2';exact absurd e2' hy
  rcases hh with h|⟨q,h⟩
  ·left;rw[h];rfl
  ·right
   rw[h]
   obtain⟨⟨q',hq'⟩,-⟩:=u9 q
   exact⟨q',hq',by have:=qX q;rw[hq']at this;exact this⟩
 have hhp:aH r.authority=(((aH r.authority).1.1,(aH r.authority).1.2),0):=by
  have:(aH r.authority).2=0:=by simpa using e1
  rw[← this]
 subst h
 refine⟨(ct hhp).1,?_,?_,?_,hq,hf,fun k=>by simp only at k ⊢;rw[q1 k];rfl,fun k=>by simp only at k ⊢;rw[q2 k];rfl,by omega⟩
 ·simp only
  rcases hd with hd|⟨q,hd,-⟩
  ·rw[if_pos hd];exact qy (by decide) (by decide)
  ·rw[if_neg (by rw[hd];simp)];exact vd (by decide) hp
 ·simp only
  rcases hd with hd|⟨q,hd,-⟩
  ·rw[if_pos hd];exact⟨_,rfl⟩
  ·rw[if_neg (by rw[hd];simp)];exact⟨_,hd⟩
 ·simp only
  rcases hd with hd|⟨q,hd,nC⟩
  ·rw[if_pos hd];exact tD
  ·rw[if_neg (by rw[hd];simp),hd];exact nC
def eS.bare (u:eS):eS:={ u with fragment:=[],bA:=false }
theorem ja.bare {u:eS}(h:ja u):ja u.bare :=
 ⟨h.host,h.path,h.Du,h.dots,h.query,iL _,h.noq,fun _=>rfl,by
  have:=h.len
  unfold cy at this ⊢
  unfold eS.bare eG at *
  simp at this ⊢
  omega⟩
theorem qL {u:eS}(h:fN u=true):ja u:=lU (of_decide_eq_true h)
open Go Go.RowKit
structure nR where
 user:Bytes
 host:Bytes
 deriving DecidableEq
def nR.none:nR:=⟨[],[]⟩
def nt:Bytes:=[33,36,38,39,40,41,42,43,44,59,61]
def mo:Bytes:=[97,99,99,116,58]
def vp (n:Bytes × Int)(h:Bytes × Int):nR × Int :=
 if n.2≠0∨n.1=[]∨n.1.head? = some 37 then(nR.none,80)
 else if h.2≠0 then(nR.none,h.2)
 else(⟨n.1,h.1⟩,0)
def qE (s:Bytes):nR × Int :=
 if (aM 64 s).2.2=false then(nR.none,6)
 else vp (aY nt (aM 64 s).1) (bw (aM 64 s).2.1)
def bJ (s:Bytes):nR × Int :=
 if 4096<s.length then(nR.none,5)
 else if s.length<5∨lower (s.take 5)≠mo then(nR.none,60)
 else qE (s.drop 5)
def iS (a:nR):Bytes:=mo++a.user++[64]++a.host
theorem xz {c:UInt8}{s:Bytes}(h:(aM c s).2.2=true):s.length=(aM c s).1.length+1+(aM c s).2.1.length:=by
 have:=congrArg List.length (uncut c s)
 rw[if_pos h]at this
 simp at this;omega
structure CanAcct (a:nR):Prop where
 user:Can nt a.user
 ne:a.user≠[]
 no:a.user.head? ≠ some 37
 host:bw a.host=(a.host,0)
theorem IS {s:Bytes}{a:nR}(h:bJ s=(a,0)):CanAcct a∧(iS a).length≤s.length∧s.length≤4096:=by
 unfold bJ at h
 split at h
 ·simp at h
 split at h
 ·simp at h
 rename_i h1 h2
 unfold qE at h
 split at h
 ·simp at h
 rename_i h3
 have hlen:=xz (c:=64) (s:=s.drop 5) (by simpa using h3)
 rw[List.length_drop]at hlen
 unfold vp at h
 split at h
 ·simp at h
 rename_i h4
 simp only[not_or]at h4
 split at h
 ·rename_i h5;exact absurd (zKK.inj h).2 h5
 rename_i h5
 simp only[zKK.injEq,and_true]at h
 subst h
 have e:bw (aM 64 (s.drop 5)).2.1=((bw (aM 64 (s.drop 5)).2.1).1,0):=by
  have:(bw (aM 64 (s.drop 5)).2.1).2=0:=by simpa using h5
  rw[← this]
 obtain⟨k1,k2,k3⟩:=nw e
 refine⟨⟨pX (by simpa using h4.1),h4.2.1,h4.2.2,k3⟩,?_,by omega⟩
 have:=dw nt (aM 64 (s.drop 5)).1
 have hl:(bw (aM 64 (s.drop 5)).2.1).1.length=(aM 64 (s.drop 5)).2.1.length:=by rw[k1,fw]
 simp only[iS,mo,zKk,zKi,zKU]
 simp only[not_or]at h2
 omega
open Go Go.RowKit
structure fM where
 method:Bytes
 id:Bytes
 deriving DecidableEq
def fM.none:fM:=⟨[],[]⟩
structure DidUrl where
 did:fM
 path:Bytes
 query:Bytes
 fragment:Bytes
 bh:Bool
 bA:Bool
 deriving DecidableEq
def DidUrl.none:DidUrl:=⟨fM.none,[],[],[],false,false⟩
def bT (c:UInt8):Bool:=isAlpha c||isDigit c||([46,45,95]:Bytes).contains c
def eQ (c:UInt8):Bool:=isDigit c||decide (97≤c.toNat∧c.toNat≤122)
def dy (s:Bytes):Bool:=!s.isEmpty&&s.all eQ
def gX (c:UInt8):Bytes:=if bT c then [c] else jX c
def aO (s:Bytes):Bytes:=s.flatMap gX
def mz:PU→Bytes
 | .lit c=>[c]
 | .hex a b=>gX (unhex a b)
 | .bad=>[]
def nk:PU→Bool
 | .lit c=>bT c||c==58
 | _=>true
def cx (s:Bytes):Bytes × Int :=
 if PU.bad∈az s then([],2) else if (az s).all nk=false then([],1) else((az s).flatMap mz,0)
def jN (m:Bytes)(c:Bytes × Int):fM × Int :=
 if c.2≠0 then(fM.none,c.2) else if c.1=[]∨c.1.getLast? = some 58 then(fM.none,3) else(⟨m,c.1⟩,0)
def lQ (s:Bytes):fM × Int :=
 if (aM 58 s).2.2=false then(fM.none,6)
 else if dy (aM 58 s).1=false then(fM.none,100)
 else jN (aM 58 s).1 (cx (aM 58 s).2.1)
def jY:Bytes:=[100,105,100,58]
def aZ (s:Bytes):fM × Int :=
 if 4096<s.length then(fM.none,5)
 else if jY.isPrefixOf s=false then(fM.none,60)
 else lQ (s.drop 4)
def bu (d:fM):Bytes:=jY++d.method++[58]++d.id
theorem qM:∀ (l:List PU),(∀ x∈l,(∀ c,x=.lit c→c≠37)∧(∀ a b,x=.hex a b→bm a=true∧bm b=true)∧x≠.bad)→az (l.flatMap PU.str)=l
 | [],_=>rfl
 | .lit c::r,h=>by
   have h1:=(h _ zKc).1 c rfl
   rw[zKa,PU.str,zKA,cW h1,qM r (fun x hx=>h x (zKb _ hx))]
 | .hex a b::r,h=>by
   have h1:=(h _ zKc).2.1 a b rfl
   rw[zKa,PU.str]
   simp only[zKf,zKv]
   rw[fk h1.1 h1.2,qM r (fun x hx=>h x (zKb _ hx))]
 | .bad::r,h=>((h _ zKc).2.2 rfl).elim
theorem lA:∀ (f:Nat)(s:Bytes),s.length≤f→PU.bad ∉ bD f s→(bD f s).flatMap PU.str=s
 | 0,s,h,_=>by
   obtain rfl:=zKE.1 (Nat.le_zero.1 h)
   rfl
 | f+1,[],_,_=>rfl
 | f+1,c::r,h,hb=>by
   rw[bD]at hb ⊢
   simp only[zKi]at h
   split
   ·rename_i hc
    rw[if_pos hc]at hb
    cases hp:cT r with
    | none=>rw[hp]at hb;simp at hb
    | some x =>
      obtain⟨a,b,r'⟩:=x
      rw[hp]at hb
      obtain⟨rfl,-,-⟩:=cN hp
      simp only[zKq,reduceCtorEq,false_or]at hb
      simp only[zKi]at h
      simp only[zKa,PU.str,lA f r' (by omega) hb]
      rw[hc];rfl
   ·rename_i hc
    rw[if_neg hc]at hb
    simp only[zKq,reduceCtorEq,false_or]at hb
    simp only[zKa,PU.str,lA f r (by omega) hb]
    rfl
theorem jA {s:Bytes}(h:PU.bad ∉ az s):(az s).flatMap PU.str=s:=lA _ s (zKj _) h
theorem mI:∀ (f:Nat)(s:Bytes)(a b:UInt8),PU.hex a b∈bD f s→bm a=true∧bm b=true
 | 0,_,_,_,h=>by simp[bD]at h
 | _+1,[],_,_,h=>by simp[bD]at h
 | f+1,d::r,a,b,h=>by
   rw[bD]at h
   split at h
   ·cases hp:cT r with
    | none=>rw[hp]at h;simp at h
    | some x =>
      obtain⟨a',b',r'⟩:=x
      rw[hp]at h
      obtain⟨-,h2,h3⟩:=cN hp
      simp only[zKq,PU.hex.injEq]at h
      rcases h with⟨rfl,rfl⟩|h
      ·exact⟨h2,h3⟩
      ·exact mI f _ a b h
   ·simp only[zKq,reduceCtorEq,false_or]at h
    exact mI f _ a b h
theorem mF {s:Bytes}{a b:UInt8}(h:PU.hex a b∈az s):bm a=true∧bm b=true:=mI _ s a b h
theorem ez:∀ (n:Nat)(a b:Bytes),a.length≤n→PU.bad ∉ az a→az (a++58::b)=az a++.lit 58::az b
 | 0,a,b,h,_=>by
   obtain rfl:=zKE.1 (Nat.le_zero.1 h)
   rw[zKv,cW (by decide)];rfl
 | n+1,[],b,_,_=>by rw[zKv,cW (by decide)];rfl
 | n+1,c::a,b,h,hb=>by
   simp only[zKi]at h
   by_cases hc:c=37
   ·subst hc
    cases hp:cT a with
    | none=>rw[qO hp]at hb;simp at hb
    | some x =>
      obtain⟨u,v,r⟩:=x
      obtain⟨rfl,h1,h2⟩:=cN hp
      rw[fk h1 h2]at hb ⊢
      simp only[zKi]at h
      simp only[zKf]
      rw[fk h1 h2,ez n r b (by omega) (by simpa using hb)]
   ·rw[cW hc]at hb ⊢
    rw[zKf,cW hc,ez n a b (by omega) (by simpa using hb)]
    rfl
def canD:PU→Prop
 | .lit c=>(bT c||c==58)=true
 | .hex a b=>bT (unhex a b)=false∧a=hU ((unhex a b).toNat / 16)∧b=hU ((unhex a b).toNat % 16)∧bm a=true∧bm b=true
 | .bad=>False
def qF (s:Bytes):Prop:=∃ l:List PU,s=l.flatMap PU.str∧∀ x∈l,canD x
theorem q7 {c:UInt8}(h:(bT c||c==58)=true):c≠37∧c≠47∧c≠63∧c≠35:=by
 have:=dj (p:=fun c=>!(bT c||c==58)||(c != 37&&c != 47&&c != 63&&c != 35)) (by decide +kernel) c
 rw[h]at this
 simpa[and_assoc] using this
theorem HW {c:UInt8}(h:bm c=true):c≠37∧c≠47∧c≠63∧c≠35∧c≠58:=by
 have:=dj (p:=fun c=>!(bm c)||(c != 37&&c != 47&&c != 63&&c != 35&&c != 58)) (by decide +kernel) c
 rw[h]at this
 simpa[and_assoc] using this
theorem Dl {l:List PU}(h:∀ x∈l,canD x):az (l.flatMap PU.str)=l :=
 qM l fun x hx=>by
  have:=h x hx
  cases x with
  | lit c=>exact⟨fun d e=>by cases e;exact(q7 this).1,by simp,by simp⟩
  | hex a b=>exact⟨by simp,fun u v e=>by cases e;exact this.2.2.2,by simp⟩
  | bad=>exact this.elim
theorem Dm {s:Bytes}(h:qF s):cx s=(s,0):=by
 obtain⟨l,rfl,hl⟩:=h
 unfold cx
 rw[Dl hl,if_neg (fun k=>absurd (hl _ k) (by simp[canD])),if_neg ?_]
 ·congr 1
  have:∀ m:List PU,(∀ x∈m,canD x)→m.flatMap mz=m.flatMap PU.str:=by
   intro m
   induction m with
   | nil=>intro _;rfl
   | cons x m ih =>
     intro hm
     rw[zKa,zKa,ih (fun y hy=>hm y (zKb _ hy))]
     congr 1
     have:=hm x zKc
     cases x with
     | lit c=>rfl
     | hex a b =>
       simp only[mz,gX,PU.str]
       rw[if_neg (by simp[this.1])]
       unfold jX
       rw[← this.2.1,← this.2.2.1]
     | bad=>exact this.elim
  exact this l hl
 ·simp only[Bool.not_eq_false]
  refine zKl.2 fun x hx=>?_
  have:=hl x hx
  cases x with
  | lit c=>exact this
  | hex a b=>rfl
  | bad=>rfl
theorem FO {s x:Bytes}(h:cx s=(x,0)):qF x∧x.length≤s.length∧(∀ c∈s,c≠47∧c≠63∧c≠35):=by
 unfold cx at h
 split at h
 ·simp at h
 rename_i hb
 split at h
 ·simp at h
 rename_i ha
 simp only[zKK.injEq,and_true]at h
 subst h
 have ha:(az s).all nk=true:=by simpa using ha
 have hs:=jA hb
 have hlit:∀ c,PU.lit c∈az s→(bT c||c==58)=true:=fun c hc=>zKl.1 ha _ hc
 have hhex:=fun a b=>mF (s:=s) (a:=a) (b:=b)
 generalize az s=l at *
 subst hs
 have key:∀ m:List PU,(∀ c,PU.lit c∈m→(bT c||c==58)=true)→(∀ a b,PU.hex a b∈m→bm a=true∧bm b=true)→PU.bad ∉ m →
  qF (m.flatMap mz)∧(m.flatMap mz).length≤(m.flatMap PU.str).length∧(∀ c∈m.flatMap PU.str,c≠47∧c≠63∧c≠35):=by
  intro m
  induction m with
  | nil=>intro _ _ _;exact⟨⟨[],rfl,by simp⟩,by simp,by simp⟩
  | cons x m ih =>
    intro h1 h2 h3
    obtain⟨⟨l',e',k'⟩,i2,i3⟩:=ih (fun c hc=>h1 c (zKb _ hc)) (fun a b hc=>h2 a b (zKb _ hc)) (fun hc=>h3 (zKb _ hc))
    simp only[zKa,zKk]
    cases x with
    | lit c =>
      have hc:=h1 c zKc
      refine⟨⟨.lit c::l',by rw[e'];rfl,fun y hy=>?_⟩,by rw[show (mz (.lit c)).length=1 from rfl,show (PU.str (.lit c)).length=1 from rfl];omega,fun d hd=>?_⟩
      ·rcases zKq.1 hy with rfl|hy
       ·exact hc
       ·exact k' y hy
      ·rcases zKr.1 hd with hd|hd
       ·obtain rfl:=zKo.1 hd;exact(q7 hc).2
       ·exact i3 d hd
    | hex a b =>
      obtain⟨ha',hb'⟩:=h2 a b zKc
      have rp:∀ d∈PU.str (.hex a b)++m.flatMap PU.str,d≠47∧d≠63∧d≠35:=by
       intro d hd
       rcases zKr.1 hd with hd|hd
       ·simp only[PU.str,zKq,List.not_mem_nil,or_false]at hd
        rcases hd with rfl|rfl|rfl
        ·decide
        ·have:=HW ha';exact⟨this.2.1,this.2.2.1,this.2.2.2.1⟩
        ·have:=HW hb';exact⟨this.2.1,this.2.2.1,this.2.2.2.1⟩
       ·exact i3 d hd
      have q1:(mz (.hex a b)).length≤3:=by simp only[mz,gX];split <;> simp[jX]
      have q2:(PU.str (.hex a b)).length=3:=rfl
      have q3:(if bT (unhex a b)=true then 1 else 3)=(mz (.hex a b)).length:=by simp only[mz,gX];split <;> simp[jX]
      by_cases hp:bT (unhex a b)=true
      ·refine⟨⟨.lit (unhex a b)::l',by rw[e',zKa];simp only[mz,gX,hp,PU.str,if_true],fun y hy=>?_⟩,by omega,rp⟩
       rcases zKq.1 hy with rfl|hy
       ·show (bT _||_)=true;rw[hp];rfl
       ·exact k' y hy
      ·have hp:bT (unhex a b)=false:=by simpa using hp
       have hn:=(unhex a b).toNat_lt
       have hv:=ju (unhex a b)
       refine⟨⟨.hex (hU ((unhex a b).toNat / 16)) (hU ((unhex a b).toNat % 16))::l',by rw[e',zKa];simp only[mz,gX,hp,PU.str,jX,Bool.false_eq_true,if_false],fun y hy=>?_⟩,by omega,rp⟩
       rcases zKq.1 hy with rfl|hy
       ·exact⟨by rw[hv];exact hp,by rw[hv],by rw[hv],fQ _ (by omega),fQ _ (by omega)⟩
       ·exact k' y hy
    | bad=>exact(h3 zKc).elim
 exact key l hlit hhex hb
structure y1 (d:fM):Prop where
 method:dy d.method=true
 id:qF d.id
 ne:d.id≠[]
 last:d.id.getLast? ≠ some 58
theorem wT {s:Bytes}(h:dy s=true):∀ c∈s,c≠47∧c≠63∧c≠35∧c≠58:=by
 intro c hc
 unfold dy at h
 simp only[zKs]at h
 have h1:=zKl.1 h.2 c hc
 have:=dj (p:=fun c=>!(eQ c)||(c != 47&&c != 63&&c != 35&&c != 58)) (by decide +kernel) c
 rw[h1]at this
 simpa[and_assoc] using this
theorem Em {s:Bytes}{d:fM}(h:aZ s=(d,0)):y1 d∧(bu d).length≤s.length∧s.length≤4096∧∀ c∈s,c≠47∧c≠63∧c≠35:=by
 unfold aZ at h
 split at h
 ·simp at h
 split at h
 ·simp at h
 rename_i h1 h2
 have h2:jY.isPrefixOf s=true:=by simpa using h2
 obtain⟨r,rfl⟩:=zKn.1 h2
 have e4:(jY++r).drop 4=r:=rfl
 rw[e4]at h
 unfold lQ at h
 split at h
 ·simp at h
 split at h
 ·simp at h
 rename_i h3 h4
 have h3:(aM 58 r).2.2=true:=by simpa using h3
 have h4:dy (aM 58 r).1=true:=by simpa using h4
 unfold jN at h
 split at h
 ·rename_i h5;exact absurd (zKK.inj h).2 h5
 split at h
 ·simp at h
 rename_i h5 h6
 simp only[not_or]at h6
 simp only[zKK.injEq,and_true]at h
 subst h
 have e:cx (aM 58 r).2.1=((cx (aM 58 r).2.1).1,0):=by
  have:(cx (aM 58 r).2.1).2=0:=by simpa using h5
  rw[← this]
 obtain⟨k1,k2,k3⟩:=FO e
 have hlen:=xz h3
 refine⟨⟨h4,k1,h6.1,h6.2⟩,?_,by omega,?_⟩
 ·simp only[bu,zKk,zKi,zKU];omega
 ·have hu:=uncut 58 r
  rw[if_pos h3]at hu
  intro c hc
  rcases zKr.1 hc with hc|hc
  ·have:∀ c∈jY,c≠47∧c≠63∧c≠35:=by decide
   exact this c hc
  ·rw[hu]at hc
   rcases zKr.1 hc with hc|hc
   ·have:=wT h4 c hc;exact⟨this.1,this.2.1,this.2.2.1⟩
   ·rcases zKr.1 hc with hc|hc
    ·obtain rfl:=zKo.1 hc;decide
    ·exact k3 c hc
theorem yN (s:Bytes)(h:(aZ s).2≠0):(aZ s).1=fM.none:=by
 unfold aZ at h ⊢
 split
 ·rfl
 rename_i h1
 rw[if_neg h1]at h
 split
 ·rfl
 rename_i h2
 rw[if_neg h2]at h
 unfold lQ at h ⊢
 split
 ·rfl
 rename_i h3
 rw[if_neg h3]at h
 split
 ·rfl
 rename_i h4
 rw[if_neg h4]at h
 unfold jN at h ⊢
 split
 ·rfl
 rename_i h5
 rw[if_neg h5]at h
 split
 ·rfl
 rename_i h6
 rw[if_neg h6]at h
 exact absurd rfl h
theorem Bs {d:fM}(h:y1 d)(hl:(bu d).length≤4096):aZ (bu d)=(d,0):=by
 unfold aZ
 have e1:jY.isPrefixOf (bu d)=true:=rfl
 have e2:(bu d).drop 4=d.method++58::d.id:=by show d.method++[58]++d.id=_;simp
 rw[if_neg (by omega),if_neg (by rw[e1];simp),e2]
 unfold lQ
 rw[lh (eC (fun k=>(wT h.method _ k).2.2.2 rfl)),if_neg (by simp),if_neg (by simp[h.method])]
 simp only
 rw[Dm h.id]
 unfold jN
 rw[if_neg (by simp),if_neg (by simp only[not_or];exact⟨h.ne,h.last⟩)]
open Go Go.RowKit
def mR (c:UInt8)(new:Bytes)(d:UInt8):Bytes:=if d=c then new else [d]
theorem zT {c:UInt8}{new s:Bytes}(h:c ∉ s):s.flatMap (mR c new)=s:=by
 induction s with
 | nil=>rfl
 | cons d s ih =>
   simp only[zKq,not_or]at h
   rw[zKa,ih h.2]
   unfold mR
   rw[if_neg (fun e=>h.1 e.symm)];rfl
theorem xX (c:UInt8)(new:Bytes):∀ (k:Nat)(s:Bytes),s.count c=k→Lib.replaceK [c] new k s=s.flatMap (mR c new):=by
 intro k
 induction k with
 | zero =>
   intro s h
   rw[zT (fun hm=>by have:=List.count_pos_iff.2 hm;omega)];rfl
 | succ k ih =>
   intro s h
   by_cases hp:pre (·==c) s<s.length
   ·have hk:Lib.index s [c]=(pre (·==c) s:Nat):=by rw[index_one,cS,if_pos hp]
    rw[Lib.replaceK_hit [c] new k s _ hk]
    rw[iB hp]at h
    have e:s=s.take (pre (·==c) s)++c::s.drop (pre (·==c) s+1):=by
     have:=fZ hp
     simp only[beq_iff_eq]at this
     conv=>lhs;rw[← zKy (pre (·==c) s) s,zKm hp,this]
    have hn:c ∉ s.take (pre (·==c) s):=by
     intro hm
     have h1:=tI (·==c) s
     obtain⟨j,hj,e⟩:=zKJ hm
     have:=gN (p:=(·==c)) (l:=s.take (pre (·==c) s)) (k:=j) (by omega) hj
     rw[e]at this
     simp at this
    rw[show [c].length=1 from rfl,ih _ (by omega)]
    conv=>rhs;rw[e,zKF,zKa,zT hn]
    simp[mR]
   ·rw[lT hp]at h;omega
theorem tB (c:UInt8)(new s:Bytes)(bk:([c]==new)=false):Lib.replaceAll s [c] new=s.flatMap (mR c new):=by
 unfold Lib.replaceAll Lib.replace Lib.replaceNum
 rw[bk,if_neg (by simp),if_pos (.inl (by omega)),Lib.count_one,xX c new _ s rfl]
def nU:PU→Bytes
 | .lit c=>[c]
 | .hex a b=>kM (unhex a b)
 | .bad=>[]
def lJ (also:Bytes):PU→Bool
 | .lit c=>c9 also c
 | _=>true
theorem nf (also:Bytes):∀ l:List PU,PU.bad ∉ l→bz also l=if l.all (lJ also) then(l.flatMap nU,0) else([],1)
 | [],_=>rfl
 | .bad::r,h=>by simp at h
 | .lit c::r,h=>by
   rw[bz,nf also r (by simpa using h),zKY]
   cases hk:c9 also c
   ·simp[lJ,hk]
   ·cases hr:r.all (lJ also) <;> simp[lJ,hk,comb,nU]
 | .hex a b::r,h=>by
   rw[bz,nf also r (by simpa using h),zKY]
   cases hr:r.all (lJ also) <;> simp[lJ,comb,nU]
def eI (s:Bytes):Bytes × Int :=
 if (aj s).2≠0 then([],(aj s).2)
 else((aY [58] s).1.flatMap (mR 126 [37,55,69]),if (aY [58] s).2=0∧(126:UInt8)∈s then 1 else(aY [58] s).2)
theorem GH (v:UInt8):(kM v).flatMap (mR 126 [37,55,69])=gX v:=by
 have:=dj (p:=fun v=>(kM v).flatMap (mR 126 [37,55,69])==gX v) (by decide +kernel) v
 simpa using this
theorem DP {s:Bytes}{c:UInt8}(hb:PU.bad ∉ az s)(hc:c≠37)(hx:bm c=false):c∈s↔PU.lit c∈az s:=by
 have hs:=jA hb
 constructor
 ·intro h
  rw[← hs]at h
  obtain⟨u,hu,h⟩:=zKR.1 h
  cases u with
  | lit d=>obtain rfl:=zKo.1 h;exact hu
  | hex a b =>
    have:=mF hu
    simp only[PU.str,zKq,List.not_mem_nil,or_false]at h
    rcases h with rfl|rfl|rfl
    ·exact absurd rfl hc
    ·rw[this.1]at hx;cases hx
    ·rw[this.2]at hx;cases hx
  | bad=>simp[PU.str]at h
 ·intro h
  rw[← hs]
  exact zKR.2 ⟨_,h,zKo.2 rfl⟩
theorem x5 (s:Bytes)(hl:s.length≤16384):(eI s).2=(cx s).2∧((cx s).2=0→(eI s).1=(cx s).1):=by
 have d1:aj s=if PU.bad∈az s then([],2) else((az s).map PU.val,0):=if_neg (by omega)
 have d2:aY [58] s=bz [58] (az s):=by unfold aY;first|rfl|exact if_neg (by omega)
 unfold eI cx
 rw[d1,d2]
 clear d1 d2
 by_cases hb:PU.bad∈az s
 ·rw[if_pos hb,if_pos hb];simp
 ·rw[if_neg hb,if_neg hb,nf [58] _ hb]
  simp only[ne_eq,not_true,if_false]
  have key:∀ c:UInt8,(bT c||c==58)=(c9 [58] c&&c != 126):=fun c=>by
   have:=dj (p:=fun c=>(bT c||c==58)==(c9 [58] c&&c != 126)) (by decide +kernel) c
   simpa using this
  have h126:=DP (s:=s) (c:=126) hb (by decide) (by decide)
  generalize az s=l at *
  by_cases ha:l.all (lJ [58])=true
  ·rw[if_pos ha]
   by_cases hm:PU.lit 126∈l
   ·have fA:l.all nk=false:=by
     rw[← Bool.not_eq_true]
     intro h
     have:=zKl.1 h _ hm
     revert this;decide
    rw[if_pos fA,if_pos ⟨rfl,h126.2 hm⟩]
    exact⟨rfl,fun h=>by simp at h⟩
   ·have hyes:¬ l.all nk=false:=by
     rw[Bool.not_eq_false]
     refine zKl.2 fun u hu=>?_
     have:=zKl.1 ha u hu
     cases u with
     | lit c =>
       show (bT c||c==58)=true
       rw[key]
       have h1:c9 [58] c=true:=this
       rw[h1,Bool.true_and,bne_iff_ne]
       rintro rfl;exact hm hu
     | hex a b=>rfl
     | bad=>rfl
    rw[if_neg hyes,if_neg (fun k=>hm (h126.1 k.2))]
    refine⟨rfl,fun _=>?_⟩
    show (l.flatMap nU).flatMap (mR 126 [37,55,69])=l.flatMap mz
    clear hyes h126 ha
    induction l with
    | nil=>rfl
    | cons u l ih =>
      rw[zKa,zKF,zKa,ih (fun k=>hb (zKb _ k)) (fun k=>hm (zKb _ k)) rfl]
      congr 1
      cases u with
      | lit c =>
        have:c≠126:=by rintro rfl;exact hm zKc
        show ([c]:Bytes).flatMap (mR 126 [37,55,69])=[c]
        simp[mR,this]
      | hex a b=>exact GH _
      | bad=>rfl
  ·rw[if_neg ha]
   have fA:l.all nk=false:=by
    rw[← Bool.not_eq_true]
    intro h
    refine ha (zKl.2 fun u hu=>?_)
    have:=zKl.1 h u hu
    cases u with
    | lit c =>
      have h1:(bT c||c==58)=true:=this
      rw[key,zKs]at h1
      exact h1.1
    | hex a b=>rfl
    | bad=>rfl
   rw[if_pos fA,if_neg (by simp)]
   exact⟨rfl,fun h=>by simp at h⟩
theorem kr:∀ (n:Nat)(a b:Bytes),a.length≤n→PU.bad∈az a→PU.bad∈az (a++58::b)
 | _,[],b,_,h=>by simp[dJ]at h
 | 0,c::a,b,h,_=>by simp at h
 | n+1,c::a,b,h,hb=>by
   simp only[zKi]at h
   by_cases hc:c=37
   ·subst hc
    cases hp:cT a with
    | none =>
      have:cT (a++58::b)=none:=by
       rcases a with _|⟨u,_|⟨v,r⟩⟩
       ·cases b <;> simp[cT,show bm 58=false by decide]
       ·simp[cT,show bm 58=false by decide]
       ·unfold cT at hp ⊢
        simp only[zKf]
        by_cases hx:(bm u&&bm v)=true
        ·simp[hx]at hp
        ·simp[hx]
      rw[zKf,qO this];simp
    | some x =>
      obtain⟨u,v,r⟩:=x
      obtain⟨rfl,h1,h2⟩:=cN hp
      rw[fk h1 h2]at hb
      simp only[zKi]at h
      simp only[zKf]
      rw[fk h1 h2]
      exact zKb _ (kr n r b (by omega) (by simpa using hb))
   ·rw[cW hc]at hb
    rw[zKf,cW hc]
    exact zKb _ (kr n a b (by omega) (by simpa using hb))
theorem oN:∀ (l:List Bytes)(x:Bytes),((∃ y∈x::l,PU.bad∈az y)↔PU.bad∈az (x++l.flatMap (58::·))) ∧
 ((∀ y∈x::l,PU.bad ∉ az y)→az (x++l.flatMap (58::·))=az x++l.flatMap (fun y=>.lit 58::az y))
 | [],x=>by simp
 | y::l,x=>by
   obtain⟨h1,h2⟩:=oN l y
   have e:x++(y::l).flatMap (58::·)=x++58::(y++l.flatMap (58::·)):=by simp
   rw[e]
   constructor
   ·constructor
    ·rintro⟨z,hz,hb⟩
     by_cases hx:PU.bad∈az x
     ·exact kr _ _ _ (zKj _) hx
     ·rw[ez _ _ _ (zKj _) hx]
      rcases zKq.1 hz with rfl|hz
      ·exact absurd hb hx
      ·exact List.mem_append_right _ (zKb _ (h1.1 ⟨z,hz,hb⟩))
    ·intro hb
     by_cases hx:PU.bad∈az x
     ·exact⟨x,zKc,hx⟩
     ·rw[ez _ _ _ (zKj _) hx]at hb
      rcases zKr.1 hb with hb|hb
      ·exact absurd hb hx
      ·simp only[zKq,reduceCtorEq,false_or]at hb
       obtain⟨z,hz,hb⟩:=h1.2 hb
       exact⟨z,zKb _ hz,hb⟩
   ·intro h
    rw[ez _ _ _ (zKj _) (h x zKc),h2 (fun z hz=>h z (zKb _ hz))]
    simp
def dv (y:Bytes):Bool:=y.all fun c=>bT c||c==37
def jr (y:Bytes):Bytes:=(az y).map PU.val
theorem xk {c:UInt8}(h:bm c=true):bT c=true:=by
 have:=dj (p:=fun c=>!(bm c)||bT c) (by decide +kernel) c
 rw[h]at this
 simpa using this
theorem jD {y:Bytes}(hb:PU.bad ∉ az y)(hc:(58:UInt8) ∉ y):dv y=(az y).all nk:=by
 have key:∀ l:List PU,(∀ a b,PU.hex a b∈l→bm a=true∧bm b=true)→(∀ c,PU.lit c∈l→c≠37)→(58:UInt8) ∉ l.flatMap PU.str →
  (l.flatMap PU.str).all (fun c=>bT c||c==37)=l.all nk:=by
  intro l
  induction l with
  | nil=>intros;rfl
  | cons u l ih =>
    intro hh hl hc
    have ih:=ih (fun a b k=>hh a b (zKb _ k)) (fun c k=>hl c (zKb _ k)) (fun k=>hc (by rw[zKa];exact List.mem_append_right _ k))
    rw[zKa,zK3,zKY,ih]
    congr 1
    cases u with
    | lit c =>
      have h1:c≠37:=hl c zKc
      have h2:c≠58:=by rintro rfl;exact hc (by simp[PU.str])
      have e1:(c==37)=false:=by simpa using h1
      have e2:(c==58)=false:=by simpa using h2
      simp[PU.str,nk,e1,e2]
    | hex a b =>
      obtain⟨h1,h2⟩:=hh a b zKc
      simp[PU.str,nk,xk h1,xk h2]
    | bad=>rfl
 have:=key (az y) (fun a b=>mF) (rH y) (by rw[jA hb];exact hc)
 rw[jA hb]at this
 exact this
theorem wi {l:List PU}(h:∀ c,PU.lit c∈l→bT c=true)(hb:PU.bad ∉ l):l.flatMap mz=aO (l.map PU.val):=by
 induction l with
 | nil=>rfl
 | cons u l ih =>
   have ih:=ih (fun c k=>h c (zKb _ k)) (fun k=>hb (zKb _ k))
   rw[zKa,ih,zKX]
   show _=gX u.val++aO (l.map PU.val)
   congr 1
   cases u with
   | lit c=>simp[mz,PU.val,gX,h c zKc]
   | hex a b=>rfl
   | bad=>exact absurd zKc hb
def iW (x:Bytes)(l:List Bytes):Bytes:=aO (jr x)++l.flatMap fun y=>58::aO (jr y)
theorem Cc {s x:Bytes}{l:List Bytes}(e:s=x++l.flatMap (58::·))(hn:∀ y∈x::l,(58:UInt8) ∉ y) :
 cx s=if ∃ y∈x::l,PU.bad∈az y then([],2) else if (x::l).all dv=false then([],1) else(iW x l,0):=by
 obtain⟨h1,h2⟩:=oN l x
 rw[← e]at h1 h2
 unfold cx
 by_cases hb:∃ y∈x::l,PU.bad∈az y
 ·rw[if_pos hb,if_pos (h1.1 hb)]
 ·rw[if_neg hb,if_neg (fun k=>hb (h1.2 k))]
  have hb:∀ y∈x::l,PU.bad ∉ az y:=fun y hy k=>hb ⟨y,hy,k⟩
  rw[h2 hb]
  have aT:(az x++l.flatMap fun y=>PU.lit 58::az y).all nk=(x::l).all dv:=by
   rw[zK3,zKY,jD (hb x zKc) (hn x zKc)]
   congr 1
   have:∀ m:List Bytes,(∀ y∈m,PU.bad ∉ az y∧(58:UInt8) ∉ y)→(m.flatMap fun y=>PU.lit 58::az y).all nk=m.all dv:=by
    intro m
    induction m with
    | nil=>intro _;rfl
    | cons y m ih =>
      intro hm
      rw[zKa,zK3,zKY,zKY,ih (fun z hz=>hm z (zKb _ hz)),jD (hm y zKc).1 (hm y zKc).2]
      rfl
   exact this l fun y hy=>⟨hb y (zKb _ hy),hn y (zKb _ hy)⟩
  rw[aT]
  by_cases ha:(x::l).all dv=false
  ·rw[if_pos ha,if_pos ha]
  ·rw[if_neg ha,if_neg ha]
   have ha:(x::l).all dv=true:=by simpa using ha
   congr 1
   have hp:∀ y∈x::l,(az y).flatMap mz=aO (jr y):=by
    intro y hy
    refine wi (fun c hc=>?_) (hb y hy)
    have h3:=zKl.1 ha y hy
    rw[jD (hb y hy) (hn y hy)]at h3
    have h4:(bT c||c==58)=true:=zKl.1 h3 _ hc
    have h5:c≠58:=by
     rintro rfl
     exact hn y hy ((DP (hb y hy) (by decide) (by decide)).2 hc)
    simpa[h5] using h4
   rw[zKF,hp x zKc]
   unfold iW
   congr 1
   have:∀ m:List Bytes,(∀ y∈m,(az y).flatMap mz=aO (jr y))→(m.flatMap fun y=>PU.lit 58::az y).flatMap mz=m.flatMap fun y=>58::aO (jr y):=by
    intro m
    induction m with
    | nil=>intro _;rfl
    | cons y m ih =>
      intro hm
      rw[zKa,zKF,zKa,zKa,ih (fun z hz=>hm z (zKb _ hz)),hm y zKc]
      rfl
   exact this l fun y hy=>hp y (zKb _ hy)
theorem Iv (s:Bytes):(58:UInt8) ∉ aO s:=by
 intro hc
 obtain⟨d,-,hd⟩:=zKR.1 hc
 have h1:=dj (p:=fun d=>(gX d).all fun c=>c != 58) (by decide +kernel) d
 have:=zKl.1 h1 _ hd
 simp at this
theorem Eh {s:Bytes}:aO s=[]↔s=[]:=by
 constructor
 ·intro h
  cases s with
  | nil=>rfl
  | cons c s =>
    have:gX c++aO s=[]:=h
    have h2:gX c=[]:=(List.append_eq_nil_iff.1 this).1
    unfold gX jX at h2
    split at h2 <;> simp at h2
 ·rintro rfl;rfl
theorem Bz {y:Bytes}(hb:PU.bad ∉ az y):jr y=[]↔y=[]:=by
 constructor
 ·intro h
  have:az y=[]:=List.map_eq_nil_iff.1 h
  rw[← jA hb,this];rfl
 ·rintro rfl;rfl
theorem EN {x:Bytes}{l:List Bytes}(hb:∀ y∈x::l,PU.bad ∉ az y):(iW x l=[]∨(iW x l).getLast? = some 58)↔(x::l).getLast? = some []:=by
 have last:∀ y:Bytes,(aO y).getLast? ≠ some 58:=fun y k=>Iv y (zKQ k)
 rcases List.eq_nil_or_concat l with rfl|⟨m,z,rfl⟩
 ·unfold iW
  rw[zKV,zKw,Eh,Bz (hb x zKc)]
  simp[last]
 ·rw[List.concat_eq_append]at *
  have hz:=hb z (by simp)
  have e:iW x (m++[z])=iW x m++58::aO (jr z):=by simp[iW]
  rw[e,show x::(m++[z])=(x::m)++[z] by simp,zKW,zKW]
  simp only[List.getLast?_singleton,Option.some_or,zKO.injEq]
  constructor
  ·rintro(h|h)
   ·simp at h
   ·cases hd:aO (jr z) with
    | nil=>exact(Bz hz).1 (Eh.1 hd)
    | cons a r =>
      rw[hd]at h
      rw[List.getLast?_cons_cons,← hd]at h
      cases hq:(aO (jr z)).getLast? with
      | none=>rw[List.getLast?_eq_none_iff]at hq;rw[hq]at hd;cases hd
      | some w=>rw[hq]at h;exact absurd (by rw[hq];simpa using h) (last (jr z))
  ·rintro rfl
   right
   simp[jr,dJ,aO]
open Go Go.RowKit
theorem z7 {p:UInt8→Bool}:∀ {a:Bytes}(r:Bytes),(∀ c∈a,p c=false)→pre p (a++r)=a.length+pre p r
 | [],r,_=>by simp
 | c::a,r,h=>by
   have h1:=h c zKc
   have ih:=z7 (a:=a) r (fun d hd=>h d (zKb _ hd))
   rw[zKf,bX,h1,if_neg (by simp),ih,zKi]
   omega
theorem FM {c:UInt8}{a:Bytes}(r:Bytes)(h:c ∉ a):aM c (a++r)=(a++(aM c r).1,(aM c r).2.1,(aM c r).2.2):=by
 have hp:pre (·==c) (a++r)=a.length+pre (·==c) r:=z7 r fun d hd=>by
  have:d≠c:=by rintro rfl;exact h hd
  simpa using this
 by_cases hr:pre (·==c) r<r.length
 ·rw[show aM c r=(r.take (pre (·==c) r),r.drop (pre (·==c) r+1),true) from if_pos hr]
  rw[show aM c (a++r)=((a++r).take (pre (·==c) (a++r)),(a++r).drop (pre (·==c) (a++r)+1),true) from if_pos (by rw[hp,zKk];omega)]
  rw[hp,List.take_length_add_append,Nat.add_assoc,List.drop_length_add_append]
 ·have hle:=cq (·==c) r
  rw[fC (s:=r) (by omega),fC (s:=a++r) (by rw[hp,zKk];omega)]
theorem oM (c:UInt8):∀ (n:Nat)(s:Bytes),s.length≤n→∃ x l,aB c s=x::l∧s=x++l.flatMap (c::·)∧∀ y∈x::l,c ∉ y:=by
 intro n
 induction n with
 | zero =>
   intro s h
   obtain rfl:=zKE.1 (Nat.le_zero.1 h)
   exact⟨[],[],rfl,rfl,by simp⟩
 | succ n ih =>
   intro s h
   have fA:c ∉ s.take (pre (·==c) s):=by
    intro hm
    obtain⟨j,hj,e⟩:=zKJ hm
    have iw:j<pre (·==c) s∧j<s.length:=by rw[zKD]at hj;omega
    have:=gN (p:=(·==c)) (l:=s) (k:=j) iw.1 iw.2
    rw[List.getElem_take]at e
    rw[e]at this
    simp at this
   by_cases hp:pre (·==c) s<s.length
   ·obtain⟨x,l,e1,e2,e3⟩:=ih (s.drop (pre (·==c) s+1)) (by simp;omega)
    refine⟨s.take (pre (·==c) s),x::l,by rw[cD hp,e1],?_,?_⟩
    ·have hg:=fZ hp
     simp only[beq_iff_eq]at hg
     conv=>lhs;rw[← zKy (pre (·==c) s) s,zKm hp,hg,e2]
     simp
    ·intro y hy
     rcases zKq.1 hy with rfl|hy
     ·exact fA
     ·exact e3 y hy
   ·have hq:=cq (·==c) s
    rw[zKz (by omega)]at fA
    exact⟨s,[],bW hp,by simp,by simpa using fA⟩
def eB:List Bytes→Bytes
 | []=>[]
 | x::l=>iW x l
theorem vH (l:List Bytes)(y:Bytes):eB (l++[y])=eB l++(if l=[] then [] else [58])++aO (jr y):=by
 cases l with
 | nil=>simp[eB,iW]
 | cons x l=>simp[eB,iW]
theorem vG {l:List Bytes}{k:Nat}(h:k<l.length):eB (l.take (k+1))=eB (l.take k)++(if k=0 then [] else [58])++aO (jr l[k]):=by
 rw[zKG h,vH]
 congr 2
 cases k with
 | zero=>simp
 | succ k=>cases l with
   | nil=>simp at h
   | cons x l=>simp
theorem ID (c:UInt8):(gX c).length≤3:=by unfold gX;split <;> simp[jX]
theorem fg (s:Bytes):(aO s).length≤3 * s.length:=by
 induction s with
 | nil=>simp[aO]
 | cons c s ih =>
   have:=ID c
   show (gX c++aO s).length≤_
   rw[zKk,zKi]
   omega
theorem mJ:∀ (f:Nat)(s:Bytes),(bD f s).length≤f
 | 0,s=>by simp[bD]
 | f+1,[]=>by simp[bD]
 | f+1,c::r=>by
   rw[bD]
   split
   ·split
    ·rename_i a b r' h
     have:=mJ f r'
     simpa using this
    ·simp
   ·have:=mJ f r
    simpa using this
theorem jO (y:Bytes):(jr y).length≤y.length:=by
 have:=mJ y.length y
 simpa[jr,az] using this
theorem xL:∀ (l:List Bytes),(eB l).length≤3 * l.flatten.length+l.length
 | []=>by simp[eB]
 | x::l=>by
   have h1:=fg (jr x)
   have h2:=jO x
   have h3:∀ m:List Bytes,(m.flatMap fun y=>58::aO (jr y)).length≤3 * m.flatten.length+m.length:=by
    intro m
    induction m with
    | nil=>simp
    | cons y m ih =>
      have k1:=fg (jr y)
      have k2:=jO y
      simp only[zKa,zKk,zKi,zKP]at ih ⊢
      omega
   have h4:=h3 l
   simp only[eB,iW,zKk,zKP,zKi]
   omega
theorem Bv (m s:Bytes):jN m (cx s) =
 if ∃ y∈aB 58 s,PU.bad∈az y then(fM.none,2) else if (aB 58 s).all dv=false then(fM.none,1)
 else if (aB 58 s).getLast? = some [] then(fM.none,3) else(⟨m,eB (aB 58 s)⟩,0):=by
 obtain⟨x,l,e1,e2,e3⟩:=oM 58 _ s (zKj _)
 rw[e1,Cc e2 e3]
 by_cases hb:∃ y∈x::l,PU.bad∈az y
 ·rw[if_pos hb,if_pos hb];rfl
 rw[if_neg hb,if_neg hb]
 by_cases ha:(x::l).all dv=false
 ·rw[if_pos ha,if_pos ha];rfl
 rw[if_neg ha,if_neg ha]
 have hb:∀ y∈x::l,PU.bad ∉ az y:=fun y hy k=>hb ⟨y,hy,k⟩
 have hs:=EN hb
 unfold jN
 rw[if_neg (by simp)]
 by_cases hq:(x::l).getLast? = some []
 ·rw[if_pos hq,if_pos (hs.2 hq)]
 ·rw[if_neg hq,if_neg (fun k=>hq (hs.1 k))];rfl
theorem lS {y:Bytes}(h:y.length≤16384):aj y=if PU.bad∈az y then([],2) else(jr y,0):=if_neg (by omega)
open Go Go.RowKit
def dC:Bytes:=[119,101,98]
def cF:Bytes:=[47,46,119,101,108,108,45,107,110,111,119,110,47,100,105,100,46,106,115,111,110]
def e9:Bytes:=[100,105,100,46,106,115,111,110]
def bd (d:fM):(Bytes × Int) × Int :=
 if d.method≠dC then(([],0),100)
 else if (aZ (bu d)).2≠0 then(([],0),(aZ (bu d)).2)
 else aH (aj (aM 58 d.id).1).1
def dW (x:Bytes):Bool:=(aj x).2==0&&(aj x).1 != []&&(aj x).1 != [46]&&(aj x).1 != [46,46]
def gM (x:Bytes):Bytes:=47::aE [] (aj x).1
def ie (l:List Bytes):Bytes:=if l=[] then cF else l.flatMap gM++47::e9
def jB (u:eS):eS × Int:=if 4096<(cy u).length then(eS.none,5) else(u,0)
def eA (d:fM):eS × Int :=
 if (bd d).2≠0 then(eS.none,(bd d).2)
 else if (aB 58 d.id).tail.all dW=false then(eS.none,110)
 else jB ⟨(bd d).1.1,(bd d).1.2,ie (aB 58 d.id).tail,[],[],false,false⟩
def cV (c:UInt8):Bool:=c==37||eM c
def bI (x:Bytes):Bool:=x.all cV&&(aj x).2==0&&(aj x).1 != []
def bn (x:Bytes):Bytes:=58::aO (aj x).1
def bf (u:eS):Bytes:=u.host++(if u.port=0 then [] else [37,51,65]++cG u.port.natAbs)
def gV (d:fM):fM × Int:=if 4096<(bu d).length then(fM.none,5) else(d,0)
def fe (u:eS)(l:List Bytes):fM × Int :=
 if u.path=cF then gV ⟨dC,bf u⟩
 else if l.all bI=false then(fM.none,110)
 else gV ⟨dC,bf u++l.flatMap bn⟩
def fW (u:eS):fM × Int :=
 if fN u=false then(fM.none,8)
 else if u.bh=true∨u.bA=true∨(aB 47 u.path).tail.getLast? ≠ some e9 then(fM.none,6)
 else if (aB 47 u.path).tail.length=1 then(fM.none,110)
 else fe u (aB 47 u.path).tail.dropLast
def eo (d:fM):fM × Int:=if (eA d).2≠0 then(fM.none,(eA d).2) else fW (eA d).1
theorem rK (c:UInt8):∀ (l:List Bytes)(x:Bytes),c ∉ x→(∀ y∈l,c ∉ y)→aB c (x++l.flatMap (c::·))=x::l
 | [],x,hx,_=>by
   rw[zKV,zKw]
   exact bW (by rw[eC hx];omega)
 | y::l,x,hx,hl=>by
   have hp:pre (·==c) (x++(y::l).flatMap (c::·))=x.length:=by
    rw[zKa,zKf]
    exact sM (eC hx) c _ (by simp)
   rw[cD (by rw[hp];simp),hp,List.take_left,← List.drop_drop,List.drop_left,zKa,zKf,zK0,List.drop_zero,
    rK c l y (hl y zKc) (fun z hz=>hl z (zKb _ hz))]
theorem rI (c:UInt8):∀ (n:Nat)(s:Bytes),s.length≤n→∃ x l,aB c s=x::l∧s=x++l.flatMap (c::·)∧c ∉ x∧∀ y∈l,c ∉ y
 | n,s,h=>by
   by_cases hp:pre (·==c) s<s.length
   ·match n,h with
    | 0,h=>omega
    | n+1,h =>
      obtain⟨x,l,e1,e2,e3,e4⟩:=rI c n (s.drop (pre (·==c) s+1)) (by simp;omega)
      refine⟨s.take (pre (·==c) s),x::l,by rw[cD hp,e1],?_,?_,?_⟩
      ·have:=fZ hp
       simp only[beq_iff_eq]at this
       conv=>lhs;rw[← zKy (pre (·==c) s) s,zKm hp,this,e2]
       simp
      ·intro hm
       have h1:=(tI (·==c) s)
       obtain⟨k,hk,e⟩:=zKJ hm
       have:=gN (p:=(·==c)) (l:=s.take (pre (·==c) s)) (k:=k) (by omega) hk
       rw[e]at this
       simp at this
      ·intro y hy
       rcases zKq.1 hy with rfl|hy
       ·exact e3
       ·exact e4 y hy
   ·refine⟨s,[],bW hp,by simp,fun hm=>?_,by simp⟩
    obtain⟨k,hk,e⟩:=zKJ hm
    have:=gN (p:=(·==c)) (l:=s) (k:=k) (by omega) hk
    rw[e]at this
    simp at this
theorem can_enc (also s:Bytes):Can also (aE [] s):=by
 induction s with
 | nil=>exact iL _
 | cons c s ih =>
   show Can also (iA [] c++aE [] s)
   refine lV ?_ ih
   unfold iA
   cases h:eM c
   ·simp;exact can_esc also h
   ·simp;exact qy (by unfold c9;rw[h];rfl) (zk h)
theorem Iy (s:Bytes):(47:UInt8) ∉ aE [] s:=by
 intro hc
 obtain⟨d,-,hd⟩:=zKR.1 hc
 have h1:=dj (p:=fun d=>(iA [] d).all fun c=>c != 47) (by decide +kernel) d
 have:=zKl.1 h1 _ hd
 simp at this
theorem Ej {s t:Bytes}(h:aE [] s=aE [] t):s=t:=by
 have h1:=(ly [] s).1
 rw[h,(ly [] t).1]at h1
 exact h1.symm
theorem lR:∀ s:Bytes,(az (aO s)).map PU.val=s∧PU.bad ∉ az (aO s)
 | []=>⟨rfl,by simp[aO,dJ]⟩
 | c::s=>by
   obtain⟨h1,h2⟩:=lR s
   have e:aO (c::s)=gX c++aO s:=rfl
   rw[e]
   unfold gX
   split
   ·rename_i hc
    have bk:c≠37:=by rintro rfl;exact absurd hc (by decide)
    rw[zKA,cW bk]
    exact⟨by simp[PU.val,h1],by simpa using h2⟩
   ·rw[wz]
    exact⟨by simp[PU.val,h1,ju],by simpa using h2⟩
theorem wj {s:Bytes}(h:(aO s).length≤16384):aj (aO s)=(s,0):=by
 obtain⟨h1,h2⟩:=lR s
 unfold aj
 rw[if_neg (by omega),if_neg h2,h1]
theorem qw (s:Bytes):∀ c∈aO s,c≠58:=by
 intro c hc
 obtain⟨d,-,hd⟩:=zKR.1 hc
 have h1:=dj (p:=fun d=>(gX d).all fun c=>c != 58) (by decide +kernel) d
 have:=zKl.1 h1 _ hd
 simpa using this
theorem vi:qF []:=⟨[],rfl,by simp⟩
theorem jP {a b:Bytes}(ha:qF a)(hb:qF b):qF (a++b):=by
 obtain⟨l,rfl,h1⟩:=ha
 obtain⟨m,rfl,h2⟩:=hb
 exact⟨l++m,by simp,fun x hx=>by
  rcases zKr.1 hx with h|h
  ·exact h1 x h
  ·exact h2 x h⟩
theorem vg {c:UInt8}(h:(bT c||c==58)=true):qF [c]:=⟨[.lit c],rfl,fun x hx=>by
 obtain rfl:=zKo.1 hx;exact h⟩
theorem IJ {c:UInt8}(h:bT c=false):qF (jX c):=⟨[.hex (hU (c.toNat / 16)) (hU (c.toNat % 16))],rfl,fun x hx=>by
 obtain rfl:=zKo.1 hx
 have hn:=c.toNat_lt
 have hv:=ju c
 exact⟨by rw[hv];exact h,by rw[hv],by rw[hv],fQ _ (by omega),fQ _ (by omega)⟩⟩
theorem BF (s:Bytes):qF (aO s):=by
 induction s with
 | nil=>exact vi
 | cons c s ih =>
   show qF (gX c++aO s)
   refine jP ?_ ih
   unfold gX
   cases h:bT c
   ·simp;exact IJ h
   ·simp;exact vg (by rw[h];rfl)
theorem pw {s:Bytes}(h:∀ c∈s,bT c=true):qF s:=by
 induction s with
 | nil=>exact vi
 | cons c s ih=>exact jP (a:=[c]) (vg (by rw[h c zKc];rfl)) (ih fun d hd=>h d (zKb _ hd))
theorem CR {x:Bytes}(h:bw x=(x,0)):∀ c∈x,bT c=true:=by
 intro c hc
 have h1:=r9 h c hc
 have:=dj (p:=fun c=>!(vu c||c==46)||bT c) (by decide +kernel) c
 have h2:(vu c||c==46)=true:=by rcases h1 with h|rfl <;> simp[*]
 rw[h2]at this
 simpa using this
theorem rB (n:Nat):∀ c∈cG n,bT c=true:=by
 intro c hc
 have:=si n c hc
 unfold bT;rw[this];simp
theorem host_ne {x:Bytes}(h:bw x=(x,0)):x≠[]:=by
 rintro rfl
 revert h;decide
theorem qg {u:eS}(h:aH (bc u.host u.port)=((u.host,u.port),0)):qF (bf u)∧(58:UInt8) ∉ bf u∧bf u≠[]∧(az (bf u)).map PU.val=bc u.host u.port∧PU.bad ∉ az (bf u):=by
 obtain⟨-,h1,-,-,h2,-⟩:=ct h
 have hp:=CR h1
 have fT:∀ s:Bytes,(∀ c∈s,bT c=true)→∀ r,az (s++r)=s.map PU.lit++az r:=by
  intro s
  induction s with
  | nil=>intro _ r;rfl
  | cons c s ih =>
    intro hs r
    have:=(q7 (c:=c) (by rw[hs c zKc];rfl)).1
    rw[zKf,cW this,ih (fun d hd=>hs d (zKb _ hd))]
    rfl
 have vl:∀ s:Bytes,(s.map PU.lit).map PU.val=s:=by intro s;simp[Function.comp_def,PU.val]
 have n58:∀ s:Bytes,(∀ c∈s,bT c=true)→(58:UInt8) ∉ s:=fun s hs hm=>absurd (hs _ hm) (by decide)
 have nb:∀ s:Bytes,PU.bad ∉ s.map PU.lit:=by intro s;simp
 by_cases h0:u.port=0
 ·have e:bf u=u.host:=by unfold bf;rw[if_pos h0,zKw]
  have e2:bc u.host u.port=u.host:=by unfold bc;rw[if_pos h0]
  have e3:=fT u.host hp []
  rw[zKw,dJ,zKw]at e3
  rw[e,e2,e3]
  exact⟨pw hp,n58 _ hp,host_ne h1,vl _,nb _⟩
 ·have e:bf u=u.host++([37,51,65]++cG u.port.natAbs):=by unfold bf;rw[if_neg h0]
  have e2:bc u.host u.port=u.host++[58]++cG u.port.natAbs:=by unfold bc;rw[if_neg h0,if_neg (by omega)]
  have e3:=fT u.host hp ([37,51,65]++cG u.port.natAbs)
  have e4:=fT _ (rB u.port.natAbs) []
  rw[zKw,dJ,zKw]at e4
  have e5:az ([37,51,65]++cG u.port.natAbs)=.hex 51 65::az (cG u.port.natAbs):=fk (by decide) (by decide) _
  rw[e,e2,e3,e5,e4]
  refine⟨jP (pw hp) (jP (a:=[37,51,65]) ⟨[.hex 51 65],rfl,fun x hx=>?_⟩ (pw (rB _))),?_,by simp,?_,?_⟩
  ·obtain rfl:=zKo.1 hx
   refine⟨by decide,by decide,by decide,by decide,by decide⟩
  ·simp only[zKr,not_or]
   exact⟨n58 _ hp,by decide,n58 _ (rB _)⟩
  ·rw[List.map_append,zKX,vl,vl]
   simp[PU.val]
   decide
  ·simp
theorem xt (c:UInt8):∀ (l:List Bytes),l≠[]→(∀ x∈l,x≠[])→(l.flatMap (c::·)).getLast? = (l.getLast?.getD []).getLast?
 | [],h,_=>absurd rfl h
 | [x],_,h=>by
   have hx:=h x zKc
   cases x with
   | nil=>exact absurd rfl hx
   | cons a x=>simp
 | x::y::l,_,h=>by
   have ih:=xt c (y::l) (by simp) (fun z hz=>h z (zKb _ hz))
   rw[zKa,zKW,ih]
   have bk:((y::l).getLast?.getD [])≠[]:=by
    cases hl:(y::l).getLast? with
    | none=>simp at hl
    | some z=>exact h z (zKb _ (zKQ hl))
   rw[List.getLast?_cons_cons]
   cases hz:((y::l).getLast?.getD []).getLast? with
   | none=>rw[List.getLast?_eq_none_iff]at hz;exact absurd hz bk
   | some z=>rfl
theorem Dq {u:eS}{ss:List Bytes}(hh:aH (bc u.host u.port)=((u.host,u.port),0))(hs:∀ s∈ss,s≠[]∧s≠[46]∧s≠[46,46])
 (hl:(bu ⟨dC,bf u++ss.flatMap fun s=>58::aO s⟩).length≤4096):y1 ⟨dC,bf u++ss.flatMap fun s=>58::aO s⟩:=by
 obtain⟨b1,b2,b3,b4,b5⟩:=qg hh
 have ef:(ss.flatMap fun s=>58::aO s)=(ss.map aO).flatMap (58::·):=by rw[zKM]
 have bk:∀ s∈ss,aO s≠[]:=fun s hm e=>by
  have h1:s≠[]:=(hs s hm).1
  have:=(lR s).1
  rw[e,dJ]at this
  exact h1 this.symm
 refine⟨show dy dC=true by decide,jP b1 ?_,by simp[b3],?_⟩
 ·clear hl bk hs ef
  induction ss with
  | nil=>exact vi
  | cons s ss ih=>exact jP (jP (a:=[58]) (vg (by decide)) (BF s)) ih
 ·simp only
  cases ss with
  | nil =>
    rw[zKV,zKw]
    intro k
    exact b2 (zKQ k)
  | cons s ss =>
    rw[ef,zKW,xt 58 _ (by simp) (by
     intro x hx
     obtain⟨t,ht,rfl⟩:=zKS.1 hx
     exact bk t ht)]
    obtain⟨t,ht,e⟩:∃ t∈s::ss,((s::ss).map aO).getLast?.getD []=aO t:=by
     rw[List.getLast?_map]
     cases hq:(s::ss).getLast? with
     | none=>simp at hq
     | some t=>exact⟨t,zKQ hq,rfl⟩
    rw[e]
    cases hz:(aO t).getLast? with
    | none=>rw[List.getLast?_eq_none_iff]at hz;exact absurd hz (bk t ht)
    | some z =>
      intro k
      obtain rfl:z=58:=by simpa using k
      exact qw t _ (zKQ hz) rfl
theorem zf {u:eS}{ss:List Bytes}(hh:aH (bc u.host u.port)=((u.host,u.port),0))(hs:∀ s∈ss,s≠[]∧s≠[46]∧s≠[46,46])
 (hl:(bu ⟨dC,bf u++ss.flatMap fun s=>58::aO s⟩).length≤4096) :
 bd ⟨dC,bf u++ss.flatMap fun s=>58::aO s⟩=((u.host,u.port),0)∧(aB 58 (bf u++ss.flatMap fun s=>58::aO s)).tail=ss.map aO∧(ss.map aO).all dW=true∧∀ s∈ss,(aj (aO s)).1=s:=by
 obtain⟨b1,b2,b3,b4,b5⟩:=qg hh
 have ef:(ss.flatMap fun s=>58::aO s)=(ss.map aO).flatMap (58::·):=by rw[zKM]
 have hlen:∀ s∈ss,(aO s).length≤4096:=by
  intro s hm
  have h1:(aO s).length≤(ss.flatMap fun s=>58::aO s).length:=by
   obtain⟨p,q,rfl⟩:=List.append_of_mem hm
   simp;omega
  simp[bu]at hl
  simp at h1
  omega
 have nD:(bf u).length≤4096:=by simp[bu]at hl;omega
 have Bc:∀ s∈ss,aj (aO s)=(s,0):=fun s hm=>wj (by have:=hlen s hm;omega)
 have bk:∀ s∈ss,aO s≠[]:=fun s hm e=>by
  have:=Bc s hm
  rw[e]at this
  exact(hs s hm).1 (zKK.inj this).1.symm
 have nv:aB 58 (bf u++ss.flatMap fun s=>58::aO s)=bf u::ss.map aO:=by
  rw[ef]
  refine rK 58 _ _ b2 fun y hy=>?_
  obtain⟨s,-,rfl⟩:=zKS.1 hy
  exact fun k=>qw s _ k rfl
 have C0:=Dq hh hs hl
 have hr:=Bs C0 hl
 refine⟨?_,by rw[nv];rfl,zKl.2 fun x hx=>?_,fun s hm=>by rw[Bc s hm]⟩
 ·unfold bd
  rw[if_neg (by simp),hr,if_neg (by simp)]
  simp only
  have hc:(aM 58 (bf u++ss.flatMap fun s=>58::aO s)).1=bf u:=by
   cases ss with
   | nil=>rw[zKV,zKw,fC (eC b2)]
   | cons s ss=>rw[zKa,zKf,lh (eC b2)]
  rw[hc]
  have hd:aj (bf u)=(bc u.host u.port,0):=by
   unfold aj
   rw[if_neg (by omega),if_neg b5,b4]
  rw[hd]
  exact hh
 ·obtain⟨s,hm,rfl⟩:=zKS.1 hx
  unfold dW
  rw[Bc s hm]
  have:=hs s hm
  simp[this.1,this.2.1,this.2.2]
theorem zq {d:fM}{u:eS}(h:eA d=(u,0)):bd d=((u.host,u.port),0)∧aH (bc u.host u.port)=((u.host,u.port),0)∧(∃ ss:List Bytes,(∀ s∈ss,s≠[]∧s≠[46]∧s≠[46,46])∧u=⟨u.host,u.port,if ss=[] then cF else ss.flatMap (fun s=>47::aE [] s)++47::e9,[],[],false,false⟩)∧(cy u).length≤4096:=by
 unfold eA at h
 split at h
 ·rename_i h1;exact absurd (zKK.inj h).2 h1
 rename_i h1
 split at h
 ·simp at h
 rename_i h2
 unfold jB at h
 split at h
 ·simp at h
 rename_i h3
 simp only[zKK.injEq,and_true]at h
 subst h
 have h1:(bd d).2=0:=by simpa using h1
 have e:bd d=(((bd d).1.1,(bd d).1.2),0):=by rw[← h1]
 refine⟨e,?_,⟨(aB 58 d.id).tail.map fun x=>(aj x).1,?_,?_⟩,by omega⟩
 ·simp only
  unfold bd at e h1 ⊢
  split at h1
  ·simp at h1
  rename_i k1
  rw[if_neg k1]at e ⊢
  split at h1
  ·rename_i k2;exact absurd h1 k2
  rename_i k2
  rw[if_neg k2]at e ⊢
  exact(ct e).1
 ·intro s hs
  obtain⟨x,hx,rfl⟩:=zKS.1 hs
  have h2:(aB 58 d.id).tail.all dW=true:=by simpa using h2
  have:=zKl.1 h2 x hx
  unfold dW at this
  simp only[zKs,bne_iff_ne,ne_eq]at this
  exact⟨this.1.1.2,this.1.2,this.2⟩
 ·simp only[eS.mk.injEq,true_and,and_true]
  unfold ie
  by_cases k:(aB 58 d.id).tail=[]
  ·rw[if_pos k,if_pos (by rw[k];rfl)]
  ·rw[if_neg k,if_neg (by rw[List.map_eq_nil_iff];exact k),zKM]
   rfl
theorem Gr {s:Bytes}(h:s≠[46]∧s≠[46,46]):lN (aE [] s):=by
 refine⟨Iy s,fun e=>h.1 (Ej (e.trans (by decide))),fun e=>h.2 (Ej (e.trans (by decide)))⟩
theorem GW (ss:List Bytes):ss.flatMap (fun s=>47::aE [] s)++47::e9=fF (ss.map (aE [])++[e9]):=by
 unfold fF
 rw[zKF,zKM]
 simp
theorem GV {ss:List Bytes}(h:∀ s∈ss,s≠[]∧s≠[46]∧s≠[46,46]):Can cM (ss.flatMap (fun s=>47::aE [] s)++47::e9)∧(∃ r,ss.flatMap (fun s=>47::aE [] s)++47::e9=47::r)∧aR (ss.flatMap (fun s=>47::aE [] s)++47::e9)=ss.flatMap (fun s=>47::aE [] s)++47::e9:=by
 refine⟨lV ?_ ?_,?_,?_⟩
 ·clear h
  induction ss with
  | nil=>exact iL _
  | cons s ss ih=>exact lV (lV (a:=[47]) (qy (by decide) (by decide)) (can_enc _ s)) ih
 ·refine⟨(47::e9).map PU.lit,by decide,?_⟩
  intro x hx
  obtain⟨c,hc,rfl⟩:=zKS.1 hx
  show c9 cM c=true∧c≠37
  revert c;decide
 ·cases ss with
  | nil=>exact⟨_,rfl⟩
  | cons s ss=>exact⟨_,rfl⟩
 ·rw[GW]
  show dP _ _ []=_
  rw[nH _ _ _ (zKj _),zKv]
  intro x hx
  rcases zKr.1 hx with hx|hx
  ·obtain⟨s,hs,rfl⟩:=zKS.1 hx
   exact Gr (h s hs).2
  ·obtain rfl:=zKo.1 hx
   refine⟨by decide,by decide,by decide⟩
theorem zR:Can cM cF∧aR cF=cF:=by
 refine⟨⟨cF.map PU.lit,by decide,?_⟩,by decide +kernel⟩
 intro x hx
 obtain⟨c,hc,rfl⟩:=zKS.1 hx
 show c9 cM c=true∧c≠37
 revert c;decide
theorem wA {d:fM}{u:eS}(h:eA d=(u,0)):ja u∧u.bh=false∧u.bA=false∧bd d=((u.host,u.port),0):=by
 obtain⟨h1,h2,⟨ss,h3,h4⟩,h5⟩:=zq h
 have hq:u.bh=false:=by rw[h4]
 have hf:u.bA=false:=by rw[h4]
 have hqu:u.query=[]:=by rw[h4]
 have jx:u.fragment=[]:=by rw[h4]
 have hp:Can cM u.path∧(∃ r,u.path=47::r)∧aR u.path=u.path:=by
  rw[h4]
  simp only
  split
  ·exact⟨zR.1,⟨_,rfl⟩,zR.2⟩
  ·exact GV h3
 exact⟨⟨h2,hp.1,hp.2.1,hp.2.2,by rw[hqu];exact iL _,by rw[jx];exact iL _,fun _=>hqu,fun _=>jx,h5⟩,hq,hf,h1⟩
theorem uT {d c:fM}(h:gV d=(c,0)):c=d∧(bu d).length≤4096:=by
 unfold gV at h
 split at h
 ·simp at h
 ·exact⟨(zKK.inj h).1.symm,by omega⟩
theorem zp {u:eS}{ss:List Bytes}(hu:ja u)(hq:u.bh=false)(hf:u.bA=false)(hs:∀ s∈ss,s≠[]∧s≠[46]∧s≠[46,46])(hp:u.path=if ss=[] then cF else ss.flatMap (fun s=>47::aE [] s)++47::e9)
 (hl:(bu ⟨dC,bf u++ss.flatMap fun s=>58::aO s⟩).length≤4096):eA ⟨dC,bf u++ss.flatMap fun s=>58::aO s⟩=(u,0):=by
 obtain⟨h1,h2,h3,h4⟩:=zf hu.host hs hl
 have e:ie (ss.map aO)=u.path:=by
  rw[hp]
  unfold ie
  by_cases k:ss=[]
  ·rw[if_pos (by rw[k];rfl),if_pos k]
  ·rw[if_neg (by simpa using k),if_neg k,zKM]
   congr 1
   clear hp hl h1 h2 h3 k hs
   induction ss with
   | nil=>rfl
   | cons s ss ih =>
     rw[zKa,zKa,ih (fun t ht=>h4 t (zKb _ ht)),gM,h4 s zKc]
 unfold eA
 rw[h1,if_neg (by simp)]
 simp only
 rw[h2,h3,if_neg (by simp),e]
 have eu:(⟨u.host,u.port,u.path,[],[],false,false⟩:eS)=u:=by
  have q1:=hu.noq hq
  have q2:=hu.nof hf
  obtain⟨a,b,c,d,f,g,h⟩:=u
  simp only at hq hf q1 q2
  subst hq hf q1 q2
  rfl
 rw[eu]
 unfold jB
 rw[if_neg (by have:=hu.len;omega)]
theorem Bl {also:Bytes}:∀ (l:List Bytes)(x:Bytes),Can also (x++l.flatMap (47::·))→Can also x∧∀ y∈l,Can also y
 | [],x,h=>⟨by simpa using h,by simp⟩
 | y::l,x,h=>by
   rw[zKa,zKf]at h
   obtain⟨h1,h2⟩:=h.split (by decide) (by decide)
   obtain⟨h3,h4⟩:=Bl l y (BD (by decide) h2).2
   refine⟨h1,fun z hz=>?_⟩
   rcases zKq.1 hz with rfl|hz
   ·exact h3
   ·exact h4 z hz
theorem Iz {also x:Bytes}(h:Can also x)(hd:x.all cV=true):aE [] (aj x).1=x∨16384<x.length:=by
 by_cases hl:16384<x.length
 ·exact .inr hl
 left
 obtain⟨l,rfl,hk⟩:=h
 have hu:=qN also l hk
 have hb:PU.bad ∉ az (l.flatMap PU.str):=by rw[hu];exact fun k=>(hk _ k).elim
 unfold aj
 rw[if_neg hl,if_neg hb,hu]
 clear hu hb hl
 simp only
 induction l with
 | nil=>rfl
 | cons y l ih =>
   rw[zKa,zK3,zKs]at hd
   have ih:=ih (fun z hz=>hk z (zKb _ hz)) hd.2
   have hy:=hk y zKc
   rw[zKa,zKX]
   show iA [] y.val++aE [] (l.map PU.val)=_
   rw[ih]
   congr 1
   cases y with
   | lit c =>
     have:cV c=true:=by simpa[PU.str] using hd.1
     unfold cV at this
     have vA:(c==37)=false:=by simpa using hy.2
     rw[vA,Bool.false_or]at this
     simp[PU.val,iA,this,PU.str]
   | hex a b =>
     simp only[PU.val,iA,hy.1,PU.str]
     rw[if_neg (by simp)]
     unfold jX
     rw[← hy.2.1,← hy.2.2.1]
   | bad=>exact hy.elim
theorem from_to {u:eS}{x:fM}(hu:ja u)(h:fW u=(x,0)):eA x=(u,0)∧∃ ss:List Bytes,x=⟨dC,bf u++ss.flatMap fun s=>58::aO s⟩∧(bu x).length≤4096∧∀ s∈ss,s≠[]∧s≠[46]∧s≠[46,46]:=by
 unfold fW at h
 split at h
 ·simp at h
 split at h
 ·simp at h
 rename_i h1 h2
 simp only[not_or,ne_eq,Classical.not_not]at h2
 obtain⟨h2,h3,h4⟩:=h2
 have h2:u.bh=false:=by simpa using h2
 have h3:u.bA=false:=by simpa using h3
 split at h
 ·simp at h
 rename_i h5
 unfold fe at h
 split at h
 ·rename_i h6
  obtain⟨rfl,hl⟩:=uT h
  refine⟨?_,[],by simp,hl,by simp⟩
  have:=zp (ss:=[]) hu h2 h3 (by simp) (by rw[if_pos rfl];exact h6) (by simpa using hl)
  simpa using this
 rename_i h6
 split at h
 ·simp at h
 rename_i h7
 have h7:(aB 47 u.path).tail.dropLast.all bI=true:=by simpa using h7
 obtain⟨x0,l0,e1,e2,e3,e4⟩:=rI 47 _ u.path (zKj _)
 obtain⟨r,hr⟩:=hu.Du
 have hx0:x0=[]:=by
  cases x0 with
  | nil=>rfl
  | cons a x0 =>
    rw[e2]at hr
    have:a=47:=by simpa using(zKC.inj hr).1
    subst this
    exact absurd zKc e3
 subst hx0
 rw[e1,List.tail_cons]at h h4 h5 h7
 rw[zKv]at e2
 obtain⟨l,rfl⟩:∃ l,l0=l++[e9]:=by
  have bk:l0≠[]:=by rintro rfl;simp at h4
  refine⟨l0.dropLast,?_⟩
  have:=List.dropLast_concat_getLast bk
  rw[List.getLast?_eq_some_getLast bk]at h4
  rw[← zKO.inj h4];exact this.symm
 rw[List.dropLast_concat]at h h7
 obtain⟨rfl,hl⟩:=uT h
 have C0:∀ y∈l,Can cM y:=by
  have:=hu.path
  rw[e2]at this
  exact fun y hy=>(Bl (l++[e9]) [] (by simpa using this)).2 y (List.mem_append_left _ hy)
 have Ft:∀ y∈l,y≠[46]∧y≠[46,46]:=by
  intro y hy
  have hc:=(u9 r).2
  have hd:=hu.dots
  rw[hr]at hd
  rw[hd]at hc
  rw[hr]at e1
  exact hc y (by rw[e1];exact zKb _ (List.mem_append_left _ hy))
 have hplen:u.path.length≤4096:=by have:=(mE u).1;have:=hu.len;omega
 have hyl:∀ y∈l,y.length≤4096:=by
  intro y hy
  have:y.length≤u.path.length:=by
   rw[e2]
   obtain⟨p,q,rfl⟩:=List.append_of_mem hy
   simp;omega
  omega
 have henc:∀ y∈l,aE [] (aj y).1=y:=by
  intro y hy
  have hd:=zKl.1 h7 y hy
  unfold bI at hd
  simp only[zKs]at hd
  rcases Iz (C0 y hy) hd.1.1 with k|k
  ·exact k
  ·have:=hyl y hy;omega
 have hss:∀ s∈l.map (fun y=>(aj y).1),s≠[]∧s≠[46]∧s≠[46,46]:=by
  intro s hs
  obtain⟨y,hy,rfl⟩:=zKS.1 hs
  have hd:=zKl.1 h7 y hy
  unfold bI at hd
  simp only[zKs,bne_iff_ne,ne_eq]at hd
  have he:=henc y hy
  refine⟨hd.2,fun k=>(Ft y hy).1 ?_,fun k=>(Ft y hy).2 ?_⟩
  ·rw[← he,k];decide
  ·rw[← he,k];decide
 have hid:l.flatMap bn=(l.map (fun y=>(aj y).1)).flatMap fun s=>58::aO s:=by
  rw[zKM];rfl
 have hpath:u.path=if l.map (fun y=>(aj y).1)=[] then cF else(l.map (fun y=>(aj y).1)).flatMap (fun s=>47::aE [] s)++47::e9:=by
  rw[if_neg (by intro k;rw[List.map_eq_nil_iff]at k;subst k;simp at h5)]
  rw[e2,zKF,zKM]
  have:∀ m:List Bytes,(∀ y∈m,aE [] (aj y).1=y)→m.flatMap (fun y=>47::aE [] (aj y).1)=m.flatMap (47::·):=by
   intro m
   induction m with
   | nil=>intro _;rfl
   | cons y m ih =>
     intro hm
     rw[zKa,zKa,ih (fun z hz=>hm z (zKb _ hz)),hm y zKc]
  rw[this l henc]
  simp
 rw[hid]at hl ⊢
 exact⟨zp hu h2 h3 hss hpath hl,_,rfl,hl,hss⟩
theorem oJ {d c:fM}(h:eo d=(c,0)):∃ u,ja u∧eA c=(u,0)∧fW u=(c,0)∧eo c=(c,0)∧bd c=((u.host,u.port),0)∧aZ (bu c)=(c,0)∧(∃ r,c.id=bf u++r)∧c.method=dC:=by
 unfold eo at h
 split at h
 ·rename_i h1;exact absurd (zKK.inj h).2 h1
 rename_i h1
 have e:eA d=((eA d).1,0):=by
  have:(eA d).2=0:=by simpa using h1
  rw[← this]
 obtain⟨hu,-⟩:=wA e
 obtain⟨h2,ss,h3,h4,h5⟩:=from_to hu h
 have hw:=zf hu.host h5 (by rw[← h3];exact h4)
 rw[← h3]at hw
 have hc:y1 c:=by
  have hl:(bu ⟨dC,bf (eA d).1++ss.flatMap fun s=>58::aO s⟩).length≤4096:=by rw[← h3];exact h4
  have:=Dq hu.host h5 hl
  rw[← h3]at this
  exact this
 exact⟨_,hu,h2,h,by unfold eo;rw[h2];simp only[ne_eq,not_true,if_false];exact h,hw.1,Bs hc h4,⟨ss.flatMap fun s=>58::aO s,by rw[h3]⟩,by rw[h3]⟩
open Go Go.RowKit
theorem nL (c:UInt8)(s:Bytes):∃ l,aB c s=(aM c s).1::l:=by
 by_cases hp:pre (·==c) s<s.length
 ·rw[cD hp,show aM c s=(s.take (pre (·==c) s),s.drop (pre (·==c) s+1),true) from if_pos hp]
  exact⟨_,rfl⟩
 ·rw[bW hp,show aM c s=(s,[],false) from if_neg hp]
  exact⟨_,rfl⟩
theorem BC {s:Bytes}(h:(cx s).2=0):PU.bad ∉ az s:=by
 intro hb
 unfold cx at h
 rw[if_pos hb]at h
 simp at h
theorem nO {d:fM}(hm:d.method=dC)(h:(aZ (bu d)).2=0):d.id.length≤4096∧∀ y∈aB 58 d.id,PU.bad ∉ az y∧y.length≤4096:=by
 obtain⟨m,i⟩:=d
 simp only at hm
 subst hm
 have ht:bu ⟨dC,i⟩=jY++(dC++58::i):=by simp[bu]
 unfold aZ at h
 split at h
 ·simp at h
 rename_i h1
 have hp:jY.isPrefixOf (bu ⟨dC,i⟩)=true:=by rw[ht];exact zKn.2 ⟨_,rfl⟩
 rw[if_neg (by rw[hp];simp),ht,show (jY++(dC++58::i)).drop 4=dC++58::i from rfl]at h
 have hc:aM 58 (dC++58::i)=(dC,i,true):=by
  rw[FM (c:=58) (a:=dC) (58::i) (by decide)]
  rfl
 unfold lQ at h
 rw[hc]at h
 simp only at h
 rw[if_neg (by simp),if_neg (by decide)]at h
 have h2:(cx i).2=0:=by
  by_cases k:(cx i).2=0
  ·exact k
  ·unfold jN at h
   rw[if_pos k]at h
   exact h
 have hb:=BC h2
 obtain⟨x,l,e1,e2,e3⟩:=oM 58 _ i (zKj _)
 have hu:=(oN l x).1
 rw[← e2]at hu
 have dR:i.length≤4096:=by
  rw[ht]at h1
  simp only[zKk,zKi]at h1
  omega
 refine⟨dR,fun y hy=>⟨fun k=>hb (hu.1 ⟨y,by rw[← e1];exact hy,k⟩),?_⟩⟩
 have:=ig 58 i y hy
 omega
theorem vo {d:fM}(hm:d.method=dC)(h:(aZ (bu d)).2=0):aj (aM 58 d.id).1=(jr (aM 58 d.id).1,0):=by
 obtain⟨h1,h2⟩:=nO hm h
 obtain⟨l,e⟩:=nL 58 d.id
 obtain⟨h3,h4⟩:=h2 (aM 58 d.id).1 (by rw[e];exact zKc)
 rw[lS (by omega),if_neg h3]
theorem cI (s:Bytes):(aj s).1.length≤s.length:=by
 unfold aj
 split
 ·simp
 ·split
  ·simp
  ·exact jO s
theorem EO (x:Bytes):(gM x).length≤3 * x.length+1:=by
 have h1:=dD [] (aj x).1
 have h2:=cI x
 unfold gM
 simp only[zKi]
 omega
theorem zG (x:Bytes):(bn x).length≤3 * x.length+1:=by
 have h1:=fg (aj x).1
 have h2:=cI x
 unfold bn
 simp only[zKi]
 omega
theorem yL:∀ l:List Bytes,(l.flatMap gM).length≤3 * l.flatten.length+l.length
 | []=>by simp
 | x::l=>by
   have:=EO x
   have:=yL l
   simp only[zKa,zKk,zKP,zKi]
   omega
theorem rv:∀ l:List Bytes,(l.flatMap bn).length≤3 * l.flatten.length+l.length
 | []=>by simp
 | x::l=>by
   have:=zG x
   have:=rv l
   simp only[zKa,zKk,zKP,zKi]
   omega
theorem lC (c:UInt8)(s:Bytes):(aB c s).flatten.length+(aB c s).length=s.length+1:=by
 obtain⟨x,l,e1,e2,-⟩:=oM c _ s (zKj _)
 rw[e1]
 conv=>rhs;rw[e2]
 have:∀ l:List Bytes,(l.flatMap (c::·)).length=l.flatten.length+l.length:=by
  intro l
  induction l with
  | nil=>rfl
  | cons y l ih=>simp only[zKa,zKk,zKP,zKi,ih];omega
 simp only[zKP,zKk,zKi,this]
 omega
theorem escDown (s:Bytes):(aE [] s).flatMap (mR 126 [37,55,69])=aO s:=by
 induction s with
 | nil=>rfl
 | cons c s ih =>
   show (iA [] c++aE [] s).flatMap _=gX c++aO s
   rw[zKF,ih]
   congr 1
   have:=dj (p:=fun c=>(iA [] c).flatMap (mR 126 [37,55,69])==gX c) (by decide +kernel) c
   simpa using this
theorem wB (c:UInt8)(s:Bytes):Lib.splitK [c] 0 (Lib.count s [c]) s=aB c s:=tj c _ s (Lib.count_one c s).symm
theorem u0 {d:fM}(h:(bd d).2=0):aH (bc (bd d).1.1 (bd d).1.2)=(((bd d).1.1,(bd d).1.2),0)∧d.method=dC∧(aZ (bu d)).2=0:=by
 unfold bd at h ⊢
 by_cases h1:d.method=dC
 ·rw[if_neg (by simp[h1])]at h ⊢
  by_cases h2:(aZ (bu d)).2=0
  ·rw[if_neg (by simp[h2])]at h ⊢
   refine⟨?_,h1,h2⟩
   generalize hX:aH (aj (aM 58 d.id).1).1=X at h ⊢
   obtain⟨⟨x,p⟩,e⟩:=X
   simp only at h ⊢
   subst h
   exact(ct hX).1
  ·rw[if_pos h2]at h
   exact absurd h h2
 ·rw[if_pos h1]at h
  simp at h
theorem rG {u:eS}(hv:fN u=true):∃ (T:List Bytes) (z:Bytes),aB 47 u.path=(aM 47 u.path).1::T∧T.getLast? = some z∧0<T.length∧u.path.length≤4096:=by
 have hc:=qL hv
 obtain⟨r,hr⟩:=hc.Du
 have hl:=(mE u).1
 have hlen:=hc.len
 obtain⟨T,hT⟩:=nL 47 u.path
 have h0:pre (·==47) (47::r)=0:=by simp[bX]
 have e:aB 47 (47::r)=[]::aB 47 r:=by
  rw[cD (by rw[h0];simp),h0]
  rfl
 have hT2:=hT
 rw[hr,e]at hT2
 have h2:=iD 47 r
 have h3:aB 47 r=T:=(zKC.inj hT2).2
 have hT0:T≠[]:=by rintro rfl;rw[h3]at h2;simp at h2
 refine⟨T,T.getLast hT0,hT,List.getLast?_eq_some_getLast hT0,zK1.2 hT0,by omega⟩
theorem uR {u:eS}{c z:Bytes}{T:List Bytes}(hv:fN u=true)(hT:aB 47 u.path=c::T)(hz:T.getLast? = some z) :
 fW u=if u.bh=true then(fM.none,6) else if u.bA=true then(fM.none,6) else if (z != e9)=true then(fM.none,6) else if T.length=1 then(fM.none,110) else fe u T.dropLast:=by
 unfold fW
 rw[if_neg (by rw[hv];simp),hT,List.tail_cons,hz]
 by_cases h1:u.bh=true
 ·rw[if_pos (.inl h1),if_pos h1]
 rw[if_neg h1]
 by_cases h2:u.bA=true
 ·rw[if_pos (.inr (.inl h2)),if_pos h2]
 rw[if_neg h2]
 by_cases h3:z=e9
 ·have hn:¬ (u.bh=true∨u.bA=true∨some z≠some e9):=by simp[h1,h2,h3]
  have hm:¬ (z != e9)=true:=by simp[h3]
  rw[if_neg hn,if_neg hm]
 ·rw[if_pos (.inr (.inr (by simpa using h3))),if_pos (by simpa using h3)]
end Wf
namespace Go.Proofs.YteipdaijbncgeaaGreatDoor
open Go Vc Go.RowKit
theorem Fq (w:World)(o:Obj):(w.alloc o).heap[w.heap.size]? = some o:=by
 show (w.heap.push o)[w.heap.size]? = some o
 simp
theorem CY (w:World)(o:Obj):(w.alloc o).heap.size=w.heap.size+1:=by
 show (w.heap.push o).size=_
 simp
theorem sc_row {V:Cx}{f:FuncId}{args:List SV}{bs:List ay}{c:List SV}{T:TypeId}(iZ:Vc.Enters V f)(hfa:flat.ai args=true)(hfc:flat.ai c=true)(hn:c.length≤maxLen)
 (h:∀ w,V.E w→Calls V.P f (aI jR args).toArray w fun e w'=>e=.returned (.slice (some ⟨w.heap.size,0,none⟩) c.length c.length)∧w'=w.alloc (.cells (aI jR c).toArray T)) :
 SC V f args bs (fun r b=>r=.o bs.length c.length∧b=bs++[.own c T 1 c.length true]):=by
 refine⟨iZ,fun β fp w fU hG hE=>?_⟩
 rw[di args hfa β jR]
 refine(h w hE).mono ?_
 rintro e w' ⟨rfl,rfl⟩
 have hb:Below w.heap.size w (w.alloc (.cells (aI jR c).toArray T)):=Below.alloc (Below.refl _ _) (zKj _) _
 refine⟨.o bs.length c.length,bs++[.own c T 1 c.length true],fun i=>if i<bs.length then β i else⟨w.heap.size,0,c.length+1⟩,
  fun i k=>if i<bs.length then fp i k else(i=bs.length∧k=w.heap.size),⟨rfl,rfl⟩,fun i hi=>by simp[hi],by simp,fun β' hβ=>?_,mD.jE hb,?_⟩
 ·have hAgr:bp bs.length β β':=fun i hi=>by
   have:=hβ i (by rw[zKk];omega)
   simpa[hi] using this
  have F3:β' bs.length=⟨w.heap.size,0,c.length+1⟩:=by
   have:=hβ bs.length (by simp)
   simpa using this.symm
  have hbw:=fU β' hAgr
  refine⟨?_,?_,?_,?_⟩
  ·simp[ah,F3,oV]
  ·intro i r hi
   rcases zKu i bs.length with aA|rm
   ·rw[zKe aA]at hi
    have:=(hbw.holds i r hi).stays (w':=w.alloc (.cells (aI jR c).toArray T)) (fun k hk=>hb.block k (hbw.lt i r hi k hk))
    simpa[aA] using this
   ·rw[zKx rm]at hi
    obtain rfl:i=bs.length:=by
     rcases Nat.eq_or_lt_of_le rm with e|e
     ·exact e.symm
     ·rw[List.getElem?_eq_none (by simp;omega)]at hi;cases hi
    simp only[Nat.sub_self,List.getElem?_cons_zero,zKO.injEq]at hi
    subst hi
    right
    have hc:(aI jR c)=c.map (ah β'):=by rw[← bO,di c hfc jR β']
    have hhd:Head (w.alloc (.cells (aI jR c).toArray T)) w.heap.size T (c.map (ah β')) [] (0,0):=⟨by rw[zKw,← hc];exact Fq _ _,.inr (zKj _)⟩
    rw[F3]
    exact⟨by simp,by simp,by simpa using hn,by simp,hhd.sA,fun _=>⟨rfl,[],(0,0),hhd,.inr (.inl (zKj _)),by simp⟩,fun k=>by simp⟩
  ·intro i r hi k hk
   rcases zKu i bs.length with aA|rm
   ·rw[zKe aA]at hi
    simp only[aA,if_true]at hk
    exact Nat.lt_of_lt_of_le (hbw.lt i r hi k hk) hb.size
   ·simp only[show ¬ i<bs.length by omega,if_false]at hk
    rw[hk.2,CY]
    omega
  ·intro i j r r' hi hj vx hm k hk hk'
   rcases zKu i bs.length with aA|rm
   ·rw[zKe aA]at hi
    simp only[aA,if_true]at hk
    rcases zKu j bs.length with BU|hjg
    ·rw[zKe BU]at hj
     simp only[BU,if_true]at hk'
     exact hbw.sep i j r r' hi hj vx hm k hk hk'
    ·simp only[show ¬ j<bs.length by omega,if_false]at hk'
     have:=hbw.lt i r hi k hk
     omega
   ·simp only[show ¬ i<bs.length by omega,if_false]at hk
    rcases zKu j bs.length with BU|hjg
    ·rw[zKe BU]at hj
     simp only[BU,if_true]at hk'
     have:=hbw.lt j r' hj k hk'
     omega
    ·simp only[show ¬ j<bs.length by omega,if_false]at hk'
     omega
 ·refine⟨fun i r' hi hm k hk=>?_,fun i r' hi k hk=>?_⟩
  ·rcases zKu i bs.length with aA|rm
   ·rw[zKe aA]at hi
    simp only[aA,if_true]at hk
    exact .inr ⟨i,r',hi,hm,hk⟩
   ·simp only[show ¬ i<bs.length by omega,if_false]at hk
    exact .inl (by omega)
  ·rcases zKu i bs.length with aA|rm
   ·rw[zKe aA]at hi
    simp only[aA,if_true]at hk
    exact .inr ⟨i,r',hi,hk⟩
   ·simp only[show ¬ i<bs.length by omega,if_false]at hk
    exact .inl (by omega)
open Go.RowKit Wf
attribute [local go_sem] fB eF get_list
theorem Bo (r:Int)(h1:128≤r)(h4:Lib.validRune r=true):∃ el:Bytes,Utf8.encode r=⟨zJ9 el⟩∧2≤el.length∧el.length≤4∧∀ h:el.length - 1<el.length,128≤el[el.length - 1].toNat:=by
 have hv:Utf8.valid r=true:=by
  unfold Lib.validRune at h4
  have:=of_decide_eq_true h4
  unfold Utf8.valid
  simp
  omega
 obtain⟨n,rfl⟩:=Int.eq_ofNat_of_zero_le (show 0≤r by omega)
 have hn:128≤n:=by omega
 have key:∀ m:Nat,128≤(UInt8.ofNat (0x80+m % 64)).toNat:=by
  intro m
  rw[UInt8.toNat_ofNat']
  omega
 unfold Utf8.encode
 rw[if_pos hv]
 simp only[Int.toNat_natCast]
 rw[if_neg (show ¬ n<128 by omega)]
 split
 ·exact⟨_,rfl,by simp,by simp,fun _=>key _⟩
 ·split
  ·exact⟨_,rfl,by simp,by simp,fun _=>key _⟩
  ·exact⟨_,rfl,by simp,by simp,fun _=>key _⟩
theorem yC (l:Bytes)(c:UInt8)(h:∀ b∈l,b≠c):Lib.indexByte l c=-1:=by
 induction l with
 | nil=>rfl
 | cons b l ih =>
   have h1:=h b (by simp)
   have h2:=ih fun x hx=>h x (by simp[hx])
   simp[Lib.indexByte,h1,h2]
set_option maxRecDepth 100000 in
theorem vY (l:Bytes)(w:World)(ha:∀ i (h:i<l.length),l[i].toNat<128)(hl:l.length≤1000000) :
 Calls Tryz.prog 193 #[(Value.string ⟨zJ9 (l)⟩),.int .i32 65533] w fun e w'=>e=.returned (.int .i64 (-1))∧Below w.heap.size w w':=by
 go_enter Tryz.func193,Tryz.ntmps193
 have Ha:=hid ha
 clear ha
 go_wp2_with fail
 go_loopw [] (fun wr=>∃ i:Nat,i≤l.length∧wr=w.iter ⟨zJ9 l⟩ i) (fun wr=>l.length - wr.iterPos w.heap.size)
 case atStart=>exact⟨0,by omega,rfl⟩
 case round =>
  obtain⟨i,hi,rfl⟩:=hrel
  by_cases aA:i<l.length
  ·have hnx:=fun ty=>run_next_ascii (P:=Tryz.prog) w ⟨zJ9 l⟩ i ty aA (Ha.out i aA)
   have hb:=Ha.out i aA
   have hx:((l[i].toNat:Int)==65533)=false:=beq_eq_false_iff_ne.2 (by omega)
   simp only[get_list]at hnx
   go_wp2_with fail
   go_roundw
   case rel=>exact⟨i+1,by omega,rfl⟩
   case measure=>simp;omega
  ·have hnx:=run_next_end (P:=Tryz.prog) w ⟨zJ9 l⟩ i
   have kC:l.length≤i:=by omega
   go_wp2_with fail
   go_ret
   exact⟨rfl,(Below.refl _ _).alloc (zKj _) _⟩
set_option maxRecDepth 100000 in
theorem vZ (l:Bytes)(r:Int)(w:World)(h1:128≤r)(h2:r≤2147483647)(h3:(r==65533)=false)(h4:Lib.validRune r=false) :
 Calls Tryz.prog 193 #[(Value.string ⟨zJ9 (l)⟩),.int .i32 r] w fun e w'=>e=.returned (.int .i64 (-1))∧Below w.heap.size w w':=by
 have h5:=hid h4
 go_enter Tryz.func193,Tryz.ntmps193
 go_wp2_with (go_at_call 207;refine(Tryz.utf8_ValidRune _ _).mono ?_;rintro e w' ⟨rfl,rfl⟩)
 go_ret
 exact⟨rfl,Below.refl _ _⟩
set_option maxRecDepth 100000 in
theorem uv (l:Bytes)(r:Int)(w:World)(ha:∀ i (h:i<l.length),l[i].toNat<128)(hl:l.length≤1000000)(h1:128≤r)(h2:r≤2147483647)(h3:(r==65533)=false)(h4:Lib.validRune r=true) :
 Calls Tryz.prog 193 #[(Value.string ⟨zJ9 (l)⟩),.int .i32 r] w fun e w'=>e=.returned (.int .i64 (-1))∧Below w.heap.size w w':=by
 have Ha:=hid ha
 clear ha
 go_enter Tryz.func193,Tryz.ntmps193
 go_wp2_with (go_at_call 207;refine(Tryz.utf8_ValidRune _ _).mono ?_;rintro e w' ⟨rfl,rfl⟩)
 go_step3
 go_wp2_with fail
 obtain⟨el,mh,he1,he2,he3⟩:=Bo r h1 h4
 have He3:=hid he3
 clear he3
 rw[mh]
 have hx:wrap64 ((ByteArray.size ⟨zJ9 el⟩:Int) - 1)=((el.length - 1:Nat):Int):=by
  have:ByteArray.size ⟨zJ9 el⟩=el.length:=rfl
  rw[this,IntWalk.wrap64_in _ ⟨by omega,by omega⟩]
  omega
 rw[hx]
 clear mh hx h1 h2 h3 h4
 refine wp_loop_once ?_
 by_cases aA:el.length - 1<l.length
 ·have hle:el.length - 1<el.length:=by omega
  have hbt:=Ha.out _ aA
  have hc:=He3.out (by omega)
  have bk:((l[el.length - 1].toNat:Int) != (el[el.length - 1].toNat:Int))=true:=by rw[bne_iff_ne];omega
  have fA:=yC (l.drop (el.length - 1+1)) el[el.length - 1] (fun b hb hx=>by
   obtain⟨j,hj,rfl⟩:=List.mem_iff_getElem.1 hb
   rw[List.getElem_drop]at hx
   have h1:=Ha.out (el.length - 1+1+j) (by simp at hj;omega)
   rw[hx]at h1
   omega)
  have Hno:=hid fA
  clear fA
  go_wp2_with fail
  go_step3
  go_wp2_with fail
  go_quiet (fail)
  go_wp2_with fail
  have hb:Below w'.heap.size w' (w'.drewN nq):=below_drewN (Below.refl _ _) _
  generalize w'.drewN nq=w2 at hb ⊢
  have CO:IntKind.i64.wrap (((el.length - 1:Nat):Int)+1)=((el.length - 1:Nat):Int)+1:=IntWalk.i64_in _ (by omega)
  have fK:(0:Int)≤((el.length - 1:Nat):Int)+1:=by omega
  have hs3:(((el.length - 1:Nat):Int)+1).toNat=el.length - 1+1:=by omega
  have hs4:((el.length - 1:Nat):Int)+1≤(l.length:Int):=by omega
  go_quiet ((go_at_call 144;refine Calls.quiet_of_same (Tryz.strings_IndexByte _ _ _)))
  clear CO fK hs3 hs4
  rw[show ((el[el.length - 1].toNat:Int)).toNat.toUInt8=el[el.length - 1] from by simp,Hno.out]
  go_wp2_with fail
  rw[Exit.noGoto_ret]
  go_wp2_with fail
  rw[Exit.noGoto_ret]
  go_ret
  exact⟨rfl,below_drewN hb _⟩
 ·go_wp2_with fail
  rw[Exit.noGoto_ret]
  go_ret
  exact⟨rfl,Below.refl _ _⟩
theorem Cz (s:ByteArray)(set:Bytes)(i k:Nat)(hn:Lib.NoAny s.data.toList set i)(iu:∀ j (h:j<set.length),set[j].toNat<128)(hh:∀ j,i≤j→j<i+k→∀ h:j<s.size,128≤s[j].toNat):Lib.NoAny s.data.toList set (i+k):=by
 intro j b hj hb
 by_cases lM:j<i
 ·exact hn j b lM hb
 ·obtain⟨hjs,rfl⟩:=zKh.1 hb
  have hs:j<s.size:=by rw[Lib.size_eq];exact hjs
  have h1:128≤(s.data.toList[j]).toNat:=hh j (by omega) hj hs
  rw[Bool.eq_false_iff]
  intro hc
  have o7:=zKB.1 hc
  obtain⟨q,hq,he⟩:=List.mem_iff_getElem.1 o7
  have h2:=iu q hq
  rw[he]at h2
  omega
theorem Ij (s:ByteArray)(j:Nat)(h:j<s.size):(s.get! j).toNat=s[j].toNat:=by
 have:=get_at s j h
 rw[Nat.add_zero]at this
 rw[this]
theorem jy (s:ByteArray)(j:Nat)(h:(decide (j<s.size)&&(s.get! j).toNat / 64==2)=true):j<s.size∧∀ h:j<s.size,128≤s[j].toNat:=by
 simp only[zKs,decide_eq_true_eq,beq_iff_eq]at h
 refine⟨h.1,fun hj=>?_⟩
 have:=h.2
 rw[Ij s j hj]at this
 omega
def Span (s:ByteArray)(i:Nat)(p:Nat × Nat):Prop:=i+p.2≤s.size∧∀ j,i≤j→j<i+p.2→∀ h:j<s.size,128≤s[j].toNat
theorem By (s:ByteArray)(i:Nat)(h:i<s.size)(hx:128≤s[i].toNat):Span s i (Utf8.decode s i):=by
 have one:∀ e,Span s i (e,1):=fun e=>⟨by dsimp only;omega,fun j h1 h2 h3=>by
  dsimp only at h2
  obtain rfl:j=i:=by omega
  exact hx⟩
 unfold Utf8.decode
 dsimp only
 split
 ·exact one _
 split
 ·rename_i hc
  simp only[zKs]at hc
  have c1:=jy s (i+1) (by simpa using hc.2)
  split
  ·refine⟨by dsimp only;omega,fun j h1 h2 h3=>?_⟩
   dsimp only at h2
   rcases zKu j (i+1) with h' | h'
   ·exact(one 0).2 j h1 h' h3
   ·obtain rfl:j=i+1:=by omega
    exact c1.2 h3
  ·exact one _
 ·split
  ·rename_i hc
   simp only[zKs]at hc
   have c1:=jy s (i+1) (by simpa using hc.1.2)
   have c2:=jy s (i+2) (by simpa using hc.2)
   split
   ·refine⟨by dsimp only;omega,fun j h1 h2 h3=>?_⟩
    dsimp only at h2
    rcases zKu j (i+1) with h' | h'
    ·exact(one 0).2 j h1 h' h3
    ·rcases zKu j (i+2) with h'' | h''
     ·obtain rfl:j=i+1:=by omega
      exact c1.2 h3
     ·obtain rfl:j=i+2:=by omega
      exact c2.2 h3
   ·exact one _
  ·split
   ·rename_i hc
    simp only[zKs]at hc
    have c1:=jy s (i+1) (by simpa using hc.1.1.2)
    have c2:=jy s (i+2) (by simpa using hc.1.2)
    have c3:=jy s (i+3) (by simpa using hc.2)
    split
    ·refine⟨by dsimp only;omega,fun j h1 h2 h3=>?_⟩
     dsimp only at h2
     rcases zKu j (i+1) with h' | h'
     ·exact(one 0).2 j h1 h' h3
     ·rcases zKu j (i+2) with h'' | h''
      ·obtain rfl:j=i+1:=by omega
       exact c1.2 h3
      ·rcases zKu j (i+3) with h4|h4
       ·obtain rfl:j=i+2:=by omega
        exact c2.2 h3
       ·obtain rfl:j=i+3:=by omega
        exact c3.2 h3
    ·exact one _
   ·exact one _
theorem v7 (l:Bytes)(r:Int)(w:World)(ha:∀ i (h:i<l.length),l[i].toNat<128)(hl:l.length≤1000000)(h1:128≤r)(h2:r≤2147483647) :
 Calls Tryz.prog 193 #[(Value.string ⟨zJ9 (l)⟩),.int .i32 r] w fun e w'=>e=.returned (.int .i64 (-1))∧Below w.heap.size w w':=by
 by_cases h3:r=65533
 ·subst h3
  exact vY l w ha hl
 ·cases h4:Lib.validRune r
  ·exact vZ l r w h1 h2 (beq_eq_false_iff_ne.2 h3) h4
  ·exact uv l r w ha hl h1 h2 (beq_eq_false_iff_ne.2 h3) h4
theorem uq {w:World}{k:Nat}{s:ByteArray}{p:Nat}(h:w.heap[k]? = some (.stringIter s p)):w.iterPos k=p:=by unfold World.iterPos;rw[h]
set_option maxRecDepth 100000 in
theorem uw (s l:Bytes)(w:World)(ha:∀ i (h:i<l.length),l[i].toNat<128)(hl:l.length≤1000000)(h2:2≤l.length)(h8:s.length≤8) :
 Calls Tryz.prog 168 #[(Value.string ⟨zJ9 (s)⟩),(Value.string ⟨zJ9 (l)⟩)] w fun e w'=>e=.returned (.int .i64 (Lib.indexAny s l))∧Below w.heap.size w w':=by
 have Ha:=hid ha
 clear ha
 have hemp:l.isEmpty=false:=by cases l <;> simp at h2 ⊢
 have F3:((l.length:Int)==1)=false:=beq_eq_false_iff_ne.2 (by omega)
 have h8z:decide ((8:Int)<(s.length:Int))=false:=decide_eq_false (by omega)
 go_enter Tryz.func168,Tryz.ntmps168
 go_wp2_with (go_at_call 194;refine(Tryz.strings_shouldUseASCIISet _ _).mono ?_;rintro e w' ⟨rfl,hw⟩;rw[hw,h8z])
 go_loopw [] (fun wr=>∃ i:Nat,i≤s.length∧wr.heap[w.heap.size]? = some (.stringIter ⟨zJ9 s⟩ i)∧Below w.heap.size w wr∧Lib.NoAny s l i) (fun wr=>s.length - wr.iterPos w.heap.size)
 case atStart=>exact⟨0,by omega,World.iter_heap _ _ _,(Below.refl _ _).alloc (zKj _) _,Lib.NoAny.zero _ _⟩
 case round =>
  obtain⟨i,hi,hit,nD,fA⟩:=hrel
  have Hit:=hid hit
  have Hbl:=hid nD
  have Hno:=hid fA
  clear hit nD fA
  have CP:wr.iterPos w.heap.size=i:=by unfold World.iterPos;rw[Hit.out]
  have Hpos:=hid CP
  clear CP
  have yG:w.heap.size<wr.heap.size:=(Array.getElem?_eq_some_iff.1 Hit.out).1
  by_cases aA:i<s.length
  ·by_cases hx:s[i].toNat<128
   ·have hnx:=fun ty=>Lib.run_next_ascii_at (P:=Tryz.prog) wr w.heap.size ⟨zJ9 s⟩ i ty Hit.out aA hx
    simp only[get_list]at hnx
    have Fv:=Lib.contains_iff_indexByte l s[i]
    have jd:((s[i].toNat:Int)).toNat.toUInt8=s[i]:=by simp
    cases mr:l.contains s[i]
    ·rw[mr]at Fv
     have CU:¬ ((0:Int)≤Lib.indexByte l s[i]):=of_decide_eq_false Fv.symm
     clear Fv
     go_wp2_with (go_at_call 193;refine(Tryz.strings_IndexRune_ascii _ _ _ (by omega) (by omega)).mono ?_;rintro e w' ⟨rfl,hw⟩;rw[hw,jd])
     have hk:=Lib.iterAt_heap wr w.heap.size ⟨zJ9 s⟩ i (i+1) Hit.out
     have DW:(⟨zJ9 s⟩:ByteArray).data.toList[i]? = some s[i]:=zKT aA
     refine⟨⟨i+1,by omega,hk,Lib.below_iterAt Hbl.out (zKj _) _ _,Hno.out.succ DW mr⟩,?_⟩
     rw[uq hk,Hpos.out];omega
    ·rw[mr]at Fv
     have rm:((0:Int)≤Lib.indexByte l s[i]):=of_decide_eq_true Fv.symm
     clear Fv
     go_wp2_with (go_at_call 193;refine(Tryz.strings_IndexRune_ascii _ _ _ (by omega) (by omega)).mono ?_;rintro e w' ⟨rfl,hw⟩;rw[hw,jd])
     have DW:s[i]? = some s[i]:=zKT aA
     go_ret
     exact⟨sL (by rw[Lib.indexAny_hit Hno.out DW mr]),Lib.below_iterAt Hbl.out (zKj _) _ _⟩
   ·have hnx:=fun ty=>Lib.run_next_any_at (P:=Tryz.prog) wr w.heap.size ⟨zJ9 s⟩ i ty Hit.out aA
    have hd:=decode_high ⟨zJ9 s⟩ i aA (by simp only[get_list];omega)
    have nC:=decode_le ⟨zJ9 s⟩ i
    go_wp2_with (go_at_call 193;refine(v7 l _ _ Ha.out hl (by omega) (by omega)).mono ?_;rintro e w' ⟨rfl,hw⟩)
    have nv:=By ⟨zJ9 s⟩ i aA (by simp only[get_list];omega)
    have hk:=Lib.iterAt_heap wr w.heap.size ⟨zJ9 s⟩ i (i+(Utf8.decode ⟨zJ9 s⟩ i).2) Hit.out
    have fH:=(hw.block w.heap.size (by rw[Lib.iterAt_size];exact yG)).trans hk
    have hle:i+(Utf8.decode ⟨zJ9 s⟩ i).2≤s.length:=nv.1
    refine⟨⟨_,hle,fH,(Lib.below_iterAt Hbl.out (zKj _) _ _).trans (hw.mono (by rw[Lib.iterAt_size];omega)),Cz ⟨zJ9 s⟩ l i _ Hno.out Ha.out nv.2⟩,?_⟩
    rw[uq fH,Hpos.out];omega
  ·have hnx:=fun ty=>Lib.run_next_end_at (P:=Tryz.prog) wr w.heap.size ⟨zJ9 s⟩ i ty Hit.out aA
   go_wp2_with fail
   go_ret
   exact⟨sL (by rw[Lib.indexAny_none (by rw[show s.length=i by omega];exact Hno.out)]),Hbl.out⟩
theorem strings_IndexAny (s l:Bytes)(w:World)(ha:∀ i (h:i<l.length),l[i].toNat<128)(hl:l.length≤1000000)(h2:2≤l.length)(hs:s.length<4294967281) :
 Calls Tryz.prog 168 #[(Value.string ⟨zJ9 (s)⟩),(Value.string ⟨zJ9 (l)⟩)] w fun e w'=>e=.returned (.int .i64 (Lib.indexAny s l))∧Below w.heap.size w w':=by
 rcases zKu 8 s.length with h8|h8
 ·refine(Tryz.strings_IndexAny_long (fun _=>by kernel_rfl) ⟨zJ9 s⟩ ⟨zJ9 l⟩ w h2 h8 hs (show l.length<4294967281 by omega) (fun j b hb=>?_)).mono ?_
  ·obtain⟨hj,rfl⟩:=zKh.1 hb
   exact ha j hj
  ·rintro e w' ⟨rfl,rfl⟩
   exact⟨rfl,((Below.refl _ _).alloc (zKj _) _).alloc (by simp) _⟩
 ·exact uw s l w ha hl h2 h8
open Go.RowKit Wf
attribute [local go_sem] fB eF get_list
theorem bB (c:UInt8)(w:World):Calls Tryz.prog 182 #[.int .u8 c.toNat] w fun e w'=>e=.returned (.bool (isDigit c))∧w=w':=by
 go_enter Tryz.func182,Tryz.ntmps182
 go_wp2
 all_goals
  go_ret
  refine⟨a7 ?_,rfl⟩
  have hb:=Cw c
  have hc:=c.toNat_lt
  rw[zKI]
  simp[isDigit]
  try omega
theorem cJ (c:UInt8)(w:World):Calls Tryz.prog 197 #[.int .u8 c.toNat] w fun e w'=>e=.returned (.bool (isAlpha c))∧w=w':=by
 go_enter Tryz.func197,Tryz.ntmps197
 go_wp2
 all_goals
  go_ret
  refine⟨a7 ?_,rfl⟩
  have hb:=Cw c
  have hc:=c.toNat_lt
  rw[zKI]
  simp[isAlpha]
  try omega
theorem BI (c:UInt8)(w:World):Calls Tryz.prog 189 #[.int .u8 c.toNat] w fun e w'=>e=.returned (.bool (bm c))∧w=w':=by
 go_enter Tryz.func189,Tryz.ntmps189
 go_wp2
 all_goals
  go_ret
  refine⟨a7 ?_,rfl⟩
  have hb:=Cw c
  have hc:=c.toNat_lt
  rw[zKI]
  simp[bm]
  try omega
theorem df (c:UInt8)(w:World):Calls Tryz.prog 94 #[.int .u8 c.toNat] w fun e w'=>e=.returned (.bool (isDigit c))∧w=w':=by
 go_enter Tryz.func94,Tryz.ntmps94
 go_wp2
 all_goals
  go_ret
  refine⟨a7 ?_,rfl⟩
  have hb:=Cw c
  have hc:=c.toNat_lt
  rw[zKI]
  simp[isDigit]
  try omega
theorem iE (c:UInt8)(w:World):Calls Tryz.prog 93 #[.int .u8 c.toNat] w fun e w'=>e=.returned (.bool (isAlpha c))∧w=w':=by
 go_enter Tryz.func93,Tryz.ntmps93
 go_wp2
 all_goals
  go_ret
  refine⟨a7 ?_,rfl⟩
  have hb:=Cw c
  have hc:=c.toNat_lt
  rw[zKI]
  simp[isAlpha]
  try omega
theorem zW (c:UInt8)(w:World):Calls Tryz.prog 124 #[.int .u8 c.toNat] w fun e w'=>e=.returned (.bool (bm c))∧w=w':=by
 go_enter Tryz.func124,Tryz.ntmps124
 go_wp2
 all_goals
  go_ret
  refine⟨a7 ?_,rfl⟩
  have hb:=Cw c
  have hc:=c.toNat_lt
  rw[zKI]
  simp[bm]
  try omega
open Go.RowKit Wf
def u8V (b:UInt8):Value:=.int .u8 b.toNat
def jf (w:World)(b:Nat)(l:Bytes):Prop:=∃ (rest:List Value) (T:TypeId) (fz:Nat × Nat),w.heap[b]? = some (.cells (l.map u8V++rest).toArray T fz)∧(l.length≤fz.1∨fz.2≤fz.1)
theorem jf.cell {w:World}{b:Nat}{l:Bytes}(h:jf w b l){k:Nat}(hk:k<l.length):w.cell? ⟨b,k,none⟩=some (.int .u8 l[k].toNat):=by
 obtain⟨rest,T,fz,hb,_⟩:=h
 rw[Lib.cell_of_heap hb k]
 simp[zKe,hk,u8V]
theorem jf.frozen {w:World}{b:Nat}{l:Bytes}(h:jf w b l){k:Nat}(hk:k<l.length):w.frozen? ⟨b,k,none⟩=false:=by
 obtain⟨rest,T,fz,hb,hf⟩:=h
 simp only[World.frozen?,hb]
 simp
 omega
theorem jf.set {w:World}{b:Nat}{l:Bytes}(h:jf w b l){k:Nat}(hk:k<l.length)(x:UInt8):jf (w.setCell ⟨b,k,none⟩ (.int .u8 x.toNat)) b (l.set k x):=by
 obtain⟨rest,T,fz,hb,hf⟩:=h
 refine⟨rest,T,fz,?_,by simpa using hf⟩
 rw[heap_set hb]
 congr 2
 simp[List.set_append_left,hk,List.map_set,u8V]
theorem jf.back {w:World}{b:Nat}{l:Bytes}(h:jf w b l)(cap:Nat) :
 (convert 25 9 (.slice (some ⟨b,0,none⟩) l.length cap)).run Tryz.prog w=.ok (Value.string ⟨zJ9 (l)⟩) w:=by
 refine run_convert_bytes_back w _ _ 5 ⟨b,0,none⟩ cap l Tryz.underlying25 Tryz.underlying5 Tryz.underlying9 (fun j hj=>?_)
 have:(⟨b,0,none⟩:Addr).add j=⟨b,j,none⟩:=by
  unfold Addr.add
  split
  ·subst j;rfl
  ·simp
 rw[this]
 exact h.cell hj
theorem BJ (b o j:Nat):(⟨b,o,none⟩:Addr).add j=⟨b,o+j,none⟩:=by
 unfold Addr.add
 split
 ·subst j;rfl
 ·rfl
theorem jf.backAt {w:World}{b a:Nat}{y l:Bytes}(h:jf w b (y++l))(hy:y.length=a)(cap:Nat) :
 (convert 25 9 (.slice (some ⟨b,a,none⟩) l.length cap)).run Tryz.prog w=.ok (Value.string ⟨zJ9 (l)⟩) w:=by
 refine run_convert_bytes_back w _ _ 5 ⟨b,a,none⟩ cap l Tryz.underlying25 Tryz.underlying5 Tryz.underlying9 (fun j hj=>?_)
 rw[BJ]
 subst hy
 have h1:=h.cell (k:=y.length+j) (by simp;omega)
 have h2:(y++l)[y.length+j]'(by simp;omega)=l[j]:=by rw[List.getElem_append_right (Nat.le_add_right _ _)];simp
 rw[h2]at h1
 exact h1
theorem u6 (w:World)(s:Bytes):∃ (w1:World) (cap:Nat),(convert 9 25 (Value.string ⟨zJ9 (s)⟩)).run Tryz.prog w=.ok (.slice (some ⟨w.heap.size,0,none⟩) s.length cap) w1∧jf w1 w.heap.size s∧Below w.heap.size w w1:=by
 refine⟨_,_,Lib.run_convert_string_bytes w _ _ 5 ⟨zJ9 s⟩ Tryz.underlying9 Tryz.underlying25 Tryz.underlying5,?_,?_⟩
 ·refine⟨(Array.replicate (grownCap w s.length 0 5 - s.length) (Value.int .u8 0)).toList,5,((Lib.bytesCells w 5 ⟨zJ9 s⟩).size,(Lib.bytesCells w 5 ⟨zJ9 s⟩).size+1),?_,?_⟩
  ·rw[Lib.bytesWorld_at_new]
   congr 2
   apply Array.ext'
   simp[Lib.bytesCells]
   rfl
  ·left
   simp[Lib.bytesCells]
 ·exact⟨by simp[Lib.bytesWorld,World.freeze];rfl,rfl,rfl,by rw[Lib.bytesWorld_size];omega,fun k hk=>Lib.bytesWorld_at_old _ _ _ k hk⟩
open Go.RowKit Wf
attribute [local go_sem] fB eF get_list
theorem nP (s:Bytes)(w:World)(hs:s.length≤9223372036854775807) :
 Calls Tryz.prog 66 #[(Value.string ⟨zJ9 (s)⟩)] w fun e w'=>e=.returned (Value.string ⟨zJ9 (lower s)⟩)∧Below w.heap.size w w':=by
 obtain⟨w1,cap,HZ,gE,gD⟩:=u6 w s
 have Hrow:=hid gE
 have Hw1:=hid gD
 clear gE gD
 go_enter Tryz.func66,Tryz.ntmps66
 go_wp2_with fail
 go_loopw [10] (fun i wr=>∃ k:Nat,k≤s.length∧i=.int .i64 k∧jf wr w.heap.size (gR k s)∧Below w.heap.size w wr) (fun i _=>s.length - (intOf i).toNat)
 case atStart=>exact⟨0,by omega,rfl,by rw[uc];exact Hrow.out,Hw1.out⟩
 case round =>
  obtain⟨k,hk,rfl,gE,hw⟩:=hrel
  have Hrow:=hid gE
  have Hw:=hid hw
  clear HZ gE hw
  by_cases aA:k<s.length
  ·have hll:=jk k s
   have gw:=Hrow.out.cell (k:=k) (by omega)
   have sX:=Hrow.out.frozen (k:=k) (by omega)
   rw[wW aA]at gw
   clear hll
   by_cases kF:65≤s[k].toNat∧s[k].toNat≤90
   ·obtain⟨vz,uO⟩:=kF
    have om:=Hrow.out.set (k:=k) (by rw[jk];exact aA) (ck s[k])
    rw[wV aA,ub vz uO]at om
    have Hst:=hid om
    clear om
    go_wp2_with fail
    go_roundw
    case rel=>exact⟨k+1,by omega,by go_num,Hst.out,Hw.out.setCell (p:=⟨w.heap.size,k,none⟩) (zKj _) _⟩
    case measure=>simp[intOf];omega
   ·have Hn:=hid (ud aA (wU kF))
    have hor:s[k].toNat<65∨90<s[k].toNat:=by omega
    rcases hor with h|h
    all_goals
     go_wp2_with fail
     go_roundw
     case rel=>exact⟨k+1,by omega,by go_num,Hn.out ▸ Hrow.out,Hw.out⟩
     case measure=>simp[intOf];omega
  ·have hl:k=s.length:=by omega
   have uC:=Hrow.out
   rw[hl,wX]at uC
   have jd:=uC.back cap
   rw[show (lower s).length=s.length by simp[lower]]at jd
   clear hl uC
   go_wp2_with fail
   go_ret
   exact⟨rfl,Hw.out⟩
theorem mU (s:Bytes)(w:World)(hs:s.length≤9223372036854775807) :
 Calls Tryz.prog 47 #[(Value.string ⟨zJ9 (s)⟩)] w fun e w'=>e=.returned (Value.string ⟨zJ9 (lower s)⟩)∧Below w.heap.size w w':=by
 obtain⟨w1,cap,HZ,gE,gD⟩:=u6 w s
 have Hrow:=hid gE
 have Hw1:=hid gD
 clear gE gD
 go_enter Tryz.func47,Tryz.ntmps47
 go_wp2_with fail
 go_loopw [9] (fun i wr=>∃ k:Nat,k≤s.length∧i=.int .i64 k∧jf wr w.heap.size (gR k s)∧Below w.heap.size w wr) (fun i _=>s.length - (intOf i).toNat)
 case atStart=>exact⟨0,by omega,rfl,by rw[uc];exact Hrow.out,Hw1.out⟩
 case round =>
  obtain⟨k,hk,rfl,gE,hw⟩:=hrel
  have Hrow:=hid gE
  have Hw:=hid hw
  clear HZ gE hw
  by_cases aA:k<s.length
  ·have hll:=jk k s
   have gw:=Hrow.out.cell (k:=k) (by omega)
   have sX:=Hrow.out.frozen (k:=k) (by omega)
   rw[wW aA]at gw
   clear hll
   by_cases kF:65≤s[k].toNat∧s[k].toNat≤90
   ·obtain⟨vz,uO⟩:=kF
    have om:=Hrow.out.set (k:=k) (by rw[jk];exact aA) (ck s[k])
    rw[wV aA,ub vz uO]at om
    have Hst:=hid om
    clear om
    go_wp2_with fail
    go_roundw
    case rel=>exact⟨k+1,by omega,by go_num,Hst.out,Hw.out.setCell (p:=⟨w.heap.size,k,none⟩) (zKj _) _⟩
    case measure=>simp[intOf];omega
   ·have Hn:=hid (ud aA (wU kF))
    have hor:s[k].toNat<65∨90<s[k].toNat:=by omega
    rcases hor with h|h
    all_goals
     go_wp2_with fail
     go_roundw
     case rel=>exact⟨k+1,by omega,by go_num,Hn.out ▸ Hrow.out,Hw.out⟩
     case measure=>simp[intOf];omega
  ·have hl:k=s.length:=by omega
   have uC:=Hrow.out
   rw[hl,wX]at uC
   have jd:=uC.back cap
   rw[show (lower s).length=s.length by simp[lower]]at jd
   clear hl uC
   go_wp2_with fail
   go_ret
   exact⟨rfl,Hw.out⟩
theorem BH (s:Bytes)(w:World)(hs:s.length≤9223372036854775807) :
 Calls Tryz.prog 206 #[(Value.string ⟨zJ9 (s)⟩),.func (.func 182) #[] #[]] w fun e w'=>e=.returned (.bool (s.all isDigit))∧w=w':=by
 go_enter Tryz.func206,Tryz.ntmps206
 go_wp2_with fail
 go_loop [8] (fun i=>∃ k:Nat,k≤s.length∧i=.int .i64 k∧(s.take k).all isDigit=true) (fun i=>s.length - (intOf i).toNat)
 case atStart=>exact⟨0,by omega,rfl,rfl⟩
 case round =>
  obtain⟨k,hk,rfl,aT⟩:=hrel
  have Hall:=hid aT
  clear aT
  by_cases aA:k<s.length
  ·cases hc:isDigit s[k]
   ·have Ha:=hid (cQ aA hc)
    go_wp2_with (go_at_call 182;refine(bB _ _).mono ?_;rintro e w' ⟨rfl,rfl⟩)
    go_ret
    exact⟨a7 Ha.out.symm,rfl⟩
   ·go_wp2_with (go_at_call 182;refine(bB _ _).mono ?_;rintro e w' ⟨rfl,rfl⟩)
    go_round
    case rel=>exact⟨k+1,by omega,by go_num,aS aA Hall.out hc⟩
    case measure=>simp[intOf];omega
  ·have aT:=Hall.out
   rw[zKz (by omega)]at aT
   have Ha:=hid aT
   clear aT Hall
   go_wp2_with fail
   go_ret
   exact⟨a7 Ha.out.symm,rfl⟩
theorem gZ (s:Bytes)(w:World)(hs:s.length≤9223372036854775807) :
 Calls Tryz.prog 192 #[(Value.string ⟨zJ9 (s)⟩)] w fun e w'=>e=.returned (.bool (bY s))∧w=w':=by
 cases hn:s.isEmpty
 all_goals
  have Hd:=hid (show bY s=(!s.isEmpty&&s.all isDigit) from rfl)
  rw[hn]at Hd
  go_enter Tryz.func192,Tryz.ntmps192
  go_wp2_with (go_at_call 206;refine(BH _ _ hs).mono ?_;rintro e w' ⟨rfl,rfl⟩)
  go_ret
  exact⟨a7 (by rw[Hd.out];simp),rfl⟩
theorem x4 (s:Bytes)(w:World)(hs:s.length≤9223372036854775807) :
 Calls Tryz.prog 127 #[(Value.string ⟨zJ9 (s)⟩)] w fun e w'=>e=.returned (.bool (bY s))∧w=w':=by
 go_enter Tryz.func127,Tryz.ntmps127
 go_wp2_with fail
 go_loop [3] (fun i=>∃ k:Nat,k≤s.length∧i=.int .i64 k∧(s.take k).all isDigit=true) (fun i=>s.length - (intOf i).toNat)
 case atStart=>exact⟨0,by omega,rfl,rfl⟩
 case round =>
  obtain⟨k,hk,rfl,aT⟩:=hrel
  have Hall:=hid aT
  clear aT
  by_cases aA:k<s.length
  ·cases hc:isDigit s[k]
   ·have Ha:=hid (cQ aA hc)
    go_wp2_with (go_at_call 94;refine(df _ _).mono ?_;rintro e w' ⟨rfl,rfl⟩)
    go_ret
    exact⟨a7 (by unfold bY;rw[Ha.out];simp),rfl⟩
   ·go_wp2_with (go_at_call 94;refine(df _ _).mono ?_;rintro e w' ⟨rfl,rfl⟩)
    go_round
    case rel=>exact⟨k+1,by omega,by go_num,aS aA Hall.out hc⟩
    case measure=>simp[intOf];omega
  ·have aT:=Hall.out
   rw[zKz (by omega)]at aT
   have Ha:=hid aT
   clear aT Hall
   go_wp2_with fail
   go_ret
   exact⟨a7 (by unfold bY;rw[Ha.out];simp),rfl⟩
theorem zX (c:UInt8)(s:Bytes)(w:World)(hs:s.length≤9223372036854775807) :
 Calls Tryz.prog 67 #[.int .u8 c.toNat,(Value.string ⟨zJ9 (s)⟩)] w fun e w'=>e=.returned (.bool (has s c))∧w=w':=by
 go_enter Tryz.func67,Tryz.ntmps67
 go_wp2_with fail
 go_loop [5] (fun i=>∃ k:Nat,k≤s.length∧i=.int .i64 k∧has (s.take k) c=false) (fun i=>s.length - (intOf i).toNat)
 case atStart=>exact⟨0,by omega,rfl,rfl⟩
 case round =>
  obtain⟨k,hk,rfl,aT⟩:=hrel
  have Hall:=hid aT
  clear aT
  by_cases aA:k<s.length
  ·by_cases hc:s[k]=c
   ·have hx:((s[k].toNat:Int)==(c.toNat:Int))=true:=by simp[hc]
    have Ha:=hid (show has s c=true by unfold has;rw[zKB];exact hc ▸ List.getElem_mem aA)
    go_wp2_with fail
    go_ret
    exact⟨a7 Ha.out.symm,rfl⟩
   ·have hx:((s[k].toNat:Int)==(c.toNat:Int))=false:=by
     rw[beq_eq_false_iff_ne]
     intro h
     exact hc (UInt8.toNat_inj.1 (by omega))
    go_wp2_with fail
    go_round
    case rel=>exact⟨k+1,by omega,by go_num,by
     have:=Hall.out
     unfold has at this ⊢
     rw[zKG aA,List.contains_eq_any_beq,List.any_append,← List.contains_eq_any_beq,this]
     simp
     exact fun h=>hc h.symm⟩
    case measure=>simp[intOf];omega
  ·have aT:=Hall.out
   rw[zKz (by omega)]at aT
   have Ha:=hid aT
   clear aT Hall
   go_wp2_with fail
   go_ret
   exact⟨a7 Ha.out.symm,rfl⟩
theorem gl (s t:Bytes)(w:World)(hs:s.length≤9223372036854775807)(ht:t.length≤9223372036854775807) :
 Calls Tryz.prog 46 #[(Value.string ⟨zJ9 (s)⟩),(Value.string ⟨zJ9 (t)⟩)] w fun e w'=>e=.returned (.int .i64 (pre (has t ·) s))∧w=w':=by
 have hle:=cq (has t ·) s
 go_enter Tryz.func46,Tryz.ntmps46
 go_wp2_with fail
 go_loop [5] (fun i=>∃ k:Nat,k≤pre (has t ·) s∧i=.int .i64 k) (fun i=>s.length - (intOf i).toNat)
 case atStart=>exact⟨0,by omega,rfl⟩
 case round =>
  obtain⟨k,hk,rfl⟩:=hrel
  by_cases aA:k<pre (has t ·) s
  ·have hc:=gN aA (by omega)
   go_wp2_with (go_at_call 67;refine(zX _ _ _ ht).mono ?_;rintro e w' ⟨rfl,rfl⟩)
   go_round
   case rel=>exact⟨k+1,by omega,by go_num⟩
   case measure=>simp[intOf];omega
  ·obtain rfl:k=pre (has t ·) s:=by omega
   clear hk aA
   by_cases Bb:pre (has t ·) s<s.length
   ·have hc:=fZ Bb
    go_wp2_with (go_at_call 67;refine(zX _ _ _ ht).mono ?_;rintro e w' ⟨rfl,rfl⟩)
    go_ret
    exact⟨rfl,rfl⟩
   ·have he:=hid (show pre (has t ·) s=s.length by omega)
    go_wp2_with fail
    go_ret
    exact⟨sL (by rw[he.out]),rfl⟩
open Go Vc Go.RowKit Wf
theorem below_draws {w w':World}(h:∃ n,w'=w.drewN n):Below w.heap.size w w':=by
 obtain⟨n,rfl⟩:=h
 exact below_drewN (Below.refl _ _) _
theorem cO {w w':World}(h:w=w'):Below w.heap.size w w':=by subst h;exact Below.refl _ _
theorem dx (l:Bytes)(c:UInt8):PC Tryz.V 144 [.str l,.int .u8 c.toNat] (.int .i64 (Lib.indexByte l c)) :=
 ⟨Tryz.call144,by simp[flat,flat.ai],by simp[flat,flat.ai],fun w hE=>(gh l c w).mono fun _ _ ⟨h,k⟩=>⟨h,cO k⟩⟩
theorem ka (l p:Bytes):PC Tryz.V 177 [.str l,.str p] (.bool (Lib.hasPrefix l p)) :=
 ⟨Tryz.call177,by simp[flat,flat.ai],by simp[flat,flat.ai],fun w hE=>(zO l p w).mono fun _ _ ⟨h,k⟩=>⟨h,cO k⟩⟩
theorem kb (l p:Bytes):PC Tryz.V 156 [.str l,.str p] (.eN [.str (Lib.trimPrefix l p),.bool (Lib.hasPrefix l p)]) :=
 ⟨Tryz.call156,by simp[flat,flat.ai],by simp[flat,flat.ai],fun w hE=>(zP l p w).mono fun _ _ ⟨h,k⟩=>⟨h,cO k⟩⟩
theorem pR (l p:Bytes):PC Tryz.V 178 [.str l,.str p] (.str (Lib.trimPrefix l p)) :=
 ⟨Tryz.call178,by simp[flat,flat.ai],by simp[flat,flat.ai],fun w hE=>(xQ l p w).mono fun _ _ ⟨h,k⟩=>⟨h,cO k⟩⟩
theorem tS (l:Bytes)(c:UInt8)(hl:l.length<4294967281):PC Tryz.V 64 [.str l,.str [c]] (.eN [.str (aM c l).1,.str (aM c l).2.1,.bool (aM c l).2.2]) :=
 ⟨Tryz.call64,by simp[flat,flat.ai],by simp[flat,flat.ai],fun w hE=>(DC l c w hE hl).mono fun _ _ ⟨h,k⟩=>⟨h,below_draws k⟩⟩
theorem tQ (s l:Bytes)(ha:∀ i (h:i<l.length),l[i].toNat<128)(hl:l.length≤1000000)(h2:2≤l.length)(hs:s.length<4294967281) :
 PC Tryz.V 168 [.str s,.str l] (.int .i64 (Lib.indexAny s l)) :=
 ⟨Tryz.call168,by simp[flat,flat.ai],by simp[flat,flat.ai],fun w hE=>strings_IndexAny s l w ha hl h2 hs⟩
def p8 (s:Bytes)(c:UInt8):Int:=Lib.lastIndexByte ⟨zJ9 s⟩ c.toNat
theorem G8 (s:Bytes)(c:UInt8):p8 s c=((s.reverse.dropWhile (· != c)).length:Int) - 1:=by
 have h:∀ k,k≤s.length→Lib.lastIdx ⟨zJ9 s⟩ c.toNat k=(((s.take k).reverse.dropWhile (· != c)).length:Int) - 1:=by
  intro k
  induction k with
  | zero=>intro _;simp[Lib.lastIdx]
  | succ k ih =>
    intro hk
    have hk':k<s.length:=by omega
    have e:(⟨zJ9 s⟩:ByteArray).data[k]! = s[k]:=by simp[hk']
    rw[zKG hk',List.reverse_append,List.reverse_singleton,zKA,Lib.lastIdx,e]
    by_cases hc:s[k]=c
    ·rw[if_pos (by rw[hc]),List.dropWhile_cons_of_neg (by simp[hc])]
     simp
     omega
    ·rw[if_neg (fun h=>hc (UInt8.toNat_inj.1 (by exact_mod_cast h))),List.dropWhile_cons_of_pos (by simp[hc]),ih (by omega)]
 have:=h s.length (zKj _)
 rw[List.take_length]at this
 exact this
theorem ma (s:Bytes)(c:UInt8)(hs:s.length<4611686018427387904):PC Tryz.V 179 [.str s,.int .u8 c.toNat] (.int .i64 (p8 s c)) :=
 ⟨Tryz.call179,by simp[flat,flat.ai],by simp[flat,flat.ai],fun w hE=>(Tryz.strings_LastIndexByte ⟨zJ9 s⟩ c.toNat hs w).mono fun _ _ ⟨h,k⟩=>⟨h,cO k.symm⟩⟩
theorem ke {p q:Bytes}(h:Lib.hasPrefix p q=false):¬ (q.isPrefixOf p=true):=by unfold Lib.hasPrefix at h;simp[h]
theorem en {p q:Bytes}(h:Lib.hasPrefix p q=true):q.length≤p.length:=(zKn.1 h).length_le
theorem s8 (s p:Bytes):(Lib.trimPrefix s p).length≤s.length:=by
 unfold Lib.trimPrefix;split <;> simp
theorem cA {s:Bytes}{k:Nat}(hk:k<s.length)(c:UInt8){n:Int}(hn:n=c.toNat):(((s.getD k 0).toNat:Int)==n)=(s[k]==c):=by
 subst hn
 rw[show s.getD k 0=s[k] by simp[List.getD,hk],zKI]
 simp only[beq_iff_eq]
 exact⟨fun h=>UInt8.toNat_inj.1 (by exact_mod_cast h),fun h=>by rw[h]⟩
theorem tX (l:Bytes):(l.map cU).all Vc.one=true:=by simp[cU,Vc.one]
theorem xP {bs:List ay}{i:Nat}{x y:SV}(hi:bs[i]? = some (.cells [x,y] 193 true))(hx:x=.v (.pointer none)∨x=.p i 0) :
 SC Tryz.V 213 [.p i 0] bs (fun r bs'=>r=.eN []∧bs'=bs.set i (.cells [.p i 0,y] 193 true)):=by
 have dR:i<bs.length:=(zKh.1 hi).1
 refine wE hi rfl Tryz.call213 rfl (fun β fp w hE hh=>?_)
 obtain⟨h0,⟨rest,fz,hd,rfl⟩,h3⟩:=hh β (bp.refl _ _)
 have ea:(aI β [.p i 0]).toArray=#[.pointer (some ⟨(β i).cB,0,none⟩)]:=by simp[aI,ah,h0]
 rw[ea]
 have fL:w.cell? ⟨(β i).cB,0,none⟩=some (ah β x):=hd.sA 0 _ (by simp)
 rcases hx with rfl|rfl
 ·have kC:=hd.1
  have sX:=hd.2
  refine(Any.Builder_copyCheck_fresh { Tryz.G6 with } Tryz.uV.toX72 (β i).cB w fL ?_ ?_).mono ?_
  ·simp[World.shape?,kC]
   rfl
  ·simp[World.frozen?,kC]
   simp at sX
   omega
  ·rintro e w' ⟨rfl,rfl⟩
   refine⟨rfl,?_,fp i,fun k hk=>hk,fun β' hβ=>?_⟩
   ·exact⟨rfl,rfl,rfl,by simp[World.setCell],fun k _ hn=>Below.heap_setCell _ _ _ _ (fun e=>hn ((h3 k).2 e))⟩
   ·have hb:=hβ i dR
    obtain⟨k0,⟨rest,fz',hd',rfl⟩,k3⟩:=hh β' hβ
    refine⟨k0,⟨[],fz',⟨?_,by simpa using hd'.2⟩,rfl⟩,k3⟩
    rw[hb,heap_set hd'.1]
    simp[ah,k0]
 ·refine(Any.Builder_copyCheck_used { Tryz.G6 with } Tryz.uV.toX72 (β i).cB w ?_).mono ?_
  ·rw[fL];simp[ah,h0]
  ·rintro e w' ⟨rfl,rfl⟩
   exact⟨rfl,mD.refl _ _,fp i,fun k hk=>hk,hh⟩
theorem vC {bs:List ay}{i j:Nat}{x:SV}{l s:Bytes}(hi:bs[i]? = some (.cells [x,.o j l.length] 193 true))(hx:x=.v (.pointer none)∨x=.p i 0)(hj:bs[j]? = some (.own (l.map cU) 5 1 l.length true))(vx:i≠j)(hlen:l.length+s.length≤140737488355328) :
 SC Tryz.V 204 [.p i 0,.str s] bs (fun r bs'=>r=.eN [.int .i64 s.length,.v .nilIface]∧bs'[i]? = some (.cells [.p i 0,.o bs.length (l++s).length] 193 true)∧bs'[bs.length]? = some (.own ((l++s).map cU) 5 1 (l++s).length true)∧∀ k,k<bs.length→k≠i→k≠j→bs'[k]? = bs[k]?):=by
 have dR:i<bs.length:=(zKh.1 hi).1
 refine cK 3000 Tryz.func204 rfl Tryz.ntmps204 Tryz.results204 Tryz.call204 (by simp) (aw bs.length _ (by simp[within,within.aN,dR])) ?_
 simp only[ad,↓Xn,↓Xo,↓Xg,↓Xd,↓Xe,↓Xf,Tryz.VΓ,Tryz.Γs,Xp,Xi,Nat.reduceAdd,Nat.reduceSub,Nat.reduceLT,Nat.reduceLeDiff,reduceIte,reduceCtorEq,Nat.reduceEqDiff,implies_true,forall_const,aa]
 refine aG (xP hi hx) ?_
 rintro r bs1 ⟨rfl,rfl⟩
 have h1:(bs.set i (.cells [.p i 0,.o j l.length] 193 true))[i]? = some (.cells [.p i 0,.o j l.length] 193 true):=zKt dR
 have h2:(bs.set i (.cells [.p i 0,.o j l.length] 193 true))[j]? = some (.own (l.map cU) 5 1 l.length true):=by rw[zKg vx];exact hj
 have h3:∀ k,k≠i→(bs.set i (.cells [.p i 0,.o j l.length] 193 true))[k]? = bs[k]? := fun k hk=>zKg (fun e=>hk e.symm)
 have h4:(bs.set i (.cells [.p i 0,.o j l.length] 193 true)).length=bs.length:=List.length_set ..
 generalize bs.set i (.cells [.p i 0,.o j l.length] 193 true)=bs1 at h1 h2 h3 h4 ⊢
 have h5:∀ X,(bs1.set j .gone++[X])[i]? = some (.cells [.p i 0,.o j l.length] 193 true):=fun X=>by
  rw[zKe (by simp;omega),zKg (fun e=>vx e.symm)];exact h1
 simp only[ad,↓Xn,↓Xo,↓Xg,↓Xd,↓Xe,↓Xf,Tryz.VΓ,Tryz.Γs,Xp,Xi,Nat.reduceAdd,Nat.reduceSub,Nat.reduceLT,Nat.reduceLeDiff,reduceIte,reduceCtorEq,Nat.reduceEqDiff,implies_true,forall_const,aa,h1,h2,h5]
 refine⟨⟨tX _,by unfold maxLen;omega,by omega⟩,?_,?_,fun k hk iV hkj=>?_⟩
 ·rw[zKt (by simp;omega),h4,zKk]
 ·rw[zKg (by omega),zKx (by simp;omega)]
  simp[h4]
 ·rw[zKg (fun e=>iV e.symm),zKe (by simp;omega),zKg (fun e=>hkj e.symm),h3 k iV]
theorem mO {bs:List ay}{i:Nat}{l s:Bytes}(hi:bs[i]? = some (.ext (rE 193 5 l)))(hlen:l.length+s.length≤140737488355328) :
 SC Tryz.V 204 [.p i 0,.str s] bs (fun r bs'=>r=.eN [.int .i64 s.length,.v .nilIface]∧bs'=bs.set i (.ext (rE 193 5 (l++s)))):=by
 have dR:i<bs.length:=(zKh.1 hi).1
 refine sc_open (R':=fun r bs'=>r=.eN [.int .i64 s.length,.v .nilIface]∧bs'[i]? = some (.cells [.p i 0,.o (bs.length+1) (l++s).length] 193 true)∧bs'[bs.length+1]? = some (.own ((l++s).map cU) 5 1 (l++s).length true)∧∀ k,k<bs.length→k≠i→bs'[k]? = bs[k]?) hi (fun x hx=>(vC (j:=bs.length) (l:=l) (s:=s) ?_ hx ?_ (by omega) hlen).mono ?_) ?_ (by simp[within,within.aN,dR])
 ·rw[zKe (by simpa using dR),zKt dR]
 ·rw[zKx (by simp)];simp
 ·rintro r bs' ⟨rfl,h1,h2,h3⟩
  simp only[zKk,List.length_set,zKi,zKU]at h1 h2 h3
  refine⟨rfl,by simpa using h1,by simpa using h2,fun k hk iV=>?_⟩
  rw[h3 k (by omega) iV (by omega),zKe (by simpa using hk),zKg (fun e=>iV e.symm)]
 ·rintro r bs' ⟨rfl,h1,h2,h3⟩
  exact⟨.p i 0,bs.length+1,l++s,rfl,.inr rfl,⟨rfl,rfl⟩,h1,h2,by omega,h3⟩
set_option maxRecDepth 100000 in
theorem Gd {b:Nat}{p:Value}{t2:Bt}{f2:Nat→Prop}{l:Bytes}{w:World}{fz:Nat × Nat}(hd:Head w b 193 [p,oV t2 l.length] [] fz)(hr:Holds jR t2 f2 w (.own (l.map cU) 5 1 l.length true)) :
 Calls Tryz.prog 205 #[.pointer (some ⟨b,0,none⟩)] w fun e w'=>e=.returned (Value.string ⟨zJ9 (l)⟩)∧mD f2 w w':=by
 have mixed:Tryz.prog.follows .mixedOrders=true:=by kernel_rfl
 have hb:w.heap[b]? = some (.cells #[p,oV t2 l.length] 193 fz):=by simpa using hd.1
 have hdr:mD f2 w w.drew:=⟨rfl,rfl,rfl,zKj _,fun _ _ _=>rfl⟩
 have hUN:∀ (W:World) (q:Option Addr),(Builtin.unsafeString_ #[208,3] 9 #[.pointer q,.int .i64 0]).run Tryz.prog W=.ok (.string .empty) W:=fun W q=>Lib.run_unsafeString_none W _ _ _ q
 have gw:∀ (W:World),W.heap[b]? = w.heap[b]? → W.cell? ⟨b,1,none⟩=some (oV t2 l.length):=fun W hW=>by
  rw[Lib.cell_of_heap (hW.trans hb)];rfl
 rcases hr with⟨h1,h2,h3,h4⟩|⟨h1,h2,h3,h4,h5,h6,h7⟩
 ·have hl:l=[]:=by simpa using h3
  subst hl
  have hv:oV t2 ([]:Bytes).length=.slice none 0 0:=by simp[oV,h1,oY,h4.2 rfl]
  rw[hv]at hb gw
  have c1:w.drew.cell? ⟨b,1,none⟩=some (.slice none 0 0):=gw _ rfl
  have hSD:(Builtin.unsafeSliceData_ #[25] 208 #[.slice none 0 0]).run Tryz.prog w.drew=.ok (.pointer none) w.drew:=rfl
  go_enter Tryz.func205,Tryz.ntmps205
  go_wp2
  go_region_o
  all_goals (go_wp2;go_ret;exact⟨rfl,hdr⟩)
 ·obtain⟨h8,rest,fr,h9,fc,Ig⟩:=h6 rfl
  obtain⟨cB,off,cap⟩:=t2
  simp only at h1 h2 h3 h8 h9 Ig h7
  subst h8
  obtain⟨cap,rfl⟩:∃ c,cap=c+1:=⟨cap - 1,by omega⟩
  have hv:oV ⟨cB,0,cap+1⟩ l.length=.slice (some ⟨cB,0,none⟩) l.length cap:=by simp[oV]
  rw[hv]at hb gw
  have hg:w.heap[cB]? = some (.cells ((l.map cU).map (ah jR)++rest).toArray 5 fr):=h9.1
  have kC:((l.map cU).map (ah jR)++rest).toArray.size=cap:=by
   simp at Ig ⊢;omega
  by_cases hl:l=[]
  ·subst hl
   simp only[List.map_nil,zKv,zKU]at hb gw hg kC
   have c1:w.drew.cell? ⟨b,1,none⟩=some (.slice (some ⟨cB,0,none⟩) 0 cap):=gw _ rfl
   by_cases hc:cap=0
   ·subst hc
    have nD:b<w.heap.size:=(Array.getElem?_eq_some_iff.1 hb).1
    have hSD:(Builtin.unsafeSliceData_ #[25] 208 #[.slice (some ⟨cB,0,none⟩) 0 0]).run Tryz.prog w.drew=.ok (.pointer (some ⟨w.drew.heap.size,0,none⟩)) (w.drew.alloc (.view ⟨cB,0,none⟩ 5)) :=
     Lib.run_unsafeSliceData_zero w.drew _ _ 5 Tryz.underlying208 ⟨cB,0,none⟩ 0 (5,rest.toArray.size) (by have hg':w.drew.heap[cB]? = _:=hg;simp[World.shape?,hg'])
    have c2:(w.drew.alloc (.view ⟨cB,0,none⟩ 5)).cell? ⟨b,1,none⟩=some (.slice (some ⟨cB,0,none⟩) 0 0):=gw _ (Lib.alloc_old w.drew _ b nD)
    have c3:(w.alloc (.view ⟨cB,0,none⟩ 5)).drew.cell? ⟨b,1,none⟩=some (.slice (some ⟨cB,0,none⟩) 0 0):=c2
    have c0:w.cell? ⟨b,1,none⟩=some (.slice (some ⟨cB,0,none⟩) 0 0):=c1
    have nz:mD f2 w (w.drew.alloc (.view ⟨cB,0,none⟩ 5)):=⟨rfl,rfl,rfl,by simp,fun k hk _=>Lib.alloc_old w.drew _ k hk⟩
    go_enter Tryz.func205,Tryz.ntmps205
    go_wp2
    go_region_o
    all_goals (go_wp2;go_ret;exact⟨rfl,nz⟩)
   ·have hSD:(Builtin.unsafeSliceData_ #[25] 208 #[.slice (some ⟨cB,0,none⟩) 0 cap]).run Tryz.prog w.drew=.ok (.pointer (some ⟨cB,0,none⟩)) w.drew :=
     Lib.run_unsafeSliceData_row _ _ _ _ _ _ hc
    clear hc
    go_enter Tryz.func205,Tryz.ntmps205
    go_wp2
    go_region_o
    all_goals (go_wp2;go_ret;exact⟨rfl,hdr⟩)
  ·have F6:l.length≠0:=by simpa using hl
   have c1:w.drew.cell? ⟨b,1,none⟩=some (.slice (some ⟨cB,0,none⟩) l.length cap):=gw _ rfl
   have hSD:(Builtin.unsafeSliceData_ #[25] 208 #[.slice (some ⟨cB,0,none⟩) l.length cap]).run Tryz.prog w.drew=.ok (.pointer (some ⟨cB,0,none⟩)) w.drew :=
    Lib.run_unsafeSliceData_row _ _ _ _ _ _ (by omega)
   have hUS:(Builtin.unsafeString_ #[208,3] 9 #[.pointer (some ⟨cB,0,none⟩),.int .i64 l.length]).run Tryz.prog w.drew=.ok (Value.string ⟨zJ9 (l)⟩) (w.drew.freeze ⟨cB,0,none⟩ l.length):=by
    refine Lib.run_unsafeString_row w.drew 208 3 9 5 Tryz.underlying208 Tryz.uV.cellsByte cB cap (by have hg':w.drew.heap[cB]? = _:=hg;simp only[World.shape?,hg'];simp only[kC]) l hl (by omega) (by unfold maxLen at h3;omega) ?_
    intro j x hx
    have:=h5 j (ah jR (cU x)) (by simp[hx])
    rw[dh]
    simpa[cU,ah] using this
   have nz:mD f2 w (w.drew.freeze ⟨cB,0,none⟩ l.length):=by
    unfold World.freeze
    split
    ·exact hdr
    ·refine⟨rfl,rfl,rfl,by simp,fun k hk hn=>?_⟩
     have bk:k≠cB:=fun e=>hn ((h7 k).2 e)
     simp only[Array.getElem?_modify]
     rw[if_neg (fun e=>bk e.symm)]
     rfl
   go_enter Tryz.func205,Tryz.ntmps205
   go_wp2
   go_region_o
   all_goals (go_wp2;go_ret;exact⟨rfl,nz⟩)
theorem wF {bs:List ay}{i:Nat}{l:Bytes}(hi:bs[i]? = some (.ext (rE 193 5 l))) :
 SC Tryz.V 205 [.p i 0] bs (fun r bs'=>r=.str l∧bs'=bs.set i .gone):=by
 refine wE hi rfl Tryz.call205 rfl (fun β fp w hE hh=>?_)
 obtain⟨h0,p,t2,f2,hp,⟨fz,hd⟩,h3,h4,h5⟩:=hh β (bp.refl _ _)
 have ea:(aI β [.p i 0]).toArray=#[.pointer (some ⟨(β i).cB,0,none⟩)]:=by simp[aI,ah,h0]
 rw[ea]
 refine(Gd hd h3).mono ?_
 rintro e w' ⟨rfl,hf⟩
 exact⟨rfl,hf.mono (fun k hk=>(h5 k).2 (.inr hk)),fun _=>False,fun _ h=>h.elim,fun _ _ _ h=>h⟩
theorem xq:∀ L:List Bytes,flat.ai (L.map SV.str)=true
 | []=>by simp[flat.ai]
 | x::L=>by simp[flat.ai,flat,xq L]
theorem rM {bs:List ay}(s sep:Bytes)(L:List Bytes)(hL:Lib.splitK sep 0 (Lib.count s sep) s=L)(hs:s.length≤1100000)(hp:1≤sep.length) :
 SC Tryz.V 172 [.str s,.str sep] bs (fun r b=>r=.o bs.length L.length∧b=bs++[.own (L.map SV.str) 9 1 L.length true]):=by
 have hd:=Lib.splitB_data ⟨zJ9 sep⟩ 0 (Lib.countB ⟨zJ9 s⟩ ⟨zJ9 sep⟩) ⟨zJ9 s⟩
 have hlen:=Lib.splitB_all ⟨zJ9 sep⟩ hp 0 _ ⟨zJ9 s⟩ rfl
 have hle:=Lib.countB_le ⟨zJ9 sep⟩ hp s.length ⟨zJ9 s⟩ (zKj _)
 have hz:(⟨zJ9 s⟩:ByteArray).size=s.length:=rfl
 have dO:Lib.countB ⟨zJ9 s⟩ ⟨zJ9 sep⟩+1=L.length:=by
  rw[← hlen,← hL]
  have:=congrArg List.length hd
  rw[zK2]at this
  exact this
 have e:(Lib.splitB ⟨zJ9 sep⟩ 0 (Lib.countB ⟨zJ9 s⟩ ⟨zJ9 sep⟩) ⟨zJ9 s⟩).map Value.string=L.map lB:=by
  rw[← hL]
  refine Eq.trans ?_ (congrArg (List.map lB) hd)
  rw[List.map_map]
  exact zKZ fun x _=>rfl
 refine(sc_row (V:=Tryz.V) (c:=L.map SV.str) (T:=9) Tryz.call172 (by simp[flat,flat.ai]) ?_ ?_ fun w ⟨m,hm⟩=>?_).mono ?_
 ·exact xq L
 ·unfold maxLen;rw[zK2];omega
 ·refine(Tryz.strings_Split ⟨zJ9 s⟩ ⟨zJ9 sep⟩ m w (show s.length<4294967281 by omega) hm hp).mono fun _ _ ⟨h,k⟩=>⟨?_,?_⟩
  ·rw[h,dO,zK2]
  ·rw[k,e]
   congr 2
   rw[bO,List.map_map]
   exact congrArg zJ9 (zKZ fun x _=>rfl)
 ·rintro r b ⟨h1,h2⟩
  rw[zK2]at h1 h2
  exact⟨h1,h2⟩
def FV (i:Nat)(l:Bytes)(b:List ay):Prop:=b[i]? = some (.ext (rE 193 5 l))∨(l=[]∧b[i]? = some (.cells [.v (.pointer none),.aD] 193 true))
theorem FV.lt {i:Nat}{l:Bytes}{b:List ay}(h:FV i l b):i<b.length:=by
 rcases h with h|⟨-,h⟩ <;> exact(zKh.1 h).1
theorem FV.set {i:Nat}{l m:Bytes}{b:List ay}(h:FV i l b):FV i m (b.set i (.ext (rE 193 5 m))):=.inl (zKt h.lt)
theorem zE {α:Type}{b:List α}{i:Nat}{x:α}(h:b[i]? = some x):b.set i x=b:=by
 apply List.ext_getElem?
 intro k
 by_cases hk:k=i
 ·subst hk;rw[zKt (zKh.1 h).1,h]
 ·rw[zKg (fun e=>hk e.symm)]
theorem sc_WS {bs:List ay}{i:Nat}{l s:Bytes}(h:FV i l bs)(hlen:l.length+s.length≤140737488355328) :
 SC Tryz.V 204 [.p i 0,.str s] bs (fun r bs'=>r=.eN [.int .i64 s.length,.v .nilIface]∧bs'=bs.set i (.ext (rE 193 5 (l++s)))):=by
 rcases h with h|⟨rfl,h⟩
 ·exact mO h hlen
 ·refine zJ h ((mO (l:=[]) (zKt (zKh.1 h).1) hlen).mono ?_)
  rintro r b ⟨h1,h2⟩
  exact⟨h1,by rw[h2,List.set_set]⟩
theorem Gx {bs:List ay}{i:Nat}{l:Bytes}(h:FV i l bs) :
 SC Tryz.V 205 [.p i 0] bs (fun r bs'=>r=.str l∧bs'=bs.set i .gone):=by
 rcases h with h|⟨rfl,h⟩
 ·exact wF h
 ·refine zJ h ((wF (l:=[]) (zKt (zKh.1 h).1)).mono ?_)
  rintro r b ⟨h1,h2⟩
  exact⟨h1,by rw[h2,List.set_set]⟩
theorem wQ (c:UInt8):PC Tryz.V 197 [.int .u8 c.toNat] (.bool (isAlpha c)) :=
 ⟨Tryz.call197,by simp[flat,flat.ai],by simp[flat,flat.ai],fun w _=>(cJ c w).mono fun _ _ ⟨h,k⟩=>⟨h,cO k⟩⟩
theorem nW (c:UInt8):PC Tryz.V 182 [.int .u8 c.toNat] (.bool (isDigit c)) :=
 ⟨Tryz.call182,by simp[flat,flat.ai],by simp[flat,flat.ai],fun w _=>(bB c w).mono fun _ _ ⟨h,k⟩=>⟨h,cO k⟩⟩
theorem DK (c:UInt8):PC Tryz.V 189 [.int .u8 c.toNat] (.bool (bm c)) :=
 ⟨Tryz.call189,by simp[flat,flat.ai],by simp[flat,flat.ai],fun w _=>(BI c w).mono fun _ _ ⟨h,k⟩=>⟨h,cO k⟩⟩
theorem qa (set:Bytes)(c:UInt8):decide (0≤Lib.indexByte set c)=set.contains c:=by
 rw[cS]
 by_cases h:pre (·==c) set<set.length
 ·rw[if_pos h]
  have:=fZ (p:=(·==c)) h
  simp only[beq_iff_eq]at this
  simp only[Int.natCast_nonneg,decide_true]
  symm
  rw[zKB,← this]
  exact List.getElem_mem h
 ·rw[if_neg h]
  simp only[show ¬ (0:Int)≤-1 by omega,decide_false]
  symm
  rw[← Bool.not_eq_true,zKB]
  intro hm
  obtain⟨k,hk,rfl⟩:=zKJ hm
  have h2:=cq (·==set[k]) set
  have:=gN (p:=(·==set[k])) (l:=set) (k:=k) (by omega) hk
  simp at this
theorem p_among (c:UInt8)(set:Bytes):PC Tryz.V 170 [.int .u8 c.toNat,.str set] (.bool (set.contains c)):=by
 refine aU 3000 Tryz.func170 rfl Tryz.ntmps170 Tryz.results170 Tryz.call170 (by simp) (by simp[flat,flat.ai]) (by simp[flat,flat.ai]) ?_
 simp only[ad,↓Xn,↓Xo,↓Xg,↓Xd,↓Xe,↓Xf,Tryz.VΓ,Tryz.Γs,Xp,Xi,Nat.reduceAdd,Nat.reduceSub,Nat.reduceLT,Nat.reduceLeDiff,reduceIte,reduceCtorEq,Nat.reduceEqDiff,implies_true,forall_const,aa]
 (refine ae (dx set c) ?_;simp only[ad,↓Xn,↓Xo,↓Xg,↓Xd,↓Xe,↓Xf,Tryz.VΓ,Tryz.Γs,Xp,Xi,Nat.reduceAdd,Nat.reduceSub,Nat.reduceLT,Nat.reduceLeDiff,reduceIte,reduceCtorEq,Nat.reduceEqDiff,implies_true,forall_const,aa])
 rw[qa]
theorem p_alnum (c:UInt8):PC Tryz.V 169 [.int .u8 c.toNat] (.bool (isAlpha c||isDigit c)):=by
 refine aU 3000 Tryz.func169 rfl Tryz.ntmps169 Tryz.results169 Tryz.call169 (by simp) (by simp[flat,flat.ai]) (by simp[flat,flat.ai]) ?_
 simp only[ad,↓Xn,↓Xo,↓Xg,↓Xd,↓Xe,↓Xf,Tryz.VΓ,Tryz.Γs,Xp,Xi,Nat.reduceAdd,Nat.reduceSub,Nat.reduceLT,Nat.reduceLeDiff,reduceIte,reduceCtorEq,Nat.reduceEqDiff,implies_true,forall_const,aa]
 (refine ae (wQ c) ?_;simp only[ad,↓Xn,↓Xo,↓Xg,↓Xd,↓Xe,↓Xf,Tryz.VΓ,Tryz.Γs,Xp,Xi,Nat.reduceAdd,Nat.reduceSub,Nat.reduceLT,Nat.reduceLeDiff,reduceIte,reduceCtorEq,Nat.reduceEqDiff,implies_true,forall_const,aa])
 refine⟨fun h=>?_,fun h=>by rw[h];rfl⟩
 (refine ae (nW c) ?_;simp only[ad,↓Xn,↓Xo,↓Xg,↓Xd,↓Xe,↓Xf,Tryz.VΓ,Tryz.Γs,Xp,Xi,Nat.reduceAdd,Nat.reduceSub,Nat.reduceLT,Nat.reduceLeDiff,reduceIte,reduceCtorEq,Nat.reduceEqDiff,implies_true,forall_const,aa])
 rw[h];rfl
theorem eZ (c:UInt8):PC Tryz.V 143 [.int .u8 c.toNat] (.bool (eM c)):=by
 refine aU 3000 Tryz.func143 rfl Tryz.ntmps143 Tryz.results143 Tryz.call143 (by simp) (by simp[flat,flat.ai]) (by simp[flat,flat.ai]) ?_
 simp only[ad,↓Xn,↓Xo,↓Xg,↓Xd,↓Xe,↓Xf,Tryz.VΓ,Tryz.Γs,Xp,Xi,Nat.reduceAdd,Nat.reduceSub,Nat.reduceLT,Nat.reduceLeDiff,reduceIte,reduceCtorEq,Nat.reduceEqDiff,implies_true,forall_const,aa]
 (refine ae (p_alnum c) ?_;simp only[ad,↓Xn,↓Xo,↓Xg,↓Xd,↓Xe,↓Xf,Tryz.VΓ,Tryz.Γs,Xp,Xi,Nat.reduceAdd,Nat.reduceSub,Nat.reduceLT,Nat.reduceLeDiff,reduceIte,reduceCtorEq,Nat.reduceEqDiff,implies_true,forall_const,aa])
 refine⟨fun h=>?_,fun h=>by unfold eM;rw[h];rfl⟩
 (refine ae (p_among c [45,46,95,126]) ?_;simp only[ad,↓Xn,↓Xo,↓Xg,↓Xd,↓Xe,↓Xf,Tryz.VΓ,Tryz.Γs,Xp,Xi,Nat.reduceAdd,Nat.reduceSub,Nat.reduceLT,Nat.reduceLeDiff,reduceIte,reduceCtorEq,Nat.reduceEqDiff,implies_true,forall_const,aa])
 unfold eM;rw[h];rfl
theorem dig_low (c:UInt8)(h:isDigit c=true):IntKind.u8.wrap ((c.toNat:Int) - 48)=cu c:=by
 have:=dj (p:=fun c=>!isDigit c||decide (IntKind.u8.wrap ((c.toNat:Int) - 48)=cu c)) (by decide +kernel) c
 simpa[h] using this
theorem IC (c:UInt8)(h:bm c=true)(h2:isDigit c=false):IntKind.u8.wrap (IntKind.u8.wrap (qA .or .u8 (c.toNat:Int) 32 - 97)+10)=cu c:=by
 have:=dj (p:=fun c=>!bm c||isDigit c||decide (IntKind.u8.wrap (IntKind.u8.wrap (qA .or .u8 (c.toNat:Int) 32 - 97)+10)=cu c)) (by decide +kernel) c
 simpa[h,h2] using this
theorem DJ (c:UInt8)(hc:bm c=true):PC Tryz.V 190 [.int .u8 c.toNat] (.int .u8 (cu c)):=by
 refine aU 3000 Tryz.func190 rfl Tryz.ntmps190 Tryz.results190 Tryz.call190 (by simp) (by simp[flat,flat.ai]) (by simp[flat,flat.ai]) ?_
 simp only[ad,↓Xn,↓Xo,↓Xg,↓Xd,↓Xe,↓Xf,Tryz.VΓ,Tryz.Γs,Xp,Xi,Nat.reduceAdd,Nat.reduceSub,Nat.reduceLT,Nat.reduceLeDiff,reduceIte,reduceCtorEq,Nat.reduceEqDiff,implies_true,forall_const,aa]
 (refine ae (nW c) ?_;simp only[ad,↓Xn,↓Xo,↓Xg,↓Xd,↓Xe,↓Xf,Tryz.VΓ,Tryz.Γs,Xp,Xi,Nat.reduceAdd,Nat.reduceSub,Nat.reduceLT,Nat.reduceLeDiff,reduceIte,reduceCtorEq,Nat.reduceEqDiff,implies_true,forall_const,aa])
 refine⟨fun h=>?_,fun h=>?_⟩
 ·rw[dig_low c h]
 ·rw[IC c hc h]
theorem B1 (a b:UInt8)(ha:bm a=true)(hb:bm b=true):qA .or .u8 (shI .shl .u8 (cu a) 4) (cu b)=((unhex a b).toNat:Int):=by
 have h1:=kU ha
 have h2:=kU hb
 have:∀ x,x<16→∀ y,y<16→qA .or .u8 (shI .shl .u8 (x:Nat) 4) (y:Nat)=(((x * 16+y).toUInt8).toNat:Int):=by decide +kernel
 exact this _ (by omega) _ (by omega)
def je (s:Bytes)(i:Nat):Option UInt8:=(cT (s.drop (i+1))).map fun x=>unhex x.1 x.2.1
theorem qm (s:Bytes)(i:Nat):cT (s.drop (i+1))=if i+2<s.length then(if bm (s.getD (i+1) 0)&&bm (s.getD (i+2) 0) then some (s.getD (i+1) 0,s.getD (i+2) 0,s.drop (i+3)) else none) else none:=by
 by_cases h:i+2<s.length
 ·rw[if_pos h,zKm (by omega:i+1<s.length),zKm (by omega:i+1+1<s.length)]
  simp only[cT,List.getD_eq_getElem?_getD]
  simp[show i+1<s.length by omega,h]
 ·rw[if_neg h]
  have hl:(s.drop (i+1)).length≤1:=by simp;omega
  match hm:s.drop (i+1),hl with
  | [],_=>rfl
  | [_],_=>rfl
theorem wP (s:Bytes)(i:Nat)(hi:i<s.length)(hs:s.length≤9223372036854775807):PC Tryz.V 165 [.str s,.int .i64 i] (.eN [.int .u8 (((je s i).getD 0).toNat:Int),.bool (je s i).isSome]):=by
 refine aU 3000 Tryz.func165 rfl Tryz.ntmps165 Tryz.results165 Tryz.call165 (by simp) (by simp[flat,flat.ai]) (by simp[flat,flat.ai]) ?_
 simp only[ad,↓Xn,↓Xo,↓Xg,↓Xd,↓Xe,↓Xf,Tryz.VΓ,Tryz.Γs,Xp,Xi,Nat.reduceAdd,Nat.reduceSub,Nat.reduceLT,Nat.reduceLeDiff,reduceIte,reduceCtorEq,Nat.reduceEqDiff,implies_true,forall_const,aa]
 unfold je
 rw[qm]
 refine⟨⟨by omega,by omega⟩,fun hl=>?_,fun hl=>?_⟩
 ·have hl:i+2<s.length:=(by simp at hl;omega)
  rw[if_pos hl]
  refine⟨⟨by omega,by omega⟩,⟨by omega,by omega⟩,?_⟩
  (refine ae (DK _) ?_;simp only[ad,↓Xn,↓Xo,↓Xg,↓Xd,↓Xe,↓Xf,Tryz.VΓ,Tryz.Γs,Xp,Xi,Nat.reduceAdd,Nat.reduceSub,Nat.reduceLT,Nat.reduceLeDiff,reduceIte,reduceCtorEq,Nat.reduceEqDiff,implies_true,forall_const,aa])
  refine⟨fun ha=>⟨⟨by omega,by omega⟩,⟨by omega,by omega⟩,?_⟩,fun ha=>?_⟩
  ·have ha:bm (s.getD (i+1) 0)=true:=by simpa using ha
   (refine ae (DK _) ?_;simp only[ad,↓Xn,↓Xo,↓Xg,↓Xd,↓Xe,↓Xf,Tryz.VΓ,Tryz.Γs,Xp,Xi,Nat.reduceAdd,Nat.reduceSub,Nat.reduceLT,Nat.reduceLeDiff,reduceIte,reduceCtorEq,Nat.reduceEqDiff,implies_true,forall_const,aa])
   refine⟨fun hb=>?_,fun hb=>⟨⟨by omega,by omega⟩,⟨by omega,by omega⟩,?_⟩⟩
   ·have hb:bm (s.getD (i+2) 0)=false:=by simpa using hb
    rw[ha,hb];rfl
   ·have hb:bm (s.getD (i+2) 0)=true:=by simpa using hb
    (refine aV (DJ _ ha) ?_;simp only[ad,↓Xn,↓Xo,↓Xg,↓Xd,↓Xe,↓Xf,Tryz.VΓ,Tryz.Γs,Xp,Xi,Nat.reduceAdd,Nat.reduceSub,Nat.reduceLT,Nat.reduceLeDiff,reduceIte,reduceCtorEq,Nat.reduceEqDiff,implies_true,forall_const,aa])
    refine⟨by omega,⟨by omega,by omega⟩,⟨by omega,by omega⟩,?_⟩
    (refine aV (DJ _ hb) ?_;simp only[ad,↓Xn,↓Xo,↓Xg,↓Xd,↓Xe,↓Xf,Tryz.VΓ,Tryz.Γs,Xp,Xi,Nat.reduceAdd,Nat.reduceSub,Nat.reduceLT,Nat.reduceLeDiff,reduceIte,reduceCtorEq,Nat.reduceEqDiff,implies_true,forall_const,aa])
    refine⟨(av (by kernel_rfl)),?_⟩
    rw[B1 _ _ ha hb,ha,hb];rfl
  ·have ha:bm (s.getD (i+1) 0)=false:=by simpa using ha
   rw[ha];rfl
 ·have hl:¬ i+2<s.length:=(by simp at hl;omega)
  rw[if_neg hl];rfl
theorem shr4 (c:UInt8):shI .shr .u8 (c.toNat:Int) 4=((c.toNat / 16:Nat):Int):=by
 have:=dj (p:=fun c=>decide (shI .shr .u8 (c.toNat:Int) 4=((c.toNat / 16:Nat):Int))) (by decide +kernel) c
 simpa using this
theorem and15 (c:UInt8):qA .and .u8 (c.toNat:Int) 15=((c.toNat % 16:Nat):Int):=by
 have:=dj (p:=fun c=>decide (qA .and .u8 (c.toNat:Int) 15=((c.toNat % 16:Nat):Int))) (by decide +kernel) c
 simpa using this
theorem sZ:∀ n,n<16→([48,49,50,51,52,53,54,55,56,57,65,66,67,68,69,70]:Bytes).getD n 0=hU n:=by decide
theorem xw (c:UInt8):(jX c).map cU=[.int .u8 37,.int .u8 ((hU (c.toNat / 16)).toNat:Int),.int .u8 ((hU (c.toNat % 16)).toNat:Int)]:=rfl
structure sI (bs:List ay) (i L:Nat) (x:SV) (l:Bytes):Prop where
 box:bs[i]? = some (.cells [x] 174 true)
 sl:Sl 5 1 L x bs (l.map cU) l.length
 lt:i<L
theorem sI.ne {bs:List ay}{i L j n:Nat}{l:Bytes}(h:sI bs i L (.o j n) l):i≠j:=by
 rcases h.sl with⟨h1,-⟩|⟨j',h1,h2,-⟩
 ·cases h1
 ·cases h1;have:=h.lt;omega
theorem qV {bs:List ay}{i L:Nat}{x:SV}{l:Bytes}(h:sI bs i L x l)(hL:L≤bs.length)(hl:l.length≤1000000)(c:UInt8) :
 SC Tryz.V 166 [.p i 0,.int .u8 c.toNat] bs (fun r b=>r=.eN []∧∃ x',sI b i L x' (l++jX c)∧bs.length≤b.length∧∀ k,k<L→k≠i→b[k]? = bs[k]?):=by
 have dR:i<bs.length:=(zKh.1 h.box).1
 have hc:=c.toNat_lt
 have d1:=sZ (c.toNat / 16) (by omega)
 have d2:=sZ (c.toNat % 16) (by omega)
 have s1:=shr4 c
 have s2:=and15 c
 have gH:=h.box
 have ec:=xw c
 refine cK 3000 Tryz.func166 rfl Tryz.ntmps166 Tryz.results166 Tryz.call166 (by simp) (aw bs.length _ (by simp[within,within.aN,dR])) ?_
 rcases h.sl with⟨rfl,fL,xi⟩|⟨j,rfl,lr,hj⟩
 ·obtain rfl:l=[]:=by simpa using fL
  have ho:∀ X,(bs++[X])[i]? = some (.cells [.aD] 174 true):=fun X=>af gH [X]
  have jJ:∀ X Y,(bs++[X]++[Y])[i]? = some (.cells [.aD] 174 true):=fun X Y=>af (ho X) [Y]
  simp only[ad,↓Xn,↓Xo,↓Xg,↓Xd,↓Xe,↓Xf,Tryz.VΓ,Tryz.Γs,Xp,Xi,Nat.reduceAdd,Nat.reduceSub,Nat.reduceLT,Nat.reduceLeDiff,reduceIte,reduceCtorEq,Nat.reduceEqDiff,implies_true,forall_const,aa,gH,s1,s2,Int.toNat_natCast,d1,d2,aX,ho,jJ]
  rw[← ec]
  have n1:¬ bs.length=i:=by omega
  have n2:∀ X,¬ (bs++[X]).length=i:=fun X=>by simp;omega
  refine⟨by omega,⟨by omega,by omega⟩,⟨by omega,by omega⟩,by omega,⟨by unfold maxLen;omega,by omega⟩,?_,_,⟨zKt (by simp;omega),.inr ⟨_,rfl,by simp;omega,?_⟩,h.lt⟩,by simp,fun k hk iV=>?_⟩
  ·exact(by
   refine eT (fun n=>if n=i then 0 else 1) ?_
   simp only[zKX,List.map_nil,fO,kK,reduceIte,n1,n2]
   exact av (by kernel_rfl))
  ·rw[zKg (fun e=>n2 _ e.symm),aX];rfl
  ·rw[zKg (fun e=>iV e.symm),zKe (by simp;omega),zKe (by omega)]
 ·have vx:=h.ne
  have mA:j<bs.length:=(zKh.1 hj).1
  have ho:∀ X,(bs++[X])[j]? = some (.own (l.map cU) 5 1 l.length true):=fun X=>af hj [X]
  have jJ:∀ X Y,((bs++[X]).set j .gone++[Y])[i]? = some (.cells [.o j l.length] 174 true):=fun X Y=>by
   rw[zKe (by simp;omega),zKg vx.symm];exact af gH [X]
  simp only[ad,↓Xn,↓Xo,↓Xg,↓Xd,↓Xe,↓Xf,Tryz.VΓ,Tryz.Γs,Xp,Xi,Nat.reduceAdd,Nat.reduceSub,Nat.reduceLT,Nat.reduceLeDiff,reduceIte,reduceCtorEq,Nat.reduceEqDiff,implies_true,forall_const,aa,gH,s1,s2,Int.toNat_natCast,d1,d2,aX,ho,jJ]
  rw[← ec,← List.map_append]
  have n1:¬ bs.length=i:=by omega
  have n2:∀ X,¬ (bs++[X]).length=i:=fun X=>by simp;omega
  have n3:¬ j=i:=fun e=>vx e.symm
  refine⟨by omega,⟨by omega,by omega⟩,⟨by omega,by omega⟩,by omega,⟨by unfold maxLen;omega,by omega⟩,?_,_,⟨zKt (by simp;omega),.inr ⟨(bs++[ay.own ((jX c).map cU) 5 1 3 true]).length,by simp[jX],by simp;omega,?_⟩,h.lt⟩,by simp;omega,fun k hk iV=>?_⟩
  ·exact(by
   refine eT (fun n=>if n=i then 0 else 1) ?_
   simp only[zKX,List.map_nil,fO,kK,reduceIte,n1,n2,n3]
   exact av (by kernel_rfl))
  ·rw[zKg (fun e=>n2 _ e.symm),zKx (by simp)];simp[jX]
  ·rw[zKg (fun e=>iV e.symm),zKe (by simp;omega),zKg (by omega),zKe (by omega)]
theorem pD {bs:List ay}{i L:Nat}{x:SV}{l:Bytes}(h:sI bs i L x l)(hL:L≤bs.length)(c:UInt8)(hx:x=.aD):sI ((bs++[ay.own [cU c] 5 1 1 true]++[ay.own [cU c] 5 1 1 true]).set i (ay.cells [.o (bs++[ay.own [cU c] 5 1 1 true]).length 1] 174 true)) i L (.o (bs++[ay.own [cU c] 5 1 1 true]).length 1) (l++[c]):=by
 have dR:i<bs.length:=(zKh.1 h.box).1
 have hl:l=[]:=by
  rcases h.sl with⟨-,h1,-⟩|⟨j,h1,-,-⟩
  ·simpa using h1
  ·rw[hx]at h1;cases h1
 subst hl
 have n2:∀ X,¬ (bs++[X]).length=i:=fun X=>by simp;omega
 refine⟨zKt (by simp;omega),.inr ⟨_,rfl,by simp;omega,?_⟩,h.lt⟩
 rw[zKg (fun e=>n2 _ e.symm),aX]
 rfl
theorem mK {bs:List ay}{i L j:Nat}{l:Bytes}(h:sI bs i L (.o j l.length) l)(hL:L≤bs.length)(c:UInt8)(lr:L≤j):sI (((bs++[ay.own [cU c] 5 1 1 true]).set j .gone++[ay.own (l.map cU++[cU c]) 5 1 (l.length+1) true]).set i (ay.cells [.o (bs++[ay.own [cU c] 5 1 1 true]).length (l.length+1)] 174 true)) i L (.o (bs++[ay.own [cU c] 5 1 1 true]).length (l.length+1)) (l++[c]):=by
 have dR:i<bs.length:=(zKh.1 h.box).1
 refine⟨zKt (by simp;omega),.inr ⟨(bs++[ay.own [cU c] 5 1 1 true]).length,by simp,by simp;omega,?_⟩,h.lt⟩
 rw[zKg (by simp;omega),zKx (by simp)]
 simp
def NoI (also s:Bytes)(σ:St):Prop:=∃ (i:Nat) (x:SV) (d:Bytes),lk 0 σ.t=some (.str s)∧lk 1 σ.t=some (.str also)∧lk 6 σ.t=some (.p 0 0)∧lk 7 σ.t=some (.int .i64 i)∧i≤s.length∧d.length≤3 * i∧1≤σ.b.length∧sI σ.b 0 1 x d∧comb d (bz also (az (s.drop i)))=bz also (az s)
def NoM (s:Bytes)(σ:St):Nat:=match lk 7 σ.t with
 | some (.int _ k)=>s.length - k.toNat
 | _=>0
theorem yY {s:Bytes}{σ:St}{k:Nat}(h:lk 7 σ.t=some (.int .i64 k)):NoM s σ=s.length - k:=by simp[NoM,h]
theorem tZ {also s:Bytes}{t:List (Nat × SV)}{b:List ay}{i i':Nat}{x:SV}{d:Bytes}(h0:lk 0 t=some (.str s))(h1:lk 1 t=some (.str also))(h6:lk 6 t=some (.p 0 0))(h7:lk 7 t=some (.int .i64 i'))(h:i'≤s.length∧d.length≤3 * i')(hb:1≤b.length)(ht:sI b 0 1 x d)
 (hn:comb d (bz also (az (s.drop i')))=bz also (az s)) (aA:i<i'):NoI also s ⟨t,b⟩∧NoM s ⟨t,b⟩<s.length - i :=
 ⟨⟨i',x,d,h0,h1,h6,h7,h.1,h.2,hb,ht,hn⟩,by rw[yY h7];omega⟩
theorem lx {s:Bytes}{i:Nat}(hi:i<s.length):az (s.drop i)=if s[i]=37 then(match je s i with
 | some _=>(match cT (s.drop (i+1)) with
   | some (a,b,_)=>.hex a b::az (s.drop (i+3))
   | none=>[.bad])
 | none=>[.bad]) else .lit s[i]::az (s.drop (i+1)):=by
 rw[zKm hi]
 by_cases h:s[i]=37
 ·rw[if_pos h,h]
  unfold je
  cases hp:cT (s.drop (i+1)) with
  | none=>simp only[Option.map_none];exact qO hp
  | some x =>
    obtain⟨a,b,r⟩:=x
    obtain⟨h1,h2,h3⟩:=cN hp
    simp only[Option.map_some]
    rw[h1,fk h2 h3]
    congr 2
    have:=congrArg (List.drop 2) h1
    rw[List.drop_drop]at this
    exact this.symm
 ·rw[if_neg h,cW h]
theorem iM (s also:Bytes)(ha:also.length≤1000):PC Tryz.V 139 [.str s,.str also] (.eN [.str (aY also s).1,.int .i64 (aY also s).2]):=by
 refine aU 3000 Tryz.func139 rfl Tryz.ntmps139 Tryz.results139 Tryz.call139 (by simp) (by simp[flat,flat.ai]) (by simp[flat,flat.ai]) ?_
 simp only[ad,↓Xn,↓Xo,↓Xg,↓Xd,↓Xe,↓Xf,Tryz.VΓ,Tryz.Γs,Xp,Xi,Nat.reduceAdd,Nat.reduceSub,Nat.reduceLT,Nat.reduceLeDiff,reduceIte,reduceCtorEq,Nat.reduceEqDiff,implies_true,forall_const,aa]
 unfold aY
 refine⟨fun hl=>?_,fun hl=>?_⟩
 ·have hl:16384<s.length:=(by simp at hl;omega)
  rw[if_pos hl]
 have hl:s.length≤16384:=(by simp at hl;omega)
 rw[if_neg (by omega)]
 refine aJ (NoI also s) (NoM s) ⟨0,.aD,[],rfl,rfl,rfl,rfl,by omega,by simp,by simp,⟨rfl,.inl ⟨rfl,rfl,rfl⟩,by omega⟩,qx _ (wR also _)⟩ ?_
 rintro⟨t,b⟩ ⟨i,x,d,h0,h1,h6,h7,hi,hd,nD,ht,hn⟩
 simp only at h0 h1 h6 h7 nD ht
 rw[yY h7]
 have gH:=ht.box
 by_cases aA:i<s.length
 ·have hu:=lx aA
  have hg:s.getD i 0=s[i]:=by simp[List.getD,aA]
  simp only[ad,↓Xn,↓Xo,↓Xg,↓Xd,↓Xe,↓Xf,Tryz.VΓ,Tryz.Γs,Xp,Xi,Nat.reduceAdd,Nat.reduceSub,Nat.reduceLT,Nat.reduceLeDiff,reduceIte,reduceCtorEq,Nat.reduceEqDiff,implies_true,forall_const,aa,h0,h1,h6,h7]
  refine⟨fun _=>⟨⟨by omega,by omega⟩,fun hc=>?_,fun hc=>?_⟩,fun h=>absurd h (by simp;omega)⟩
  ·rw[cA (n:=37) aA 37 rfl]at hc
   rw[if_pos (by simpa using hc)]at hu
   have pe:=wP s i aA (by omega)
   cases he:je s i with
   | none =>
     rw[he]at pe hu
     simp only at hu
     rw[hu]at hn
     have kD:bz also (az s)=([],2):=by rw[← hn];rfl
     rw[kD]
     (refine ae pe ?_;simp only[ad,↓Xn,↓Xo,↓Xg,↓Xd,↓Xe,↓Xf,Tryz.VΓ,Tryz.Γs,Xp,Xi,Nat.reduceAdd,Nat.reduceSub,Nat.reduceLT,Nat.reduceLeDiff,reduceIte,reduceCtorEq,Nat.reduceEqDiff,implies_true,forall_const,aa,h0,h1,h6,h7,Option.isSome_none])
   | some v =>
     rw[he]at pe hu
     have hx:=he
     unfold je at hx
     obtain⟨⟨a,bb,r⟩,hp,hv⟩:=Option.map_eq_some_iff.1 hx
     simp only at hv
     rw[hp]at hu
     simp only at hu
     have hi3:i+3≤s.length:=by
      obtain⟨h1,-,-⟩:=cN hp
      have:=congrArg List.length h1
      simp at this
      omega
     have sU:comb (d++kM v) (bz also (az (s.drop (i+2+1))))=bz also (az s):=by
      rw[← hn,hu,bz,gy,hv]
     simp only[Option.getD_some,Option.isSome_some]at pe
     (refine ae pe ?_;simp only[ad,↓Xn,↓Xo,↓Xg,↓Xd,↓Xe,↓Xf,Tryz.VΓ,Tryz.Γs,Xp,Xi,Nat.reduceAdd,Nat.reduceSub,Nat.reduceLT,Nat.reduceLeDiff,reduceIte,reduceCtorEq,Nat.reduceEqDiff,implies_true,forall_const,aa,h0,h1,h6,h7])
     refine⟨⟨by omega,by omega⟩,?_⟩
     (refine ae (eZ v) ?_;simp only[ad,↓Xn,↓Xo,↓Xg,↓Xd,↓Xe,↓Xf,Tryz.VΓ,Tryz.Γs,Xp,Xi,Nat.reduceAdd,Nat.reduceSub,Nat.reduceLT,Nat.reduceLeDiff,reduceIte,reduceCtorEq,Nat.reduceEqDiff,implies_true,forall_const,aa,h0,h1,h6,h7])
     refine⟨fun hq=>?_,fun hq=>?_⟩
     ·have Fl:comb (d++[v]) (bz also (az (s.drop (i+2+1))))=bz also (az s):=by
       rw[← sU];unfold kM;rw[if_pos hq]
      (rcases ht.sl with⟨rfl,fL,xi⟩|⟨j,rfl,lr,hj⟩
       ·have ho:∀ X,(b++[X])[0]? = some (.cells [.aD] 174 true):=fun X=>af gH [X]
        have jJ:∀ X Y,(b++[X]++[Y])[0]? = some (.cells [.aD] 174 true):=fun X Y=>af (ho X) [Y]
        simp only[ad,↓Xn,↓Xo,↓Xg,↓Xd,↓Xe,↓Xf,Tryz.VΓ,Tryz.Γs,Xp,Xi,Nat.reduceAdd,Nat.reduceSub,Nat.reduceLT,Nat.reduceLeDiff,reduceIte,reduceCtorEq,Nat.reduceEqDiff,implies_true,forall_const,aa,h0,h1,h6,h7,gH,aX,ho,jJ]
        refine⟨by omega,⟨by unfold maxLen;omega,by omega⟩,⟨by omega,by omega⟩,tZ (i':=i+2+1) (x:=.o (b++[ay.own [cU (v)] 5 1 1 true]).length 1) (d:=d++[v]) h0 h1 h6 (by simp only[lk,reduceIte,zKO.injEq,SV.int.injEq,true_and];omega) ⟨by omega,by simp;omega⟩ (by simp) (pD ht nD (v) rfl) (Fl) (by omega)⟩
       ·have hlj:d.length=d.length:=rfl
        have ho:∀ X,(b++[X])[j]? = some (.own (d.map cU) 5 1 d.length true):=fun X=>af hj [X]
        have jJ:∀ X Y,((b++[X]).set j .gone++[Y])[0]? = some (.cells [.o j d.length] 174 true):=fun X Y=>by
         rw[zKe (by simp),zKg (by omega)];exact af gH [X]
        simp only[ad,↓Xn,↓Xo,↓Xg,↓Xd,↓Xe,↓Xf,Tryz.VΓ,Tryz.Γs,Xp,Xi,Nat.reduceAdd,Nat.reduceSub,Nat.reduceLT,Nat.reduceLeDiff,reduceIte,reduceCtorEq,Nat.reduceEqDiff,implies_true,forall_const,aa,h0,h1,h6,h7,gH,aX,ho,jJ]
        refine⟨by omega,⟨by unfold maxLen;omega,by omega⟩,⟨by omega,by omega⟩,tZ (i':=i+2+1) (x:=.o (b++[ay.own [cU (v)] 5 1 1 true]).length (d.length+1)) (d:=d++[v]) h0 h1 h6 (by simp only[lk,reduceIte,zKO.injEq,SV.int.injEq,true_and];omega) ⟨by omega,by simp;omega⟩ (by simp) (mK ht nD (v) lr) (Fl) (by omega)⟩)
     ·have Fl:comb (d++jX v) (bz also (az (s.drop (i+2+1))))=bz also (az s):=by
       rw[← sU];unfold kM;rw[if_neg (by simp[hq])]
      refine aG (qV ht nD (by omega) v) ?_
      rintro r b' ⟨rfl,x',ht',hbl',-⟩
      simp only[ad,↓Xn,↓Xo,↓Xg,↓Xd,↓Xe,↓Xf,Tryz.VΓ,Tryz.Γs,Xp,Xi,Nat.reduceAdd,Nat.reduceSub,Nat.reduceLT,Nat.reduceLeDiff,reduceIte,reduceCtorEq,Nat.reduceEqDiff,implies_true,forall_const,aa,h0,h1,h6,h7]
      exact⟨⟨by omega,by omega⟩,tZ (i':=i+2+1) (d:=d++jX v) h0 h1 h6 (by simp only[lk,reduceIte,zKO.injEq,SV.int.injEq,true_and];omega) ⟨by omega,by simp[jX];omega⟩ (by omega) ht' Fl (by omega)⟩
  ·rw[cA (n:=37) aA 37 rfl]at hc
   rw[if_neg (by simpa using hc)]at hu
   rw[hu,bz]at hn
   rw[hg]
   have sU:c9 also s[i]=true→comb (d++[s[i]]) (bz also (az (s.drop (i+1))))=bz also (az s):=fun hk=>by
    rw[← hn,if_pos hk,gy]
   (refine ae (eZ s[i]) ?_;simp only[ad,↓Xn,↓Xo,↓Xg,↓Xd,↓Xe,↓Xf,Tryz.VΓ,Tryz.Γs,Xp,Xi,Nat.reduceAdd,Nat.reduceSub,Nat.reduceLT,Nat.reduceLeDiff,reduceIte,reduceCtorEq,Nat.reduceEqDiff,implies_true,forall_const,aa,h0,h1,h6,h7,hg])
   refine⟨fun hq=>?_,fun hq=>?_⟩
   ·(refine ae (dx also s[i]) ?_;simp only[ad,↓Xn,↓Xo,↓Xg,↓Xd,↓Xe,↓Xf,Tryz.VΓ,Tryz.Γs,Xp,Xi,Nat.reduceAdd,Nat.reduceSub,Nat.reduceLT,Nat.reduceLeDiff,reduceIte,reduceCtorEq,Nat.reduceEqDiff,implies_true,forall_const,aa,h0,h1,h6,h7,hg])
    rw[qa]
    refine⟨fun qi=>?_,fun qi=>?_⟩
    ·have hk:c9 also s[i]=true:=by unfold c9;rw[qi];simp
     (rcases ht.sl with⟨rfl,fL,xi⟩|⟨j,rfl,lr,hj⟩
      ·have ho:∀ X,(b++[X])[0]? = some (.cells [.aD] 174 true):=fun X=>af gH [X]
       have jJ:∀ X Y,(b++[X]++[Y])[0]? = some (.cells [.aD] 174 true):=fun X Y=>af (ho X) [Y]
       simp only[ad,↓Xn,↓Xo,↓Xg,↓Xd,↓Xe,↓Xf,Tryz.VΓ,Tryz.Γs,Xp,Xi,Nat.reduceAdd,Nat.reduceSub,Nat.reduceLT,Nat.reduceLeDiff,reduceIte,reduceCtorEq,Nat.reduceEqDiff,implies_true,forall_const,aa,h0,h1,h6,h7,gH,aX,ho,jJ]
       refine⟨by omega,⟨by unfold maxLen;omega,by omega⟩,⟨by omega,by omega⟩,tZ (i':=i+1) (x:=.o (b++[ay.own [cU (s[i])] 5 1 1 true]).length 1) (d:=d++[s[i]]) h0 h1 h6 (by simp only[lk,reduceIte,zKO.injEq,SV.int.injEq,true_and];omega) ⟨by omega,by simp;omega⟩ (by simp) (pD ht nD (s[i]) rfl) (sU hk) (by omega)⟩
      ·have hlj:d.length=d.length:=rfl
       have ho:∀ X,(b++[X])[j]? = some (.own (d.map cU) 5 1 d.length true):=fun X=>af hj [X]
       have jJ:∀ X Y,((b++[X]).set j .gone++[Y])[0]? = some (.cells [.o j d.length] 174 true):=fun X Y=>by
        rw[zKe (by simp),zKg (by omega)];exact af gH [X]
       simp only[ad,↓Xn,↓Xo,↓Xg,↓Xd,↓Xe,↓Xf,Tryz.VΓ,Tryz.Γs,Xp,Xi,Nat.reduceAdd,Nat.reduceSub,Nat.reduceLT,Nat.reduceLeDiff,reduceIte,reduceCtorEq,Nat.reduceEqDiff,implies_true,forall_const,aa,h0,h1,h6,h7,gH,aX,ho,jJ]
       refine⟨by omega,⟨by unfold maxLen;omega,by omega⟩,⟨by omega,by omega⟩,tZ (i':=i+1) (x:=.o (b++[ay.own [cU (s[i])] 5 1 1 true]).length (d.length+1)) (d:=d++[s[i]]) h0 h1 h6 (by simp only[lk,reduceIte,zKO.injEq,SV.int.injEq,true_and];omega) ⟨by omega,by simp;omega⟩ (by simp) (mK ht nD (s[i]) lr) (sU hk) (by omega)⟩)
    ·have hk:¬ c9 also s[i]=true:=by unfold c9;rw[hq,qi];simp
     rw[if_neg hk]at hn
     have kD:bz also (az s)=([],1):=by rw[← hn];rfl
     rw[kD]
   ·have hk:c9 also s[i]=true:=by unfold c9;rw[hq];simp
    (rcases ht.sl with⟨rfl,fL,xi⟩|⟨j,rfl,lr,hj⟩
     ·have ho:∀ X,(b++[X])[0]? = some (.cells [.aD] 174 true):=fun X=>af gH [X]
      have jJ:∀ X Y,(b++[X]++[Y])[0]? = some (.cells [.aD] 174 true):=fun X Y=>af (ho X) [Y]
      simp only[ad,↓Xn,↓Xo,↓Xg,↓Xd,↓Xe,↓Xf,Tryz.VΓ,Tryz.Γs,Xp,Xi,Nat.reduceAdd,Nat.reduceSub,Nat.reduceLT,Nat.reduceLeDiff,reduceIte,reduceCtorEq,Nat.reduceEqDiff,implies_true,forall_const,aa,h0,h1,h6,h7,gH,aX,ho,jJ]
      refine⟨by omega,⟨by unfold maxLen;omega,by omega⟩,⟨by omega,by omega⟩,tZ (i':=i+1) (x:=.o (b++[ay.own [cU (s[i])] 5 1 1 true]).length 1) (d:=d++[s[i]]) h0 h1 h6 (by simp only[lk,reduceIte,zKO.injEq,SV.int.injEq,true_and];omega) ⟨by omega,by simp;omega⟩ (by simp) (pD ht nD (s[i]) rfl) (sU hk) (by omega)⟩
     ·have hlj:d.length=d.length:=rfl
      have ho:∀ X,(b++[X])[j]? = some (.own (d.map cU) 5 1 d.length true):=fun X=>af hj [X]
      have jJ:∀ X Y,((b++[X]).set j .gone++[Y])[0]? = some (.cells [.o j d.length] 174 true):=fun X Y=>by
       rw[zKe (by simp),zKg (by omega)];exact af gH [X]
      simp only[ad,↓Xn,↓Xo,↓Xg,↓Xd,↓Xe,↓Xf,Tryz.VΓ,Tryz.Γs,Xp,Xi,Nat.reduceAdd,Nat.reduceSub,Nat.reduceLT,Nat.reduceLeDiff,reduceIte,reduceCtorEq,Nat.reduceEqDiff,implies_true,forall_const,aa,h0,h1,h6,h7,gH,aX,ho,jJ]
      refine⟨by omega,⟨by unfold maxLen;omega,by omega⟩,⟨by omega,by omega⟩,tZ (i':=i+1) (x:=.o (b++[ay.own [cU (s[i])] 5 1 1 true]).length (d.length+1)) (d:=d++[s[i]]) h0 h1 h6 (by simp only[lk,reduceIte,zKO.injEq,SV.int.injEq,true_and];omega) ⟨by omega,by simp;omega⟩ (by simp) (mK ht nD (s[i]) lr) (sU hk) (by omega)⟩)
 ·have jq:i=s.length:=by omega
  subst jq
  rw[List.drop_length,dJ]at hn
  have kD:bz also (az s)=(d,0):=by rw[← hn];simp[bz,comb]
  rw[kD]
  rcases ht.sl with⟨rfl,fL,xi⟩|⟨j,rfl,lr,hj⟩
  ·obtain rfl:d=[]:=by simpa using fL
   simp only[ad,↓Xn,↓Xo,↓Xg,↓Xd,↓Xe,↓Xf,Tryz.VΓ,Tryz.Γs,Xp,Xi,Nat.reduceAdd,Nat.reduceSub,Nat.reduceLT,Nat.reduceLeDiff,reduceIte,reduceCtorEq,Nat.reduceEqDiff,implies_true,forall_const,aa,h0,h1,h6,h7,gH]
   exact fun h=>(by simp at h)
  ·simp only[ad,↓Xn,↓Xo,↓Xg,↓Xd,↓Xe,↓Xf,Tryz.VΓ,Tryz.Γs,Xp,Xi,Nat.reduceAdd,Nat.reduceSub,Nat.reduceLT,Nat.reduceLeDiff,reduceIte,reduceCtorEq,Nat.reduceEqDiff,implies_true,forall_const,aa,h0,h1,h6,h7,gH,hj]
   refine⟨fun h=>absurd h (by simp),fun _=>⟨gT d,?_⟩⟩
   rw[gJ]
def iH (i:Nat)(σ:St):Nat:=match lk i σ.t with
 | some (.int _ n)=>n.toNat
 | _=>0
theorem ax {i:Nat}{σ:St}{k:IntKind}{n:Int}(h:lk i σ.t=some (.int k n)):iH i σ=n.toNat:=by simp[iH,h]
theorem DD {ρ:Type}(cl:ρ→List SV)(s:Nat)(hs:∀ r,(cl r).length=s):∀ (L:List ρ)(k:Nat)(h:k<L.length),((L.flatMap cl).drop (k * s)).take s=cl L[k]
 | [],k,h=>by simp at h
 | r::L,0,_=>by
   have:=hs r
   simp[List.take_append,zKz (Nat.le_of_eq this),this]
 | r::L,k+1,h=>by
   have h1:=hs r
   have h2:((r::L).flatMap cl).drop ((k+1) * s)=(L.flatMap cl).drop (k * s):=by
    rw[zKa,List.drop_append,zKN (by rw[Nat.add_mul];omega),zKv,show (k+1) * s - (cl r).length=k * s by rw[Nat.add_mul];omega]
   rw[h2]
   simpa using DD cl s hs L k (by simpa using h)
theorem mP {ρ:Type}(cl:ρ→List SV)(s:Nat)(hs:∀ r,(cl r).length=s):∀ (L:List ρ),(L.flatMap cl).length=L.length * s
 | []=>by simp
 | r::L=>by rw[zKa,zKk,hs r,mP cl s hs L,zKi,Nat.add_mul];omega
theorem fm {V:Cx}{f:FuncId}{args:List SV}{bs:List ay}{x:SV}(hx:flat x=true)(h:SC V f args bs (fun r b=>r=x∧Kp bs b)):SC V f args bs (fun r b=>r=x∧b=bs):=by
 refine⟨h.1,fun β fp w fU hG hE=>(h.2 β fp w fU hG hE).mono ?_⟩
 rintro e w' ⟨r,bs',β₂,fp₂,⟨rfl,hlen,cg⟩,Bf,-,aT,jx,nx,mf⟩
 have old:∀ {i r},bs[i]? = some r→bs'[i]? = some r:=fun {i r} hi=>(cg i (zKh.1 hi).1).trans hi
 refine⟨r,bs,β₂,fp₂,⟨rfl,rfl⟩,Bf,zKj _,fun β' hβ=>?_,jx,fun i r' hi=>nx i r' (old hi),fun i r' hi=>mf i r' (old hi)⟩
 have hc:∀ i,i<bs.length→(if i<bs.length then β' i else β₂ i)=β' i:=fun i hi=>if_pos hi
 have hall2:=aT (fun i=>if i<bs.length then β' i else β₂ i) (fun i _=>by
  by_cases hi:i<bs.length
  ·exact(hβ i hi).trans (hc i hi).symm
  ·exact(if_neg hi).symm)
 have mu:=fU (fun i=>if i<bs.length then β' i else β₂ i) (fun i hi=>((Bf i hi).trans (hβ i hi)).trans (hc i hi).symm)
 have kY:=fU β' (fun i hi=>(Bf i hi).trans (hβ i hi))
 obtain⟨he,hbx2⟩:=hall2
 refine⟨by rw[he,fD _ hx _ β'],⟨fun i r hi=>?_,fun i r hi=>hbx2.lt i r (old hi),fun i j r r' hi hj=>hbx2.sep i j r r' (old hi) (old hj)⟩⟩
 have h1:=mu.holds i r hi
 have h2:=kY.holds i r hi
 have h3:=hbx2.holds i r (old hi)
 have e:=hc i (zKh.1 hi).1
 simp only[e]at h1 h3
 exact xW h1 h2 h3
theorem Gt {V:Cx}{f:FuncId}{args:List SV}{bs:List ay}{x:SV}(dX:Vc.Enters V f)(fx:flat x=true)(h:∀ β fp w,vt β fp w bs→Calls V.P f (aI β args).toArray w fun e w'=>e=.returned (ah β x)∧Below w.heap.size w w'):SC V f args bs (fun r b=>r=x∧b=bs):=by
 refine⟨dX,fun β fp w fU hG hE=>(h β fp w (fU β (bp.refl _ _))).mono ?_⟩
 rintro e w' ⟨he,hb⟩
 have eU:=fU β (bp.refl _ _)
 refine⟨x,bs,β,fp,⟨rfl,rfl⟩,bp.refl _ _,zKj _,fun β' hβ=>⟨by rw[he,fD x fx β β'],⟨fun i r hi=>((fU β' hβ).holds i r hi).stays (fun k hk=>hb.block k (eU.lt i r hi k hk)),fun i r hi k hk=>Nat.lt_of_lt_of_le (eU.lt i r hi k hk) hb.size,eU.sep⟩⟩,mD.jE hb,fun i r hi hm k hk=>.inr ⟨i,r,hi,hm,hk⟩,fun i r hi k hk=>.inr ⟨i,r,hi,hk⟩⟩
open Go.RowKit Wf
attribute [local go_sem] fB eF get_list
theorem oO {s:Bytes}(h:0<s.length)(ha:isAlpha s[0]=true):cE (s.take 1)=true:=by
 cases s with
 | nil=>simp at h
 | cons c r=>simp at ha;simp[cE,ha]
theorem ow {s:Bytes}(h:0<s.length)(ha:isAlpha s[0]=false):cE s=false:=by
 cases s with
 | nil=>simp at h
 | cons c r=>simp at ha;simp[cE,ha]
theorem j0 {s:Bytes}{k:Nat}(h0:0<k)(h:k<s.length)(ht:cE (s.take k)=true)(hc:eO s[k]=true):cE (s.take (k+1))=true:=by
 cases s with
 | nil=>simp at h
 | cons c r =>
   obtain⟨j,rfl⟩:∃ j,k=j+1:=⟨k - 1,by omega⟩
   rw[List.take_succ_cons]at ht ⊢
   unfold cE at ht ⊢
   simp only[zKs]at ht ⊢
   exact⟨ht.1,aS (by simpa using h) ht.2 (by simpa using hc)⟩
theorem wD {s:Bytes}{k:Nat}(h0:0<k)(h:k<s.length)(hc:eO s[k]=false):cE s=false:=by
 cases s with
 | nil=>simp at h
 | cons c r =>
   obtain⟨j,rfl⟩:∃ j,k=j+1:=⟨k - 1,by omega⟩
   have:=cQ (p:=eO) (s:=r) (k:=j) (by simpa using h) (by simpa using hc)
   show (isAlpha c&&r.all eO)=false
   rw[this];simp
theorem GQ (c:UInt8):([43,45,46].contains c=true→0≤Lib.indexByte [43,45,46] c)∧([43,45,46].contains c=false→Lib.indexByte [43,45,46] c=-1):=by
 have h:=dj (p:=fun c=>decide (([43,45,46].contains c=true→0≤Lib.indexByte [43,45,46] c)∧([43,45,46].contains c=false→Lib.indexByte [43,45,46] c=-1))) (by decide +kernel) c
 exact of_decide_eq_true h
theorem B0 (s:Bytes)(w:World)(hs:s.length≤9223372036854775807) :
 Calls Tryz.prog 174 #[(Value.string ⟨zJ9 (s)⟩)] w fun e w'=>e=.returned (.bool (cE s))∧w=w':=by
 go_enter Tryz.func174,Tryz.ntmps174
 go_wp2_with fail
 go_loop [6] (fun i=>∃ k:Nat,k≤s.length∧i=.int .i64 k∧(k=0∨cE (s.take k)=true)) (fun i=>s.length - (intOf i).toNat)
 case atStart=>exact⟨0,by omega,rfl,.inl rfl⟩
 case round =>
  obtain⟨k,hk,rfl,hr⟩:=hrel
  have Hr:=hid hr
  clear hr
  by_cases aA:k<s.length
  ·cases ha:isAlpha s[k]
   ·by_cases h0:k=0
    ·subst h0
     have Hq:=hid (ow aA ha)
     go_wp2_with (first
      | (go_at_call 197;refine(cJ _ _).mono ?_;rintro e w' ⟨rfl,rfl⟩)
      | (go_at_call 182;refine(bB _ _).mono ?_;rintro e w' ⟨rfl,rfl⟩)
      | (go_at_call 144;refine(gh [43,45,46] _ _).mono ?_;rintro e w' ⟨rfl,rfl⟩))
     go_ret
     exact⟨a7 Hq.out.symm,rfl⟩
    ·have sC:((k:Int)==0)=false:=by simp[h0]
     have Hr2:=hid (Hr.out.resolve_left h0)
     obtain⟨p1,p2⟩:=GQ s[k]
     cases hd:isDigit s[k]
     ·cases hp:[43,45,46].contains s[k]
      ·have p3:=p2 hp
       have Hq:=hid (wD (by omega) aA (by unfold eO;rw[ha,hd,hp];rfl))
       clear p1 p2 hp
       go_wp2_with (first
        | (go_at_call 197;refine(cJ _ _).mono ?_;rintro e w' ⟨rfl,rfl⟩)
        | (go_at_call 182;refine(bB _ _).mono ?_;rintro e w' ⟨rfl,rfl⟩)
        | (go_at_call 144;refine(gh [43,45,46] _ _).mono ?_;rintro e w' ⟨rfl,rfl⟩))
       go_ret
       exact⟨a7 Hq.out.symm,rfl⟩
      ·have p3:=p1 hp
       have Hn:=hid (j0 (by omega) aA Hr2.out (by unfold eO;rw[hp];simp))
       clear p1 p2 hp
       go_wp2_with (first
        | (go_at_call 197;refine(cJ _ _).mono ?_;rintro e w' ⟨rfl,rfl⟩)
        | (go_at_call 182;refine(bB _ _).mono ?_;rintro e w' ⟨rfl,rfl⟩)
        | (go_at_call 144;refine(gh [43,45,46] _ _).mono ?_;rintro e w' ⟨rfl,rfl⟩))
       go_round
       case rel=>exact⟨k+1,by omega,by go_num,.inr Hn.out⟩
       case measure=>simp[intOf];omega
     ·have Hn:=hid (j0 (by omega) aA Hr2.out (by unfold eO;rw[hd];simp))
      clear p1 p2
      go_wp2_with (first
       | (go_at_call 197;refine(cJ _ _).mono ?_;rintro e w' ⟨rfl,rfl⟩)
       | (go_at_call 182;refine(bB _ _).mono ?_;rintro e w' ⟨rfl,rfl⟩)
       | (go_at_call 144;refine(gh [43,45,46] _ _).mono ?_;rintro e w' ⟨rfl,rfl⟩))
      go_round
      case rel=>exact⟨k+1,by omega,by go_num,.inr Hn.out⟩
      case measure=>simp[intOf];omega
   ·have Hn:Hid (cE (s.take (k+1))=true):=hid (by
     rcases Hr.out with rfl|hr
     ·exact oO aA ha
     ·by_cases h0:k=0
      ·subst h0;exact oO aA ha
      ·exact j0 (by omega) aA hr (by unfold eO;rw[ha];rfl))
    go_wp2_with (first
     | (go_at_call 197;refine(cJ _ _).mono ?_;rintro e w' ⟨rfl,rfl⟩)
     | (go_at_call 182;refine(bB _ _).mono ?_;rintro e w' ⟨rfl,rfl⟩)
     | (go_at_call 144;refine(gh [43,45,46] _ _).mono ?_;rintro e w' ⟨rfl,rfl⟩))
    go_round
    case rel=>exact⟨k+1,by omega,by go_num,.inr Hn.out⟩
    case measure=>simp[intOf];omega
  ·cases hem:s.isEmpty
   ·have Hq:Hid (cE s=true):=hid (by
     rcases Hr.out with rfl|hr
     ·cases s <;> simp at hem aA
     ·rw[zKz (by omega)]at hr;exact hr)
    go_wp2_with fail
    go_ret
    exact⟨a7 Hq.out.symm,rfl⟩
   ·have Hq:Hid (cE s=false):=hid (by cases s <;> simp at hem <;> rfl)
    go_wp2_with fail
    go_ret
    exact⟨a7 Hq.out.symm,rfl⟩
open Go Vc Go.RowKit Wf
def usv (u:Uri):SV:=.agg [.str u.scheme,.str u.authority,.str u.path,.str u.query,.str u.fragment,.bool u.ix,.bool u.dA,.bool u.bh,.bool u.bA]
theorem gL (s:Bytes):cR s=s.take (du s - 1):=by
 unfold cR du
 have h:=List.suffix_iff_eq_drop.1 (List.dropWhile_suffix (l:=s.reverse) (· != 47))
 have hle:=(List.dropWhile_suffix (l:=s.reverse) (· != 47)).length_le
 generalize (s.reverse.dropWhile (· != 47))=d at h hle
 rw[List.length_reverse]at hle
 rw[h,List.drop_drop,List.reverse_drop,List.reverse_reverse,List.length_reverse]
 congr 1
 simp
 omega
theorem nr (s:Bytes):p8 s 47=(du s:Int) - 1:=G8 s 47
theorem p7 (s:Bytes):du s≤s.length:=by
 have:=(List.dropWhile_suffix (l:=s.reverse) (· != 47)).length_le
 rw[List.length_reverse]at this
 exact this
theorem vX (s:Bytes):s.take (max 0 (p8 s 47)).toNat=cR s:=by
 rw[gL,nr]
 congr 1
 omega
theorem G7 (s:Bytes):p8 s 47≤s.length:=by
 have:=p7 s
 rw[nr]
 omega
theorem yc (s:Bytes)(hs:s.length≤9223372036854775807):PC Tryz.V 174 [.str s] (.bool (cE s)) :=
 ⟨Tryz.call174,by simp[flat,flat.ai],by simp[flat,flat.ai],fun w _=>(B0 s w hs).mono fun _ _ ⟨h,k⟩=>⟨h,cO k⟩⟩
theorem bZ {s:Bytes}(h:Lib.hasPrefix s [47,47]=false):aC s=([],false,s):=by
 unfold aC
 split
 ·simp[Lib.hasPrefix]at h
 ·rfl
theorem jt {s:Bytes}(h:Lib.hasPrefix s [47,47]=true):aC s=((Lib.trimPrefix s [47,47]).take (pre (·==47) (Lib.trimPrefix s [47,47])),true,(Lib.trimPrefix s [47,47]).drop (pre (·==47) (Lib.trimPrefix s [47,47]))):=by
 obtain⟨r,rfl⟩:=zKn.1 h
 have ht:Lib.trimPrefix ([47,47]++r) [47,47]=r:=by simp[Lib.trimPrefix,Lib.hasPrefix]
 rw[ht]
 rfl
theorem Ac (s:Bytes):PC Tryz.V 149 [.str s] (.eN [usv (a8 s).1,.int .i64 (a8 s).2]):=by
 refine aU 3000 Tryz.func149 rfl Tryz.ntmps149 Tryz.results149 Tryz.call149 (by simp) (by simp[flat,flat.ai]) (by simp[flat,flat.ai,usv]) ?_
 simp only[ad,↓Xn,↓Xo,↓Xg,↓Xd,↓Xe,↓Xf,Tryz.VΓ,Tryz.Γs,Xp,Xi,Nat.reduceAdd,Nat.reduceSub,Nat.reduceLT,Nat.reduceLeDiff,reduceIte,reduceCtorEq,Nat.reduceEqDiff,implies_true,forall_const,aa]
 refine⟨fun h=>?_,fun h=>?_⟩
 ·have:a8 s=(Uri.none,5):=if_pos (by simp at h;omega)
  rw[this];rfl
 ·have hl:s.length<4294967281:=by simp at h;omega
  have hq:a8 s=aL (aM 63 (aM 35 s).1).1 (aM 35 s).2.1 (aM 63 (aM 35 s).1).2.1 (aM 35 s).2.2 (aM 63 (aM 35 s).1).2.2:=if_neg (by simp at h;omega)
  rw[hq]
  have l1:=dQ 35 s
  have l2:=dQ 63 (aM 35 s).1
  (refine ae (tS s 35 hl) ?_;simp only[ad,↓Xn,↓Xo,↓Xg,↓Xd,↓Xe,↓Xf,Tryz.VΓ,Tryz.Γs,Xp,Xi,Nat.reduceAdd,Nat.reduceSub,Nat.reduceLT,Nat.reduceLeDiff,reduceIte,reduceCtorEq,Nat.reduceEqDiff,implies_true,forall_const,aa])
  (refine ae (tS _ 63 (by omega)) ?_;simp only[ad,↓Xn,↓Xo,↓Xg,↓Xd,↓Xe,↓Xf,Tryz.VΓ,Tryz.Γs,Xp,Xi,Nat.reduceAdd,Nat.reduceSub,Nat.reduceLT,Nat.reduceLeDiff,reduceIte,reduceCtorEq,Nat.reduceEqDiff,implies_true,forall_const,aa])
  generalize aM 63 (aM 35 s).1=C2 at l2 ⊢
  generalize aM 35 s=C1 at l1 l2 ⊢
  obtain⟨s1,fr,hf⟩:=C1
  obtain⟨s2,qu,hqu⟩:=C2
  simp only at l1 l2 ⊢
  have hix:Lib.indexAny s2 [58,47]=if pre aq s2<s2.length then(pre aq s2:Int) else -1:=lK s2 [58,47]
  have p3:=tQ s2 [58,47] (by decide) (by decide) (by decide) (by omega)
  -- the end: the authority and the path
  by_cases hp:pre aq s2<s2.length
  ·rw[if_pos hp]at hix
   rw[hix]at p3
   (refine ae (p3) ?_;simp only[ad,↓Xn,↓Xo,↓Xg,↓Xd,↓Xe,↓Xf,Tryz.VΓ,Tryz.Γs,Xp,Xi,Nat.reduceAdd,Nat.reduceSub,Nat.reduceLT,Nat.reduceLeDiff,reduceIte,reduceCtorEq,Nat.reduceEqDiff,implies_true,forall_const,aa])
   refine⟨fun _=>⟨⟨by omega,by omega⟩,fun h1=>⟨⟨by omega,by omega⟩,?_⟩,fun h1=>?_⟩,fun h1=>?_⟩
   ·have hh:(s2.drop (pre aq s2)).head? = some 58:=by
     rw[List.head?_drop,zKT hp]
     rw[cA (n:=58) hp 58 rfl]at h1
     rw[beq_iff_eq.1 h1]
    (refine ae (yc _ (by simp;omega)) ?_;simp only[ad,↓Xn,↓Xo,↓Xg,↓Xd,↓Xe,↓Xf,Tryz.VΓ,Tryz.Γs,Xp,Xi,Nat.reduceAdd,Nat.reduceSub,Nat.reduceLT,Nat.reduceLeDiff,reduceIte,reduceCtorEq,Nat.reduceEqDiff,implies_true,forall_const,aa])
    refine⟨fun h2=>?_,fun h2=>⟨⟨by omega,by omega⟩,⟨by omega,by omega⟩,⟨by omega,by omega⟩,(av (by kernel_rfl)),?_⟩⟩
    ·have:aL s2 fr qu hf hqu=(Uri.none,6):=by
      unfold aL
      rw[if_pos hh,if_neg (by simpa using h2)]
     rw[this];rfl
    ·have hs:aL s2 fr qu hf hqu=(⟨s2.take (pre aq s2),(aC (s2.drop (pre aq s2+1))).1,(aC (s2.drop (pre aq s2+1))).2.2,qu,fr,true,(aC (s2.drop (pre aq s2+1))).2.1,hqu,hf⟩,0):=by
      unfold aL
      rw[if_pos hh,if_pos (by simpa using h2)]
     have F5:(s2.drop (pre aq s2+1)).length≤s2.length:=by simp
     (
      (refine ae (kb (s2.drop (pre aq s2+1)) [47,47]) ?_;simp only[ad,↓Xn,↓Xo,↓Xg,↓Xd,↓Xe,↓Xf,Tryz.VΓ,Tryz.Γs,Xp,Xi,Nat.reduceAdd,Nat.reduceSub,Nat.reduceLT,Nat.reduceLeDiff,reduceIte,reduceCtorEq,Nat.reduceEqDiff,implies_true,forall_const,aa])
      cases gU:Lib.hasPrefix (s2.drop (pre aq s2+1)) [47,47]
      ·refine⟨fun h=>(by cases h),fun _=>?_⟩
       have ht:Lib.trimPrefix (s2.drop (pre aq s2+1)) [47,47]=s2.drop (pre aq s2+1):=by unfold Lib.trimPrefix;rw[gU];rfl
       rw[hs,bZ gU];rfl
      ·refine⟨fun _=>?_,fun h=>(by cases h)⟩
       have hl3:=s8 (s2.drop (pre aq s2+1)) [47,47]
       have Eb:=jt gU
       rw[hs,Eb]
       generalize Lib.trimPrefix (s2.drop (pre aq s2+1)) [47,47]=rest at hl3 Eb ⊢
       have qk:=cS rest 47
       have p4:=dx rest 47
       rw[qk]at p4
       have fT:=cq (·==47) rest
       by_cases hr:pre (·==47) rest<rest.length
       ·rw[if_pos hr]at p4
        (refine ae (p4) ?_;simp only[ad,↓Xn,↓Xo,↓Xg,↓Xd,↓Xe,↓Xf,Tryz.VΓ,Tryz.Γs,Xp,Xi,Nat.reduceAdd,Nat.reduceSub,Nat.reduceLT,Nat.reduceLeDiff,reduceIte,reduceCtorEq,Nat.reduceEqDiff,implies_true,forall_const,aa])
        refine⟨fun h=>?_,fun _=>⟨⟨by omega,by omega⟩,⟨by omega,by omega⟩,(av (by kernel_rfl)),rfl⟩⟩
        simp at h;omega
       ·rw[if_neg hr]at p4
        (refine ae (p4) ?_;simp only[ad,↓Xn,↓Xo,↓Xg,↓Xd,↓Xe,↓Xf,Tryz.VΓ,Tryz.Γs,Xp,Xi,Nat.reduceAdd,Nat.reduceSub,Nat.reduceLT,Nat.reduceLeDiff,reduceIte,reduceCtorEq,Nat.reduceEqDiff,implies_true,forall_const,aa])
        refine⟨fun _=>⟨⟨by omega,by omega⟩,⟨by omega,by omega⟩,(av (by kernel_rfl)),?_⟩,fun h=>?_⟩
        ·have:pre (·==47) rest=rest.length:=by omega
         rw[this];simp[usv]
        ·simp at h)
   ·have hs:aL s2 fr qu hf hqu=(⟨[],(aC s2).1,(aC s2).2.2,qu,fr,false,(aC s2).2.1,hqu,hf⟩,0):=by
     unfold aL
     rw[if_neg]
     rw[cA (n:=58) hp 58 rfl]at h1
     rw[List.head?_drop,zKT hp]
     simpa using h1
    (
     (refine ae (kb (s2) [47,47]) ?_;simp only[ad,↓Xn,↓Xo,↓Xg,↓Xd,↓Xe,↓Xf,Tryz.VΓ,Tryz.Γs,Xp,Xi,Nat.reduceAdd,Nat.reduceSub,Nat.reduceLT,Nat.reduceLeDiff,reduceIte,reduceCtorEq,Nat.reduceEqDiff,implies_true,forall_const,aa])
     cases gU:Lib.hasPrefix (s2) [47,47]
     ·refine⟨fun h=>(by cases h),fun _=>?_⟩
      have ht:Lib.trimPrefix (s2) [47,47]=s2:=by unfold Lib.trimPrefix;rw[gU];rfl
      rw[hs,bZ gU];rfl
     ·refine⟨fun _=>?_,fun h=>(by cases h)⟩
      have hl3:=s8 (s2) [47,47]
      have Eb:=jt gU
      rw[hs,Eb]
      generalize Lib.trimPrefix (s2) [47,47]=rest at hl3 Eb ⊢
      have qk:=cS rest 47
      have p4:=dx rest 47
      rw[qk]at p4
      have fT:=cq (·==47) rest
      by_cases hr:pre (·==47) rest<rest.length
      ·rw[if_pos hr]at p4
       (refine ae (p4) ?_;simp only[ad,↓Xn,↓Xo,↓Xg,↓Xd,↓Xe,↓Xf,Tryz.VΓ,Tryz.Γs,Xp,Xi,Nat.reduceAdd,Nat.reduceSub,Nat.reduceLT,Nat.reduceLeDiff,reduceIte,reduceCtorEq,Nat.reduceEqDiff,implies_true,forall_const,aa])
       refine⟨fun h=>?_,fun _=>⟨⟨by omega,by omega⟩,⟨by omega,by omega⟩,(av (by kernel_rfl)),rfl⟩⟩
       simp at h;omega
      ·rw[if_neg hr]at p4
       (refine ae (p4) ?_;simp only[ad,↓Xn,↓Xo,↓Xg,↓Xd,↓Xe,↓Xf,Tryz.VΓ,Tryz.Γs,Xp,Xi,Nat.reduceAdd,Nat.reduceSub,Nat.reduceLT,Nat.reduceLeDiff,reduceIte,reduceCtorEq,Nat.reduceEqDiff,implies_true,forall_const,aa])
       refine⟨fun _=>⟨⟨by omega,by omega⟩,⟨by omega,by omega⟩,(av (by kernel_rfl)),?_⟩,fun h=>?_⟩
       ·have:pre (·==47) rest=rest.length:=by omega
        rw[this];simp[usv]
       ·simp at h)
   ·simp at h1
  ·rw[if_neg hp]at hix
   rw[hix]at p3
   (refine ae (p3) ?_;simp only[ad,↓Xn,↓Xo,↓Xg,↓Xd,↓Xe,↓Xf,Tryz.VΓ,Tryz.Γs,Xp,Xi,Nat.reduceAdd,Nat.reduceSub,Nat.reduceLT,Nat.reduceLeDiff,reduceIte,reduceCtorEq,Nat.reduceEqDiff,implies_true,forall_const,aa])
   refine⟨fun h1=>?_,fun h1=>?_⟩
   ·simp at h1
   ·have hs:aL s2 fr qu hf hqu=(⟨[],(aC s2).1,(aC s2).2.2,qu,fr,false,(aC s2).2.1,hqu,hf⟩,0):=by
     unfold aL
     rw[if_neg]
     rw[zKN (by omega)];simp
    (
     (refine ae (kb (s2) [47,47]) ?_;simp only[ad,↓Xn,↓Xo,↓Xg,↓Xd,↓Xe,↓Xf,Tryz.VΓ,Tryz.Γs,Xp,Xi,Nat.reduceAdd,Nat.reduceSub,Nat.reduceLT,Nat.reduceLeDiff,reduceIte,reduceCtorEq,Nat.reduceEqDiff,implies_true,forall_const,aa])
     cases gU:Lib.hasPrefix (s2) [47,47]
     ·refine⟨fun h=>(by cases h),fun _=>?_⟩
      have ht:Lib.trimPrefix (s2) [47,47]=s2:=by unfold Lib.trimPrefix;rw[gU];rfl
      rw[hs,bZ gU];rfl
     ·refine⟨fun _=>?_,fun h=>(by cases h)⟩
      have hl3:=s8 (s2) [47,47]
      have Eb:=jt gU
      rw[hs,Eb]
      generalize Lib.trimPrefix (s2) [47,47]=rest at hl3 Eb ⊢
      have qk:=cS rest 47
      have p4:=dx rest 47
      rw[qk]at p4
      have fT:=cq (·==47) rest
      by_cases hr:pre (·==47) rest<rest.length
      ·rw[if_pos hr]at p4
       (refine ae (p4) ?_;simp only[ad,↓Xn,↓Xo,↓Xg,↓Xd,↓Xe,↓Xf,Tryz.VΓ,Tryz.Γs,Xp,Xi,Nat.reduceAdd,Nat.reduceSub,Nat.reduceLT,Nat.reduceLeDiff,reduceIte,reduceCtorEq,Nat.reduceEqDiff,implies_true,forall_const,aa])
       refine⟨fun h=>?_,fun _=>⟨⟨by omega,by omega⟩,⟨by omega,by omega⟩,(av (by kernel_rfl)),rfl⟩⟩
       simp at h;omega
      ·rw[if_neg hr]at p4
       (refine ae (p4) ?_;simp only[ad,↓Xn,↓Xo,↓Xg,↓Xd,↓Xe,↓Xf,Tryz.VΓ,Tryz.Γs,Xp,Xi,Nat.reduceAdd,Nat.reduceSub,Nat.reduceLT,Nat.reduceLeDiff,reduceIte,reduceCtorEq,Nat.reduceEqDiff,implies_true,forall_const,aa])
       refine⟨fun _=>⟨⟨by omega,by omega⟩,⟨by omega,by omega⟩,(av (by kernel_rfl)),?_⟩,fun h=>?_⟩
       ·have:pre (·==47) rest=rest.length:=by omega
        rw[this];simp[usv]
       ·simp at h)
def RdI (s:Bytes)(σ:St):Prop:=∃ (p o:Bytes) (j f:Nat),lk 0 σ.t=some (.str p)∧lk 3 σ.t=some (.o j o.length)∧σ.b[j]? = some (.own (o.map cU) 5 1 o.length true)∧p.length+o.length≤s.length∧p.length≤f∧dP f p o=aR s
def RdM (σ:St):Nat:=match lk 0 σ.t with
 | some (.str p)=>p.length
 | _=>0
theorem IV {σ:St}{p:Bytes}(h:lk 0 σ.t=some (.str p)):RdM σ=p.length:=by simp[RdM,h]
theorem iF {s p' o':Bytes}{j f n:Nat}{t:List (Nat × SV)}{b:List ay}(h0:lk 0 t=some (.str p'))(h3:lk 3 t=some (.o j o'.length))(hj:b[j]? = some (.own (o'.map cU) 5 1 o'.length true))(hlen:p'.length+o'.length≤s.length)(hf:p'.length≤f)(kg:dP f p' o'=aR s)(aA:p'.length<n) :
 RdI s ⟨t,b⟩∧RdM ⟨t,b⟩<n:=⟨⟨p',o',j,f,h0,h3,hj,hlen,hf,kg⟩,by rw[IV h0];exact aA⟩
theorem GK (o:Bytes):∃ X:Int,(if 0<p8 o 47 then p8 o 47 else 0)=X∧0≤X∧X≤o.length∧o.take X.toNat=cR o:=by
 refine⟨_,rfl,by split <;> omega,?_,?_⟩
 ·have:=G7 o;split <;> omega
 ·rw[← vX o]
  congr 2
  split <;> omega
theorem tF {o:Bytes}{X:Int}(h:X≤o.length):(o.take X.toNat).length=X.toNat:=by rw[zKD];omega
theorem rd_at {b:List ay}{j:Nat}{o:Bytes}{X:Int}(h:X≤o.length):(b.set j .gone++[.own ((o.map cU).take (X.toNat * 1)) 5 1 X.toNat true])[b.length]? = some (.own ((o.take X.toNat).map cU) 5 1 (o.take X.toNat).length true):=by
 rw[zKx (by simp),tF h]
 simp[List.map_take]
theorem GL (b:List ay)(j:Nat)(o y:Bytes):(b.set j .gone++[.own (o.map cU++y.map cU) 5 1 (o.length+y.length) true])[b.length]? = some (.own ((o++y).map cU) 5 1 (o++y).length true):=by
 rw[zKx (by simp)]
 simp
theorem q9 (s:Bytes)(hs:s.length≤4294967281):PC Tryz.V 152 [.str s] (.str (aR s)):=by
 refine aU 3000 Tryz.func152 rfl Tryz.ntmps152 Tryz.results152 Tryz.call152 (by simp) (by simp[flat,flat.ai]) (by simp[flat,flat.ai]) ?_
 simp only[ad,↓Xn,↓Xo,↓Xg,↓Xd,↓Xe,↓Xf,Tryz.VΓ,Tryz.Γs,Xp,Xi,Nat.reduceAdd,Nat.reduceSub,Nat.reduceLT,Nat.reduceLeDiff,reduceIte,reduceCtorEq,Nat.reduceEqDiff,implies_true,forall_const,aa]
 refine⟨by omega,aJ (RdI s) RdM ⟨s,[],0,s.length,rfl,rfl,rfl,by simp,zKj _,rfl⟩ ?_⟩
 rintro⟨t,b⟩ ⟨p,o,j,f,h0,h3,hj,hlen,hf,kg⟩
 simp only at h0 h3 hj
 rw[IV h0]
 simp only[ad,↓Xn,↓Xo,↓Xg,↓Xd,↓Xe,↓Xf,Tryz.VΓ,Tryz.Γs,Xp,Xi,Nat.reduceAdd,Nat.reduceSub,Nat.reduceLT,Nat.reduceLeDiff,reduceIte,reduceCtorEq,Nat.reduceEqDiff,implies_true,forall_const,aa,h0,h3,hj]
 have Bb:p=[]→o=aR s:=fun hp=>by subst hp;cases f <;> simpa[dP] using kg
 refine⟨fun hp=>?_,fun hp=>⟨gT o,?_⟩⟩
 rotate_left
 ·rw[gJ,Bb (by simpa using hp)]
 replace hp:p≠[]:=by simpa using hp
 have fT:0<p.length:=zK1.2 hp
 obtain⟨f,rfl⟩:∃ f',f=f'+1:=⟨f - 1,by omega⟩
 rw[dP,if_neg hp]at kg
 (refine ae (ka p [46,46,47]) ?_
  simp only[ad,↓Xn,↓Xo,↓Xg,↓Xd,↓Xe,↓Xf,Tryz.VΓ,Tryz.Γs,Xp,Xi,Nat.reduceAdd,Nat.reduceSub,Nat.reduceLT,Nat.reduceLeDiff,reduceIte,reduceCtorEq,Nat.reduceEqDiff,implies_true,forall_const,aa,h0,h3,hj])
 refine⟨fun c1=>?_,fun c1=>?_⟩
 ·have h:=en c1
  rw[show cz p o=(p.drop 3,o) from if_pos c1]at kg
  exact⟨⟨by omega,by simp at h;omega⟩,iF rfl h3 hj (by simp;omega) (by simp at h ⊢;omega) kg (by simp at h ⊢;omega)⟩
 (refine ae (ka p [46,47]) ?_
  simp only[ad,↓Xn,↓Xo,↓Xg,↓Xd,↓Xe,↓Xf,Tryz.VΓ,Tryz.Γs,Xp,Xi,Nat.reduceAdd,Nat.reduceSub,Nat.reduceLT,Nat.reduceLeDiff,reduceIte,reduceCtorEq,Nat.reduceEqDiff,implies_true,forall_const,aa,h0,h3,hj])
 refine⟨fun c2=>?_,fun c2=>?_⟩
 ·have h:=en c2
  rw[show cz p o=(p.drop 2,o) by unfold cz;rw[if_neg (ke c1)];exact if_pos c2]at kg
  exact⟨⟨by omega,by simp at h;omega⟩,iF rfl h3 hj (by simp;omega) (by simp at h ⊢;omega) kg (by simp at h ⊢;omega)⟩
 (refine ae (ka p [47,46,47]) ?_
  simp only[ad,↓Xn,↓Xo,↓Xg,↓Xd,↓Xe,↓Xf,Tryz.VΓ,Tryz.Γs,Xp,Xi,Nat.reduceAdd,Nat.reduceSub,Nat.reduceLT,Nat.reduceLeDiff,reduceIte,reduceCtorEq,Nat.reduceEqDiff,implies_true,forall_const,aa,h0,h3,hj])
 refine⟨fun c3=>?_,fun c3=>?_⟩
 ·have h:=en c3
  rw[show cz p o=(p.drop 2,o) by unfold cz;rw[if_neg (ke c1),if_neg (ke c2)];exact if_pos c3]at kg
  exact⟨⟨by omega,by simp at h;omega⟩,iF rfl h3 hj (by simp;omega) (by simp at h ⊢;omega) kg (by simp at h ⊢;omega)⟩
 refine⟨fun c4=>?_,fun c4=>?_⟩
 ·have h:p=[47,46]:=by simpa using c4
  subst h
  exact iF (p':=[47]) rfl h3 hj (by simp at hlen ⊢;omega) (by simp at hf ⊢;omega) kg (by simp)
 have n4:¬ p=[47,46]:=by simpa using c4
 have Ft:cz p o=if [47,46,46,47].isPrefixOf p then(p.drop 3,cR o)
  else if p=[47,46,46] then([47],cR o)
  else if p=[46]∨p=[46,46] then([],o)
  else(p.drop (1+pre (·==47) (p.drop 1)),o++p.take (1+pre (·==47) (p.drop 1))):=by
  unfold cz;rw[if_neg (ke c1),if_neg (ke c2),if_neg (ke c3),if_neg n4]
 rw[Ft]at kg
 (refine ae (ka p [47,46,46,47]) ?_
  simp only[ad,↓Xn,↓Xo,↓Xg,↓Xd,↓Xe,↓Xf,Tryz.VΓ,Tryz.Γs,Xp,Xi,Nat.reduceAdd,Nat.reduceSub,Nat.reduceLT,Nat.reduceLeDiff,reduceIte,reduceCtorEq,Nat.reduceEqDiff,implies_true,forall_const,aa,h0,h3,hj])
 refine⟨fun c5=>⟨fun c6=>?_,fun c6=>⟨fun c7=>⟨fun c8=>?_,fun c8=>?_⟩,fun c7=>?_⟩⟩,fun c5=>?_⟩
 ·have h:p=[47,46,46]:=by simpa using c6
  subst h
  refine⟨by simp,?_⟩
  (refine ae (pR _ [47]) ?_
   simp only[ad,↓Xn,↓Xo,↓Xg,↓Xd,↓Xe,↓Xf,Tryz.VΓ,Tryz.Γs,Xp,Xi,Nat.reduceAdd,Nat.reduceSub,Nat.reduceLT,Nat.reduceLeDiff,reduceIte,reduceCtorEq,Nat.reduceEqDiff,implies_true,forall_const,aa,h0,h3,hj])
  refine⟨by decide,gT o,?_⟩
  rw[gJ]
  (refine ae (ma o 47 (by omega)) ?_
   simp only[ad,↓Xn,↓Xo,↓Xg,↓Xd,↓Xe,↓Xf,Tryz.VΓ,Tryz.Γs,Xp,Xi,Nat.reduceAdd,Nat.reduceSub,Nat.reduceLT,Nat.reduceLeDiff,reduceIte,reduceCtorEq,Nat.reduceEqDiff,implies_true,forall_const,aa,h0,h3,hj])
  obtain⟨X,hX,x0,x1,hx⟩:=GK o
  rw[hX]
  refine⟨⟨x0,x1⟩,iF (p':=[47]) (o':=o.take X.toNat) (f:=f) rfl ?_ (rd_at x1) ?_ ?_ ?_ (by simp)⟩
  ·rw[tF x1];rfl
  ·rw[tF x1];simp at hlen ⊢;omega
  ·simp at hf ⊢;omega
  ·rw[hx];exact kg
 ·have h:p=[46,46]:=by simpa using c8
  subst h
  exact iF (p':=[]) rfl h3 hj (by simp at hlen ⊢;omega) (by simp at hf ⊢) kg (by simp)
 ·have n5:=ke c5
  have n6:¬ p=[47,46,46]:=by simpa using c6
  have n7:¬ (p=[46]∨p=[46,46]):=by rintro(h|h) <;> subst h <;> simp at c7 c8
  rw[if_neg n5,if_neg n6,if_neg n7]at kg
  simp only at kg
  have p4:=dx (p.drop 1) 47
  rw[cS]at p4
  have F2:=cq (·==47) (p.drop 1)
  generalize pre (·==47) (p.drop 1)=q at kg p4 F2
  simp only[List.length_drop]at p4 F2
  refine⟨by omega,?_⟩
  by_cases hq:q<p.length - 1
  ·rw[if_pos hq]at p4
   (refine ae (p4) ?_
    simp only[ad,↓Xn,↓Xo,↓Xg,↓Xd,↓Xe,↓Xf,Tryz.VΓ,Tryz.Γs,Xp,Xi,Nat.reduceAdd,Nat.reduceSub,Nat.reduceLT,Nat.reduceLeDiff,reduceIte,reduceCtorEq,Nat.reduceEqDiff,implies_true,forall_const,aa,h0,h3,hj])
   have e:(1+(q:Int)).toNat=1+q:=by omega
   have el:(p.take (1+q)).length=1+q:=by rw[zKD];omega
   rw[e]
   refine⟨by omega,fun h=>(by simp at h;omega),fun _=>⟨by omega,⟨tX _,by rw[el];unfold maxLen;omega,by rw[el];omega⟩,by omega,iF (p':=p.drop (1+q)) (o':=o++p.take (1+q)) (f:=f) rfl ?_ (GL ..) ?_ ?_ kg ?_⟩⟩
   ·rw[zKk];rfl
   ·simp;omega
   ·simp;omega
   ·simp;omega
  ·rw[if_neg hq]at p4
   have qi:1+q=p.length:=by omega
   rw[qi,List.drop_length,List.take_length]at kg
   (refine ae (p4) ?_
    simp only[ad,↓Xn,↓Xo,↓Xg,↓Xd,↓Xe,↓Xf,Tryz.VΓ,Tryz.Γs,Xp,Xi,Nat.reduceAdd,Nat.reduceSub,Nat.reduceLT,Nat.reduceLeDiff,reduceIte,reduceCtorEq,Nat.reduceEqDiff,implies_true,forall_const,aa,h0,h3,hj])
   refine⟨by omega,fun _=>⟨by omega,⟨tX _,by unfold maxLen;omega,by omega⟩,by omega,iF (p':=[]) (o':=o++p) (f:=f) ?_ ?_ (GL ..) ?_ ?_ kg ?_⟩,fun h=>(by simp at h)⟩
   ·simp[lk]
   ·rw[zKk];rfl
   ·simp;omega
   ·simp
   ·exact fT
 ·have h:p=[46]:=by simpa using c7
  subst h
  exact iF (p':=[]) rfl h3 hj (by simp at hlen ⊢;omega) (by simp at hf ⊢) kg (by simp)
 ·rw[if_pos (show zKH [47,46,46,47] p=true from c5)]at kg
  obtain⟨r,rfl⟩:=zKn.1 c5
  refine⟨by simp;omega,?_⟩
  (refine ae (pR _ [47]) ?_
   simp only[ad,↓Xn,↓Xo,↓Xg,↓Xd,↓Xe,↓Xf,Tryz.VΓ,Tryz.Γs,Xp,Xi,Nat.reduceAdd,Nat.reduceSub,Nat.reduceLT,Nat.reduceLeDiff,reduceIte,reduceCtorEq,Nat.reduceEqDiff,implies_true,forall_const,aa,h0,h3,hj])
  have ht:Lib.trimPrefix (47::r) [47]=r:=by simp[Lib.trimPrefix,Lib.hasPrefix]
  have hd:(47::46::46::47::r:Bytes).drop (Int.toNat 3)=47::r:=rfl
  rw[hd,ht]
  refine⟨by simp at hlen;omega,gT o,?_⟩
  rw[gJ]
  (refine ae (ma o 47 (by omega)) ?_
   simp only[ad,↓Xn,↓Xo,↓Xg,↓Xd,↓Xe,↓Xf,Tryz.VΓ,Tryz.Γs,Xp,Xi,Nat.reduceAdd,Nat.reduceSub,Nat.reduceLT,Nat.reduceLeDiff,reduceIte,reduceCtorEq,Nat.reduceEqDiff,implies_true,forall_const,aa,h0,h3,hj])
  obtain⟨X,hX,x0,x1,hx⟩:=GK o
  rw[hX]
  refine⟨⟨x0,x1⟩,iF (p':=47::r) (o':=o.take X.toNat) (f:=f) rfl ?_ (rd_at x1) ?_ ?_ ?_ (by simp)⟩
  ·rw[tF x1];rfl
  ·rw[tF x1];simp at hlen ⊢;omega
  ·simp at hf ⊢;omega
  ·rw[hx];exact kg
theorem Br (p o:Bytes)(hp:p≠[]):(cz p o).1.length+(cz p o).2.length≤p.length+o.length:=by
 have fT:0<p.length:=zK1.2 hp
 have hs:(cR o).length≤o.length:=by rw[gL,zKD];exact Nat.min_le_right _ _
 have hq:=cq (·==47) (p.drop 1)
 unfold cz
 split
 ·simp
 split
 ·simp
 split
 ·simp
 split
 ·rename_i h;subst h;simp
 split
 ·simp;omega
 split
 ·rename_i h;subst h;simp;omega
 split
 ·simp
 ·simp at hq ⊢
  omega
theorem uZ:∀ (f:Nat)(p o:Bytes),(dP f p o).length≤p.length+o.length
 | 0,p,o=>by simp[dP]
 | f+1,p,o=>by
   rw[dP]
   split
   ·simp
   ·rename_i hp
    exact Nat.le_trans (uZ f _ _) (Br p o hp)
theorem mS (s:Bytes):(aR s).length≤s.length:=by
 have:=uZ s.length s []
 simpa[aR] using this
theorem pre_hit {p:UInt8→Bool}{s:Bytes}{k:Nat}(hk:k<s.length)(h:k≤pre p s)(hp:p s[k]=true):pre p s=k:=by
 rcases zKu k (pre p s) with h1|h1
 ·rw[gN h1 hk]at hp;cases hp
 ·omega
theorem GO {p:UInt8→Bool}{s:Bytes}{k:Nat}(hk:k<s.length)(h:k≤pre p s)(hp:p s[k]=false):k+1≤pre p s:=by
 rcases zKu k (pre p s) with h1|h1
 ·exact h1
 ·have e:pre p s=k:=by omega
  have h2:=fZ (p:=p) (l:=s) (by omega)
  simp only[e]at h2
  rw[hp]at h2;cases h2
theorem tq (s:Bytes):(du s=0∧∀ j (h:j<s.length),s[j]≠47)∨(∃ i,∃ h:i<s.length,du s=i+1∧s[i]=47∧∀ j (hj:j<s.length),i<j→s[j]≠47):=by
 have e:∀ j (h:j<s.length),(⟨zJ9 s⟩:ByteArray).data[j]! = s[j]:=fun j h=>by simp[h]
 have hb:=nr s
 have hz:(⟨zJ9 s⟩:ByteArray).size=s.length:=rfl
 rcases Lib.lastIndexByte_spec ⟨zJ9 s⟩ (UInt8.toNat 47) with⟨h1,h2⟩|⟨i,h1,h2,h3,h4⟩
 ·left
  refine⟨?_,fun j hj hs=>h2 j hj ?_⟩
  ·have:p8 s 47=-1:=h1
   omega
  ·rw[e j hj,hs]
 ·right
  rw[hz]at h1
  refine⟨i,h1,?_,?_,fun j hj vx hs=>h4 j vx hj ?_⟩
  ·have:p8 s 47=i:=h2
   omega
  ·rw[e i h1]at h3
   exact UInt8.toNat_inj.1 (by exact_mod_cast h3)
  ·rw[e j hj,hs]
theorem EL {s:Bytes}{k:Nat}(hk:k<s.length)(h:du s≤k+1)(hs:s[k]=47):du s=k+1:=by
 rcases tq s with⟨-,h2⟩|⟨i,hi,h1,h2,h3⟩
 ·exact absurd hs (h2 k hk)
 ·rcases zKu i k with h4|h4
  ·exact absurd hs (h3 k hk h4)
  ·omega
theorem Ca {s:Bytes}{k:Nat}(hk:k<s.length)(h:du s≤k+1)(hs:s[k]≠47):du s≤k:=by
 rcases tq s with⟨h1,-⟩|⟨i,hi,h1,h2,h3⟩
 ·omega
 ·rcases zKu i k with h4|h4
  ·omega
  ·have:i=k:=by omega
   subst this
   exact absurd h2 hs
theorem j9 (c:UInt8)(set:Bytes)(ht:set.length≤4294967281):PC Tryz.V 67 [.int .u8 c.toNat,.str set] (.bool (set.contains c)):=by
 refine aU 3000 Tryz.func67 rfl Tryz.ntmps67 Tryz.results67 Tryz.call67 (by simp) (by simp[flat,flat.ai]) (by simp[flat,flat.ai]) ?_
 simp only[ad,↓Xn,↓Xo,↓Xg,↓Xd,↓Xe,↓Xf,Tryz.VΓ,Tryz.Γs,Xp,Xi,Nat.reduceAdd,Nat.reduceSub,Nat.reduceLT,Nat.reduceLeDiff,reduceIte,reduceCtorEq,Nat.reduceEqDiff,implies_true,forall_const,aa]
 refine aJ (fun σ=>∃ k:Nat,k≤set.length∧(set.take k).contains c=false∧lk 0 σ.t=some (.int .u8 c.toNat)∧lk 1 σ.t=some (.str set)∧lk 4 σ.t=some (.bool false)∧lk 5 σ.t=some (.int .i64 k)) (fun σ=>set.length - iH 5 σ) ⟨0,by omega,rfl,rfl,rfl,rfl,rfl⟩ ?_
 rintro⟨t,b⟩ ⟨k,hk,hc,h0,h1,h4,h5⟩
 simp only at h0 h1 h4 h5
 rw[ax h5]
 simp only[ad,↓Xn,↓Xo,↓Xg,↓Xd,↓Xe,↓Xf,Tryz.VΓ,Tryz.Γs,Xp,Xi,Nat.reduceAdd,Nat.reduceSub,Nat.reduceLT,Nat.reduceLeDiff,reduceIte,reduceCtorEq,Nat.reduceEqDiff,implies_true,forall_const,aa,h0,h1,h4,h5]
 refine⟨fun h=>?_,fun h=>?_⟩
 ·have hk':k<set.length:=by simpa using h
  rw[cA (n:=c.toNat) hk' c rfl]
  refine⟨by omega,fun e=>?_,fun e=>⟨by omega,⟨k+1,by omega,?_,by simp⟩,by rw[ax rfl];omega⟩⟩
  ·rw[show set.contains c=true from zKB.2 (by rw[← beq_iff_eq.1 e];exact List.getElem_mem hk')]
  ·apply Bool.eq_false_iff.2
   intro hh
   rw[zKB,zKG hk',zKr]at hh
   rcases hh with hh|hh
   ·exact absurd (zKB.2 hh) (by rw[hc];simp)
   ·have hh:=zKo.1 hh
    rw[← hh]at e
    simp at e
 ·have:k=set.length:=by simp at h;omega
  subst this
  rw[List.take_length]at hc
  rw[hc]
theorem bM (s p:Bytes):PC Tryz.V 104 [.str s,.str p] (.bool (Lib.hasPrefix s p)):=by
 refine aU 3000 Tryz.func104 rfl Tryz.ntmps104 Tryz.results104 Tryz.call104 (by simp) (by simp[flat,flat.ai]) (by simp[flat,flat.ai]) ?_
 simp only[ad,↓Xn,↓Xo,↓Xg,↓Xd,↓Xe,↓Xf,Tryz.VΓ,Tryz.Γs,Xp,Xi,Nat.reduceAdd,Nat.reduceSub,Nat.reduceLT,Nat.reduceLeDiff,reduceIte,reduceCtorEq,Nat.reduceEqDiff,implies_true,forall_const,aa]
 have e:Lib.hasPrefix s p=(s.take p.length==p):=by
  rw[zKI,Lib.hasPrefix,zKn,List.prefix_iff_eq_take,beq_iff_eq]
  exact eq_comm
 refine⟨fun h=>⟨by simp at h;omega,by rw[e]⟩,fun h=>?_⟩
 rw[e,show (s.take p.length==p)=false from beq_eq_false_iff_ne.2 fun q=>by
  have:=congrArg List.length q
  simp at h this
  omega]
theorem bg (s set:Bytes)(hs:s.length≤4294967281)(ht:set.length≤4294967281):PC Tryz.V 46 [.str s,.str set] (.int .i64 (pre (set.contains ·) s)):=by
 refine aU 3000 Tryz.func46 rfl Tryz.ntmps46 Tryz.results46 Tryz.call46 (by simp) (by simp[flat,flat.ai]) (by simp[flat,flat.ai]) ?_
 simp only[ad,↓Xn,↓Xo,↓Xg,↓Xd,↓Xe,↓Xf,Tryz.VΓ,Tryz.Γs,Xp,Xi,Nat.reduceAdd,Nat.reduceSub,Nat.reduceLT,Nat.reduceLeDiff,reduceIte,reduceCtorEq,Nat.reduceEqDiff,implies_true,forall_const,aa]
 refine aJ (fun σ=>∃ k:Nat,k≤s.length∧k≤pre (set.contains ·) s∧lk 0 σ.t=some (.str s)∧lk 1 σ.t=some (.str set)∧lk 5 σ.t=some (.int .i64 k)) (fun σ=>s.length - iH 5 σ) ⟨0,by omega,by omega,rfl,rfl,rfl⟩ ?_
 rintro⟨t,b⟩ ⟨k,hk,hc,h0,h1,h5⟩
 simp only at h0 h1 h5
 rw[ax h5]
 simp only[ad,↓Xn,↓Xo,↓Xg,↓Xd,↓Xe,↓Xf,Tryz.VΓ,Tryz.Γs,Xp,Xi,Nat.reduceAdd,Nat.reduceSub,Nat.reduceLT,Nat.reduceLeDiff,reduceIte,reduceCtorEq,Nat.reduceEqDiff,implies_true,forall_const,aa,h0,h1,h5]
 have fT:=cq (set.contains ·) s
 refine⟨fun h=>?_,fun h=>?_⟩
 ·have hk':k<s.length:=by simpa using h
  have mr:=j9 (s.getD k 0) set ht
  refine⟨by omega,?_⟩
  (refine ae (mr) ?_;simp only[ad,↓Xn,↓Xo,↓Xg,↓Xd,↓Xe,↓Xf,Tryz.VΓ,Tryz.Γs,Xp,Xi,Nat.reduceAdd,Nat.reduceSub,Nat.reduceLT,Nat.reduceLeDiff,reduceIte,reduceCtorEq,Nat.reduceEqDiff,implies_true,forall_const,aa,h0,h1,h5])
  rw[show s.getD k 0=s[k] by simp[List.getD,hk']]
  refine⟨fun e=>?_,fun e=>⟨by omega,⟨k+1,by omega,GO hk' hc e,by simp⟩,by rw[ax rfl];omega⟩⟩
  rw[pre_hit hk' hc e]
 ·have:k=s.length:=by simp at h;omega
  rw[show pre (set.contains ·) s=s.length by omega]
theorem pO (s:Bytes)(hs:s.length≤4294967281):PC Tryz.V 131 [.str s] (.str (cR s)):=by
 refine aU 3000 Tryz.func131 rfl Tryz.ntmps131 Tryz.results131 Tryz.call131 (by simp) (by simp[flat,flat.ai]) (by simp[flat,flat.ai]) ?_
 simp only[ad,↓Xn,↓Xo,↓Xg,↓Xd,↓Xe,↓Xf,Tryz.VΓ,Tryz.Γs,Xp,Xi,Nat.reduceAdd,Nat.reduceSub,Nat.reduceLT,Nat.reduceLeDiff,reduceIte,reduceCtorEq,Nat.reduceEqDiff,implies_true,forall_const,aa]
 refine⟨by omega,aJ (fun σ=>∃ k:Nat,k≤s.length∧du s≤k∧lk 0 σ.t=some (.str s)∧lk 3 σ.t=some (.int .i64 ((k:Int) - 1))) (fun σ=>match lk 3 σ.t with|some (.int _ n)=>(n+1).toNat|_=>0) ⟨s.length,by omega,p7 s,rfl,rfl⟩ ?_⟩
 rintro⟨t,b⟩ ⟨k,hk,hc,h0,h3⟩
 simp only at h0 h3
 simp only[ad,↓Xn,↓Xo,↓Xg,↓Xd,↓Xe,↓Xf,Tryz.VΓ,Tryz.Γs,Xp,Xi,Nat.reduceAdd,Nat.reduceSub,Nat.reduceLT,Nat.reduceLeDiff,reduceIte,reduceCtorEq,Nat.reduceEqDiff,implies_true,forall_const,aa,h0,h3]
 refine⟨fun h=>?_,fun h=>?_⟩
 ·have sC:0<k:=by simp at h;omega
  obtain⟨k,rfl⟩:∃ m,k=m+1:=⟨k - 1,by omega⟩
  have e:(((k+1:Nat):Int) - 1).toNat=k:=by omega
  rw[e,cA (n:=47) (by omega) 47 rfl]
  refine⟨by omega,fun q=>⟨by omega,?_⟩,fun q=>⟨by omega,⟨k,by omega,Ca (by omega) hc (by simpa using q),?_⟩,by omega⟩⟩
  ·rw[gL,EL (by omega) hc (by simpa using q)];rfl
  ·congr 1;omega
 ·rw[gL,show du s=0 by simp at h;omega]
  simp
theorem sq (s:Bytes)(hs:s.length≤4294967281):PC Tryz.V 100 [.str s] (.str (aR s)):=by
 refine aU 3000 Tryz.func100 rfl Tryz.ntmps100 Tryz.results100 Tryz.call100 (by simp) (by simp[flat,flat.ai]) (by simp[flat,flat.ai]) ?_
 simp only[ad,↓Xn,↓Xo,↓Xg,↓Xd,↓Xe,↓Xf,Tryz.VΓ,Tryz.Γs,Xp,Xi,Nat.reduceAdd,Nat.reduceSub,Nat.reduceLT,Nat.reduceLeDiff,reduceIte,reduceCtorEq,Nat.reduceEqDiff,implies_true,forall_const,aa]
 refine aJ (fun σ=>∃ (p o:Bytes) (f:Nat),lk 3 σ.t=some (.str p)∧lk 4 σ.t=some (.str o)∧p.length+o.length≤s.length∧p.length≤f∧dP f p o=aR s) (fun σ=>match lk 3 σ.t with|some (.str p)=>p.length|_=>0) ⟨s,[],s.length,rfl,rfl,by simp,zKj _,rfl⟩ ?_
 rintro⟨t,b⟩ ⟨p,o,f,h3,h4,hlen,hf,kg⟩
 simp only at h3 h4
 simp only[ad,↓Xn,↓Xo,↓Xg,↓Xd,↓Xe,↓Xf,Tryz.VΓ,Tryz.Γs,Xp,Xi,Nat.reduceAdd,Nat.reduceSub,Nat.reduceLT,Nat.reduceLeDiff,reduceIte,reduceCtorEq,Nat.reduceEqDiff,implies_true,forall_const,aa,h3,h4]
 have Bb:p=[]→o=aR s:=fun hp=>by subst hp;cases f <;> simpa[dP] using kg
 refine⟨fun hp=>?_,fun hp=>?_⟩
 rotate_left
 ·rw[Bb (by simpa using hp)]
 replace hp:p≠[]:=by simpa using hp
 have fT:0<p.length:=zK1.2 hp
 obtain⟨f,rfl⟩:∃ f',f=f'+1:=⟨f - 1,by omega⟩
 rw[dP,if_neg hp]at kg
 (refine ae (bM p [46,46,47]) ?_;simp only[ad,↓Xn,↓Xo,↓Xg,↓Xd,↓Xe,↓Xf,Tryz.VΓ,Tryz.Γs,Xp,Xi,Nat.reduceAdd,Nat.reduceSub,Nat.reduceLT,Nat.reduceLeDiff,reduceIte,reduceCtorEq,Nat.reduceEqDiff,implies_true,forall_const,aa,h3,h4])
 refine⟨fun c1=>?_,fun c1=>?_⟩
 ·have h:=en c1
  rw[show cz p o=(p.drop 3,o) from if_pos c1]at kg
  exact⟨⟨by omega,by simp at h;omega⟩,⟨_,_,f,rfl,rfl,by simp;omega,by simp at h ⊢;omega,kg⟩,by simp at h ⊢;omega⟩
 (refine ae (bM p [46,47]) ?_;simp only[ad,↓Xn,↓Xo,↓Xg,↓Xd,↓Xe,↓Xf,Tryz.VΓ,Tryz.Γs,Xp,Xi,Nat.reduceAdd,Nat.reduceSub,Nat.reduceLT,Nat.reduceLeDiff,reduceIte,reduceCtorEq,Nat.reduceEqDiff,implies_true,forall_const,aa,h3,h4])
 refine⟨fun c2=>?_,fun c2=>?_⟩
 ·have h:=en c2
  rw[show cz p o=(p.drop 2,o) by unfold cz;rw[if_neg (ke c1)];exact if_pos c2]at kg
  exact⟨⟨by omega,by simp at h;omega⟩,⟨_,_,f,rfl,rfl,by simp;omega,by simp at h ⊢;omega,kg⟩,by simp at h ⊢;omega⟩
 (refine ae (bM p [47,46,47]) ?_;simp only[ad,↓Xn,↓Xo,↓Xg,↓Xd,↓Xe,↓Xf,Tryz.VΓ,Tryz.Γs,Xp,Xi,Nat.reduceAdd,Nat.reduceSub,Nat.reduceLT,Nat.reduceLeDiff,reduceIte,reduceCtorEq,Nat.reduceEqDiff,implies_true,forall_const,aa,h3,h4])
 refine⟨fun c3=>?_,fun c3=>?_⟩
 ·have h:=en c3
  rw[show cz p o=(p.drop 2,o) by unfold cz;rw[if_neg (ke c1),if_neg (ke c2)];exact if_pos c3]at kg
  exact⟨⟨by omega,by simp at h;omega⟩,⟨_,_,f,rfl,rfl,by simp;omega,by simp at h ⊢;omega,kg⟩,by simp at h ⊢;omega⟩
 refine⟨fun c4=>?_,fun c4=>?_⟩
 ·have h:p=[47,46]:=by simpa using c4
  subst h
  exact⟨⟨_,_,f,rfl,rfl,by simp at hlen ⊢;omega,by simp at hf ⊢;omega,kg⟩,by simp⟩
 have n4:¬ p=[47,46]:=by simpa using c4
 have Ft:cz p o=if [47,46,46,47].isPrefixOf p then(p.drop 3,cR o)
  else if p=[47,46,46] then([47],cR o)
  else if p=[46]∨p=[46,46] then([],o)
  else(p.drop (1+pre (·==47) (p.drop 1)),o++p.take (1+pre (·==47) (p.drop 1))):=by
  unfold cz;rw[if_neg (ke c1),if_neg (ke c2),if_neg (ke c3),if_neg n4]
 rw[Ft]at kg
 have w9:(cR o).length≤o.length:=by rw[gL,zKD];exact Nat.min_le_right _ _
 (refine ae (bM p [47,46,46,47]) ?_;simp only[ad,↓Xn,↓Xo,↓Xg,↓Xd,↓Xe,↓Xf,Tryz.VΓ,Tryz.Γs,Xp,Xi,Nat.reduceAdd,Nat.reduceSub,Nat.reduceLT,Nat.reduceLeDiff,reduceIte,reduceCtorEq,Nat.reduceEqDiff,implies_true,forall_const,aa,h3,h4])
 refine⟨fun c5=>?_,fun c5=>?_⟩
 ·have h:=en c5
  rw[if_pos (show zKH [47,46,46,47] p=true from c5)]at kg
  refine⟨⟨by omega,by simp at h;omega⟩,?_⟩
  have pd:=pO o (by omega)
  (refine aV (pd) ?_;simp only[ad,↓Xn,↓Xo,↓Xg,↓Xd,↓Xe,↓Xf,Tryz.VΓ,Tryz.Γs,Xp,Xi,Nat.reduceAdd,Nat.reduceSub,Nat.reduceLT,Nat.reduceLeDiff,reduceIte,reduceCtorEq,Nat.reduceEqDiff,implies_true,forall_const,aa,h3,h4])
  exact⟨(av (by kernel_rfl)),⟨_,_,f,rfl,rfl,by simp;omega,by simp at h ⊢;omega,kg⟩,by simp at h ⊢;omega⟩
 rw[if_neg (ke c5)]at kg
 refine⟨fun c6=>?_,fun c6=>?_⟩
 ·have h:p=[47,46,46]:=by simpa using c6
  subst h
  have pd:=pO o (by omega)
  (refine ae (pd) ?_;simp only[ad,↓Xn,↓Xo,↓Xg,↓Xd,↓Xe,↓Xf,Tryz.VΓ,Tryz.Γs,Xp,Xi,Nat.reduceAdd,Nat.reduceSub,Nat.reduceLT,Nat.reduceLeDiff,reduceIte,reduceCtorEq,Nat.reduceEqDiff,implies_true,forall_const,aa,h3,h4])
  exact⟨[47],cR o,f,rfl,rfl,by simp at hlen ⊢;omega,by simp at hf ⊢;omega,kg⟩
 rw[if_neg (show ¬ p=[47,46,46] by simpa using c6)]at kg
 refine⟨fun c7=>⟨fun c8=>?_,fun c8=>?_⟩,fun c7=>?_⟩
 ·have h:p=[46,46]:=by simpa using c8
  subst h
  exact⟨⟨_,_,f,rfl,rfl,by simp at hlen ⊢;omega,by simp,kg⟩,by simp⟩
 ·rw[if_neg (show ¬ (p=[46]∨p=[46,46]) by rintro(h|h) <;> subst h <;> simp at c7 c8)]at kg
  have px:=bg (p.drop 1) [47] (by simp;omega) (by simp)
  have hpe:pre (([47]:Bytes).contains ·) (p.drop 1)=pre (·==47) (p.drop 1):=by
   congr 1
   funext c
   by_cases h:c=47
   ·subst h;rfl
   ·simp[h]
  rw[hpe]at px
  have hq:=cq (·==47) (p.drop 1)
  simp only[List.length_drop]at hq
  generalize pre (·==47) (p.drop 1)=q at px kg hq
  refine⟨by omega,?_⟩
  (refine ae (px) ?_;simp only[ad,↓Xn,↓Xo,↓Xg,↓Xd,↓Xe,↓Xf,Tryz.VΓ,Tryz.Γs,Xp,Xi,Nat.reduceAdd,Nat.reduceSub,Nat.reduceLT,Nat.reduceLeDiff,reduceIte,reduceCtorEq,Nat.reduceEqDiff,implies_true,forall_const,aa,h3,h4])
  have e:(1+(q:Int)).toNat=1+q:=by omega
  have el:(p.take (1+q)).length=1+q:=by rw[zKD];omega
  rw[e]
  exact⟨by omega,by omega,by omega,by rw[el];omega,(av (by kernel_rfl)),⟨_,_,f,rfl,rfl,by simp;omega,by simp;omega,kg⟩,by simp;omega⟩
 ·have h:p=[46]:=by simpa using c7
  subst h
  exact⟨⟨_,_,f,rfl,rfl,by simp at hlen ⊢;omega,by simp,kg⟩,by simp⟩
end Go.Proofs.YteipdaijbncgeaaGreatDoor
