/- Texts of this claim, laid together: PctD, MailP, RefSplit, MailW, DidW, MailV, MailR, DidV, WebW, WebV, IdentP, AcctW, IdentW, MadeF, TrimW, TrimR, HeadW, LnkA. -/
import Derived.Test.YtnmlimehgifadaaGreatDoorQ7
open And renaming intro → zSQ
open List renaming getElem?_eq_some_iff → zSR, getElem?_set_self → zSS, length_append → zSU, length_cons → zSW, take_succ_eq_append_getElem → zSX, take_length → zSY, length_nil → zSZ, getElem_mem → zS0, getElem?_append_right → zS1, getElem?_set_ne → zS3, length_set → zS4, getD → zS5, getElem?_append_left → zS6, flatMap_append → zS9, append_nil → zTc, mem_append → zTd, mem_singleton → zTe, all_eq_true → zTg
open Option renaming some → zS7
open Int renaming toNat → zS8
open Prod renaming mk → zTb
open Bool renaming and_false → zTf
open True renaming intro → zTh
set_option linter.all false
set_option maxHeartbeats 16000000
set_option maxRecDepth 20000
namespace Go.Proofs.YtnmlimehgifadaaGreatDoor
open Go Vc Go.RowKit Wf
def iO:List PU→Bytes × Int
 | []=>([],0)
 | .bad::_=>([],2)
 | .lit c::r=>comb [c] (iO r)
 | .hex a b::r=>comb [unhex a b] (iO r)
theorem uN:∀ l:List PU,iO l=if PU.bad∈l then([],2) else(l.map PU.val,0)
 | []=>rfl
 | .bad::r=>by simp[iO]
 | .lit c::r=>by
   rw[iO,uN r]
   by_cases h:PU.bad∈r
   ·simp[h,comb]
   ·simp[h,comb,PU.val]
 | .hex a b::r=>by
   rw[iO,uN r]
   by_cases h:PU.bad∈r
   ·simp[h,comb]
   ·simp[h,comb,PU.val]
theorem LK (l:List PU):(iO l).2≠0→(iO l).1=[]:=by
 rw[uN]
 split
 ·intro _;rfl
 ·intro h;exact absurd rfl h
def DcI (s:Bytes)(σ:St):Prop:=∃ (i:Nat) (x:SV) (d:Bytes),lk 0 σ.t=some (.str s)∧lk 4 σ.t=some x∧lk 5 σ.t=some (.int .i64 i)∧i≤s.length∧d.length≤i∧Sl 5 1 0 x σ.b (d.map dW) d.length∧comb d (iO (aJ (s.drop i)))=iO (aJ s)
def DcM (s:Bytes)(σ:St):Nat:=match lk 5 σ.t with
 | some (.int _ k)=>s.length - k.toNat
 | _=>0
theorem Pg {s:Bytes}{σ:St}{k:Nat}(h:lk 5 σ.t=some (.int .i64 k)):DcM s σ=s.length - k:=by simp[DcM,h]
theorem JZ {s:Bytes}{t:List (Nat × SV)}{b:List av}{i i':Nat}{x:SV}{d:Bytes}(h0:lk 0 t=some (.str s))(h4:lk 4 t=some x)(h5:lk 5 t=some (.int .i64 i'))(h:i'≤s.length∧d.length≤i')(ht:Sl 5 1 0 x b (d.map dW) d.length)
 (hn:comb d (iO (aJ (s.drop i')))=iO (aJ s)) (aA:i<i'):DcI s ⟨t,b⟩∧DcM s ⟨t,b⟩<s.length - i :=
 ⟨⟨i',x,d,h0,h4,h5,h.1,h.2,ht,hn⟩,by rw[Pg h5];omega⟩
theorem gF (s:Bytes):PC Tryz.V 116 [.str s] (.eW [.str (aB s).1,.int .i64 (aB s).2]):=by
 have hpd:aB s=if 16384<s.length then([],5) else iO (aJ s):=by unfold aB;rw[uN]
 rw[hpd]
 refine aZ 3000 Tryz.func116 rfl Tryz.ntmps116 Tryz.results116 Tryz.call116 (by simp) (by simp[flat,flat.ai]) (by simp[flat,flat.ai]) ?_
 refine bC ?_
 refine⟨fun hl=>?_,fun hl=>?_⟩
 ·have hl:16384<s.length:=(by simp at hl;omega)
  rw[if_pos hl]
 have hl:s.length≤16384:=(by simp at hl;omega)
 rw[if_neg (by omega)]
 refine az (DcI s) (DcM s) ⟨0,.aj,[],rfl,rfl,rfl,by omega,by simp,.inl ⟨rfl,rfl,rfl⟩,An _ (LK _)⟩ ?_
 rintro⟨t,b⟩ ⟨i,x,d,h0,h4,h5,hi,hd,ht,hn⟩
 simp only at h0 h4 h5 ht
 rw[Pg h5]
 by_cases aA:i<s.length
 ·have hu:=si aA
  have hg:s.getD i 0=s[i]:=by simp[zS5,aA]
  refine gN (zSQ h0 (zSQ h4 h5)) ?_
  refine⟨fun _=>⟨⟨by omega,by omega⟩,fun hc=>?_,fun hc=>?_⟩,fun h=>absurd h (by simp;omega)⟩
  ·have hc:s[i]=37:=by
    rw[dw (n:=37) aA 37 rfl]at hc
    simpa using hc
   rw[if_pos hc]at hu
   have pe:=wR s i aA hc (by omega)
   cases he:mR s i with
   | none =>
     rw[he]at pe hu
     simp only at hu
     rw[hu]at hn
     have qJ:iO (aJ s)=([],2):=by rw[← hn];rfl
     rw[qJ]
     (refine aa pe ?_;simp only[cz,↓Xn,↓Xo,↓Xg,↓Xd,↓Xe,↓Xf,Tryz.VΓ,Tryz.Γs,Xp,Xi,Nat.reduceAdd,Nat.reduceSub,Nat.reduceLT,Nat.reduceLeDiff,reduceIte,reduceCtorEq,Nat.reduceEqDiff,implies_true,forall_const,cw,h0,h4,h5,Option.isSome_none])
   | some v =>
     rw[he]at pe hu
     have hx:=he
     unfold mR at hx
     obtain⟨⟨a,bb,r⟩,hp,hv⟩:=Option.map_eq_some_iff.1 hx
     simp only at hv
     rw[hp]at hu
     simp only at hu
     have hi3:i+3≤s.length:=by
      obtain⟨h1,-,-⟩:=eh hp
      have:=congrArg List.length h1
      simp at this
      omega
     have jI:comb (d++[v]) (iO (aJ (s.drop (i+2+1))))=iO (aJ s):=by
      rw[← hn,hu,iO,lg,hv]
     simp only[Option.getD_some,Option.isSome_some]at pe
     (refine aa pe ?_;refine gN (zSQ h0 (zSQ h4 h5)) ?_)
     (rcases ht with⟨rfl,jT,mO⟩|⟨j,rfl,nU,hj⟩
      ·obtain rfl:d=[]:=by simpa using jT
       refine gN (zSQ h0 (zSQ h4 (zSQ h5 (zSQ hg @aC)))) ?_
       refine⟨⟨by omega,by omega⟩,by omega,⟨by unfold maxLen;omega,by omega⟩,⟨by omega,by omega⟩,JZ (i':=i+2+1) (x:=.o (b++[av.own [dW (v)] 5 1 1 true]).length 1) (d:=[]++[v]) h0 rfl (by simp only[lk,reduceIte,zS7.injEq,SV.int.injEq,true_and];omega) ⟨by omega,by simp only[List.nil_append,zSW,zSZ];omega⟩ (.inr ⟨_,rfl,by omega,aC _ _⟩) (jI) (by omega)⟩
      ·have gw:j<b.length:=(zSR.1 hj).1
       have ho:∀ X,(b++[X])[j]? = some (.own (d.map dW) 5 1 d.length true):=fun X=>ad hj [X]
       refine gN (zSQ h0 (zSQ h4 (zSQ h5 (zSQ hg (zSQ @aC ho))))) ?_
       refine⟨⟨by omega,by omega⟩,by omega,⟨by unfold maxLen;omega,by omega⟩,⟨by omega,by omega⟩,JZ (i':=i+2+1) (x:=.o (b++[av.own [dW (v)] 5 1 1 true]).length (d.length+1)) (d:=d++[v]) h0 rfl (by simp only[lk,reduceIte,zS7.injEq,SV.int.injEq,true_and];omega) ⟨by omega,by simp;omega⟩ (.inr ⟨(b++[av.own [dW (v)] 5 1 1 true]).length,by simp,by omega,by rw[zS1 (by simp)];simp[dW]⟩) (jI) (by omega)⟩)
  ·have hc:¬ s[i]=37:=by
    rw[dw (n:=37) aA 37 rfl]at hc
    simpa using hc
   rw[if_neg hc]at hu
   rw[hu,iO,lg]at hn
   rw[hg]
   (rcases ht with⟨rfl,jT,mO⟩|⟨j,rfl,nU,hj⟩
    ·obtain rfl:d=[]:=by simpa using jT
     refine gN (zSQ h0 (zSQ h4 (zSQ h5 (zSQ hg @aC)))) ?_
     refine⟨ by omega,⟨by unfold maxLen;omega,by omega⟩,⟨by omega,by omega⟩,JZ (i':=i+1) (x:=.o (b++[av.own [dW (s[i])] 5 1 1 true]).length 1) (d:=[]++[s[i]]) h0 rfl (by simp only[lk,reduceIte,zS7.injEq,SV.int.injEq,true_and];omega) ⟨by omega,by simp only[List.nil_append,zSW,zSZ];omega⟩ (.inr ⟨_,rfl,by omega,aC _ _⟩) (hn) (by omega)⟩
    ·have gw:j<b.length:=(zSR.1 hj).1
     have ho:∀ X,(b++[X])[j]? = some (.own (d.map dW) 5 1 d.length true):=fun X=>ad hj [X]
     refine gN (zSQ h0 (zSQ h4 (zSQ h5 (zSQ hg (zSQ @aC ho))))) ?_
     refine⟨ by omega,⟨by unfold maxLen;omega,by omega⟩,⟨by omega,by omega⟩,JZ (i':=i+1) (x:=.o (b++[av.own [dW (s[i])] 5 1 1 true]).length (d.length+1)) (d:=d++[s[i]]) h0 rfl (by simp only[lk,reduceIte,zS7.injEq,SV.int.injEq,true_and];omega) ⟨by omega,by simp;omega⟩ (.inr ⟨(b++[av.own [dW (s[i])] 5 1 1 true]).length,by simp,by omega,by rw[zS1 (by simp)];simp[dW]⟩) (hn) (by omega)⟩)
 ·have js:i=s.length:=by omega
  subst js
  rw[List.drop_length,gi]at hn
  have qJ:iO (aJ s)=(d,0):=by rw[← hn];simp[iO,comb]
  rw[qJ]
  rcases ht with⟨rfl,jT,mO⟩|⟨j,rfl,nU,hj⟩
  ·obtain rfl:d=[]:=by simpa using jT
   refine gN (zSQ h0 (zSQ h4 h5)) ?_
   exact fun h=>absurd h (by simp)
  ·refine gN (zSQ h0 (zSQ h4 (zSQ h5 hj))) ?_
   refine⟨fun h=>absurd h (by simp),fun _=>⟨gd d,?_⟩⟩
   rw[ll]
theorem ON {keep s:Bytes}{i:Nat}(h:i<s.length):aH keep (s.take (i+1))=aH keep (s.take i)++nX keep s[i]:=by
 unfold aH
 rw[zSX h,zS9,List.flatMap_cons,List.flatMap_nil,zTc]
theorem sub_one {s:Bytes}{i:Nat}(h:i<s.length):(s.take (i+1)).drop i=[s[i]]:=by
 rw[zSX h]
 exact List.drop_left' (by simp;omega)
def ReI (keep s:Bytes)(σ:St):Prop:=∃ i:Nat,i≤s.length∧lk 0 σ.t=some (.str s)∧lk 1 σ.t=some (.str keep)∧lk 5 σ.t=some (.str (aH keep (s.take i)))∧lk 6 σ.t=some (.int .i64 i)
def ReM (s:Bytes)(σ:St):Nat:=match lk 6 σ.t with
 | some (.int _ k)=>s.length - k.toNat
 | _=>0
theorem Pc {s:Bytes}{σ:St}{k:Nat}(h:lk 6 σ.t=some (.int .i64 k)):ReM s σ=s.length - k:=by simp[ReM,h]
theorem D4 (keep s:Bytes)(i:Nat):(aH keep (s.take i)).length≤3 * s.length:=by
 have:=eO keep (s.take i)
 have:(s.take i).length≤s.length:=by simp;omega
 omega
theorem Jh {keep s:Bytes}{t:List (Nat × SV)}{b:List av}{i:Nat}(hi:i<s.length)(h0:lk 0 t=some (.str s))(h1:lk 1 t=some (.str keep))(h5:lk 5 t=some (.str (aH keep (s.take i)++nX keep s[i])))(h6:lk 6 t=some (.int .i64 (i+1:Nat))):ReI keep s ⟨t,b⟩∧ReM s ⟨t,b⟩<s.length - i :=
 ⟨⟨i+1,by omega,h0,h1,by rw[ON hi];exact h5,h6⟩,by rw[Pc h6];omega⟩
theorem mE (s keep:Bytes)(hs:s.length≤1000000)(hk:keep.length≤1000):PC Tryz.V 119 [.str s,.str keep] (.str (aH keep s)):=by
 refine aZ 3000 Tryz.func119 rfl Tryz.ntmps119 Tryz.results119 Tryz.call119 (by simp) (by simp[flat,flat.ai]) (by simp[flat,flat.ai]) ?_
 refine bC ?_
 refine az (ReI keep s) (ReM s) ⟨0,by omega,rfl,rfl,rfl,rfl⟩ ?_
 rintro⟨t,b⟩ ⟨i,hi,h0,h1,h5,h6⟩
 simp only at h0 h1 h5 h6
 rw[Pc h6]
 have vV:=D4 keep s i
 by_cases aA:i<s.length
 ·have hg:s.getD i 0=s[i]:=by simp[zS5,aA]
  have hnat:((s[i].toNat:Int) != 37)=(s[i] != 37):=by
   have h:=dw (s:=s) aA 37 (n:=37) rfl
   rw[hg]at h
   show (!((s[i].toNat:Int)==37))=!(s[i]==37)
   rw[h]
  have hb:nX keep s[i]=if ia s[i]||(s[i] != 37&&keep.contains s[i]) then [s[i]] else nw s[i]:=rfl
  refine gN (zSQ h0 (zSQ h1 (zSQ h5 h6))) ?_
  refine⟨fun _=>⟨⟨by omega,by omega⟩,?_⟩,fun h=>absurd h (by simp;omega)⟩
  rw[hg]
  (refine aa (eB s[i]) ?_;refine gN (zSQ h0 (zSQ h1 (zSQ h5 (zSQ h6 hg)))) ?_)
  refine⟨fun hq=>⟨⟨by omega,by omega⟩,fun la=>⟨⟨by omega,by omega⟩,?_⟩,fun la=>⟨⟨by omega,by omega⟩,?_⟩⟩,fun hq=>?_⟩
  ·have e2:List.contains keep s[i]=false→nX keep s[i]=nw s[i]:=fun rZ=>by rw[hb,hq,rZ];simp
   have e1:List.contains keep s[i]=true→nX keep s[i]=(s.take (i+1)).drop i:=fun rZ=>by rw[hb,rZ,← hnat,la,sub_one aA];simp
   (refine aa (kC s[i] keep (by omega)) ?_;refine gN (zSQ h0 (zSQ h1 (zSQ h5 (zSQ h6 hg)))) ?_)
   refine⟨fun rZ=>⟨⟨by omega,by omega⟩,⟨by omega,by omega,by omega⟩,by rw[sub_one aA,List.length_singleton];omega,⟨by omega,by omega⟩,Jh aA h0 h1 (by rw[e1 rZ];rfl) (by simp only[lk,reduceIte,zS7.injEq,SV.int.injEq,true_and];omega)⟩,fun rZ=>⟨⟨by omega,by omega⟩,?_⟩⟩
   (refine aa (mD s[i]) ?_;refine gN (zSQ h0 (zSQ h1 (zSQ h5 (zSQ h6 hg)))) ?_)
   exact⟨by rw[show (nw s[i]).length=3 from rfl];omega,⟨by omega,by omega⟩,Jh aA h0 h1 (by rw[e2 rZ];rfl) (by simp only[lk,reduceIte,zS7.injEq,SV.int.injEq,true_and];omega)⟩
  ·have e2:nX keep s[i]=nw s[i]:=by rw[hb,hq,← hnat,la];simp
   (refine aa (mD s[i]) ?_;refine gN (zSQ h0 (zSQ h1 (zSQ h5 (zSQ h6 hg)))) ?_)
   exact⟨by rw[show (nw s[i]).length=3 from rfl];omega,⟨by omega,by omega⟩,Jh aA h0 h1 (by rw[e2];rfl) (by simp only[lk,reduceIte,zS7.injEq,SV.int.injEq,true_and];omega)⟩
  ·have e1:nX keep s[i]=(s.take (i+1)).drop i:=by rw[hb,hq,sub_one aA];simp
   exact⟨⟨by omega,by omega⟩,⟨by omega,by omega,by omega⟩,by rw[sub_one aA,List.length_singleton];omega,⟨by omega,by omega⟩,Jh aA h0 h1 (by rw[e1];rfl) (by simp only[lk,reduceIte,zS7.injEq,SV.int.injEq,true_and];omega)⟩
 ·have js:i=s.length:=by omega
  subst js
  rw[zSY]at h5
  refine gN (zSQ h0 (zSQ h1 (zSQ h5 h6))) ?_
  exact fun h=>absurd h (by simp)
end Go.Proofs.YtnmlimehgifadaaGreatDoor
namespace Wf
open Go Go.RowKit
structure oc where
 loc:Bytes
 host:Bytes
 deriving DecidableEq
def oc.none:oc:=⟨[],[]⟩
def atomS:Bytes:=[33,35,36,37,38,39,42,43,45,47,61,63,94,95,96,123,124,125,126]
def GY (c:UInt8):Bool:=isAlpha c||isDigit c||atomS.contains c
def o0 (s:Bytes):Bool:=!s.isEmpty&&s.all GY
def ru (s:Bytes):Bool:=(aF 46 s).all o0&&decide (s.length≤64)
def mH:Bytes:=[109,97,105,108,116,111,58]
def o8:Bytes:=[33,36,39,42,43]
def Jx:Bytes:=[37,33,36,39,42,43]
def nk (c:UInt8):Bool:=ia c||Jx.contains c
def DG (l:Bytes × Int)(h:Bytes × Int):oc × Int :=
 if l.2≠0 then(oc.none,l.2)
 else if ru l.1=false then(oc.none,80)
 else if h.2≠0 then(oc.none,h.2)
 else if ipv4 h.1=true then(oc.none,50)
 else(⟨l.1,h.1⟩,0)
def uw (s:Bytes):oc × Int :=
 if (aN 64 s).2.2=false∨(63:UInt8)∈s∨(35:UInt8)∈s then(oc.none,6)
 else if (aN 64 s).1.all nk=false then(oc.none,1)
 else DG (aB (aN 64 s).1) (ck (aN 64 s).2.1)
def cJ (s:Bytes):oc × Int :=
 if 4096<s.length then(oc.none,5)
 else if s.length<7∨lower (s.take 7)≠mH then(oc.none,60)
 else uw (s.drop 7)
def eT (m:oc):Bytes:=mH++aH o8 m.loc++[64]++m.host
theorem LH (s:Bytes):∀ c∈aH o8 s,nk c=true∧c≠64∧c≠63∧c≠35:=by
 intro c hc
 obtain⟨d,-,hd⟩:=List.mem_flatMap.1 hc
 have h1:=dz (p:=fun d=>(nX o8 d).all fun c=>nk c&&c != 64&&c != 63&&c != 35) (by decide +kernel) d
 have:=zTg.1 h1 c hd
 simpa[and_assoc] using this
theorem qF {s:Bytes}(h:ru s=true):s.length≤64:=by
 unfold ru at h
 simp only[Bool.and_eq_true,decide_eq_true_eq]at h
 exact h.2
structure J3 (m:oc):Prop where
 loc:ru m.loc=true
 host:ck m.host=(m.host,0)
 no:ipv4 m.host=false
theorem FJ {s:Bytes}{m:oc}(h:cJ s=(m,0)):J3 m:=by
 unfold cJ at h
 split at h
 ·simp at h
 split at h
 ·simp at h
 unfold uw at h
 split at h
 ·simp at h
 split at h
 ·simp at h
 unfold DG at h
 split at h
 ·rename_i h5;exact absurd (zTb.inj h).2 h5
 split at h
 ·simp at h
 rename_i h6
 split at h
 ·rename_i h5;exact absurd (zTb.inj h).2 h5
 split at h
 ·simp at h
 rename_i h7 h8
 simp only[zTb.injEq,and_true]at h
 subst h
 have e:ck (aN 64 (s.drop 7)).2.1=((ck (aN 64 (s.drop 7)).2.1).1,0):=by
  have:(ck (aN 64 (s.drop 7)).2.1).2=0:=by simpa using h7
  rw[← this]
 exact⟨by simpa using h6,(lG e).2.2,by simpa using h8⟩
theorem KO {m:oc}(h:J3 m):cJ (eT m)=(m,0):=by
 have e1:(eT m).take 7=mH:=rfl
 have e2:(eT m).drop 7=aH o8 m.loc++64::m.host:=by show aH o8 m.loc++[64]++m.host=_;simp
 have l7:7≤(eT m).length:=by simp[eT,mH]
 have h1:=eO o8 m.loc
 have h2:=qF h.loc
 have h3:=(lG h.host).2.1
 have hl:(eT m).length≤4096:=by simp[eT,mH];omega
 have hb:=LH m.loc
 have hh:=mN h.host
 have nh:∀ c∈m.host,c≠63∧c≠35:=by
  intro c hc
  have:=dz (p:=fun c=>!(xY c||c==46)||(c != 63&&c != 35)) (by decide +kernel) c
  have h2:(xY c||c==46)=true:=by rcases hh c hc with h|rfl <;> simp[*]
  rw[h2]at this
  simpa using this
 unfold cJ
 rw[if_neg (by omega),if_neg (by rw[e1,show lower mH=mH by decide];simp;omega),e2]
 unfold uw
 rw[iQ (fb (fun k=>(hb _ k).2.1 rfl))]
 simp only
 rw[if_neg ?_,if_neg ?_,vD o8 m.loc (by omega),h.host]
 ·unfold DG
  rw[if_neg (by simp),if_neg (by simp[h.loc]),if_neg (by simp),if_neg (by simp[h.no])]
 ·have:(aH o8 m.loc).all nk=true:=zTg.2 fun c hc=>(hb c hc).1
  rw[this];simp
 ·simp only[zTd,List.mem_cons,not_or,reduceCtorEq,not_false_eq_true,true_and,Bool.true_eq_false]
  exact⟨⟨fun k=>(hb _ k).2.2.1 rfl,by decide,fun k=>(nh _ k).1 rfl⟩,fun k=>(hb _ k).2.2.2 rfl,by decide,fun k=>(nh _ k).2 rfl⟩
end Wf
namespace Go.Proofs.YtnmlimehgifadaaGreatDoor
open Go Vc Go.RowKit Wf
theorem wG {c:UInt8}{s:Bytes}{a i:Nat}(hi:i<s.length)(ha:a≤i)(hp:i - a≤pre (·==c) (s.drop a))(hc:s[i]=c):aF c (s.drop a)=(s.take i).drop a::aF c (s.drop (i+1)):=by
 have fj:pre (·==c) (s.drop a)=i - a:=by
  apply Nat.le_antisymm _ hp
  apply Nat.le_of_not_lt
  intro aA
  have:=jc (p:=(·==c)) (l:=s.drop a) (k:=i - a) aA (by simp;omega)
  simp[show a+(i - a)=i by omega,hc]at this
 rw[dH (by rw[fj,List.length_drop];omega),fj,List.drop_drop,List.drop_take,show a+(i - a+1)=i+1 by omega]
theorem BV {c:UInt8}{s:Bytes}{a i:Nat}(hi:i<s.length)(ha:a≤i)(hp:i - a≤pre (·==c) (s.drop a))(hc:s[i]≠c):i+1 - a≤pre (·==c) (s.drop a):=by
 apply Nat.le_of_not_lt
 intro aA
 have fj:pre (·==c) (s.drop a)=i - a:=by omega
 have:=iC (p:=(·==c)) (l:=s.drop a) (by rw[fj,List.length_drop];omega)
 simp[fj,show a+(i - a)=i by omega]at this
 exact hc this
def SplI (bs:List av)(s:Bytes)(c:UInt8)(σ:St):Prop:=∃ (i a:Nat) (x:SV) (dn:List Bytes),lk 0 σ.t=some (.str s)∧lk 1 σ.t=some (.int .u8 c.toNat)∧lk 5 σ.t=some x∧lk 6 σ.t=some (.int .i64 a)∧lk 7 σ.t=some (.int .i64 i) ∧
 a≤i∧i≤s.length∧dn.length≤a∧i - a≤pre (·==c) (s.drop a)∧dn++aF c (s.drop a)=aF c s∧Sl 9 1 bs.length x σ.b (dn.map SV.str) dn.length∧Kp bs σ.b
def SplM (s:Bytes)(σ:St):Nat:=match lk 7 σ.t with
 | some (.int _ k)=>s.length - k.toNat
 | _=>0
theorem J1 {s:Bytes}{σ:St}{k:Nat}(h:lk 7 σ.t=some (.int .i64 k)):SplM s σ=s.length - k:=by simp[SplM,h]
theorem CO {bs b:List av}{s:Bytes}{c:UInt8}{t:List (Nat × SV)}{i i' a:Nat}{x:SV}{dn:List Bytes}(h0:lk 0 t=some (.str s))(h1:lk 1 t=some (.int .u8 c.toNat))(h5:lk 5 t=some x)(h6:lk 6 t=some (.int .i64 a))(h7:lk 7 t=some (.int .i64 i'))
 (h:a≤i'∧i'≤s.length∧dn.length≤a∧i' - a≤pre (·==c) (s.drop a)) (tw:dn++aF c (s.drop a)=aF c s) (fD:Sl 9 1 bs.length x b (dn.map SV.str) dn.length) (bc:Kp bs b) (aA:i<i'):SplI bs s c ⟨t,b⟩∧SplM s ⟨t,b⟩<s.length - i :=
 ⟨⟨i',a,x,dn,h0,h1,h5,h6,h7,h.1,h.2.1,h.2.2.1,h.2.2.2,tw,fD,bc⟩,by rw[J1 h7];omega⟩
theorem tP {bs:List av}(s:Bytes)(c:UInt8)(hs:s.length≤1000000) :
 SC Tryz.V 126 [.str s,.int .u8 c.toNat] bs (fun r b=>∃ j,r=.o j (aF c s).length∧bs.length≤j∧b[j]? = some (.own ((aF c s).map SV.str) 9 1 (aF c s).length true)∧Kp bs b):=by
 refine bo 3000 Tryz.func126 rfl Tryz.ntmps126 Tryz.results126 Tryz.call126 (by simp) (ah bs.length _ (by simp[within,within.ax])) ?_
 refine bC ?_
 refine az (SplI bs s c) (SplM s) ⟨0,0,.aj,[],rfl,rfl,rfl,rfl,rfl,by simp,by simp,by simp,by simp,by simp,.inl ⟨rfl,rfl,rfl⟩,Kp.refl _⟩ ?_
 rintro⟨t,b⟩ ⟨i,a,x,dn,h0,h1,h5,h6,h7,hai,his,hda,hp,tw,fD,bc⟩
 simp only at h0 h1 h5 h6 h7 fD bc
 rw[J1 h7]
 rcases fD with⟨rfl,jT,hda0⟩|⟨j,rfl,nU,hj⟩
 ·obtain rfl:dn=[]:=by simpa using jT
  refine gN (zSQ h0 (zSQ h1 (zSQ h5 (zSQ h6 (zSQ h7 @aC))))) ?_
  refine⟨fun hc=>?_,fun hc=>?_⟩
  ·have hi:i<s.length:=by simpa using hc
   refine⟨⟨by omega,by omega⟩,fun hq=>⟨⟨by omega,by omega,by omega⟩,by omega,⟨by unfold maxLen;omega,by omega⟩,⟨by omega,by omega⟩,⟨by omega,by omega⟩,?_⟩,fun hq=>⟨⟨by omega,by omega⟩,?_⟩⟩
   ·rw[dw hi c rfl]at hq
    have hY:=wG hi hai hp (by simpa using hq)
    refine CO (i':=i+1) (a:=i+1) (dn:=[(s.take i).drop a]) h0 h1 (by simp[lk]) rfl rfl ⟨by omega,by omega,by simp,by omega⟩ ?_ (.inr ⟨(b++[av.own [.str ((s.take i).drop a)] 9 1 1 true]).length,rfl,?_,aC _ _⟩) ((bc.app _).app _) (by omega)
    ·rw[← tw,hY];simp
    ·have:=bc.1;simp;omega
   ·rw[dw hi c rfl]at hq
    exact CO (i':=i+1) (dn:=[]) h0 h1 h5 h6 rfl ⟨by omega,by omega,by simp,BV hi hai hp (by simpa using hq)⟩ tw (.inl ⟨rfl,rfl,rfl⟩) bc (by omega)
  ·have hi:i=s.length:=by simp at hc;omega
   refine⟨⟨by omega,by omega⟩,by omega,⟨by unfold maxLen;omega,by omega⟩,?_⟩
   have hms:aF c s=[s.drop a]:=by
    rw[← tw,dm (by rw[List.length_drop];omega)];rfl
   rw[hms]
   refine⟨(b++[av.own [.str (s.drop a)] 9 1 1 true]).length,rfl,?_,aC _ _,(bc.app _).app _⟩
   have:=bc.1;simp;omega
 ·have h2:∀ X,(b++[X])[j]? = some (.own (dn.map SV.str) 9 1 dn.length true):=fun X=>ad hj _
  refine gN (zSQ h0 (zSQ h1 (zSQ h5 (zSQ h6 (zSQ h7 (zSQ @aC h2)))))) ?_
  have gw:j<b.length:=(zSR.1 hj).1
  refine⟨fun hc=>?_,fun hc=>?_⟩
  ·have hi:i<s.length:=by simpa using hc
   refine⟨⟨by omega,by omega⟩,fun hq=>⟨⟨by omega,by omega,by omega⟩,by omega,⟨by unfold maxLen;omega,by omega⟩,⟨by omega,by omega⟩,⟨by omega,by omega⟩,?_⟩,fun hq=>⟨⟨by omega,by omega⟩,?_⟩⟩
   ·rw[dw hi c rfl]at hq
    have hY:=wG hi hai hp (by simpa using hq)
    refine CO (i':=i+1) (a:=i+1) (dn:=dn++[(s.take i).drop a]) h0 h1 (by simp[lk];rfl) rfl rfl ⟨by omega,by omega,by simp;omega,by omega⟩ ?_ (.inr ⟨(b++[av.own [.str ((s.take i).drop a)] 9 1 1 true]).length,by simp,?_,?_⟩) (((bc.app _).set nU _).app _) (by omega)
    ·rw[← tw,hY];simp
    ·have:=bc.1;simp;omega
    ·rw[zS1 (by simp)];simp
   ·rw[dw hi c rfl]at hq
    exact CO (i':=i+1) (dn:=dn) h0 h1 h5 h6 rfl ⟨by omega,by omega,hda,BV hi hai hp (by simpa using hq)⟩ tw (.inr ⟨j,rfl,nU,hj⟩) bc (by omega)
  ·have hi:i=s.length:=by simp at hc;omega
   refine⟨⟨by omega,by omega⟩,by omega,⟨by unfold maxLen;omega,by omega⟩,?_⟩
   have hms:aF c s=dn++[s.drop a]:=by
    rw[← tw,dm (c:=c) (s:=s.drop a) (by rw[List.length_drop];omega)]
   rw[hms]
   refine⟨(b++[av.own [.str (s.drop a)] 9 1 1 true]).length,by simp,?_,?_,((bc.app _).set nU _).app _⟩
   ·have:=bc.1;simp;omega
   ·rw[zS1 (by simp)];simp
def msv (m:oc):SV:=.agg [.str m.loc,.str m.host]
theorem Fv (s:Bytes)(hs:s.length≤1000000000):PC Tryz.V 118 [.str s] (.bool (ipv4 s)) :=
 ⟨Tryz.call118,by simp[flat,flat.ai],by simp[flat,flat.ai],fun w hE=>(kB s w hs).mono fun _ _ ⟨h,k⟩=>⟨h,k⟩⟩
theorem any_mem (s:Bytes)(a c:UInt8):decide (0≤Lib.indexAny s [a,c])=decide (a∈s∨c∈s):=by
 rw[kI]
 by_cases h:pre ([a,c].contains ·) s<s.length
 ·rw[if_pos h]
  have h1:=iC h
  have h2:s[pre ([a,c].contains ·) s]∈s:=zS0 h
  have h3:s[pre ([a,c].contains ·) s]=a∨s[pre ([a,c].contains ·) s]=c:=by simpa using h1
  simp only[Int.natCast_nonneg,decide_true]
  symm
  exact decide_eq_true (by rcases h3 with e|e <;> rw[e]at h2 <;> simp[h2])
 ·rw[if_neg h]
  simp only[show ¬ (0:Int)≤-1 by omega,decide_false]
  symm
  refine decide_eq_false ?_
  intro k
  have hle:=cV ([a,c].contains ·) s
  have:∀ d∈s,[a,c].contains d=false:=by
   intro d hd
   obtain⟨j,hj,rfl⟩:=List.getElem_of_mem hd
   exact jc (p:=([a,c].contains ·)) (k:=j) (by omega) hj
  rcases k with k|k
  ·have:=this _ k;simp at this
  ·have:=this _ k;simp at this
theorem KC (c:UInt8):PC Tryz.V 187 [.int .u8 c.toNat] (.bool (GY c)):=by
 refine aZ 3000 Tryz.func187 rfl Tryz.ntmps187 Tryz.results187 Tryz.call187 (by simp) (by simp[flat,flat.ai]) (by simp[flat,flat.ai]) ?_
 refine bC ?_
 (refine aa (jf c) ?_;refine bC ?_)
 unfold GY
 refine⟨fun h=>?_,fun h=>by rw[h];rfl⟩
 (refine aa (gR c) ?_;refine bC ?_)
 rw[h]
 refine⟨fun h2=>?_,fun h2=>by rw[h2];rfl⟩
 (refine aa (kC c atomS (by decide)) ?_;refine bC ?_)
 rw[h2];rfl
theorem H8 (s:Bytes):PC Tryz.V 117 [.str s] (.bool (ru s)):=by
 refine aZ 3000 Tryz.func117 rfl Tryz.ntmps117 Tryz.results117 Tryz.call117 (by simp) (by simp[flat,flat.ai]) (by simp[flat,flat.ai]) ?_
 refine bC ?_
 unfold ru
 refine⟨fun bK=>⟨fun hl=>?_,fun hl=>?_⟩,fun bK=>?_⟩
 ·have hl:¬ s.length≤64:=(by simp at hl;omega)
  rw[decide_eq_false hl,zTf]
 ·have hl:s.length≤64:=(by simp at hl;omega)
  rw[decide_eq_true hl,Bool.and_true]
  have fD:=iA 46 s
  refine ae (tP s 46 (by omega)) ?_
  rintro r b ⟨j,rfl,nU,hj,bc⟩
  have Mh:=ib 46 s
  have Oc:=List.count_le_length (a:=(46:UInt8)) (l:=s)
  generalize aF 46 s=L at *
  simp only at nU hj bc
  refine gN hj ?_
  refine az (fun σ=>∃ k:Nat,k≤L.length∧lk 14 σ.t=some (.o j L.length)∧lk 15 σ.t=some (.int .i64 L.length)∧lk 16 σ.t=some (.int .i64 k)∧σ.b[j]? = some (.own (L.map SV.str) 9 1 L.length true)∧(L.take k).all o0=true) (fun σ=>L.length - fX 16 σ) ⟨0,by omega,rfl,rfl,rfl,hj,rfl⟩ ?_
  rintro⟨t,b⟩ ⟨k,hk,kN,AJ,h16,hb,da⟩
  simp only at kN AJ h16 hb
  rw[ao h16]
  by_cases aA:k<L.length
  ·have lM:(L.map SV.str)[k * 1]? = some (.str L[k]):=by simp[aA]
   have od:=fD L[k] (zS0 aA)
   generalize hx:L[k]=x at *
   have DN:o0 x=false→L.all o0=false:=fun h=>by
    rw[← Bool.not_eq_true]
    intro h2
    have:=zTg.1 h2 x (hx ▸ zS0 aA)
    rw[h]at this;cases this
   refine gN (zSQ kN (zSQ AJ (zSQ h16 (zSQ hb lM)))) ?_
   refine⟨fun _=>⟨⟨by omega,by omega⟩,by simp;omega,fun hn=>?_,fun hn=>?_⟩,fun h=>absurd h (by simp;omega)⟩
   ·have hn:x=[]:=by simpa using hn
    rw[DN (by rw[hn];rfl)]
   have hn:x.isEmpty=false:=by cases x <;> simp at hn ⊢
   refine az (fun σ=>∃ i:Nat,i≤x.length∧lk 4 σ.t=some (.str x)∧lk 5 σ.t=some (.int .i64 i)∧lk 14 σ.t=some (.o j L.length)∧lk 15 σ.t=some (.int .i64 L.length)∧lk 16 σ.t=some (.int .i64 k)∧σ.b[j]? = some (.own (L.map SV.str) 9 1 L.length true)∧(x.take i).all GY=true) (fun σ=>x.length - fX 5 σ) ⟨0,by omega,rfl,rfl,kN,AJ,h16,hb,rfl⟩ ?_
   rintro⟨t',b'⟩ ⟨i,hi,g4,g5,g14,g15,g16,gb,ki⟩
   simp only at g4 g5 g14 g15 g16 gb
   rw[ao g5]
   by_cases dF:i<x.length
   ·have hg:x.getD i 0=x[i]:=by simp[zS5,dF]
    refine gN (zSQ g4 (zSQ g5 (zSQ g14 (zSQ g15 (zSQ g16 (zSQ gb hg)))))) ?_
    refine⟨fun _=>⟨⟨by omega,by omega⟩,?_⟩,fun h=>absurd h (by simp;omega)⟩
    (refine aa (KC x[i]) ?_;refine gN (zSQ g4 (zSQ g5 (zSQ g14 (zSQ g15 (zSQ g16 (zSQ gb hg)))))) ?_)
    refine⟨fun ha=>?_,fun ha=>⟨⟨by omega,by omega⟩,⟨i+1,by omega,rfl,bn dF ki (by simpa using ha)⟩,?_⟩⟩
    ·have ha:GY x[i]=false:=by simpa using ha
     rw[DN (by unfold o0;rw[dC dF ha,zTf])]
    ·rw[ao (k:=.i64) (n:=(i:Int)+1) rfl];omega
   ·have js:i=x.length:=by omega
    subst js
    rw[zSY]at ki
    have hax:o0 x=true:=by unfold o0;rw[hn,ki];rfl
    refine gN (zSQ g4 (zSQ g5 (zSQ g14 (zSQ g15 (zSQ g16 gb))))) ?_
    refine⟨fun h=>absurd h (by simp),fun _=>⟨⟨by omega,by omega⟩,⟨k+1,by omega,rfl,bn aA da (by rw[hx];exact hax)⟩,?_⟩⟩
    rw[ao (k:=.i64) (n:=(k:Int)+1) rfl];omega
  ·have js:k=L.length:=by omega
   subst js
   rw[zSY]at da
   refine gN (zSQ kN (zSQ AJ (zSQ h16 hb))) ?_
   exact⟨fun h=>absurd h (by simp),fun _=>by rw[da]⟩
 ·have bK:s=[]:=by simpa using bK
  subst bK;rfl
def pk (d:iz):SV:=.agg [.str d.method,.str d.id]
def dusv (u:DidUrl):SV:=.agg [.str u.did.method,.str u.did.id,.str u.path,.str u.query,.str u.fragment,.bool u.aD,.bool u.aP]
theorem sN (c:UInt8)(h:isDigit c=false):kF c=(decide (97≤c.toNat)&&decide (c.toNat≤122)):=by
 unfold kF;rw[h];simp[Bool.decide_and]
def kU (d:iz):Prop:=d.method.length≤140737488355328∧d.id.length≤140737488355328
theorem xo (d:iz):(cg d).length=d.method.length+d.id.length+5:=by simp[cg,qX];omega
theorem mX:∀ (f:Nat)(s:Bytes),(cC f s).length≤f
 | 0,_=>by simp[cC]
 | f+1,[]=>by simp[cC]
 | f+1,c::r=>by
   rw[cC]
   split
   ·split
    ·have:=mX f (by assumption);simp;omega
    ·simp
   ·have:=mX f r;simp;omega
theorem K7 (s:Bytes):(ck s).1.length≤s.length:=by
 unfold ck
 split
 ·simp
 split
 ·simp
 split
 ·simp
 ·simp only[fR];omega
theorem dec_len (s:Bytes):(aB s).1.length≤s.length:=by
 unfold aB
 split
 ·simp
 split
 ·simp
 ·have:=mX s.length s
  simpa[aJ] using this
theorem Fq (m:oc)(h:m.loc.length≤300000∧m.host.length≤140737488355328):PC Tryz.V 64 [msv m] (.str (eT m)):=by
 have pe:=mE m.loc o8 (by omega) (by decide)
 have hl:=eO o8 m.loc
 refine aZ 3000 Tryz.func64 rfl Tryz.ntmps64 Tryz.results64 Tryz.call64 (by simp) (by simp[flat,flat.ai,msv]) (by simp[flat,flat.ai,msv]) ?_
 unfold msv
 refine bC ?_
 (refine aY (pe) ?_;refine bC ?_)
 exact⟨by omega,by omega,by simp only[zSU,zSW,zSZ];omega,(aq (by kernel_rfl)),by simp[eT,mH]⟩
theorem pre_set (s:Bytes):pre ([63,35].contains ·) s<s.length↔((63:UInt8)∈s∨(35:UInt8)∈s):=by
 have h:=any_mem s 63 35
 rw[kI]at h
 by_cases k:pre ([63,35].contains ·) s<s.length
 ·rw[if_pos k]at h
  have:decide ((63:UInt8)∈s∨(35:UInt8)∈s)=true:=by rw[← h];simp
  exact⟨fun _=>of_decide_eq_true this,fun _=>k⟩
 ·rw[if_neg k]at h
  have:decide ((63:UInt8)∈s∨(35:UInt8)∈s)=false:=by rw[← h];rfl
  exact⟨fun h=>absurd h k,fun h=>absurd h (of_decide_eq_false this)⟩
theorem H7 (s:Bytes):PC Tryz.V 63 [.str s] (.eW [msv (cJ s).1,.int .i64 (cJ s).2]):=by
 have pe:=jF (s.take 7) mH (by simp;omega) (by decide)
 rw[show lower mH=mH by decide]at pe
 refine aZ 3000 Tryz.func63 rfl Tryz.ntmps63 Tryz.results63 Tryz.call63 (by simp) (by simp[flat,flat.ai]) (by simp[flat,flat.ai,msv]) ?_
 refine bC ?_
 unfold cJ
 refine⟨fun h=>?_,fun h=>⟨fun h2=>⟨⟨by omega,(by simp at h2;omega)⟩,?_⟩,fun h2=>?_⟩⟩
 ·have h:4096<s.length:=(by simp at h;omega)
  rw[if_pos h];rfl
 ·have h:¬ 4096<s.length:=(by simp at h;omega)
  have h2:¬ s.length<7:=(by simp at h2;omega)
  rw[if_neg h]
  (refine aa pe ?_;simp only[cz,↓Xn,↓Xo,↓Xg,↓Xd,↓Xe,↓Xf,Tryz.VΓ,Tryz.Γs,Xp,Xi,Nat.reduceAdd,Nat.reduceSub,Nat.reduceLT,Nat.reduceLeDiff,reduceIte,reduceCtorEq,Nat.reduceEqDiff,implies_true,forall_const,cw,Int.reduceToNat])
  refine⟨fun h3=>?_,fun h3=>⟨⟨by omega,by omega⟩,?_⟩⟩
  ·rw[if_pos (.inr (by simpa using h3))];rfl
  have h3:lower (s.take 7)=mH:=by simpa using h3
  rw[if_neg (by simp only[not_or];exact⟨h2,by simpa using h3⟩)]
  have hS:(s.drop 7).length≤4096:=by simp;omega
  generalize s.drop 7=S at hS ⊢
  have pi:=bH S [64] (by omega) (by decide)
  rw[show (List.contains [64] ·:UInt8→Bool)=(·==64) from by funext c;simp;exact(Bool.beq_eq_decide_eq _ _).symm]at pi
  have pj:=bH S [63,35] (by omega) (by decide)
  have hq:=pre_set S
  have gU:=cV (·==64) S
  have hpq:=cV ([63,35].contains ·) S
  unfold uw
  (refine aa pi ?_;refine bC ?_)
  refine⟨fun h4=>?_,fun h4=>?_⟩
  ·have h4:pre (·==64) S<S.length:=by
    have:=beq_eq_false_iff_ne.1 h4
    omega
   rw[show aN 64 S=(S.take (pre (·==64) S),S.drop (pre (·==64) S+1),true) from if_pos h4]
   generalize hk:pre (·==64) S=k at *
   simp only[Bool.true_eq_false,false_or]
   (refine aa pj ?_;refine bC ?_)
   refine⟨fun h5=>?_,fun h5=>?_⟩
   ·rw[if_pos (hq.1 (by have:=of_decide_eq_true h5;omega))];rfl
   rw[if_neg (fun h=>absurd (hq.2 h) (by have:=of_decide_eq_false h5;omega))]
   clear hq hpq pj pi pe hk h5
   refine az (fun σ=>∃ i:Nat,i≤k∧lk 0 σ.t=some (.str S)∧lk 2 σ.t=some (.p 0 0)∧lk 3 σ.t=some (.int .i64 0)∧lk 4 σ.t=some (.int .i64 k)∧lk 5 σ.t=some (.int .i64 i)∧σ.b=[.cells [.str [],.str []] 115 true]∧(S.take i).all nk=true) (fun σ=>k - fX 5 σ) ⟨0,by omega,rfl,rfl,rfl,rfl,rfl,rfl,rfl⟩ ?_
   rintro⟨t,b⟩ ⟨i,hi,g0,g2,g3,g4,g5,rfl,ki⟩
   simp only at g0 g2 g3 g4 g5
   rw[ao g5]
   by_cases aA:i<k
   ·have dF:i<S.length:=by omega
    have hg:S.getD i 0=S[i]:=by simp[zS5,dF]
    have DN:nk S[i]=false→(S.take k).all nk=false:=fun h=>by
     have e:(S.take k)[i]'(by simp;omega)=S[i]:=by simp
     exact dC (s:=S.take k) (k:=i) (by simp;omega) (by rw[e];exact h)
    refine gN (zSQ g0 (zSQ g2 (zSQ g3 (zSQ g4 (zSQ g5 hg))))) ?_
    refine⟨fun _=>⟨⟨by omega,by omega⟩,?_⟩,fun h=>absurd h (by simp;omega)⟩
    (refine aa (eB S[i]) ?_;refine gN (zSQ g0 (zSQ g2 (zSQ g3 (zSQ g4 (zSQ g5 hg))))) ?_)
    refine⟨fun hu=>⟨⟨by omega,by omega⟩,?_⟩,fun hu=>⟨⟨by omega,by omega⟩,⟨i+1,by omega,rfl,bn dF ki (by unfold nk;rw[show ia S[i]=true by simpa using hu];rfl)⟩,by rw[ao (k:=.i64) (n:=(i:Int)+1) rfl];omega⟩⟩
    have hu:ia S[i]=false:=by simpa using hu
    (refine aa (kC S[i] Jx (by decide)) ?_;refine gN (zSQ g0 (zSQ g2 (zSQ g3 (zSQ g4 (zSQ g5 hg))))) ?_)
    refine⟨fun hk=>?_,fun hk=>⟨⟨by omega,by omega⟩,⟨i+1,by omega,rfl,bn dF ki (by unfold nk;rw[show Jx.contains S[i]=true by simpa using hk];simp)⟩,by rw[ao (k:=.i64) (n:=(i:Int)+1) rfl];omega⟩⟩
    rw[if_pos (DN (by unfold nk;rw[hu,show Jx.contains S[i]=false by simpa using hk];rfl))]
    rfl
   ·have js:i=k:=by omega
    subst js
    rw[ki]
    have pd:=gF (S.take i)
    have pK:=dec_len (S.take i)
    generalize aB (S.take i)=dd at pd pK ⊢
    obtain⟨d,e1⟩:=dd
    have ph:=BX (S.drop (i+1)) (by simp;omega)
    have hhl:=K7 (S.drop (i+1))
    generalize ck (S.drop (i+1))=hh at ph hhl ⊢
    obtain⟨hh,e2⟩:=hh
    simp only at pd ph pK hhl
    have pK:d.length≤4096:=by simp at pK;omega
    have hhl:hh.length≤4096:=by simp at hhl;omega
    simp only[Bool.true_eq_false,if_false]
    unfold DG
    refine gN (zSQ g0 (zSQ g2 (zSQ g3 (zSQ g4 g5)))) ?_
    refine⟨fun h=>absurd h (by simp),fun _=>⟨⟨by omega,by omega⟩,?_⟩⟩
    (refine aa pd ?_;refine gN (zSQ g0 (zSQ g2 (zSQ g3 (zSQ g4 g5)))) ?_)
    refine⟨fun h1=>(by rw[if_pos (by simpa using h1)];rfl),fun h1=>?_⟩
    rw[if_neg (by simpa using h1)]
    (refine aa (H8 d) ?_;refine gN (zSQ g0 (zSQ g2 (zSQ g3 (zSQ g4 g5)))) ?_)
    refine⟨fun h2=>(by rw[if_pos (by simpa using h2)];rfl),fun h2=>⟨⟨by omega,by omega⟩,⟨by omega,by omega⟩,?_⟩⟩
    rw[if_neg (by simpa using h2)]
    (refine aa ph ?_;refine gN (zSQ g0 (zSQ g2 (zSQ g3 (zSQ g4 g5)))) ?_)
    refine⟨fun h3=>(by rw[if_pos (by simpa using h3)];rfl),fun h3=>?_⟩
    rw[if_neg (by simpa using h3)]
    (refine aa (Fv hh (by omega)) ?_;refine gN (zSQ g0 (zSQ g2 (zSQ g3 (zSQ g4 g5)))) ?_)
    refine⟨fun h4=>?_,fun h4=>?_⟩
    ·rw[if_pos (by simpa using h4)];rfl
    ·rw[if_neg (by simpa using h4)];rfl
  ·have h4:=beq_iff_eq.1 h4
   rw[gn (by omega)];rfl
 ·have h:¬ 4096<s.length:=(by simp at h;omega)
  have h2:s.length<7:=(by simp at h2;omega)
  rw[if_neg h,if_pos (.inl h2)];rfl
theorem wT (c:UInt8):PC Tryz.V 127 [.int .u8 c.toNat] (.bool (df c)):=by
 refine aZ 3000 Tryz.func127 rfl Tryz.ntmps127 Tryz.results127 Tryz.call127 (by simp) (by simp[flat,flat.ai]) (by simp[flat,flat.ai]) ?_
 refine bC ?_
 (refine aa (jf c) ?_;refine bC ?_)
 unfold df
 refine⟨fun h=>?_,fun h=>by rw[h];rfl⟩
 (refine aa (gR c) ?_;refine bC ?_)
 rw[h]
 refine⟨fun h2=>?_,fun h2=>by rw[h2];rfl⟩
 (refine aa (kC c [46,45,95] (by decide)) ?_;refine bC ?_)
 rw[h2];rfl
theorem GH {s:Bytes}{i:Nat}(h:i<s.length):aV (s.take (i+1))=aV (s.take i)++kn s[i]:=by
 unfold aV
 rw[zSX h,zS9,List.flatMap_cons,List.flatMap_nil,zTc]
theorem IN {n m k:Nat}:∀ {l:List Bytes},l.length≤n→(∀ y∈l,y.length≤m)→n * m≤k→l.flatten.length≤k:=by
 have:∀ (l:List Bytes),(∀ y∈l,y.length≤m)→l.flatten.length≤l.length * m:=by
  intro l
  induction l with
  | nil=>simp
  | cons x l ih =>
    intro h
    have h1:=h x List.mem_cons_self
    have h2:=ih (fun y hy=>h y (List.mem_cons_of_mem _ hy))
    rw[List.flatten_cons,zSU,zSW,Nat.add_mul]
    omega
 intro l h1 h2 h3
 have:=this l h2
 exact Nat.le_trans this (Nat.le_trans (Nat.mul_le_mul_right _ h1) h3)
theorem xN (s:Bytes)(i:Nat):(aV (s.take i)).length≤3 * s.length:=by
 have:=iF (s.take i)
 have:(s.take i).length≤s.length:=by simp;omega
 omega
theorem nc (s:Bytes)(hs:s.length≤1000000):PC Tryz.V 128 [.str s] (.str (aV s)):=by
 refine aZ 3000 Tryz.func128 rfl Tryz.ntmps128 Tryz.results128 Tryz.call128 (by simp) (by simp[flat,flat.ai]) (by simp[flat,flat.ai]) ?_
 refine bC ?_
 refine az (fun σ=>∃ i:Nat,i≤s.length∧lk 0 σ.t=some (.str s)∧lk 3 σ.t=some (.str (aV (s.take i)))∧lk 4 σ.t=some (.int .i64 i)) (fun σ=>s.length - fX 4 σ) ⟨0,by omega,rfl,rfl,rfl⟩ ?_
 rintro⟨t,b⟩ ⟨i,hi,h0,h3,h4⟩
 simp only at h0 h3 h4
 rw[ao h4]
 have vV:=xN s i
 by_cases aA:i<s.length
 ·have hg:s.getD i 0=s[i]:=by simp[zS5,aA]
  have next:∀ (x:Bytes) (t':List (Nat × SV)),x=kn s[i]→lk 4 t'=some (.int .i64 ((i:Int)+1)) →
   (∃ k:Nat,k≤s.length∧SV.str (aV (s.take i)++x)=SV.str (aV (s.take k))∧SV.int IntKind.i64 ((i:Int)+1)=SV.int IntKind.i64 (k:Int))∧s.length - fX 4 ⟨t',b⟩<s.length - (i:Int).toNat:=fun x t' hx k4 =>
   ⟨⟨i+1,by omega,by rw[GH aA,hx],rfl⟩,by rw[ao (σ:=⟨t',b⟩) k4];omega⟩
  refine gN (zSQ h0 (zSQ h3 (zSQ h4 hg))) ?_
  refine⟨fun _=>⟨⟨by omega,by omega⟩,?_⟩,fun h=>absurd h (by simp;omega)⟩
  (refine aa (wT s[i]) ?_;refine gN (zSQ h0 (zSQ h3 (zSQ h4 hg))) ?_)
  refine⟨fun hp=>⟨by omega,⟨by omega,by omega,by omega⟩,by rw[sub_one aA,List.length_singleton];omega,⟨by omega,by omega⟩,next _ _ (by rw[sub_one aA,show kn s[i]=[s[i]] from if_pos hp]) rfl⟩,fun hp=>⟨⟨by omega,by omega⟩,?_⟩⟩
  (refine aa (mD s[i]) ?_;refine gN (zSQ h0 (zSQ h3 (zSQ h4 hg))) ?_)
  exact⟨by rw[show (nw s[i]).length=3 from rfl];omega,⟨by omega,by omega⟩,next _ _ (by rw[show kn s[i]=nw s[i] from if_neg (by rw[hp];simp)]) rfl⟩
 ·have js:i=s.length:=by omega
  subst js
  rw[zSY]at h3
  refine gN (zSQ h0 (zSQ h3 h4)) ?_
  exact fun h=>absurd h (by simp)
theorem Dx (s:Bytes)(hs:s.length≤1000000):PC Tryz.V 125 [.str s] (.bool (ij s)):=by
 refine aZ 3000 Tryz.func125 rfl Tryz.ntmps125 Tryz.results125 Tryz.call125 (by simp) (by simp[flat,flat.ai]) (by simp[flat,flat.ai]) ?_
 refine bC ?_
 refine az (fun σ=>∃ i:Nat,i≤s.length∧lk 0 σ.t=some (.str s)∧lk 3 σ.t=some (.int .i64 i)∧(s.take i).all kF=true) (fun σ=>s.length - fX 3 σ) ⟨0,by omega,rfl,rfl,rfl⟩ ?_
 rintro⟨t,b⟩ ⟨i,hi,h0,h3,da⟩
 simp only at h0 h3
 rw[ao h3]
 by_cases aA:i<s.length
 ·have hg:s.getD i 0=s[i]:=by simp[zS5,aA]
  have fU:kF s[i]=false→ij s=false:=fun h=>by
   unfold ij
   rw[dC aA h,zTf]
  refine gN (zSQ h0 (zSQ h3 hg)) ?_
  refine⟨fun _=>⟨⟨by omega,by omega⟩,?_⟩,fun h=>absurd h (by simp;omega)⟩
  (refine aa (gR s[i]) ?_;refine gN (zSQ h0 (zSQ h3 hg)) ?_)
  have fin:kF s[i]=true→∀ (t':List (Nat × SV)),lk 3 t'=some (.int .i64 ((i:Int)+1))→(∃ k:Nat,k≤s.length∧SV.int IntKind.i64 ((i:Int)+1)=SV.int IntKind.i64 (k:Int)∧(s.take k).all kF=true)∧s.length - fX 3 ⟨t',b⟩<s.length - (i:Int).toNat:=fun hm t' k6 =>
   ⟨⟨i+1,by omega,rfl,bn aA da hm⟩,by rw[ao (σ:=⟨t',b⟩) k6];omega⟩
  cases hd:isDigit s[i]
  ·refine⟨fun _=>⟨⟨by omega,by omega⟩,fun h1=>⟨⟨by omega,by omega⟩,fun h2=>?_,fun h2=>⟨⟨by omega,by omega⟩,fin ?_ _ rfl⟩⟩,fun h1=>?_⟩,fun h=>(by cases h)⟩
   ·rw[fU (by rw[sN _ hd];simp at h1 h2 ⊢;omega)]
   ·rw[sN _ hd];simp at h1 h2 ⊢;omega
   ·rw[fU (by rw[sN _ hd];simp at h1 ⊢;omega)]
  ·exact⟨fun h=>(by cases h),fun _=>⟨⟨by omega,by omega⟩,fin (by unfold kF;rw[hd];rfl) _ rfl⟩⟩
 ·have js:i=s.length:=by omega
  subst js
  rw[zSY]at da
  refine gN (zSQ h0 h3) ?_
  refine⟨fun h=>absurd h (by simp),fun _=>?_⟩
  unfold ij
  rw[da,Bool.and_true]
  cases s <;> rfl
theorem lF (s:Bytes):PC Tryz.V 69 [.str s] (.eW [pk (bE s).1,.int .i64 (bE s).2]):=by
 refine aZ 3000 Tryz.func69 rfl Tryz.ntmps69 Tryz.results69 Tryz.call69 (by simp) (by simp[flat,flat.ai,pk,dusv]) (by simp[flat,flat.ai,pk,dusv]) ?_
 refine bC ?_
 unfold bE
 refine⟨fun h=>?_,fun h=>?_⟩
 ·have h:4096<s.length:=(by simp at h;omega)
  rw[if_pos h];rfl
 have h:¬ 4096<s.length:=(by simp at h;omega)
 rw[if_neg h]
 have pp:=cB s qX
 rw[show Lib.hasPrefix s qX=qX.isPrefixOf s from rfl]at pp
 (refine aa pp ?_;refine bC ?_)
 refine⟨fun h2=>(by rw[if_pos (by simpa using h2)];rfl),fun h2=>?_⟩
 have h2:qX.isPrefixOf s=true:=by simpa using h2
 rw[if_neg (by rw[h2];simp),show zS8 4=4 from rfl]
 have hS:(s.drop 4).length≤4096:=by simp;omega
 refine⟨⟨by omega,?_⟩,?_⟩
 ·have:=(List.isPrefixOf_iff_prefix.1 h2).length_le
  rw[show qX.length=4 from rfl]at this
  omega
 generalize s.drop 4=S at hS ⊢
 have pi:=bH S [58] (by omega) (by decide)
 rw[fC]at pi
 (refine aa pi ?_;refine bC ?_)
 have gU:=cV (·==58) S
 unfold rB
 refine⟨fun h3=>?_,fun h3=>?_⟩
 ·have h3:pre (·==58) S=S.length:=by simp at h3;omega
  rw[gn h3,if_pos rfl];rfl
 have h3:¬ pre (·==58) S=S.length:=by simp at h3;omega
 rw[show aN 58 S=(S.take (pre (·==58) S),S.drop (pre (·==58) S+1),true) from if_pos (by omega)]
 refine⟨⟨by omega,by omega⟩,?_⟩
 simp only[Int.toNat_natCast]
 have pm:=Dx (S.take (pre (·==58) S)) (by simp;omega)
 (refine aa pm ?_;refine bC ?_)
 refine⟨fun h4=>?_,fun h4=>?_⟩
 ·rw[if_pos (by simpa using h4)];rfl
 rw[if_neg (by simpa using h4),GI]
 have hM:(S.drop (pre (·==58) S+1)).length≤4096:=by simp;omega
 generalize S.drop (pre (·==58) S+1)=I at hM ⊢
 refine⟨⟨by omega,by omega⟩,⟨by omega,by omega⟩,?_⟩
 have fD:=iA 58 I
 have Mh:=ib 58 I
 have Oc:=List.count_le_length (a:=(58:UInt8)) (l:=I)
 refine ae (tP I 58 (by omega)) ?_
 rintro r b ⟨j,rfl,nU,hj,bc⟩
 generalize aF 58 I=L at *
 simp only at nU hj bc
 have dL:=bc.at (j:=0) rfl
 refine gN hj ?_
 refine az (fun σ=>∃ k:Nat,k≤L.length∧lk 0 σ.t=some (.str S)∧lk 2 σ.t=some (.p 0 0)∧lk 3 σ.t=some (.int .i64 0)∧lk 4 σ.t=some (.int .i64 (pre (·==58) S))∧lk 5 σ.t=some (.o j L.length)∧lk 46 σ.t=some (.o j L.length)∧lk 47 σ.t=some (.int .i64 L.length)∧lk 48 σ.t=some (.int .i64 k) ∧
  σ.b[0]? = some (.cells [.str [],.str []] 123 true)∧σ.b[j]? = some (.own (L.map SV.str) 9 1 L.length true)∧∀ y∈L.take k,PU.bad ∉ aJ y) (fun σ=>L.length - fX 48 σ) ⟨0,by omega,rfl,rfl,rfl,rfl,rfl,rfl,rfl,rfl,dL,hj,by simp⟩ ?_
 clear dL hj bc
 rintro⟨t,b⟩ ⟨k,hk,h0,h2,h3,h4,h5,Hu,r9,IJ,dL,hj,da⟩
 simp only at h0 h2 h3 h4 h5 Hu r9 IJ dL hj
 rw[ao IJ]
 have oe:∀ X,(b.set 0 X)[0]? = some X:=fun X=>zSS (zSR.1 dL).1
 by_cases aA:k<L.length
 ·have hx:(L.map SV.str)[k * 1]? = some (.str L[k]):=by simp[aA]
  have od:=fD L[k] (zS0 aA)
  have pd:=gF L[k]
  rw[oU (by omega)]at pd
  refine gN (zSQ h0 (zSQ h2 (zSQ h3 (zSQ h4 (zSQ h5 (zSQ Hu (zSQ r9 (zSQ IJ (zSQ dL (zSQ hj (zSQ oe hx))))))))))) ?_
  refine⟨fun _=>⟨⟨by omega,by omega⟩,by simp;omega,?_⟩,fun h=>absurd h (by simp;omega)⟩
  by_cases fU:PU.bad∈aJ L[k]
  ·rw[if_pos fU]at pd
   rw[if_pos ⟨_,zS0 aA,fU⟩]
   (refine aa pd ?_;refine gK (zSQ h0 (zSQ h2 (zSQ h3 (zSQ h4 (zSQ h5 (zSQ Hu (zSQ r9 (zSQ IJ (zSQ dL (zSQ hj (zSQ oe hx))))))))))) ?_)
   rfl
  ·rw[if_neg fU]at pd
   (refine aa pd ?_;refine gK (zSQ h0 (zSQ h2 (zSQ h3 (zSQ h4 (zSQ h5 (zSQ Hu (zSQ r9 (zSQ IJ (zSQ dL (zSQ hj (zSQ oe hx))))))))))) ?_)
   refine⟨⟨by omega,by omega⟩,⟨k+1,by omega,rfl,fun y hy=>?_⟩,?_⟩
   ·rw[zSX aA]at hy
    rcases zTd.1 hy with hy|hy
    ·exact da y hy
    ·rw[zTe.1 hy];exact fU
   ·rw[ao (k:=.i64) (n:=(k:Int)+1) rfl];omega
 ·have js:k=L.length:=by omega
  subst js
  rw[zSY]at da
  rw[if_neg (fun⟨y,hy,hb⟩=>da y hy hb)]
  refine gN (zSQ h0 (zSQ h2 (zSQ h3 (zSQ h4 (zSQ h5 (zSQ Hu (zSQ r9 (zSQ IJ (zSQ dL (zSQ hj oe)))))))))) ?_
  refine⟨fun h=>absurd h (by simp),fun _=>?_⟩
  have hbad2:∀ y∈L,PU.bad ∉ aJ y:=da
  clear da Hu r9 IJ aA hk
  refine az (fun σ=>∃ k:Nat,k≤L.length∧lk 0 σ.t=some (.str S)∧lk 2 σ.t=some (.p 0 0)∧lk 3 σ.t=some (.int .i64 0)∧lk 4 σ.t=some (.int .i64 (pre (·==58) S))∧lk 5 σ.t=some (.o j L.length)∧lk 61 σ.t=some (.o j L.length)∧lk 62 σ.t=some (.int .i64 L.length)∧lk 63 σ.t=some (.int .i64 k)∧lk 10 σ.t=some (.str (fZ (L.take k))) ∧
   σ.b[0]? = some (.cells [.str [],.str []] 123 true)∧σ.b[j]? = some (.own (L.map SV.str) 9 1 L.length true)∧(L.take k).all e7=true) (fun σ=>L.length - fX 63 σ) ⟨0,by omega,h0,h2,h3,h4,h5,rfl,rfl,rfl,rfl,dL,hj,rfl⟩ ?_
  clear dL hj h0 h2 h3 h4 h5 oe
  rintro⟨t,b⟩ ⟨k,hk,h0,h2,h3,h4,h5,Ly,Lx,xM,de,dL,hj,da⟩
  simp only at h0 h2 h3 h4 h5 Ly Lx xM de dL hj
  have oe:∀ X,(b.set 0 X)[0]? = some X:=fun X=>zSS (zSR.1 dL).1
  rw[ao xM]
  by_cases aA:k<L.length
  ·have hx:(L.map SV.str)[k * 1]? = some (.str L[k]):=by simp[aA]
   have od:=fD L[k] (zS0 aA)
   have hxb:=hbad2 L[k] (zS0 aA)
   refine gN (zSQ h0 (zSQ h2 (zSQ h3 (zSQ h4 (zSQ h5 (zSQ Ly (zSQ Lx (zSQ xM (zSQ de (zSQ dL (zSQ hj (zSQ oe hx)))))))))))) ?_
   refine⟨fun _=>⟨⟨by omega,by omega⟩,by simp;omega,?_⟩,fun h=>absurd h (by simp;omega)⟩
   have hidl:=CR (L.take k)
   have hid2:(L.take k).flatten.length≤4097 * 4097:=IN (n:=4097) (m:=4097) (by simp;omega) (fun y hy=>by have:=fD y (List.mem_of_mem_take hy);omega) (Nat.le_refl _)
   have htl:(L.take k).length≤4097:=by simp;omega
   have hsj:=AM aA
   have hxa:e7 L[k]=false→L.all e7=false:=fun h=>dC aA h
   have qG:e7 L[k]=true→(L.take (k+1)).all e7=true:=fun h=>bn aA da h
   clear da
   generalize L[k]=x at *
   refine az (fun σ=>∃ i:Nat,i≤x.length∧lk 0 σ.t=some (.str S)∧lk 2 σ.t=some (.p 0 0)∧lk 3 σ.t=some (.int .i64 0)∧lk 4 σ.t=some (.int .i64 (pre (·==58) S))∧lk 5 σ.t=some (.o j L.length)∧lk 61 σ.t=some (.o j L.length)∧lk 62 σ.t=some (.int .i64 L.length)∧lk 63 σ.t=some (.int .i64 k)∧lk 11 σ.t=some (.int .i64 k)∧lk 10 σ.t=some (.str (fZ (L.take k)))∧lk 12 σ.t=some (.str x)∧lk 13 σ.t=some (.int .i64 i) ∧
    σ.b[0]? = some (.cells [.str [],.str []] 123 true)∧σ.b[j]? = some (.own (L.map SV.str) 9 1 L.length true)∧(x.take i).all (fun c=>df c||c==37)=true) (fun σ=>x.length - fX 13 σ) ⟨0,by omega,h0,h2,h3,h4,h5,Ly,Lx,xM,rfl,de,rfl,rfl,dL,hj,rfl⟩ ?_
   clear dL hj h0 h2 h3 h4 h5 oe Ly Lx xM de
   rintro⟨t,b⟩ ⟨i,hi,h0,h2,h3,h4,h5,Ly,Lx,xM,eJ,de,iN,gy,dL,hj,da⟩
   simp only at h0 h2 h3 h4 h5 Ly Lx xM eJ de iN gy dL hj
   have oe:∀ X,(b.set 0 X)[0]? = some X:=fun X=>zSS (zSR.1 dL).1
   rw[ao gy]
   by_cases dF:i<x.length
   ·have hg:x.getD i 0=x[i]:=by simp[zS5,dF]
    refine gN (zSQ h0 (zSQ h2 (zSQ h3 (zSQ h4 (zSQ h5 (zSQ Ly (zSQ Lx (zSQ xM (zSQ de (zSQ dL (zSQ hj (zSQ oe (zSQ eJ (zSQ iN (zSQ gy hg))))))))))))))) ?_
    refine⟨fun _=>⟨⟨by omega,by omega⟩,?_⟩,fun h=>absurd h (by simp;omega)⟩
    (refine aa (wT x[i]) ?_;refine gN (zSQ h0 (zSQ h2 (zSQ h3 (zSQ h4 (zSQ h5 (zSQ Ly (zSQ Lx (zSQ xM (zSQ de (zSQ dL (zSQ hj (zSQ oe (zSQ eJ (zSQ iN (zSQ gy hg))))))))))))))) ?_)
    have hb37:=dw dF 37 (n:=37) rfl
    have hb38:((x[i].toNat:Int) != 37)=(x[i] != 37):=by
     show (!_)=(!_);rw[← hb37,hg]
    rw[hb38]
    have fin:(df x[i]||x[i]==37)=true→∀ (t':List (Nat × SV)),lk 13 t'=some (.int .i64 ((i:Int)+1))→(∃ m:Nat,m≤x.length∧SV.int IntKind.i64 ((i:Int)+1)=SV.int IntKind.i64 (m:Int)∧(x.take m).all (fun c=>df c||c==37)=true)∧x.length - fX 13 ⟨t',b⟩<x.length - (i:Int).toNat:=fun hm t' k6 =>
     ⟨⟨i+1,by omega,rfl,bn dF da hm⟩,by rw[ao (σ:=⟨t',b⟩) k6];omega⟩
    refine⟨fun hp=>⟨⟨by omega,by omega⟩,fun la=>?_,fun la=>⟨⟨by omega,by omega⟩,fin ?_ _ rfl⟩⟩,fun hp=>⟨⟨by omega,by omega⟩,fin ?_ _ rfl⟩⟩
    ·rw[if_pos (hxa (dC dF (by simp at hp la ⊢;exact⟨hp,la⟩)))];rfl
    ·simp at la ⊢;exact .inr la
    ·simp at hp ⊢;exact .inl hp
   ·have js:i=x.length:=by omega
    subst js
    rw[zSY]at da
    have pd:=gF x
    rw[oU (by omega),if_neg hxb]at pd
    simp only at pd
    have pe:=nc (lP x) (by have:=nZ x;omega)
    have pK:=iF (lP x)
    have hdl2:=nZ x
    refine gN (zSQ h0 (zSQ h2 (zSQ h3 (zSQ h4 (zSQ h5 (zSQ Ly (zSQ Lx (zSQ xM (zSQ de (zSQ dL (zSQ hj (zSQ oe (zSQ eJ (zSQ iN gy)))))))))))))) ?_
    refine⟨fun h=>absurd h (by simp),fun _=>?_⟩
    have hxp:e7 x=true:=da
    (refine aa pd ?_;refine gK (zSQ h0 (zSQ h2 (zSQ h3 (zSQ h4 (zSQ h5 (zSQ Ly (zSQ Lx (zSQ xM (zSQ de (zSQ dL (zSQ hj (zSQ oe (zSQ eJ (zSQ iN gy)))))))))))))) ?_)
    refine⟨fun h0k=>⟨by omega,?_⟩,fun h0k=>?_⟩
    ·(refine aa pe ?_;refine gN (zSQ h0 (zSQ h2 (zSQ h3 (zSQ h4 (zSQ h5 (zSQ Ly (zSQ Lx (zSQ xM (zSQ de (zSQ dL (zSQ hj (zSQ oe (zSQ eJ (zSQ iN gy)))))))))))))) ?_)
     refine⟨by simp;omega,⟨by omega,by omega⟩,⟨k+1,by omega,rfl,?_,qG hxp⟩,?_⟩
     ·rw[hsj,if_neg (by simp at h0k;omega)]
     ·rw[ao (k:=.i64) (n:=(k:Int)+1) rfl];omega
    ·(refine aa pe ?_;refine gN (zSQ h0 (zSQ h2 (zSQ h3 (zSQ h4 (zSQ h5 (zSQ Ly (zSQ Lx (zSQ xM (zSQ de (zSQ dL (zSQ hj (zSQ oe (zSQ eJ (zSQ iN gy)))))))))))))) ?_)
     refine⟨by omega,⟨by omega,by omega⟩,⟨k+1,by omega,rfl,?_,qG hxp⟩,?_⟩
     ·rw[hsj,if_pos (by simp at h0k;omega),zTc]
     ·rw[ao (k:=.i64) (n:=(k:Int)+1) rfl];omega
  ·have js:k=L.length:=by omega
   subst js
   rw[zSY]at da de
   rw[if_neg (by rw[da];simp)]
   have hL0:0<L.length:=by omega
   have hz:(L.map SV.str)[((L.length:Int) - 1).toNat * 1]? = some (.str (L[L.length - 1]'(by omega))):=by
    rw[show ((L.length:Int) - 1).toNat * 1=L.length - 1 by omega]
    simp[hL0]
   have Hk:L.getLast? = some (L[L.length - 1]'(by omega)):=by rw[List.getLast?_eq_getElem?];simp[hL0]
   rw[Hk]
   generalize L[L.length - 1]'(by omega)=z at hz
   simp only[zS7.injEq]
   have hpl2:=cV (·==58) S
   refine gN (zSQ h0 (zSQ h2 (zSQ h3 (zSQ h4 (zSQ h5 (zSQ Ly (zSQ Lx (zSQ xM (zSQ de (zSQ dL (zSQ hj (zSQ oe hz)))))))))))) ?_
   refine⟨fun h=>absurd h (by simp),fun _=>⟨⟨by omega,by omega⟩,⟨by omega,by omega⟩,by simp;omega,fun h=>?_,fun h=>?_⟩⟩
   ·rw[if_pos (by simpa using h)];rfl
   ·rw[if_neg (by simpa using h)]
    exact⟨⟨by omega,by omega⟩,rfl⟩
theorem iw (d:iz)(h:kU d):PC Tryz.V 122 [pk d] (.str (cg d)):=by
 obtain⟨m,i⟩:=d
 simp only[kU]at h
 refine aZ 3000 Tryz.func122 rfl Tryz.ntmps122 Tryz.results122 Tryz.call122 (by simp) (by simp[flat,flat.ai,pk,dusv]) (by simp[flat,flat.ai,pk,dusv]) ?_
 unfold pk
 refine bC ?_
 simp only[zSU,zSW,zSZ]
 refine⟨by omega,by omega,by omega,?_⟩
 simp[cg,qX]
theorem wg {g:Bytes→Bytes}{L:List Bytes}{k:Nat}(h:k<L.length):(L.take (k+1)).flatMap g=(L.take k).flatMap g++g L[k]:=by
 rw[zSX h,zS9,List.flatMap_cons,List.flatMap_nil,zTc]
theorem oQ {g:Bytes→Bytes}{L:List Bytes}{k:Nat}:((L.take k).flatMap g).length≤(L.flatMap g).length:=by
 conv=>rhs;rw[← List.take_append_drop k L]
 rw[zS9,zSU]
 omega
theorem mI:∀ {l:List Bytes}{x:Bytes},x∈l→x.length≤l.flatten.length
 | y::l,x,h=>by
   rw[List.flatten_cons,zSU]
   rcases List.mem_cons.1 h with rfl|h
   ·omega
   ·have:=mI h;omega
theorem GS {u:bM}(h:fJ u):Fair u:=by
 have h1:=iI u
 have h2:=h.len
 obtain⟨-,-,-,k4,k5,k6⟩:=cR h.host
 refine⟨?_,by omega,by omega⟩
 have hq:u.query.length≤4096:=by
  cases hb:u.aD
  ·rw[h.noq hb];simp
  ·have:=h1.2.1 hb;omega
 have hf:u.fragment.length≤4096:=by
  cases hb:u.aP
  ·rw[h.nof hb];simp
  ·have:=h1.2.2 hb;omega
 omega
theorem HF (d:iz)(h:(gq d).2=0):Fair (gq d).1:=GS (BM (d:=d) (u:=(gq d).1) (by rw[← h])).1
theorem Ds (p:Int)(h1:0≤p)(h2:p≤9223372036854775807):PC Tryz.V 153 [.int .i64 p] (.str (bW p.natAbs)) :=
 ⟨Tryz.call153,by simp[flat,flat.ai],by simp[flat,flat.ai],fun w _=>(na p w (by omega) h2).mono fun _ _ ⟨h,k⟩=>⟨by rw[h,if_neg (by omega)];rfl,k⟩⟩
theorem tM {bs:List av}(d:iz)(h:kU d):SC Tryz.V 129 [pk d] bs (fun r b=>Kp bs b∧∃ x,r=.eW [x,.agg [.str (bV d).1.1,.int .i64 (bV d).1.2],.int .i64 (bV d).2] ∧
 ((bV d).2=0→∃ j,x=.o j (aF 58 d.id).length∧bs.length≤j∧b[j]? = some (.own ((aF 58 d.id).map SV.str) 9 1 (aF 58 d.id).length true))):=by
 have pf:=iw d h
 have pp:=lF (cg d)
 have hf:=@I6 d
 have hd:=@Ay d
 refine bo 3000 Tryz.func129 rfl Tryz.ntmps129 Tryz.results129 Tryz.call129 (by simp) (ah bs.length _ (by simp[within,within.ax,pk])) ?_
 unfold pk
 unfold pk at pf pp
 unfold bV
 refine gN (zSQ @aC (zSQ @uU (zSQ @q7 (zSQ @uT (zSQ @fB (zSQ @tG @rn)))))) ?_
 refine⟨fun h1=>?_,fun h1=>?_⟩
 ·rw[if_pos (by simpa[gM] using h1)]
  refine⟨((Kp.refl _).app _).app _,.aj,rfl,fun k=>by simp at k⟩
 have h1:d.method=gM:=by simpa[gM] using h1
 rw[if_neg (by simp[h1])]
 (refine aa pf ?_;refine gN (zSQ @aC (zSQ @uU (zSQ @q7 (zSQ @uT (zSQ @fB (zSQ @tG @rn)))))) ?_)
 (refine aa pp ?_;refine gN (zSQ @aC (zSQ @uU (zSQ @q7 (zSQ @uT (zSQ @fB (zSQ @tG @rn)))))) ?_)
 refine⟨fun h2=>?_,fun h2=>?_⟩
 ·rw[if_pos (by simpa using h2)]
  refine⟨(((Kp.refl _).app _).app _).app _,.aj,rfl,fun k=>absurd k (by simpa using h2)⟩
 have h2:(bE (cg d)).2=0:=by simpa using h2
 rw[if_neg (by simp[h2])]
 have hf:=hf h1 h2
 have hd:=hd h1 h2
 obtain⟨T,hT⟩:=uO 58 d.id
 have pd:=gF (aN 58 d.id).1
 rw[hf]at pd ⊢
 have xG:=jn 58 d.id
 have kJ:=nZ (aN 58 d.id).1
 have ph:=yT (lP (aN 58 d.id).1) (by omega)
 refine ae (tP d.id 58 (by omega)) ?_
 rintro r b ⟨j,rfl,nU,hj,bc⟩
 rw[hT]at hj ⊢
 generalize (aN 58 d.id).1=c at *
 simp only at nU bc hj
 have JA:=bc.at (uU _ _ _)
 have kg:Kp bs b:=((((Kp.refl bs).app _).app _).app _).trans bc
 have mh:bs.length≤b.length:=kg.1
 simp only[zSU,zSW,zSZ]at nU
 have gw:=(zSR.1 hj).1
 have oK:∀ X:av,(bs++[X]).length=bs.length+1:=fun X=>by simp
 rw[oK]at JA
 have xF:∀ X,(b.set (bs.length+1) X)[bs.length+1]? = some X:=fun X=>zSS (zSR.1 JA).1
 simp only[cz,↓Xn,↓Xo,↓Xg,↓Xd,↓Xe,↓Xf,Tryz.VΓ,Tryz.Γs,Xp,Xi,Nat.reduceAdd,Nat.reduceSub,Nat.reduceLT,Nat.reduceLeDiff,reduceIte,reduceCtorEq,Nat.reduceEqDiff,implies_true,forall_const,cw,hj,JA,oK,xF,List.map_cons,List.getElem?_cons_zero,Int.toNat_zero,Nat.zero_mul]
 refine⟨⟨by omega,by omega⟩,?_⟩
 (refine aa pd ?_;refine gN (zSQ hj (zSQ JA (zSQ oK xF))) ?_)
 have hzo:=fun X=>ad JA [X]
 have Hk:=(zSR.1 JA).1
 have fA:∀ X Y,((b++[X]).set (bs.length+1) Y)[bs.length+1]? = some Y:=fun X Y=>zSS (by simp;omega)
 (refine aa ph ?_;refine gN (zSQ hj (zSQ JA (zSQ oK (zSQ xF (zSQ @aC (zSQ @fB (zSQ hzo fA))))))) ?_)
 have bK:¬ b.length=bs.length+1:=by omega
 refine⟨(by
  refine bO (fun n=>if n=(bs.length+1) then 0 else 1) ?_
  simp only[List.map_cons,List.map_nil,cW,eS,reduceIte,bK]
  exact aq (by kernel_rfl)),(kg.app _).set (by omega) _,.o j (T.length+1),rfl,fun _=>⟨j,rfl,by omega,?_⟩⟩
 rw[zS3 (by omega)]
 exact ad hj _
theorem xC (d:iz)(h:kU d):PC Tryz.V 121 [pk d] (.eW [.agg [.str (bV d).1.1,.int .i64 (bV d).1.2],.int .i64 (bV d).2]):=by
 have hf:=fun(bs:List av)=>tM (bs:=bs) d h
 unfold pk at hf
 refine aZ 3000 Tryz.func121 rfl Tryz.ntmps121 Tryz.results121 Tryz.call121 (by simp) (by simp[flat,flat.ai,pk,cQ]) (by simp[flat,flat.ai,pk,cQ]) ?_
 unfold pk
 refine bC ?_
 refine ae (hf _) ?_
 rintro r b ⟨bc,x,rfl,-⟩
 have eX:=bc.at (j:=1) rfl
 have mh:=(zSR.1 eX).1
 have IG:=fun X=>ad eX [X]
 have Oe:∀ X Y,((b++[X]).set 1 Y)[1]? = some Y:=fun X Y=>zSS (by simp;omega)
 exact gN (zSQ eX (zSQ IG (zSQ Oe (zSQ @aC @fB)))) zTh
theorem wS (d:iz)(h:kU d):PC Tryz.V 70 [pk d] (.eW [cQ (gq d).1,.int .i64 (gq d).2]):=by
 have hf:=fun(bs:List av)=>tM (bs:=bs) d h
 have Lh:=@Ay d
 have hha:=@Ag d
 unfold pk at hf
 unfold gq
 generalize bV d=A at hf hha ⊢
 obtain⟨⟨x,p⟩,e⟩:=A
 simp only at hf hha ⊢
 refine aZ 3000 Tryz.func70 rfl Tryz.ntmps70 Tryz.results70 Tryz.call70 (by simp) (by simp[flat,flat.ai,pk,cQ]) (by simp[flat,flat.ai,pk,cQ]) ?_
 unfold pk
 refine bC ?_
 refine ae (hf _) ?_
 rintro r b ⟨bc,y,rfl,hx⟩
 have eX:=bc.at (j:=1) rfl
 have mh:=(zSR.1 eX).1
 have IG:=fun X=>ad eX [X]
 have Oe:∀ X Y,((b++[X]).set 1 Y)[1]? = some Y:=fun X Y=>zSS (by simp;omega)
 refine gN (zSQ eX (zSQ IG (zSQ Oe (zSQ @aC @fB)))) ?_
 refine⟨fun h1=>(by rw[if_pos (by simpa using h1)];rfl),fun h1=>?_⟩
 have h1:e=0:=by simpa using h1
 rw[if_neg (by simp[h1])]
 obtain⟨hh,hm,hp⟩:=hha h1
 obtain⟨hl,ND⟩:=Lh hm hp
 obtain⟨j,rfl,nU,hj⟩:=hx h1
 have hsf:=yu 58 d.id
 obtain⟨T,hT⟩:=uO 58 d.id
 rw[hT]at ND hsf hj ⊢
 generalize (aN 58 d.id).1=c at ND hsf hj ⊢
 simp only[List.flatten_cons,zSU,zSW,List.tail_cons,List.map_cons]at hsf hj ⊢
 have gw:=(zSR.1 hj).1
 have hjo:=fun X=>ad hj [X]
 simp only[zSW,zSZ]at nU
 refine gN (zSQ eX (zSQ IG (zSQ Oe (zSQ @aC (zSQ @fB (zSQ hj hjo)))))) ?_
 refine⟨⟨by omega,by omega⟩,?_⟩
 have e0:T.length+1 - zS8 1=T.length:=by simp
 have e1:List.drop (zS8 1 * 1) (List.take ((T.length+1) * 1) (SV.str c::T.map SV.str))=T.map SV.str:=by
  rw[List.take_of_length_le (by simp)];simp
 simp only[e0,e1]
 have hfu:=JS T
 have dB:∀ q:Bytes,q.length≤100000→Fair ⟨x,p,q,[],[],false,false⟩:=fun q hq=>by
  obtain⟨-,-,-,k4,k5,k6⟩:=cR hh
  exact⟨by simp only[zSZ];omega,by simp only;omega,by simp only;omega⟩
 refine az (fun σ=>∃ k:Nat,k≤T.length∧lk 2 σ.t=some (.p 1 0)∧lk 3 σ.t=some (.int .i64 0)∧lk 4 σ.t=some (.o j (T.length+1))∧lk 5 σ.t=some (.p b.length 0)∧lk 7 σ.t=some (.str ((T.take k).flatMap rQ))∧lk 24 σ.t=some (.o (b.length+1) T.length)∧lk 25 σ.t=some (.int .i64 T.length)∧lk 26 σ.t=some (.int .i64 k) ∧
  σ.b[1]? = some (.cells [.str [],.int .i64 0,.str [],.str [],.str [],.bool false,.bool false] 35 true)∧σ.b[b.length]? = some (.cells [.str x,.int .i64 p] 24 true)∧σ.b[b.length+1]? = some (.own (T.map SV.str) 9 1 T.length false)∧(∃ c m,σ.b[j]? = some (.own c 9 1 (T.length+1) m))∧(T.take k).all mw=true) (fun σ=>T.length - fX 26 σ)
  ⟨0,by omega,rfl,rfl,rfl,rfl,rfl,rfl,rfl,rfl,ad (by rw[zS3 (by omega)];exact IG _) _,ad (by rw[zS3 (by omega)];exact aC _ _) _,(by rw[zS1 (by simp)];simp),⟨_,_,ad (zSS (by simp;omega)) _⟩,rfl⟩ ?_
 have hbL:1<b.length:=mh
 clear hj hjo eX IG Oe bc hx
 generalize b.length=N at *
 rintro⟨t,B⟩ ⟨k,hk,h2,h3,h4,h5,h7,sd,ya,vc,kM,hBN,pg,⟨cj,mj,hBj⟩,da⟩
 simp only at h2 h3 h4 h5 h7 sd ya vc kM hBN pg hBj
 rw[ao vc]
 have l8:=oQ (g:=rQ) (L:=T) (k:=k)
 have lL:∀ X,(B.set 1 X)[1]? = some X:=fun X=>zSS (zSR.1 kM).1
 by_cases aA:k<T.length
 ·have hx:(T.map SV.str)[k * 1]? = some (.str T[k]):=by simp[aA]
  have hsg:=ND T[k] (List.mem_cons_of_mem _ (zS0 aA))
  have NV:=wg (g:=rQ) aA
  have pd:=gF T[k]
  have hup:rQ T[k]=47::aH [] (aB T[k]).1:=rfl
  have pK:=ig T[k]
  have vV:=eO [] (aB T[k]).1
  have pe:=mE (aB T[k]).1 [] (by omega) (by simp)
  have L7:mw T[k]=!((((aB T[k]).1==[])||((aB T[k]).1==[46]))||((aB T[k]).1==[46,46])):=by
   have hd0:(aB T[k]).2=0:=by rw[oU (by omega),if_neg hsg.1]
   unfold mw
   rw[hd0]
   cases h2:(aB T[k]).1==[] <;> cases h3:(aB T[k]).1==[46] <;> cases h4:(aB T[k]).1==[46,46] <;> simp_all [bne]
  have fU:mw T[k]=false→T.all mw=false:=fun h=>dC aA h
  have Gl:mw T[k]=true→(T.take (k+1)).all mw=true:=fun h=>bn aA da h
  refine gN (zSQ h2 (zSQ h3 (zSQ h4 (zSQ h5 (zSQ h7 (zSQ sd (zSQ ya (zSQ vc (zSQ kM (zSQ hBN (zSQ pg hx))))))))))) ?_
  refine⟨fun _=>⟨⟨by omega,by omega⟩,by simp;omega,?_⟩,fun h=>absurd h (by simp;omega)⟩
  generalize aB T[k]=X at *
  obtain⟨w,ew⟩:=X
  simp only at pd pe L7 hup pK vV
  have fin:∀ (t':List (Nat × SV)),mw T[k]=true→lk 26 t'=some (.int .i64 ((k:Int)+1))→T.length - fX 26 ⟨t',B⟩<T.length - (k:Int).toNat:=fun t' _ k6=>by rw[ao (σ:=⟨t',B⟩) k6];omega
  (refine aa pd ?_;refine gN (zSQ h2 (zSQ h3 (zSQ h4 (zSQ h5 (zSQ h7 (zSQ sd (zSQ ya (zSQ vc (zSQ kM (zSQ hBN (zSQ pg lL))))))))))) ?_)
  refine⟨fun g1=>⟨fun g2=>⟨fun g3=>?_,fun g3=>?_⟩,fun g2=>?_⟩,fun g1=>?_⟩
  ·have hb:=fU (by rw[L7,g3];simp)
   simp only[hb,if_true]
   rfl
  ·have L7:mw T[k]=true:=by rw[L7,g1,g2,g3];rfl
   (refine aa pe ?_;refine gN (zSQ h2 (zSQ h3 (zSQ h4 (zSQ h5 (zSQ h7 (zSQ sd (zSQ ya (zSQ vc (zSQ kM (zSQ hBN pg)))))))))) ?_)
   refine⟨by omega,by omega,⟨by omega,by omega⟩,⟨k+1,by omega,by rw[NV,hup],rfl,⟨cj,mj,hBj⟩,Gl L7⟩,fin _ L7 rfl⟩
  ·have hb:=fU (by rw[L7,g2];simp)
   simp only[hb,if_true]
   rfl
  ·have hb:=fU (by rw[L7,g1];simp)
   simp only[hb,if_true]
   rfl
 ·have js:k=T.length:=by omega
  subst js
  rw[zSY]at h7 da
  have JI:decide ((T.length:Int)<T.length)=false:=by simp
  have Lu:=(zSR.1 kM).1
  have Bu:=fun X=>ad kM [X]
  have Bs:∀ X Y,((B++[X]).set 1 Y)[1]? = some Y:=fun X Y=>zSS (by simp;omega)
  have hTl:(((T.length+1:Nat):Int)==1)=decide (T=[]):=by
   cases T <;> simp
   omega
  have hpt:ou T=(if T=[] then [47,46,119,101,108,108,45,107,110,111,119,110] else T.flatMap rQ)++[47,100,105,100,46,106,115,111,110]:=by
   unfold ou
   by_cases hT:T=[]
   ·rw[if_pos hT,if_pos hT];rfl
   ·rw[if_neg hT,if_neg hT];rfl
  have gU:(ou T).length≤100000:=by rw[hpt];split <;> simp only[zSU,zSW,zSZ] <;> omega
  have pf:=fM ⟨x,p,ou T,[],[],false,false⟩ (dB _ gU)
  unfold cQ at pf
  simp only at pf
  by_cases hT:T=[]
  ·rw[if_pos hT]at hpt
   rw[hpt]at pf ⊢
   have hTd:decide (T=[])=true:=decide_eq_true hT
   simp only[List.cons_append,List.nil_append]at pf
   refine gN (zSQ h2 (zSQ h3 (zSQ h4 (zSQ h5 (zSQ h7 (zSQ sd (zSQ ya (zSQ vc (zSQ kM (zSQ hBN (zSQ pg (zSQ hBj (zSQ Bu (zSQ Bs (zSQ JI (zSQ da (zSQ hTl (zSQ hTd (zSQ @aC @fB))))))))))))))))))) ?_
   (refine aa pf ?_;refine gN (zSQ h2 (zSQ h3 (zSQ h4 (zSQ h5 (zSQ h7 (zSQ sd (zSQ ya (zSQ vc (zSQ kM (zSQ hBN (zSQ pg (zSQ hBj (zSQ Bu (zSQ Bs (zSQ JI (zSQ da (zSQ hTl (zSQ hTd (zSQ @aC @fB))))))))))))))))))) ?_)
   unfold nJ
   exact⟨fun hl=>(by rw[if_pos (by simp only[decide_eq_true_eq,decide_eq_false_iff_not]at hl;omega)];rfl),fun hl=>(by rw[if_neg (by simp only[decide_eq_true_eq,decide_eq_false_iff_not]at hl;omega)];rfl)⟩
  ·rw[if_neg hT]at hpt
   rw[hpt]at pf ⊢
   have hTd:decide (T=[])=false:=decide_eq_false hT
   refine gN (zSQ h2 (zSQ h3 (zSQ h4 (zSQ h5 (zSQ h7 (zSQ sd (zSQ ya (zSQ vc (zSQ kM (zSQ hBN (zSQ pg (zSQ hBj (zSQ Bu (zSQ Bs (zSQ JI (zSQ da (zSQ hTl (zSQ hTd (zSQ @aC @fB))))))))))))))))))) ?_
   refine⟨by omega,?_⟩
   (refine aa pf ?_;refine gN (zSQ h2 (zSQ h3 (zSQ h4 (zSQ h5 (zSQ h7 (zSQ sd (zSQ ya (zSQ vc (zSQ kM (zSQ hBN (zSQ pg (zSQ hBj (zSQ Bu (zSQ Bs (zSQ JI (zSQ da (zSQ hTl (zSQ hTd (zSQ @aC @fB))))))))))))))))))) ?_)
   unfold nJ
   exact⟨fun hl=>(by rw[if_pos (by simp only[decide_eq_true_eq,decide_eq_false_iff_not]at hl;omega)];rfl),fun hl=>(by rw[if_neg (by simp only[decide_eq_true_eq,decide_eq_false_iff_not]at hl;omega)];rfl)⟩
theorem Ae (x:Bytes):dR x=(x.all ir&&!((aB x).1==[])):=by
 unfold dR
 by_cases h:(aB x).2=0
 ·rw[h];cases x.all ir <;> simp[bne]
 ·have h2:(aB x).1=[]:=by
   unfold aB at h ⊢
   split
   ·rfl
   ·split
    ·rfl
    ·rename_i h1 h2;rw[if_neg h1,if_neg h2]at h;exact absurd rfl h
  rw[h2];cases x.all ir <;> simp
theorem ry {u:bM}{L:List Bytes}(h:u.path=dX→L.all dR=true)(hb:L.all dR=false):lN u L=(iz.none,110):=by
 unfold lN
 rw[if_neg (fun k=>by rw[h k]at hb;cases hb),if_pos hb]
theorem uH {u:bM}{L:List Bytes}(h:L.all dR=true):lN u L=oP ⟨gM,bL u++if u.path=dX then [] else L.flatMap cS⟩:=by
 unfold lN
 by_cases k:u.path=dX
 ·rw[if_pos k,if_pos k,zTc]
 ·rw[if_neg k,if_neg k,if_neg (by rw[h];simp)]
theorem A7 (u:bM)(hk:Fair u):PC Tryz.V 188 [cQ u] (.eW [pk (kO u).1,.int .i64 (kO u).2]):=by
 have pv1:=sH u hk
 have gU:=hk.1
 unfold cQ at pv1 ⊢
 cases hv:bQ u
 ·rw[hv]at pv1
  rw[show kO u=(iz.none,8) from if_pos hv]
  refine aZ 3000 Tryz.func188 rfl Tryz.ntmps188 Tryz.results188 Tryz.call188 (by simp) (by simp[flat,flat.ai,pk,cQ]) (by simp[flat,flat.ai,pk,cQ]) ?_
  refine bC ?_
  (refine aa pv1 ?_;refine se ?_)
  rfl
 obtain⟨T,z,hT,Hk,hL0,hp4⟩:=Ey hv
 rw[IM hv hT Hk]
 rw[hv]at pv1
 have hsf:=yu 47 u.path
 have hpth:u.path=dX→T.dropLast.all dR=true:=by
  intro k
  rw[k]at hT
  obtain rfl:T=[([46,119,101,108,108,45,107,110,111,119,110]:List UInt8),ik]:=by
   have e:aF 47 dX=[[],([46,119,101,108,108,45,107,110,111,119,110]:List UInt8),ik]:=by decide +kernel
   rw[e]at hT
   exact(List.cons.inj hT).2.symm
  decide +kernel
 refine aZ 3000 Tryz.func188 rfl Tryz.ntmps188 Tryz.results188 Tryz.call188 (by simp) (by simp[flat,flat.ai,pk,cQ]) (by simp[flat,flat.ai,pk,cQ]) ?_
 refine bC ?_
 (refine aa pv1 ?_;refine se ?_)
 refine ae (tP u.path 47 (by omega)) ?_
 rintro r b ⟨j,rfl,nU,hj,bc⟩
 rw[hT]at hsf hj ⊢
 generalize (aN 47 u.path).1=c at *
 clear hT
 simp only[List.flatten_cons,zSU,zSW]at hsf
 simp only at nU hj bc
 have e0:T.length+1 - zS8 1=T.length:=by simp
 have e1:List.drop (zS8 1 * 1) (List.take ((T.length+1) * 1) (SV.str c::T.map SV.str))=T.map SV.str:=by
  rw[List.take_of_length_le (by simp)];simp
 have hz:(T.map SV.str)[((T.length:Int) - 1).toNat * 1]? = some (.str z):=by
  rw[show ((T.length:Int) - 1).toNat * 1=T.length - 1 by omega,List.getElem?_map,← List.getLast?_eq_getElem?,Hk]
  rfl
 simp only[List.map_cons,zSW]at hj
 have gw:=(zSR.1 hj).1
 have hjo:=fun X=>ad hj [X]
 have eX:=bc.at (j:=1) rfl
 have dL:=bc.at (j:=0) rfl
 have IG:=fun X=>ad eX [X]
 have hbo0:=fun X=>ad dL [X]
 simp only[zSW,zSZ]at nU
 have hQ0:∀ Y Z,(b.set j Y++[Z])[0]? = b[0]? := fun Y Z=>by
  rw[zS6 (by rw[zS4];omega),zS3 (by omega)]
 have hQ1:∀ Y Z,(b.set j Y++[Z])[1]? = b[1]? := fun Y Z=>by
  rw[zS6 (by rw[zS4];omega),zS3 (by omega)]
 have hQn:∀ Y Z,(b.set j Y++[Z])[b.length]? = some Z:=fun Y Z=>by
  rw[zS1 (by simp)];simp
 have hQs:∀ Y Z W,((b.set j Y++[Z]).set 1 W)[1]? = some W:=fun Y Z W=>zSS (by simp;omega)
 have hzS:(z != [100,105,100,46,106,115,111,110])=(z != ik):=rfl
 have hQl:∀ Y Z,(b.set j Y++[Z]).length=b.length+1:=fun Y Z=>by simp
 have hD0:∀ Y Z V,(b.set j Y++[Z]++[V])[0]? = b[0]? := fun Y Z V=>by
  rw[zS6 (by simp)];exact hQ0 Y Z
 have Br:∀ Y Z V,(b.set j Y++[Z]++[V])[1]? = b[1]? := fun Y Z V=>by
  rw[zS6 (by simp;omega)];exact hQ1 Y Z
 have hDn:∀ Y Z V,(b.set j Y++[Z]++[V])[b.length+1]? = some V:=fun Y Z V=>by
  rw[zS1 (by simp)];simp
 have hDs:∀ Y Z V X,((b.set j Y++[Z]++[V]).set 1 X)[1]? = some X:=fun Y Z V X=>zSS (by simp)
 have pK:T.dropLast.length=T.length - 1:=List.length_dropLast ..
 have e2:((T.length:Int) - 1).toNat=T.dropLast.length:=by omega
 have e3:List.take (T.dropLast.length * 1) (T.map SV.str)=T.dropLast.map SV.str:=by
  rw[Nat.mul_one,pK,List.dropLast_eq_take,List.map_take]
 rw[e2]at hz
 have hdf:T.dropLast.flatten.length≤T.flatten.length:=by
  rw[List.dropLast_eq_take]
  have:=congrArg (fun l=>(List.flatten l).length) (List.take_append_drop (T.length - 1) T)
  simp only[List.flatten_append,zSU]at this
  omega
 have IE:=nH hv
 obtain⟨-,-,-,k4,k5,k6⟩:=cR IE.host
 have hfd:=Cs T.dropLast
 have dB:∀ q:Bytes,q.length≤100000→kU ⟨gM,q⟩:=fun q hq=>⟨show gM.length≤_ by decide,show q.length≤_ by omega⟩
 refine gN (zSQ e0 (zSQ e1 (zSQ e2 (zSQ e3 (zSQ hz (zSQ hj (zSQ hjo (zSQ dL (zSQ eX (zSQ hQ0 (zSQ hQ1 (zSQ hQn (zSQ hQs (zSQ hQl (zSQ hD0 (zSQ Br (zSQ hDn (zSQ hDs (zSQ @aC hzS))))))))))))))))))) ?_
 refine⟨⟨by omega,by omega⟩,fun hq=>⟨fun hf=>⟨⟨by omega,by omega⟩,⟨by omega,by omega⟩,by simp;omega,fun JA=>?_,fun JA=>⟨⟨by omega,by omega⟩,⟨by omega,by omega⟩,fun xG=>?_,fun xG=>?_⟩⟩,fun hf=>?_⟩,fun hq=>?_⟩
 ·rw[if_neg (by rw[hq];simp),if_neg (by rw[hf];simp),if_pos JA];rfl
 ·rw[if_neg (by rw[hq];simp),if_neg (by rw[hf];simp),if_neg (by rw[JA];simp),if_pos (by simp at xG;omega)];rfl
 ·rw[if_neg (by rw[hq];simp),if_neg (by rw[hf];simp),if_neg (by rw[JA];simp),if_neg (by simp at xG;omega)]
  have pn:=Ds u.port (by omega) (by omega)
  have hdc:=cI 19 u.port.natAbs (by omega)
  have hxs:∀ x∈T.dropLast,x.length≤4096:=fun x hx=>by
   have:=mI hx
   omega
  have hLl:T.dropLast.length≤5000:=by omega
  have hfdl:(T.dropLast.flatMap cS).length≤60000:=by omega
  have hE0:=(hD0 (.own (.str c::T.map SV.str) 9 1 (T.length+1) false) (.own (T.map SV.str) 9 1 T.length false) (.own (T.dropLast.map SV.str) 9 1 T.dropLast.length false)).trans dL
  have hE1:=(Br (.own (.str c::T.map SV.str) 9 1 (T.length+1) false) (.own (T.map SV.str) 9 1 T.length false) (.own (T.dropLast.map SV.str) 9 1 T.dropLast.length false)).trans eX
  have hEr:=hDn (.own (.str c::T.map SV.str) 9 1 (T.length+1) false) (.own (T.map SV.str) 9 1 T.length false) (.own (T.dropLast.map SV.str) 9 1 T.dropLast.length false)
  clear hD0 Br hDn hDs hQ0 hQ1 hQn hQs hQl hz e3 e1 hdf hfd
  refine⟨fun hp=>?_,fun hp=>?_⟩
  ·have hp0:¬ u.port=0:=by simpa using hp
   have Gk:u.host++(37::51::65::bW u.port.natAbs)=bL u:=by unfold bL;rw[if_neg hp0];rfl
   (refine aa pn ?_;refine bC ?_)
   rw[Gk]
   have mh:(bL u).length≤300:=by rw[← Gk];simp only[zSU,zSW];omega
   refine⟨by omega,by omega,?_⟩
   refine az (fun σ=>∃ k:Nat,k≤T.dropLast.length∧lk 1 σ.t=some (.p 0 0)∧lk 2 σ.t=some (.p 1 0)∧lk 3 σ.t=some (.int .i64 0)∧lk 5 σ.t=some (.str (bL u++if u.path=dX then [] else(T.dropLast.take k).flatMap cS))∧lk 56 σ.t=some (.o (b.length+1) T.dropLast.length)∧lk 57 σ.t=some (.int .i64 T.dropLast.length)∧lk 58 σ.t=some (.int .i64 k) ∧
    σ.b[0]? = some (.cells [.str u.host,.int .i64 u.port,.str u.path,.str u.query,.str u.fragment,.bool u.aD,.bool u.aP] 35 true)∧σ.b[1]? = some (.cells [.str [],.str []] 123 true)∧σ.b[b.length+1]? = some (.own (T.dropLast.map SV.str) 9 1 T.dropLast.length false)∧(T.dropLast.take k).all dR=true) (fun σ=>T.dropLast.length - fX 58 σ)
    ⟨0,by omega,rfl,rfl,rfl,congrArg (fun x=>some (SV.str x)) (by split <;> simp),rfl,rfl,rfl,hE0,hE1,hEr,rfl⟩ ?_
   generalize b.length=N at *
   generalize T.dropLast=L at *
   rintro⟨t,B⟩ ⟨k,hk,h1,h2,h3,h5,v8,v7,s9,l9,kM,pg,da⟩
   simp only at h1 h2 h3 h5 v8 v7 s9 l9 kM pg
   rw[ao s9]
   have lL:∀ X,(B.set 1 X)[1]? = some X:=fun X=>zSS (zSR.1 kM).1
   by_cases aA:k<L.length
   ·have hx:(L.map SV.str)[k * 1]? = some (.str L[k]):=by simp[aA]
    have od:=hxs L[k] (zS0 aA)
    have NV:=wg (g:=cS) aA
    have fU:dR L[k]=false→L.all dR=false:=fun h=>dC aA h
    have Gl:dR L[k]=true→(L.take (k+1)).all dR=true:=fun h=>bn aA da h
    refine gN (zSQ h1 (zSQ h2 (zSQ h3 (zSQ h5 (zSQ v8 (zSQ v7 (zSQ s9 (zSQ l9 (zSQ kM (zSQ pg (zSQ hx lL))))))))))) ?_
    refine⟨fun _=>⟨⟨by omega,by omega⟩,by simp;omega,?_⟩,fun h=>absurd h (by simp;omega)⟩
    have hd:=Ae L[k]
    have Bj:cS L[k]=58::aV (aB L[k]).1:=rfl
    have pK:=ig L[k]
    have pd:=gF L[k]
    have pe:=nc (aB L[k]).1 (by omega)
    have vV:=iF (aB L[k]).1
    have Gp:=oQ (g:=cS) (L:=L) (k:=k)
    generalize L[k]=x at *
    clear hx
    refine az (fun σ=>∃ i:Nat,i≤x.length∧lk 1 σ.t=some (.p 0 0)∧lk 2 σ.t=some (.p 1 0)∧lk 3 σ.t=some (.int .i64 0)∧lk 5 σ.t=some (.str (bL u++if u.path=dX then [] else(L.take k).flatMap cS))∧lk 56 σ.t=some (.o (N+1) L.length)∧lk 57 σ.t=some (.int .i64 L.length)∧lk 58 σ.t=some (.int .i64 k)∧lk 7 σ.t=some (.str x)∧lk 8 σ.t=some (.int .i64 i) ∧
     σ.b[0]? = some (.cells [.str u.host,.int .i64 u.port,.str u.path,.str u.query,.str u.fragment,.bool u.aD,.bool u.aP] 35 true)∧σ.b[1]? = some (.cells [.str [],.str []] 123 true)∧σ.b[N+1]? = some (.own (L.map SV.str) 9 1 L.length false)∧(x.take i).all ir=true) (fun σ=>x.length - fX 8 σ)
     ⟨0,by omega,h1,h2,h3,h5,v8,v7,s9,rfl,rfl,l9,kM,pg,rfl⟩ ?_
    clear h1 h2 h3 h5 v8 v7 s9 l9 kM pg lL da hE0 hE1 hEr
    rintro⟨t,B⟩ ⟨i,hi,h1,h2,h3,h5,v8,v7,s9,h7,h8,l9,kM,pg,da⟩
    simp only at h1 h2 h3 h5 v8 v7 s9 h7 h8 l9 kM pg
    rw[ao h8]
    have lL:∀ X,(B.set 1 X)[1]? = some X:=fun X=>zSS (zSR.1 kM).1
    by_cases dF:i<x.length
    ·have hg:x.getD i 0=x[i]:=by simp[zS5,dF]
     have Ny:ir x[i]=false→L.all dR=false:=fun h=>fU (by rw[hd,dC dF h];rfl)
     refine gN (zSQ h1 (zSQ h2 (zSQ h3 (zSQ h5 (zSQ v8 (zSQ v7 (zSQ s9 (zSQ l9 (zSQ kM (zSQ pg (zSQ h7 (zSQ h8 (zSQ hg lL))))))))))))) ?_
     refine⟨fun _=>⟨⟨by omega,by omega⟩,?_⟩,fun h=>absurd h (by simp;omega)⟩
     (refine aa (eB x[i]) ?_;refine gN (zSQ h1 (zSQ h2 (zSQ h3 (zSQ h5 (zSQ v8 (zSQ v7 (zSQ s9 (zSQ l9 (zSQ kM (zSQ pg (zSQ h7 (zSQ h8 (zSQ hg lL))))))))))))) ?_)
     have la:((x[i].toNat:Int) != 37)=(x[i] != 37):=by
      have:=dw dF 37 (n:=37) rfl
      show (!_)=(!_)
      rw[← this,hg]
     rw[la]
     have fin:ir x[i]=true→∀ (t':List (Nat × SV)),lk 8 t'=some (.int .i64 ((i:Int)+1))→(∃ m:Nat,m≤x.length∧SV.int IntKind.i64 ((i:Int)+1)=SV.int IntKind.i64 (m:Int)∧(x.take m).all ir=true)∧x.length - fX 8 ⟨t',B⟩<x.length - (i:Int).toNat:=fun hm t' k6 =>
      ⟨⟨i+1,by omega,rfl,bn dF da hm⟩,by rw[ao (σ:=⟨t',B⟩) k6];omega⟩
     refine⟨fun hp=>⟨⟨by omega,by omega⟩,fun h9=>?_,fun h9=>⟨⟨by omega,by omega⟩,fin ?_ _ rfl⟩⟩,fun hp=>⟨⟨by omega,by omega⟩,fin ?_ _ rfl⟩⟩
     ·have hb:=Ny (by unfold ir;simp at hp h9 ⊢;exact⟨h9,hp⟩)
      rw[ry hpth hb];rfl
     ·unfold ir;simp at h9 ⊢;exact .inl h9
     ·unfold ir;simp at hp ⊢;exact .inr hp
    ·have js:i=x.length:=by omega
     subst js
     rw[zSY]at da
     have JI:decide ((x.length:Int)<x.length)=false:=by simp
     generalize aB x=X at *
     obtain⟨w,ew⟩:=X
     simp only at pd pe hd Bj pK vV
     refine gN (zSQ h1 (zSQ h2 (zSQ h3 (zSQ h5 (zSQ v8 (zSQ v7 (zSQ s9 (zSQ l9 (zSQ kM (zSQ pg (zSQ h7 (zSQ h8 (zSQ lL JI))))))))))))) ?_
     (refine aa pd ?_;refine gN (zSQ h1 (zSQ h2 (zSQ h3 (zSQ h5 (zSQ v8 (zSQ v7 (zSQ s9 (zSQ l9 (zSQ kM (zSQ pg (zSQ h7 (zSQ h8 lL)))))))))))) ?_)
     have zR:∀ (S:Bytes) (t':List (Nat × SV)),dR x=true→S=bL u++(if u.path=dX then [] else(L.take (k+1)).flatMap cS)→lk 58 t'=some (.int .i64 ((k:Int)+1)) →
      (∃ m:Nat,m≤L.length∧SV.str S=SV.str (bL u++if u.path=dX then [] else(L.take m).flatMap cS)∧SV.int IntKind.i64 ((k:Int)+1)=SV.int IntKind.i64 (m:Int)∧(L.take m).all dR=true)∧L.length - fX 58 ⟨t',B⟩<L.length - (k:Int).toNat:=fun S t' h hS k6 =>
      ⟨⟨k+1,by omega,by rw[hS],rfl,Gl h⟩,by rw[ao (σ:=⟨t',B⟩) k6];omega⟩
     refine⟨fun g1=>(by rw[ry hpth (fU (by rw[hd,g1];simp))];rfl),fun g1=>?_⟩
     have hgx:dR x=true:=by rw[hd,da,g1];rfl
     refine⟨fun g2=>?_,fun g2=>?_⟩
     ·have bK:¬ u.path=dX:=fun e=>by rw[e]at g2;exact absurd g2 (by decide)
      (refine aa pe ?_;refine gN (zSQ h1 (zSQ h2 (zSQ h3 (zSQ h5 (zSQ v8 (zSQ v7 (zSQ s9 (zSQ l9 (zSQ kM (zSQ pg (zSQ h7 (zSQ h8 lL)))))))))))) ?_)
      have hle:(bL u++if u.path=dX then [] else(L.take k).flatMap cS).length≤100000:=by
       rw[if_neg bK,zSU];omega
      refine⟨by omega,by omega,⟨by omega,by omega⟩,zR _ _ hgx ?_ rfl⟩
      rw[if_neg bK,if_neg bK,NV,Bj,List.append_assoc]
     ·have he:u.path=dX:=by simpa[dX] using g2
      refine⟨⟨by omega,by omega⟩,?_⟩
      have:=zR (bL u++if u.path=dX then [] else(L.take k).flatMap cS) ((58,.int .i64 ((k:Int)+1))::t) hgx (by rw[if_pos he,if_pos he]) rfl
      refine⟨?_,?_⟩
      ·obtain⟨⟨m,q1,q2,q3,q4⟩,-⟩:=this
       exact⟨m,q1,q2,q3,q4⟩
      ·rw[ao (k:=.i64) (n:=(k:Int)+1) rfl];omega
   ·have js:k=L.length:=by omega
    subst js
    rw[zSY]at h5 da
    have JI:decide ((L.length:Int)<L.length)=false:=by simp
    rw[uH da]
    have hle:(bL u++if u.path=dX then [] else L.flatMap cS).length≤100000:=by
     rw[zSU];split
     ·simp;omega
     ·omega
    generalize (bL u++if u.path=dX then [] else L.flatMap cS)=S at *
    have pf:=iw ⟨gM,S⟩ (dB S hle)
    unfold pk at pf
    simp only at pf
    have Lu:=(zSR.1 kM).1
    have Bu:=fun X=>ad kM [X]
    have Bs:∀ X Y,((B++[X]).set 1 Y)[1]? = some Y:=fun X Y=>zSS (by simp;omega)
    refine gN (zSQ h1 (zSQ h2 (zSQ h3 (zSQ h5 (zSQ v8 (zSQ v7 (zSQ s9 (zSQ l9 (zSQ kM (zSQ pg (zSQ lL (zSQ JI (zSQ Bu (zSQ Bs (zSQ @aC @fB))))))))))))))) ?_
    (refine aa pf ?_;refine gN (zSQ h1 (zSQ h2 (zSQ h3 (zSQ h5 (zSQ v8 (zSQ v7 (zSQ s9 (zSQ l9 (zSQ kM (zSQ pg (zSQ lL (zSQ JI (zSQ Bu (zSQ Bs (zSQ @aC @fB))))))))))))))) ?_)
    unfold oP
    exact⟨fun hl=>(by rw[if_pos (by simp only[decide_eq_true_eq,decide_eq_false_iff_not]at hl;omega)];rfl),fun hl=>(by rw[if_neg (by simp only[decide_eq_true_eq,decide_eq_false_iff_not]at hl;omega)];rfl)⟩
  ·have hp0:u.port=0:=by simpa using hp
   have Gk:u.host=bL u:=by unfold bL;rw[if_pos hp0,zTc]
   have mh:(bL u).length≤300:=by rw[← Gk];omega
   refine az (fun σ=>∃ k:Nat,k≤T.dropLast.length∧lk 1 σ.t=some (.p 0 0)∧lk 2 σ.t=some (.p 1 0)∧lk 3 σ.t=some (.int .i64 0)∧lk 5 σ.t=some (.str (bL u++if u.path=dX then [] else(T.dropLast.take k).flatMap cS))∧lk 56 σ.t=some (.o (b.length+1) T.dropLast.length)∧lk 57 σ.t=some (.int .i64 T.dropLast.length)∧lk 58 σ.t=some (.int .i64 k) ∧
    σ.b[0]? = some (.cells [.str u.host,.int .i64 u.port,.str u.path,.str u.query,.str u.fragment,.bool u.aD,.bool u.aP] 35 true)∧σ.b[1]? = some (.cells [.str [],.str []] 123 true)∧σ.b[b.length+1]? = some (.own (T.dropLast.map SV.str) 9 1 T.dropLast.length false)∧(T.dropLast.take k).all dR=true) (fun σ=>T.dropLast.length - fX 58 σ)
    ⟨0,by omega,rfl,rfl,rfl,congrArg (fun x=>some (SV.str x)) (by rw[Gk];split <;> simp),rfl,rfl,rfl,hE0,hE1,hEr,rfl⟩ ?_
   generalize b.length=N at *
   generalize T.dropLast=L at *
   rintro⟨t,B⟩ ⟨k,hk,h1,h2,h3,h5,v8,v7,s9,l9,kM,pg,da⟩
   simp only at h1 h2 h3 h5 v8 v7 s9 l9 kM pg
   rw[ao s9]
   have lL:∀ X,(B.set 1 X)[1]? = some X:=fun X=>zSS (zSR.1 kM).1
   by_cases aA:k<L.length
   ·have hx:(L.map SV.str)[k * 1]? = some (.str L[k]):=by simp[aA]
    have od:=hxs L[k] (zS0 aA)
    have NV:=wg (g:=cS) aA
    have fU:dR L[k]=false→L.all dR=false:=fun h=>dC aA h
    have Gl:dR L[k]=true→(L.take (k+1)).all dR=true:=fun h=>bn aA da h
    refine gN (zSQ h1 (zSQ h2 (zSQ h3 (zSQ h5 (zSQ v8 (zSQ v7 (zSQ s9 (zSQ l9 (zSQ kM (zSQ pg (zSQ hx lL))))))))))) ?_
    refine⟨fun _=>⟨⟨by omega,by omega⟩,by simp;omega,?_⟩,fun h=>absurd h (by simp;omega)⟩
    have hd:=Ae L[k]
    have Bj:cS L[k]=58::aV (aB L[k]).1:=rfl
    have pK:=ig L[k]
    have pd:=gF L[k]
    have pe:=nc (aB L[k]).1 (by omega)
    have vV:=iF (aB L[k]).1
    have Gp:=oQ (g:=cS) (L:=L) (k:=k)
    generalize L[k]=x at *
    clear hx
    refine az (fun σ=>∃ i:Nat,i≤x.length∧lk 1 σ.t=some (.p 0 0)∧lk 2 σ.t=some (.p 1 0)∧lk 3 σ.t=some (.int .i64 0)∧lk 5 σ.t=some (.str (bL u++if u.path=dX then [] else(L.take k).flatMap cS))∧lk 56 σ.t=some (.o (N+1) L.length)∧lk 57 σ.t=some (.int .i64 L.length)∧lk 58 σ.t=some (.int .i64 k)∧lk 7 σ.t=some (.str x)∧lk 8 σ.t=some (.int .i64 i) ∧
     σ.b[0]? = some (.cells [.str u.host,.int .i64 u.port,.str u.path,.str u.query,.str u.fragment,.bool u.aD,.bool u.aP] 35 true)∧σ.b[1]? = some (.cells [.str [],.str []] 123 true)∧σ.b[N+1]? = some (.own (L.map SV.str) 9 1 L.length false)∧(x.take i).all ir=true) (fun σ=>x.length - fX 8 σ)
     ⟨0,by omega,h1,h2,h3,h5,v8,v7,s9,rfl,rfl,l9,kM,pg,rfl⟩ ?_
    clear h1 h2 h3 h5 v8 v7 s9 l9 kM pg lL da hE0 hE1 hEr
    rintro⟨t,B⟩ ⟨i,hi,h1,h2,h3,h5,v8,v7,s9,h7,h8,l9,kM,pg,da⟩
    simp only at h1 h2 h3 h5 v8 v7 s9 h7 h8 l9 kM pg
    rw[ao h8]
    have lL:∀ X,(B.set 1 X)[1]? = some X:=fun X=>zSS (zSR.1 kM).1
    by_cases dF:i<x.length
    ·have hg:x.getD i 0=x[i]:=by simp[zS5,dF]
     have Ny:ir x[i]=false→L.all dR=false:=fun h=>fU (by rw[hd,dC dF h];rfl)
     refine gN (zSQ h1 (zSQ h2 (zSQ h3 (zSQ h5 (zSQ v8 (zSQ v7 (zSQ s9 (zSQ l9 (zSQ kM (zSQ pg (zSQ h7 (zSQ h8 (zSQ hg lL))))))))))))) ?_
     refine⟨fun _=>⟨⟨by omega,by omega⟩,?_⟩,fun h=>absurd h (by simp;omega)⟩
     (refine aa (eB x[i]) ?_;refine gN (zSQ h1 (zSQ h2 (zSQ h3 (zSQ h5 (zSQ v8 (zSQ v7 (zSQ s9 (zSQ l9 (zSQ kM (zSQ pg (zSQ h7 (zSQ h8 (zSQ hg lL))))))))))))) ?_)
     have la:((x[i].toNat:Int) != 37)=(x[i] != 37):=by
      have:=dw dF 37 (n:=37) rfl
      show (!_)=(!_)
      rw[← this,hg]
     rw[la]
     have fin:ir x[i]=true→∀ (t':List (Nat × SV)),lk 8 t'=some (.int .i64 ((i:Int)+1))→(∃ m:Nat,m≤x.length∧SV.int IntKind.i64 ((i:Int)+1)=SV.int IntKind.i64 (m:Int)∧(x.take m).all ir=true)∧x.length - fX 8 ⟨t',B⟩<x.length - (i:Int).toNat:=fun hm t' k6 =>
      ⟨⟨i+1,by omega,rfl,bn dF da hm⟩,by rw[ao (σ:=⟨t',B⟩) k6];omega⟩
     refine⟨fun hp=>⟨⟨by omega,by omega⟩,fun h9=>?_,fun h9=>⟨⟨by omega,by omega⟩,fin ?_ _ rfl⟩⟩,fun hp=>⟨⟨by omega,by omega⟩,fin ?_ _ rfl⟩⟩
     ·have hb:=Ny (by unfold ir;simp at hp h9 ⊢;exact⟨h9,hp⟩)
      rw[ry hpth hb];rfl
     ·unfold ir;simp at h9 ⊢;exact .inl h9
     ·unfold ir;simp at hp ⊢;exact .inr hp
    ·have js:i=x.length:=by omega
     subst js
     rw[zSY]at da
     have JI:decide ((x.length:Int)<x.length)=false:=by simp
     generalize aB x=X at *
     obtain⟨w,ew⟩:=X
     simp only at pd pe hd Bj pK vV
     refine gN (zSQ h1 (zSQ h2 (zSQ h3 (zSQ h5 (zSQ v8 (zSQ v7 (zSQ s9 (zSQ l9 (zSQ kM (zSQ pg (zSQ h7 (zSQ h8 (zSQ lL JI))))))))))))) ?_
     (refine aa pd ?_;refine gN (zSQ h1 (zSQ h2 (zSQ h3 (zSQ h5 (zSQ v8 (zSQ v7 (zSQ s9 (zSQ l9 (zSQ kM (zSQ pg (zSQ h7 (zSQ h8 lL)))))))))))) ?_)
     have zR:∀ (S:Bytes) (t':List (Nat × SV)),dR x=true→S=bL u++(if u.path=dX then [] else(L.take (k+1)).flatMap cS)→lk 58 t'=some (.int .i64 ((k:Int)+1)) →
      (∃ m:Nat,m≤L.length∧SV.str S=SV.str (bL u++if u.path=dX then [] else(L.take m).flatMap cS)∧SV.int IntKind.i64 ((k:Int)+1)=SV.int IntKind.i64 (m:Int)∧(L.take m).all dR=true)∧L.length - fX 58 ⟨t',B⟩<L.length - (k:Int).toNat:=fun S t' h hS k6 =>
      ⟨⟨k+1,by omega,by rw[hS],rfl,Gl h⟩,by rw[ao (σ:=⟨t',B⟩) k6];omega⟩
     refine⟨fun g1=>(by rw[ry hpth (fU (by rw[hd,g1];simp))];rfl),fun g1=>?_⟩
     have hgx:dR x=true:=by rw[hd,da,g1];rfl
     refine⟨fun g2=>?_,fun g2=>?_⟩
     ·have bK:¬ u.path=dX:=fun e=>by rw[e]at g2;exact absurd g2 (by decide)
      (refine aa pe ?_;refine gN (zSQ h1 (zSQ h2 (zSQ h3 (zSQ h5 (zSQ v8 (zSQ v7 (zSQ s9 (zSQ l9 (zSQ kM (zSQ pg (zSQ h7 (zSQ h8 lL)))))))))))) ?_)
      have hle:(bL u++if u.path=dX then [] else(L.take k).flatMap cS).length≤100000:=by
       rw[if_neg bK,zSU];omega
      refine⟨by omega,by omega,⟨by omega,by omega⟩,zR _ _ hgx ?_ rfl⟩
      rw[if_neg bK,if_neg bK,NV,Bj,List.append_assoc]
     ·have he:u.path=dX:=by simpa[dX] using g2
      refine⟨⟨by omega,by omega⟩,?_⟩
      have:=zR (bL u++if u.path=dX then [] else(L.take k).flatMap cS) ((58,.int .i64 ((k:Int)+1))::t) hgx (by rw[if_pos he,if_pos he]) rfl
      refine⟨?_,?_⟩
      ·obtain⟨⟨m,q1,q2,q3,q4⟩,-⟩:=this
       exact⟨m,q1,q2,q3,q4⟩
      ·rw[ao (k:=.i64) (n:=(k:Int)+1) rfl];omega
   ·have js:k=L.length:=by omega
    subst js
    rw[zSY]at h5 da
    have JI:decide ((L.length:Int)<L.length)=false:=by simp
    rw[uH da]
    have hle:(bL u++if u.path=dX then [] else L.flatMap cS).length≤100000:=by
     rw[zSU];split
     ·simp;omega
     ·omega
    generalize (bL u++if u.path=dX then [] else L.flatMap cS)=S at *
    have pf:=iw ⟨gM,S⟩ (dB S hle)
    unfold pk at pf
    simp only at pf
    have Lu:=(zSR.1 kM).1
    have Bu:=fun X=>ad kM [X]
    have Bs:∀ X Y,((B++[X]).set 1 Y)[1]? = some Y:=fun X Y=>zSS (by simp;omega)
    refine gN (zSQ h1 (zSQ h2 (zSQ h3 (zSQ h5 (zSQ v8 (zSQ v7 (zSQ s9 (zSQ l9 (zSQ kM (zSQ pg (zSQ lL (zSQ JI (zSQ Bu (zSQ Bs (zSQ @aC @fB))))))))))))))) ?_
    (refine aa pf ?_;refine gN (zSQ h1 (zSQ h2 (zSQ h3 (zSQ h5 (zSQ v8 (zSQ v7 (zSQ s9 (zSQ l9 (zSQ kM (zSQ pg (zSQ lL (zSQ JI (zSQ Bu (zSQ Bs (zSQ @aC @fB))))))))))))))) ?_)
    unfold oP
    exact⟨fun hl=>(by rw[if_pos (by simp only[decide_eq_true_eq,decide_eq_false_iff_not]at hl;omega)];rfl),fun hl=>(by rw[if_neg (by simp only[decide_eq_true_eq,decide_eq_false_iff_not]at hl;omega)];rfl)⟩
 ·rw[if_neg (by rw[hq];simp),if_pos hf];rfl
 ·rw[if_pos hq];rfl
theorem xB (d:iz)(h:kU d):PC Tryz.V 120 [pk d] (.eW [pk (fW d).1,.int .i64 (fW d).2]):=by
 have pt:=wS d h
 have NX:=HF d
 unfold fW
 generalize gq d=X at pt NX ⊢
 obtain⟨u,e⟩:=X
 simp only at pt NX ⊢
 refine aZ 3000 Tryz.func120 rfl Tryz.ntmps120 Tryz.results120 Tryz.call120 (by simp) (by simp[flat,flat.ai,pk,cQ]) (by simp[flat,flat.ai,pk,cQ]) ?_
 unfold pk
 unfold pk cQ at pt
 refine bC ?_
 (refine aa pt ?_;refine bC ?_)
 refine⟨fun h1=>(by rw[if_pos (by simpa using h1)];rfl),fun h1=>?_⟩
 rw[if_neg (by simpa using h1)]
 have pf:=A7 u (NX (by simpa using h1))
 unfold pk cQ at pf
 (refine aa pf ?_;exact bC zTh)
end Go.Proofs.YtnmlimehgifadaaGreatDoor
namespace Wf
open Go Go.RowKit
structure kT where
 kind:Int
 text:Bytes
 host:Bytes
 port:Int
 deriving DecidableEq
def kT.none:kT:=⟨0,[],[],0⟩
def vP (s:Bytes):kT × Int:=if (ct s).2≠0 then(kT.none,(ct s).2) else(⟨1,dU (ct s).1,(ct s).1.host,0⟩,0)
def vO (s:Bytes):kT × Int:=if (cJ s).2≠0 then(kT.none,(cJ s).2) else(⟨2,eT (cJ s).1,(cJ s).1.host,0⟩,0)
def w9 (s:Bytes):kT × Int:=if (bz s).2≠0 then(kT.none,(bz s).2) else(⟨3,aX (bz s).1,(bz s).1.host,(bz s).1.port⟩,0)
def mK (c:iz × Int):kT × Int:=if c.2≠0 then(kT.none,c.2) else if (bV c.1).2≠0 then(kT.none,(bV c.1).2) else(⟨4,cg c.1,(bV c.1).1.1,(bV c.1).1.2⟩,0)
def xa (s:Bytes):kT × Int:=if (bE s).2≠0 then(kT.none,(bE s).2) else mK (fW (bE s).1)
def F6:Bytes:=[97,99,99,116]
def It:Bytes:=[109,97,105,108,116,111]
def Nv:Bytes:=[100,105,100]
def oH (sch s:Bytes):kT × Int :=
 if sch=F6 then vP s else if sch=It then vO s else if sch=dT then w9 s else if sch=Nv then xa s else(kT.none,60)
def cX (s:Bytes):kT × Int :=
 if 4096<s.length then(kT.none,5)
 else if (aN 58 s).2.2=false then(kT.none,60)
 else oH (lower (aN 58 s).1) s
def mJ (i:kT):Bool:=decide (cX i.text=(i,0))
theorem F8 (c:iz × Int)(h:(mK c).2≠0):(mK c).1=kT.none:=by
 unfold mK at h ⊢
 split
 ·rfl
 rename_i h1
 rw[if_neg h1]at h
 split
 ·rfl
 rename_i h2
 rw[if_neg h2]at h
 exact absurd rfl h
theorem F7 (s:Bytes)(h:(cX s).2≠0):(cX s).1=kT.none:=by
 unfold cX at h ⊢
 split
 ·rfl
 rename_i h1
 rw[if_neg h1]at h
 split
 ·rfl
 rename_i h2
 rw[if_neg h2]at h
 unfold oH at h ⊢
 split
 ·rename_i k;rw[if_pos k]at h
  unfold vP at h ⊢
  split
  ·rfl
  ·rename_i h3;rw[if_neg h3]at h;exact absurd rfl h
 rename_i k;rw[if_neg k]at h;clear k
 split
 ·rename_i k;rw[if_pos k]at h
  unfold vO at h ⊢
  split
  ·rfl
  ·rename_i h3;rw[if_neg h3]at h;exact absurd rfl h
 rename_i k;rw[if_neg k]at h;clear k
 split
 ·rename_i k;rw[if_pos k]at h
  unfold w9 at h ⊢
  split
  ·rfl
  ·rename_i h3;rw[if_neg h3]at h;exact absurd rfl h
 rename_i k;rw[if_neg k]at h;clear k
 split
 ·rename_i k;rw[if_pos k]at h
  unfold xa at h ⊢
  split
  ·rfl
  ·rename_i h3;rw[if_neg h3]at h;exact F8 _ h
 ·rfl
theorem oG {p:Bytes}{r:Bytes}(hp:(58:UInt8) ∉ p)(hl:(p++58::r).length≤4096):cX (p++58::r)=oH (lower p) (p++58::r):=by
 unfold cX
 rw[if_neg (by omega),iQ (fb hp),if_neg (by simp)]
theorem Nt {s:Bytes}{i:kT}(h:cX s=(i,0)):cX i.text=(i,0)∧aK (bt i.host i.port)=((i.host,i.port),0) ∧
 ((∃ a:pZ,i.kind=1∧i.text=dU a∧i.host=a.host∧i.port=0)∨(∃ m:oc,i.kind=2∧i.text=eT m∧i.host=m.host∧i.port=0) ∨
  (∃ u:bM,i.kind=3∧i.text=aX u∧fJ u∧i.host=u.host∧i.port=u.port) ∨
  (∃ (c:iz) (u:bM) (r:Bytes),i.kind=4∧i.text=cg c∧c.method=gM∧c.id=bL u++r∧i.host=u.host∧i.port=u.port)):=by
 have NL:∀ {x:Bytes},ck x=(x,0)→aK (bt x 0)=((x,0),0):=by
  intro x hx
  have s9:(58:UInt8) ∉ x:=fun k=>by
   have:=mN hx _ k
   revert this;decide
  have e:bt x 0=x:=if_pos rfl
  rw[e]
  unfold aK
  rw[gn (fb s9)]
  simp only
  unfold cY
  rw[hx]
  simp
 unfold cX at h
 split at h
 ·simp at h
 split at h
 ·simp at h
 rename_i h1 h2
 unfold oH at h
 split at h
 ·unfold vP at h
  split at h
  ·rename_i k;exact absurd (zTb.inj h).2 k
  rename_i k
  have e:ct s=((ct s).1,0):=by
   have:(ct s).2=0:=by simpa using k
   rw[← this]
  obtain⟨c1,c2,c3⟩:=AA e
  obtain⟨b1,b2⟩:=LV e
  generalize (ct s).1=a at *
  obtain rfl:=(zTb.inj h).1
  refine⟨?_,NL c1.host,.inl ⟨a,rfl,rfl,rfl,rfl⟩⟩
  have ea:dU a=F6++58::(a.user++[64]++a.host):=by simp[dU,pC,F6]
  simp only
  rw[ea,oG (by decide) (by rw[← ea];omega),← ea]
  unfold oH
  rw[if_pos (by decide)]
  unfold vP
  rw[b1]
  simp
 split at h
 ·unfold vO at h
  split at h
  ·rename_i k;exact absurd (zTb.inj h).2 k
  rename_i k
  have e:cJ s=((cJ s).1,0):=by
   have:(cJ s).2=0:=by simpa using k
   rw[← this]
  have c1:=FJ e
  have b1:=KO c1
  generalize (cJ s).1=a at *
  obtain rfl:=(zTb.inj h).1
  refine⟨?_,NL c1.host,.inr (.inl ⟨a,rfl,rfl,rfl,rfl⟩)⟩
  have ea:eT a=It++58::(aH o8 a.loc++[64]++a.host):=by simp[eT,mH,It]
  have hl:(eT a).length≤4096:=by
   have h1:=eO o8 a.loc
   have h2:=qF c1.loc
   have h3:=(lG c1.host).2.1
   simp[eT,mH];omega
  simp only
  rw[ea,oG (by decide) (by rw[← ea];omega),← ea]
  unfold oH
  rw[if_neg (by decide),if_pos (by decide)]
  unfold vO
  rw[b1]
  simp
 split at h
 ·unfold w9 at h
  split at h
  ·rename_i k;exact absurd (zTb.inj h).2 k
  rename_i k
  have e:bz s=((bz s).1,0):=by
   have:(bz s).2=0:=by simpa using k
   rw[← this]
  have c1:=jo e
  generalize (bz s).1=a at *
  obtain rfl:=(zTb.inj h).1
  refine⟨?_,c1.host,.inr (.inr (.inl ⟨a,rfl,rfl,c1,rfl,rfl⟩))⟩
  have ea:aX a=dT++58::([47,47]++bt a.host a.port++bT a++(if a.aP then [35]++a.fragment else [])):=by simp[aX,dT]
  simp only
  rw[ea,oG (by decide) (by rw[← ea];exact c1.len),← ea]
  unfold oH
  rw[if_neg (by decide),if_neg (by decide),if_pos (by decide)]
  unfold w9
  rw[c1.parse]
  simp
 split at h
 ·unfold xa at h
  split at h
  ·rename_i k;exact absurd (zTb.inj h).2 k
  unfold mK at h
  split at h
  ·rename_i k;exact absurd (zTb.inj h).2 k
  rename_i k1 k2
  split at h
  ·rename_i k;exact absurd (zTb.inj h).2 k
  have e:fW (bE s).1=((fW (bE s).1).1,0):=by
   have:(fW (bE s).1).2=0:=by simpa using k2
   rw[← this]
  obtain⟨u,d1,d2,d3,d4,d5,d6,⟨r,d7⟩,d8⟩:=nz e
  generalize (fW (bE s).1).1=c at *
  rw[d5]at h
  obtain rfl:=(zTb.inj h).1
  refine⟨?_,d1.host,.inr (.inr (.inr ⟨c,u,r,rfl,rfl,d8,d7,rfl,rfl⟩))⟩
  have ea:cg c=Nv++58::(c.method++[58]++c.id):=by simp[cg,qX,Nv]
  have hl:=(D6 d6).2.2.1
  simp only
  rw[ea,oG (by decide) (by rw[← ea];omega),← ea]
  unfold oH
  rw[if_neg (by decide),if_neg (by decide),if_neg (by decide),if_pos (by decide)]
  unfold xa
  rw[d6]
  simp only[ne_eq,not_true,if_false]
  unfold mK
  rw[d4]
  simp only[ne_eq,not_true,if_false]
  rw[d5]
  simp
 ·simp at h
end Wf
namespace Go.Proofs.YtnmlimehgifadaaGreatDoor
open Go Vc Go.RowKit Wf
def asv (a:pZ):SV:=.agg [.str a.user,.str a.host]
theorem Ft (a:pZ)(h:a.user.length≤140737488355328∧a.host.length≤140737488355328):PC Tryz.V 62 [asv a] (.str (dU a)):=by
 refine aZ 3000 Tryz.func62 rfl Tryz.ntmps62 Tryz.results62 Tryz.call62 (by simp) (by simp[flat,flat.ai,asv]) (by simp[flat,flat.ai,asv]) ?_
 unfold asv
 refine bC ?_
 refine⟨by omega,by omega,by simp only[zSU,zSW,zSZ];omega,?_⟩
 simp[dU,pC]
theorem H9 (s:Bytes):PC Tryz.V 61 [.str s] (.eW [asv (ct s).1,.int .i64 (ct s).2]):=by
 have pe:=jF (s.take 5) pC (by simp;omega) (by decide)
 rw[show lower pC=pC by decide]at pe
 refine aZ 3000 Tryz.func61 rfl Tryz.ntmps61 Tryz.results61 Tryz.call61 (by simp) (by simp[flat,flat.ai]) (by simp[flat,flat.ai,asv]) ?_
 refine bC ?_
 unfold ct
 refine⟨fun h=>?_,fun h=>⟨fun h2=>⟨⟨by omega,(by simp at h2;omega)⟩,?_⟩,fun h2=>?_⟩⟩
 ·have h:4096<s.length:=(by simp at h;omega)
  rw[if_pos h];rfl
 ·have h:¬ 4096<s.length:=(by simp at h;omega)
  have h2:¬ s.length<5:=(by simp at h2;omega)
  rw[if_neg h]
  (refine aa pe ?_;simp only[cz,↓Xn,↓Xo,↓Xg,↓Xd,↓Xe,↓Xf,Tryz.VΓ,Tryz.Γs,Xp,Xi,Nat.reduceAdd,Nat.reduceSub,Nat.reduceLT,Nat.reduceLeDiff,reduceIte,reduceCtorEq,Nat.reduceEqDiff,implies_true,forall_const,cw,Int.reduceToNat])
  refine⟨fun h3=>?_,fun h3=>⟨⟨by omega,by omega⟩,?_⟩⟩
  ·rw[if_pos (.inr (by simpa using h3))];rfl
  rw[if_neg (by simp only[not_or];exact⟨h2,by simpa using h3⟩)]
  have hS:(s.drop 5).length≤4096:=by simp;omega
  generalize s.drop 5=S at hS ⊢
  have pi:=bH S [64] (by omega) (by decide)
  rw[show (List.contains [64] ·:UInt8→Bool)=(·==64) from by funext c;simp;exact(Bool.beq_eq_decide_eq _ _).symm]at pi
  have gU:=cV (·==64) S
  unfold uY
  (refine aa pi ?_;refine bC ?_)
  refine⟨fun h4=>?_,fun h4=>?_⟩
  ·have h4:=beq_iff_eq.1 h4
   rw[gn (by omega)];rfl
  have h4:pre (·==64) S<S.length:=by
   have:=beq_eq_false_iff_ne.1 h4
   omega
  rw[show aN 64 S=(S.take (pre (·==64) S),S.drop (pre (·==64) S+1),true) from if_pos h4]
  simp only[Bool.true_eq_false,if_false]
  generalize hk:pre (·==64) S=k at *
  have pn:=jd (S.take k) vN (by decide)
  have ph:=BX (S.drop (k+1)) (by simp;omega)
  generalize bI vN (S.take k)=n at pn ⊢
  obtain⟨n,e1⟩:=n
  generalize ck (S.drop (k+1))=hh at ph ⊢
  obtain⟨hh,e2⟩:=hh
  simp only at pn ph
  unfold Ef
  simp only
  refine⟨⟨by omega,by omega⟩,?_⟩
  (refine aa pn ?_;refine bC ?_)
  refine⟨fun h2=>⟨fun h3=>⟨⟨by omega,?_⟩,fun h4=>?_,fun h4=>?_⟩,fun h3=>?_⟩,fun h2=>?_⟩
  ·cases n with
   | nil=>simp at h3
   | cons c r=>simp only[zSW];omega
  ·cases n with
   | nil=>simp at h3
   | cons c r =>
     have h4:c=37:=by
      rw[← UInt8.toNat_inj]
      have:((c.toNat:Int)==37)=true:=h4
      have:=beq_iff_eq.1 this
      have e:(37:UInt8).toNat=37:=rfl
      omega
     rw[if_pos (.inr (.inr (by rw[h4];rfl)))]
     rfl
  ·cases n with
   | nil=>simp at h3
   | cons c r =>
     have h4:c≠37:=by
      rintro rfl
      have:(((37:UInt8).toNat:Int)==37)=false:=h4
      simp at this
     rw[if_neg (by simp only[not_or];exact⟨by simpa using h2,by simp,by simpa using h4⟩)]
     refine⟨⟨by omega,by omega⟩,⟨by omega,by omega⟩,?_⟩
     (refine aa ph ?_;refine bC ?_)
     refine⟨fun h5=>?_,fun h5=>?_⟩
     ·rw[if_pos (by simpa using h5)];rfl
     ·rw[if_neg (by simpa using h5)];rfl
  ·rw[if_pos (.inr (.inl (by simpa using h3)))];rfl
  ·rw[if_pos (.inl (by simpa using h2))];rfl
 ·have h:¬ 4096<s.length:=(by simp at h;omega)
  have h2:s.length<5:=(by simp at h2;omega)
  rw[if_neg h,if_pos (.inl h2)];rfl
def kt (i:kT):SV:=.agg [.int .i64 i.kind,.str i.text,.str i.host,.int .i64 i.port]
theorem id_fits (s:Bytes)(h:(ct s).2=0):(ct s).1.user.length≤140737488355328∧(ct s).1.host.length≤140737488355328:=by
 have h1:=(AA (s:=s) (a:=(ct s).1) (by rw[← h])).2
 unfold dU at h1
 simp at h1
 omega
theorem Nu (s:Bytes)(h:(cJ s).2=0):(cJ s).1.loc.length≤300000∧(cJ s).1.host.length≤140737488355328:=by
 have h1:=FJ (s:=s) (m:=(cJ s).1) (by rw[← h])
 have h2:=qF h1.loc
 have h3:=(lG h1.host).2.1
 exact⟨by omega,by omega⟩
theorem KF (s:Bytes):PC Tryz.V 65 [.str s] (.eW [kt (w9 s).1,.int .i64 (w9 s).2]):=by
 have p1:=lD s
 have p2:=fun h=>fM (bz s).1 (GS (jo (s:=s) (u:=(bz s).1) (by rw[← (show (bz s).2=0 from h)])))
 unfold w9
 unfold cQ at p1 p2
 (refine aZ 3000 Tryz.func65 rfl Tryz.ntmps65 Tryz.results65 Tryz.call65 (by simp) (by simp[flat,flat.ai,kt]) (by simp[flat,flat.ai,kt]) ?_)
 unfold kt
 refine se ?_
 (refine aa p1 ?_;refine se ?_)
 refine⟨fun h=>?_,fun h=>?_⟩
 ·have h:(bz s).2≠0:=by simpa using h
  simp[h,kT.none]
 ·have h:(bz s).2=0:=by simpa using h
  (refine aY (p2 h) ?_;refine se ?_)
  simp only[h]
  exact⟨(aq (by kernel_rfl)),by simp⟩
theorem F4 (s:Bytes):kU (bE s).1:=by
 by_cases h:(bE s).2=0
 ·have h1:=D6 (s:=s) (d:=(bE s).1) (by rw[← h])
  have h2:=xo (bE s).1
  exact⟨by omega,by omega⟩
 ·rw[D7 s h];exact⟨by decide,by decide⟩
theorem F5 {d c:iz}(h:fW d=(c,0)):kU c:=by
 obtain⟨u,h1,h2,h3,h4,h5,h6,h7,h8⟩:=nz h
 have h9:=D6 h6
 have de:=xo c
 exact⟨by omega,by omega⟩
theorem id_auth {d c:iz}(h:fW d=(c,0)):(bV c).2=0:=by
 obtain⟨u,h1,h2,h3,h4,h5,h6,h7,h8⟩:=nz h
 rw[h5]
theorem xA (s:Bytes):PC Tryz.V 66 [.str s] (.eW [kt (xa s).1,.int .i64 (xa s).2]):=by
 have p1:=lF s
 have p2:=xB (bE s).1 (F4 s)
 unfold xa
 unfold pk at p1 p2
 (refine aZ 3000 Tryz.func66 rfl Tryz.ntmps66 Tryz.results66 Tryz.call66 (by simp) (by simp[flat,flat.ai,kt]) (by simp[flat,flat.ai,kt]) ?_)
 unfold kt
 refine se ?_
 (refine aa p1 ?_;refine se ?_)
 refine⟨fun h=>?_,fun h=>?_⟩
 ·have h:(bE s).2≠0:=by simpa using h
  simp[h,kT.none]
 have h:(bE s).2=0:=by simpa using h
 simp only[h,ne_eq,not_true_eq_false,if_false]
 generalize hz:fW (bE s).1=z at p2
 obtain⟨c,e⟩:=z
 simp only at p2
 (refine aa p2 ?_;refine se ?_)
 refine⟨fun h=>?_,fun h=>?_⟩
 ·have h:e≠0:=by simpa using h
  simp[mK,h,kT.none]
 obtain rfl:e=0:=by simpa using h
 have p3:=xC c (F5 hz)
 have p4:=iw c (F5 hz)
 unfold pk at p3 p4
 have ha:=id_auth hz
 rw[ha]at p3
 (refine aa (p3) ?_;refine se ?_)
 (refine aY (p4) ?_;refine se ?_)
 exact⟨(aq (by kernel_rfl)),by simp[mK,ha]⟩
theorem id_eqF (a b:kT):(a.kind==b.kind&&(a.text==b.text&&(a.host==b.host&&a.port==b.port)))=decide (a=b):=by
 obtain⟨a1,a2,a3,a4⟩:=a
 obtain⟨b1,b2,b3,b4⟩:=b
 rw[Bool.eq_iff_iff]
 simp
theorem FB (hp:∀ s,PC Tryz.V 29 [.str s] (.eW [kt (cX s).1,.int .i64 (cX s).2]))(i:kT):PC Tryz.V 191 [kt i] (.bool (mJ i)):=by
 have p1:=hp i.text
 unfold kt at p1
 (refine aZ 3000 Tryz.func191 rfl Tryz.ntmps191 Tryz.results191 Tryz.call191 (by simp) (by simp[flat,flat.ai,kt]) (by simp[flat,flat.ai,kt]) ?_)
 unfold kt
 refine bC ?_
 (refine aa p1 ?_;refine gN @id_eqF ?_)
 unfold mJ
 refine⟨fun h=>?_,fun h=>?_⟩
 ·have h:(cX i.text).2=0:=by simpa using h
  simp[Prod.ext_iff,h]
 ·have h:¬ (cX i.text).2=0:=by simpa using h
  simp[Prod.ext_iff,h]
theorem mF (s:Bytes):PC Tryz.V 29 [.str s] (.eW [kt (cX s).1,.int .i64 (cX s).2]):=by
 (refine aZ 3000 Tryz.func29 rfl Tryz.ntmps29 Tryz.results29 Tryz.call29 (by simp) (by simp[flat,flat.ai,kt]) (by simp[flat,flat.ai,kt]) ?_)
 unfold kt
 refine bC ?_
 refine⟨fun h=>?_,fun h=>?_⟩
 ·have h:4096<s.length:=by simp at h;omega
  simp[cX,h,kT.none]
 have h:s.length≤4096:=by simp at h;omega
 have h0:¬ 4096<s.length:=by omega
 have fj:pre (fun x=>[58].contains x) s=pre (·==58) s:=by congr 1;funext x;simp only[List.contains_cons,List.contains_nil,Bool.or_false]
 (refine aa (bH s [58] (by omega) (by decide)) ?_;refine bC ?_)
 rw[fj]
 have hle:=cV (·==(58:UInt8)) s
 refine⟨fun h1=>?_,fun h1=>⟨⟨by omega,by omega⟩,?_⟩⟩
 ·have h1:pre (·==58) s=s.length:=by simp at h1;omega
  simp[cX,h0,aN,h1,kT.none]
 have h1:¬ pre (·==58) s=s.length:=by simp at h1;omega
 have hid:cX s=oH (lower (s.take (pre (·==58) s))) s:=by
  unfold cX aN
  rw[if_neg h0,if_pos (show pre (·==58) s<s.length by omega)]
  rfl
 rw[hid]
 (refine aa (jE (s.take (pre (·==58) s)) (by simp;omega)) ?_;refine bC ?_)
 generalize lower (s.take (pre (·==58) s))=sch
 clear hid h1 hle fj
 refine⟨fun k1=>?_,fun k1=>⟨fun k2=>?_,fun k2=>⟨fun k3=>?_,fun k3=>⟨fun k4=>?_,fun k4=>?_⟩⟩⟩⟩
 ·rw[show oH sch s=vP s by simp at k1;simp[oH,F6,k1]]
  have p1:=H9 s
  have p2:=fun h=>Ft (ct s).1 (id_fits s h)
  unfold vP
  unfold asv at p1 p2
  (refine aa p1 ?_;refine se ?_)
  refine⟨fun h=>?_,fun h=>?_⟩
  ·have h:(ct s).2≠0:=by simpa using h
   simp[h,kT.none]
  ·have h:(ct s).2=0:=by simpa using h
   (refine aY (p2 h) ?_;refine se ?_)
   simp only[h]
   exact⟨(aq (by kernel_rfl)),by simp⟩
 ·rw[show oH sch s=vO s by simp at k1 k2;simp[oH,F6,It,k2]]
  have p1:=H7 s
  have p2:=fun h=>Fq (cJ s).1 (Nu s h)
  unfold vO
  unfold msv at p1 p2
  (refine aa p1 ?_;refine se ?_)
  refine⟨fun h=>?_,fun h=>?_⟩
  ·have h:(cJ s).2≠0:=by simpa using h
   simp[h,kT.none]
  ·have h:(cJ s).2=0:=by simpa using h
   (refine aY (p2 h) ?_;refine se ?_)
   simp only[h]
   exact⟨(aq (by kernel_rfl)),by simp⟩
 ·rw[show oH sch s=w9 s by simp at k1 k2 k3;simp[oH,F6,It,dT,k3]]
  have p1:=KF s
  unfold kt at p1
  (refine aa p1 ?_;exact se zTh)
  try done
 ·rw[show oH sch s=xa s by simp at k1 k2 k3 k4;simp[oH,F6,It,Nv,dT,k4]]
  have p1:=xA s
  unfold kt at p1
  (refine aa p1 ?_;exact se zTh)
  try done
 ·rw[show oH sch s=(kT.none,60) by simp at k1 k2 k3 k4;simp[oH,F6,It,Nv,dT,k1,k2,k3,k4]]
  rfl
theorem fI.roD {i:Nat}{a b:List av}{L:List Int}(h:fI i a b)(hd:aW a i L):Ro a b:=fun j c e s n hj=>by
 refine h.at hj ?_
 rintro rfl
 obtain⟨x,hx,-⟩:=hd
 rw[hj]at hx
 simp at hx
theorem Rs.cell {b:List av}{x:SV}{L:List Bytes}(h:Rs b x L):Vc.cells x=[x]∧Hj x=false:=by
 rcases h with⟨rfl,-⟩|⟨j,rfl,-⟩ <;> exact⟨rfl,rfl⟩
theorem Rv.cell {b:List av}{x:SV}{L:List Sv}(h:Rv b x L):Vc.cells x=[x]∧Hj x=false:=by
 rcases h with⟨rfl,-⟩|⟨j,rfl,-⟩ <;> exact⟨rfl,rfl⟩
def Eu (lo:Nat)(bs b:List av):Prop:=bs.length≤b.length∧∀ k,k<bs.length→(k<lo∨∀ (c:List SV) (e s n:Nat),bs[k]? ≠ some (.own c e s n true))→b[k]? = bs[k]?
theorem Eu.of {lo:Nat}{bs b:List av}(h:Kp bs b):Eu lo bs b:=⟨h.1,fun k hk _=>h.2 k hk⟩
theorem Eu.set {lo:Nat}{bs b:List av}{q:Nat}{c:List SV}{e s n:Nat}(hq:bs[q]? = some (.own c e s n true)){X:av}(h:Eu lo (bs.set q X) b)(hl:lo≤q)(hX:∀ (c:List SV)(e s n:Nat),X≠.own c e s n true):Eu lo bs b:=⟨by simpa using h.1,fun k hk hn=>by
 have bK:q≠k:=by
  rintro rfl
  rcases hn with hn|hn
  ·omega
  ·exact hn _ _ _ _ hq
 have:=h.2 k (by simpa using hk) (hn.imp (fun x=>x) (fun hn c e s n hx=>by rw[zS3 bK]at hx;exact hn _ _ _ _ hx))
 rwa [zS3 bK]at this⟩
theorem Eu.at {lo:Nat}{bs b:List av}(h:Eu lo bs b){k:Nat}{c:List SV}{T:TypeId}{m:Bool}(hk:bs[k]? = some (.cells c T m)):b[k]? = some (.cells c T m):=(h.2 k (zSR.1 hk).1 (.inr fun c e s n hx=>by rw[hk]at hx;cases hx)).trans hk
theorem Eu.ro {lo:Nat}{bs b:List av}(h:Eu lo bs b):Ro bs b:=fun j c e s n hj=>(h.2 j (zSR.1 hj).1 (.inr fun c e s n hx=>by rw[hj]at hx;simp at hx)).trans hj
theorem sE {lo:Nat}{bs:List av}(s:Bytes)(hs:s.length≤20000){x:SV}{A:List Bytes}(hx:(x=.aj∧A=[])∨∃ q,x=.o q A.length∧lo<q∧bs[q]? = some (.own (A.map SV.str) 9 1 A.length true))(hA:A.length≤16)(JO:∀ a∈A,a.length≤20000){y:SV}{L:List Lk}(hy:(y=.aj∧L=[])∨∃ q,y=.o q L.length∧lo<q∧bs[q]? = some (.own (L.flatMap lc) 132 6 L.length true))(hL:L.length≤16)(hLs:∀ l∈L,LkB l) :
 SC Tryz.V 77 [.agg [.str s,x,.aj,y]] bs (fun r b=>∃ v,r=.agg (tv v)∧Eu lo bs b∧Tr b 4 v):=by
 rcases hx with⟨rfl,rfl⟩|⟨q1,rfl,l1,h1⟩ <;> rcases hy with⟨rfl,rfl⟩|⟨q2,rfl,l2,h2⟩
 ·exact(ic s hs (.inl ⟨rfl,rfl⟩) hA JO (.inl ⟨rfl,rfl⟩) hL hLs).mono fun r b ⟨v,e,hk,hT⟩=>⟨v,e,Eu.of hk,hT⟩
 ·refine mz h2 ((ic s hs (.inl ⟨rfl,rfl⟩) hA JO (.inr ⟨q2,rfl,zSS (zSR.1 h2).1⟩) hL hLs).mono fun r b ⟨v,e,hk,hT⟩=>⟨v,e,Eu.set h2 (Eu.of hk) (by omega) (by simp),hT⟩)
 ·refine mz h1 ((ic s hs (.inr ⟨q1,rfl,zSS (zSR.1 h1).1⟩) hA JO (.inl ⟨rfl,rfl⟩) hL hLs).mono fun r b ⟨v,e,hk,hT⟩=>⟨v,e,Eu.set h1 (Eu.of hk) (by omega) (by simp),hT⟩)
 ·have bK:q1≠q2:=by rintro rfl;rw[h1]at h2;simp at h2
  have h2':=aw h2 bK (.own (A.map SV.str) 9 1 A.length false)
  have kJ:=(zSR.1 h2').1
  refine mz h1 (mz h2' ((ic s hs (.inr ⟨q1,rfl,aw (zSS (zSR.1 h1).1) (fun e=>bK e.symm) _⟩) hA JO (.inr ⟨q2,rfl,zSS kJ⟩) hL hLs).mono fun r b ⟨v,e,hk,hT⟩=>⟨v,e,Eu.set h1 (Eu.set h2' (Eu.of hk) (by omega) (by simp)) (by omega) (by simp),hT⟩))
structure JInv (bs:List av) (i:Nat) (x0:SV) (N:List Bytes) (ab kd:Bytes) (vi ji k:Nat) (σ:St):Prop where
 h0:lk 0 σ.t=some (.p i 0)
 h8:lk 8 σ.t=some (.str ab)
 h9:lk 9 σ.t=some (.str kd)
 de:lk 10 σ.t=some (.p vi 0)
 eJ:lk 11 σ.t=some (.p ji 0)
 Bw:lk 50 σ.t=some x0
 Bv:lk 51 σ.t=some (.int .i64 N.length)
 Eo:lk 52 σ.t=some (.int .i64 k)
 hK:fI i bs σ.b
 hv:σ.b[vi]? = some (.cells [.int .i64 0,.str [],.aj,.aj] 139 true)
 hy:∃ (x y:SV) (A:List Bytes) (K:List Lk) (L:List Int),σ.b[ji]? = some (.cells [.str ab,x,.aj,y] 135 true)∧aW σ.b i L∧A.length+K.length=k∧Le 4096 A∧(∀ l∈K,LkB l) ∧
  ((x=.aj∧A=[])∨∃ q,x=.o q A.length∧ji<q∧σ.b[q]? = some (.own (A.map SV.str) 9 1 A.length true))∧((y=.aj∧K=[])∨∃ q,y=.o q K.length∧ji<q∧σ.b[q]? = some (.own (K.flatMap lc) 132 6 K.length true))
theorem E2 {bs:List av}{i:Nat}{L:List Int}(h:aW bs i L)(id:kT)(hid:id.text.length≤4096){x0:SV}{N:List Bytes}(hx0:Rs bs x0 N)(hN:N.length≤8)(Gt:Le 4096 N):SC Tryz.V 67 [.p i 0,kt id,x0] bs (fun r b=>∃ (s kd:Bytes) (L':List Int),r=.eW [.str s,.str kd]∧s.length≤1048576∧kd.length≤100∧aW b i L'∧fI i bs b):=by
 have dF:i<bs.length:=by obtain⟨x,hi,-⟩:=h;exact(zSR.1 hi).1
 have zD:=hx0.within
 refine bo 3000 Tryz.func67 rfl Tryz.ntmps67 Tryz.results67 Tryz.call67 (by simp) (ah bs.length _ (by simp[within,within.ax,kt,dF,zD])) ?_
 unfold kt
 refine dV ?_
 refine ae (eA (h.app _) 24 (by omega)) ?_
 rintro r b ⟨v,L1,rfl,hv,hD,hk⟩
 have hK:=(fI.of (i:=i) ((Kp.refl bs).app _)).trans hk
 have ml:=hk.at (aI bs _) (by omega)
 have mh:=hK.1
 have w1:(v==1)=true∨(v==1)=false:=by cases v==1 <;> simp
 have w2:(v==2)=true∨(v==2)=false:=by cases v==2 <;> simp
 have w3:(v==3)=true∨(v==3)=false:=by cases v==3 <;> simp
 have w4:(v==4)=true∨(v==4)=false:=by cases v==4 <;> simp
 have w5:(v==5)=true∨(v==5)=false:=by cases v==5 <;> simp
 have wk:(id.kind==4)=true∨(id.kind==4)=false:=by cases id.kind==4 <;> simp
 rcases w2 with w2|w2
 ·have w1':(v==1)=false:=by simp at w2 ⊢;omega
  refine gA (zSQ w1' w2) ?_
  exact⟨_,_,_,rfl,by simp,by simp,hD,hK⟩
 rcases w4 with w4|w4
 ·have w1':(v==1)=false:=by simp at w4 ⊢;omega
  have w3':(v==3)=false:=by simp at w4 ⊢;omega
  refine gA (zSQ w1' (zSQ w2 (zSQ w3' w4))) ?_
  exact⟨_,_,_,rfl,by simp,by simp,hD,hK⟩
 have hN20:∀ a∈N,a.length≤20000:=fun a ha=>by have:=Gt a ha;omega
 rcases wk with wk|wk
 ·rcases w1 with w1|w1
  rotate_left
  rcases w3 with w3|w3
  rotate_left
  rcases w5 with w5|w5
  all_goals
   refine gA (zSQ w1 (zSQ w2 (zSQ w3 (zSQ w4 (zSQ w5 (zSQ (ad ml) (zSQ ml wk))))))) ?_
   refine ae (EU (hD.app _) _ (by first|omega|simp)) ?_
   rintro r b2 ⟨S,L2,hSv,Mi,hSok,Lt,bJ⟩
   have hKv:=(hK.app [.cells [.int .i64 0,.str [],.aj,.aj] 139 true]).trans bJ
   have hv2:=bJ.at (aI b _) (by omega)
   obtain⟨cx,vx⟩:=hx0.cell
   obtain⟨cr,vr⟩:=hSv.cell
   refine gA (zSQ cx (zSQ vx (zSQ cr vr))) ?_
   refine ae (AQ (bs:=b2) _ ?_ (x:=x0) (A:=N) (L:=S) ?_ (by omega) hN20 hSv (by omega) hSok) ?_
   ·first|omega|simp
   ·rcases hx0 with h0|⟨j,h1,h2⟩
    ·exact .inl h0
    ·refine .inr ⟨j,h1,hKv.at h2 ?_⟩
     rintro rfl
     obtain⟨x,hx,-⟩:=h
     rw[h2]at hx
     simp at hx
   rintro r b3 ⟨tr,rfl,eF,hT⟩
   have xL:=hKv.trans (fI.of eF)
   have DJ:=eF.at hv2
   have vY:aW b3 i L2:=Lt.ro (eF.2 i (by have:=hKv.1;omega)) eF.ro
   refine dV ?_
   refine⟨by omega,ae (iB vY [_,_] (n:=2) (m:=100) rfl (by omega) ?_ rfl) ?_⟩
   ·simp
   rintro r b4 ⟨kd,L4,rfl,NR,Cm,mf⟩
   have rM:=xL.trans mf
   have hv4:=mf.at DJ (by omega)
   have hvl:=(zSR.1 hv4).1
   have sv:∀ X,(b4.set b.length X)[b.length]? = some X:=fun X=>zSS hvl
   obtain⟨t1,t2,t3,t4⟩:=hT.nK
   have Gc:(one tr.xk&&one tr.xi)=true:=by rw[t3,t4];rfl
   have hT4:Tr (b4.set b.length (.cells (tv tr) 139 true)) 5 tr:=hT.ro ((mf.roD vY).trans ((Ro.refl b4).cell hv4 _))
   have sW:=iX (by omega) hT4
   have nE:=rM.gT (k:=b.length) (by omega) (.cells (tv tr) 139 true)
   have r8:=Cm.ox hv4 (by omega) (.cells (tv tr) 139 true)
   unfold tv at sW nE r8
   cases hc:(kd==[97,112,112,108,105,99,97,116,105,111,110,47,106,114,100,43,106,115,111,110])
   ·simp only[cz,↓Xn,↓Xo,↓Xg,↓Xd,↓Xe,↓Xf,Tryz.VΓ,Tryz.Γs,Xp,Xi,Nat.reduceAdd,Nat.reduceSub,Nat.reduceLT,Nat.reduceLeDiff,reduceIte,reduceCtorEq,Nat.reduceEqDiff,implies_true,forall_const,cw,eb,beq_self_eq_true,bne_self_eq_false,Int.reduceBEq,Int.reduceBNe,Int.reduceLT,Int.reduceLE,hv4,sv,Gc,hc,tv]
    refine ae sW ?_
    rintro r b6 ⟨s,e,rfl,hs,lJ⟩
    refine dV ?_
    exact⟨_,_,_,rfl,hs,NR,r8.ro (lJ.2 i (by have:=nE.1;omega)) lJ.ro,nE.trans (fI.of lJ)⟩
   ·simp only[cz,↓Xn,↓Xo,↓Xg,↓Xd,↓Xe,↓Xf,Tryz.VΓ,Tryz.Γs,Xp,Xi,Nat.reduceAdd,Nat.reduceSub,Nat.reduceLT,Nat.reduceLeDiff,reduceIte,reduceCtorEq,Nat.reduceEqDiff,implies_true,forall_const,cw,eb,beq_self_eq_true,bne_self_eq_false,Int.reduceBEq,Int.reduceBNe,Int.reduceLT,Int.reduceLE,hv4,sv,Gc,hc,tv]
    refine ae sW ?_
    rintro r b6 ⟨s,e,rfl,hs,lJ⟩
    refine dV ?_
    exact⟨_,_,_,rfl,hs,by simp,r8.ro (lJ.2 i (by have:=nE.1;omega)) lJ.ro,nE.trans (fI.of lJ)⟩
 ·have od:=hx0.Bc
  rcases w1 with w1|w1
  rotate_left
  rcases w3 with w3|w3
  rotate_left
  rcases w5 with w5|w5
  all_goals
   refine gA (zSQ w1 (zSQ w2 (zSQ w3 (zSQ w4 (zSQ w5 (zSQ (ad ml) (zSQ ml (zSQ wk od)))))))) ?_
   refine az (fun σ=>∃ (k:Nat) (ab kd:Bytes),k≤N.length∧ab.length≤4096∧kd.length≤100∧JInv bs i x0 N ab kd b.length (b.length+1) k σ) (fun σ=>N.length - fX 52 σ) ⟨0,_,_,by omega,?_,?_,rfl,rfl,rfl,rfl,rfl,rfl,rfl,rfl,hK.app _,aI b _,⟨.aj,.aj,[],[],_,aU b _ 1,hD.app _,rfl,(fun s hs=>by cases hs),(fun s hs=>by cases hs),.inl ⟨rfl,rfl⟩,.inl ⟨rfl,rfl⟩⟩⟩ ?_
   ·first|omega|simp
   ·simp
   rintro⟨t,b9⟩ ⟨k,ab,kd,hk,hab,NR,h0,h8,h9,de,eJ,Bw,Bv,Eo,Om,hv9,x,y,A,K,L9,hj9,Ls,hAK,lA,lK,hx,hy⟩
   simp only at h0 h8 h9 de eJ Bw Bv Eo Om hv9 hj9 Ls hx hy
   rw[ao Eo]
   by_cases aA:k<N.length
   ·have bg:decide ((k:Int)<N.length)=true:=decide_eq_true (by omega)
    rcases hx0 with⟨rfl,rfl⟩|⟨j,rfl,hj⟩
    ·exact absurd aA (by simp)
    have nR:j≠i:=by
     rintro rfl
     obtain⟨x,hx,-⟩:=h
     rw[hj]at hx
     simp at hx
    have pN:=Om.at hj nR
    have Gi:(N.map SV.str)[k * 1]? = some (.str N[k]):=by simp[aA]
    have hNk:=Gt N[k] (zS0 aA)
    generalize N[k]=nm at Gi hNk
    refine gA (zSQ h0 (zSQ h8 (zSQ h9 (zSQ de (zSQ eJ (zSQ Bw (zSQ Bv (zSQ Eo (zSQ bg (zSQ pN Gi)))))))))) ?_
    refine⟨by omega,by simp;omega,ae (eA Ls 2 (by omega)) ?_⟩
    rintro r b1 ⟨v,L1,rfl,hv,Br,cP⟩
    have Lr:=Om.trans cP
    have hv1:=cP.at hv9 (by omega)
    have jl:=cP.at hj9 (by omega)
    have gw:=(zSR.1 jl).1
    have Oh:=Lr.1
    have eg:∀ (l:List av) X,(b1++l).set (b.length+1) X=b1.set (b.length+1) X++l:=fun l X=>aO gw l X
    have wv:(v==0)=true∨(v==0)=false:=by cases v==0 <;> simp
    have F9:((x=.aj∧A=[])∨∃ q,x=.o q A.length∧b.length+1<q∧b1[q]? = some (.own (A.map SV.str) 9 1 A.length true)):=hx.imp (fun x=>x) (fun⟨q,h1,h2,h3⟩=>⟨q,h1,h2,cP.at h3 (by omega)⟩)
    have hy1:((y=.aj∧K=[])∨∃ q,y=.o q K.length∧b.length+1<q∧b1[q]? = some (.own (K.flatMap lc) 132 6 K.length true)):=hy.imp (fun x=>x) (fun⟨q,h1,h2,h3⟩=>⟨q,h1,h2,cP.at h3 (by omega)⟩)
    clear hx hy
    have Cf:∀ q q':Nat,x=.o q A.length→y=.o q' K.length→q≠q':=by
     rintro q q' rfl rfl rfl
     rcases F9 with⟨h0,-⟩|⟨p,h1,-,h3⟩
     ·cases h0
     rcases hy1 with⟨h0,-⟩|⟨p',h1',-,h3'⟩
     ·cases h0
     cases h1
     cases h1'
     rw[h3]at h3'
     simp at h3'
    rcases wv with wv|wv
    ·have hKB:∀ l∈K++[⟨([115,101,108,102]:List UInt8),[],nm,[]⟩],LkB l:=fun l hl=>by
      rcases zTd.1 hl with hl|hl
      ·exact lK l hl
      ·rw[zTe.1 hl];exact⟨by simp,by simp,by simp only;omega,by simp⟩
     rcases hy1 with⟨rfl,rfl⟩|⟨q,rfl,hq,cE⟩
     ·refine gA (zSQ h0 (zSQ h8 (zSQ h9 (zSQ de (zSQ eJ (zSQ Bw (zSQ Bv (zSQ Eo (zSQ wv (zSQ jl (zSQ (ad jl) eg))))))))))) ?_
      refine⟨by omega,⟨by unfold maxLen;omega,by omega⟩,by omega,⟨k+1,ab,kd,by omega,hab,NR,h0,h8,h9,de,eJ,Bw,Bv,rfl,(Lr.gT (by omega) _).app _,ad (aw hv1 (by omega) _) _,⟨x,.o (b1.length+1) 1,A,[⟨([115,101,108,102]:List UInt8),[],nm,[]⟩],_,cA gw _ _,(Br.ox jl (by omega) _).app _,by simp at hAK ⊢;omega,lA,hKB,F9.imp (fun x=>x) (fun⟨q,h1,h2,h3⟩=>⟨q,h1,h2,ad (aw h3 (by omega) _) _⟩),.inr ⟨b1.length+1,rfl,by omega,?_⟩⟩⟩,?_⟩
      ·rw[aQ (by simp)];rfl
      ·rw[ao (k:=.i64) (n:=(k:Int)+1) rfl];omega
     ·have kf:=(zSR.1 cE).1
      have nA:∀ (l:List av) X,(b1++l).set q X=b1.set q X++l:=fun l X=>aO kf l X
      have Bl:=fun Y=>ad (aw jl (show q≠b.length+1 by omega) Y)
      have fA:∀ (l:List av) Y X,(b1.set q Y++l).set (b.length+1) X=(b1.set q Y).set (b.length+1) X++l:=fun l Y X=>aO (by simpa using gw) l X
      simp only[cz,↓Xn,↓Xo,↓Xg,↓Xd,↓Xe,↓Xf,Tryz.VΓ,Tryz.Γs,Xp,Xi,Nat.reduceAdd,Nat.reduceSub,Nat.reduceLT,Nat.reduceLeDiff,reduceIte,reduceCtorEq,Nat.reduceEqDiff,implies_true,forall_const,cw,eb,beq_self_eq_true,bne_self_eq_false,Int.reduceBEq,Int.reduceBNe,Int.reduceLT,Int.reduceLE,h0,h8,h9,de,eJ,Bw,Bv,Eo,wv,jl,ad jl,eg,ad cE,nA,Bl,fA,zS4]
      refine⟨by omega,⟨by unfold maxLen;omega,by omega⟩,by omega,⟨k+1,ab,kd,by omega,hab,NR,h0,h8,h9,de,eJ,Bw,Bv,rfl,((Lr.gT (by omega) _).gT (by omega) _).app _,ad (aw (aw hv1 (by omega) _) (by omega) _) _,⟨x,.o (b1.length+1) (K.length+1),A,K++[⟨([115,101,108,102]:List UInt8),[],nm,[]⟩],_,cA (by simpa using gw) _ _,((Br.set (by omega) cE _).ox (aw jl (by omega) _) (by omega) _).app _,by simp;omega,lA,hKB,F9.imp (fun x=>x) (fun⟨q',h1,h2,h3⟩=>⟨q',h1,h2,ad (aw (aw h3 (fun e=>Cf q' q h1 rfl e.symm) _) (by omega) _) _⟩),.inr ⟨b1.length+1,by simp,by omega,?_⟩⟩⟩,?_⟩
      ·rw[aQ (by simp),zS9,zSU];rfl
      ·rw[ao (k:=.i64) (n:=(k:Int)+1) rfl];omega
    ·have nF:Le 4096 (A++[nm]):=fun l hl=>by
      rcases zTd.1 hl with hl|hl
      ·exact lA l hl
      ·rw[zTe.1 hl];exact hNk
     rcases F9 with⟨rfl,rfl⟩|⟨q,rfl,hq,cE⟩
     ·refine gA (zSQ h0 (zSQ h8 (zSQ h9 (zSQ de (zSQ eJ (zSQ Bw (zSQ Bv (zSQ Eo (zSQ wv (zSQ jl (zSQ (ad jl) eg))))))))))) ?_
      refine⟨by omega,⟨by unfold maxLen;omega,by omega⟩,by omega,⟨k+1,ab,kd,by omega,hab,NR,h0,h8,h9,de,eJ,Bw,Bv,rfl,(Lr.gT (by omega) _).app _,ad (aw hv1 (by omega) _) _,⟨.o (b1.length+1) 1,y,[nm],K,_,cA gw _ _,(Br.ox jl (by omega) _).app _,by simp at hAK ⊢;omega,nF,lK,.inr ⟨b1.length+1,rfl,by omega,?_⟩,hy1.imp (fun x=>x) (fun⟨q,h1,h2,h3⟩=>⟨q,h1,h2,ad (aw h3 (by omega) _) _⟩)⟩⟩,?_⟩
      ·rw[aQ (by simp)];rfl
      ·rw[ao (k:=.i64) (n:=(k:Int)+1) rfl];omega
     ·have kf:=(zSR.1 cE).1
      have nA:∀ (l:List av) X,(b1++l).set q X=b1.set q X++l:=fun l X=>aO kf l X
      have Bl:=fun Y=>ad (aw jl (show q≠b.length+1 by omega) Y)
      have fA:∀ (l:List av) Y X,(b1.set q Y++l).set (b.length+1) X=(b1.set q Y).set (b.length+1) X++l:=fun l Y X=>aO (by simpa using gw) l X
      simp only[cz,↓Xn,↓Xo,↓Xg,↓Xd,↓Xe,↓Xf,Tryz.VΓ,Tryz.Γs,Xp,Xi,Nat.reduceAdd,Nat.reduceSub,Nat.reduceLT,Nat.reduceLeDiff,reduceIte,reduceCtorEq,Nat.reduceEqDiff,implies_true,forall_const,cw,eb,beq_self_eq_true,bne_self_eq_false,Int.reduceBEq,Int.reduceBNe,Int.reduceLT,Int.reduceLE,h0,h8,h9,de,eJ,Bw,Bv,Eo,wv,jl,ad jl,eg,ad cE,nA,Bl,fA,zS4]
      refine⟨by omega,⟨by unfold maxLen;omega,by omega⟩,by omega,⟨k+1,ab,kd,by omega,hab,NR,h0,h8,h9,de,eJ,Bw,Bv,rfl,((Lr.gT (by omega) _).gT (by omega) _).app _,ad (aw (aw hv1 (by omega) _) (by omega) _) _,⟨.o (b1.length+1) (A.length+1),y,A++[nm],K,_,cA (by simpa using gw) _ _,((Br.set (by omega) cE _).ox (aw jl (by omega) _) (by omega) _).app _,by simp;omega,nF,lK,.inr ⟨b1.length+1,by simp,by omega,?_⟩,hy1.imp (fun x=>x) (fun⟨q',h1,h2,h3⟩=>⟨q',h1,h2,ad (aw (aw h3 (Cf q q' rfl h1) _) (by omega) _) _⟩)⟩⟩,?_⟩
      ·rw[aQ (by simp),List.map_append,zSU];rfl
      ·rw[ao (k:=.i64) (n:=(k:Int)+1) rfl];omega
   ·have bg:decide ((k:Int)<N.length)=false:=decide_eq_false (by omega)
    refine gA (zSQ h0 (zSQ h8 (zSQ h9 (zSQ de (zSQ eJ (zSQ Bw (zSQ Bv (zSQ Eo bg)))))))) ?_
    refine ae (eA Ls 6 (by omega)) ?_
    rintro r b1 ⟨v,L1,rfl,hv,Br,cP⟩
    have hv1:=cP.at hv9 (by omega)
    have jl:=cP.at hj9 (by omega)
    have gw:=(zSR.1 jl).1
    have Lr:=Om.trans cP
    have eg:∀ (l:List av) X,(b1++l).set (b.length+1) X=b1.set (b.length+1) X++l:=fun l X=>aO gw l X
    have wv:(v==0)=true∨(v==0)=false:=by cases v==0 <;> simp
    have F9:((x=.aj∧A=[])∨∃ q,x=.o q A.length∧b.length+1<q∧b1[q]? = some (.own (A.map SV.str) 9 1 A.length true)):=hx.imp (fun x=>x) (fun⟨q,h1,h2,h3⟩=>⟨q,h1,h2,cP.at h3 (by omega)⟩)
    have hy1:((y=.aj∧K=[])∨∃ q,y=.o q K.length∧b.length+1<q∧b1[q]? = some (.own (K.flatMap lc) 132 6 K.length true)):=hy.imp (fun x=>x) (fun⟨q,h1,h2,h3⟩=>⟨q,h1,h2,cP.at h3 (by omega)⟩)
    clear hx hy
    have Cf:∀ q q':Nat,x=.o q A.length→y=.o q' K.length→q≠q':=by
     rintro q q' rfl rfl rfl
     rcases F9 with⟨h0,-⟩|⟨p,h1,-,h3⟩
     ·cases h0
     rcases hy1 with⟨h0,-⟩|⟨p',h1',-,h3'⟩
     ·cases h0
     cases h1
     cases h1'
     rw[h3]at h3'
     simp at h3'
    have nF:Le 4096 (A++[ab]):=fun l hl=>by
     rcases zTd.1 hl with hl|hl
     ·exact lA l hl
     ·rw[zTe.1 hl];exact hab
    have lkx:∀ b:List av,(∃ q,x=.o q A.length∧b[q]? = some (.own (A.map SV.str) 9 1 A.length true))→Vc.cells x=[x]∧Hj x=false:=fun b ⟨q,h,_⟩=>by rw[h];exact⟨rfl,rfl⟩
    obtain⟨cx,vx⟩:Vc.cells x=[x]∧Hj x=false:=by
     rcases F9 with⟨rfl,-⟩|⟨q,rfl,-⟩ <;> exact⟨rfl,rfl⟩
    obtain⟨cy,vy⟩:Vc.cells y=[y]∧Hj y=false:=by
     rcases hy1 with⟨rfl,-⟩|⟨q,rfl,-⟩ <;> exact⟨rfl,rfl⟩
    have hg3:=fun Y l=>cA gw Y l
    have hs5:∀ (l:List av) Y X,(b1.set (b.length+1) Y++l).set (b.length+1) X=b1.set (b.length+1) X++l:=fun l Y X=>by rw[aO (by simpa using gw),List.set_set]
    rcases wv with wv|wv
    ·rcases F9 with⟨rfl,rfl⟩|⟨q,rfl,hq,cE⟩
     ·refine gA (zSQ h0 (zSQ h8 (zSQ h9 (zSQ de (zSQ eJ (zSQ Bw (zSQ Bv (zSQ Eo (zSQ wv (zSQ jl (zSQ (ad jl) (zSQ eg (zSQ hg3 (zSQ hs5 (zSQ cy vy))))))))))))))) ?_
      refine⟨by omega,⟨by unfold maxLen;omega,by omega⟩,?_⟩
      obtain⟨S,sj,sv,sD,sK,sx,sy,e⟩:∃ S,S[b.length+1]? = some (.cells [.str [104,116,116,112,115,58,47,47,120,46,101,120,97,109,112,108,101,47],SV.o (b1.length+1) 1,.aj,y] 135 true)∧S[b.length]? = some (.cells [.int .i64 0,.str [],.aj,.aj] 139 true)∧aW S i L1∧fI i bs S∧((SV.o (b1.length+1) 1=.aj∧([ab]:List Bytes)=[])∨∃ q,SV.o (b1.length+1) 1=.o q (([ab]:List Bytes)).length∧b.length+1<q∧S[q]? = some (.own ((([ab]:List Bytes)).map SV.str) 9 1 (([ab]:List Bytes)).length true))∧((y=.aj∧K=[])∨∃ q,y=.o q K.length∧b.length+1<q∧S[q]? = some (.own (K.flatMap lc) 132 6 K.length true))∧S=_ :=
       ⟨b1.set (b.length+1) (.cells [.str [104,116,116,112,115,58,47,47,120,46,101,120,97,109,112,108,101,47],.o (b1.length+1) 1,.aj,y] 135 true)++[.own [.str ab] 9 1 1 true,.own [.str ab] 9 1 1 true],cA gw _ _,ad (aw hv1 (by omega) _) _,(Br.ox jl (by omega) _).app _,(Lr.gT (by omega) _).app _,.inr ⟨b1.length+1,rfl,by omega,by rw[aQ (by simp)];rfl⟩,hy1.imp (fun x=>x) (fun⟨q,h1,h2,h3⟩=>⟨q,h1,h2,ad (aw h3 (by omega) _) _⟩),rfl⟩
      rw[← e]
      clear e
      refine ae (sE (bs:=S) _ ?_ sx ?_ ?_ sy ?_ lK) ?_
      ·(try simp only[zSW,zSZ]);omega
      ·(try simp only[zSW,zSZ,zSU]);omega
      ·intro a ha;have:=nF a ha;omega
      ·omega
      rintro r b3 ⟨tr,rfl,eF,hT⟩
      have hk3l:=eF.1
      have fD:=sK.1
      have DJ:=eF.at sv
      have hvl:=(zSR.1 DJ).1
      have hsv:∀ X,(b3.set b.length X)[b.length]? = some X:=fun X=>zSS hvl
      obtain⟨t1,t2,t3,t4⟩:=hT.nK
      have Gc:(one tr.xk&&one tr.xi)=true:=by rw[t3,t4];rfl
      have vY:aW b3 i L1:=sD.ro (eF.2 i (by omega) (.inr fun c e s n hx=>by obtain⟨x,hi,-⟩:=sD;rw[hx]at hi;cases hi)) eF.ro
      have hT4:Tr (b3.set b.length (.cells (tv tr) 139 true)) 4 tr:=hT.ro ((Ro.refl b3).cell DJ _)
      have sW:=iX (by omega) hT4
      have r8:=vY.ox DJ (by omega) (.cells (tv tr) 139 true)
      have xL:fI i bs b3:=⟨by have:=sK.1;omega,fun k hk hn=>(eF.2 k (by omega) (.inl (by omega))).trans (sK.2 k hk hn)⟩
      have nE:=xL.gT (k:=b.length) (by omega) (.cells (tv tr) 139 true)
      unfold tv at sW nE r8
      simp only[cz,↓Xn,↓Xo,↓Xg,↓Xd,↓Xe,↓Xf,Tryz.VΓ,Tryz.Γs,Xp,Xi,Nat.reduceAdd,Nat.reduceSub,Nat.reduceLT,Nat.reduceLeDiff,reduceIte,reduceCtorEq,Nat.reduceEqDiff,implies_true,forall_const,cw,eb,beq_self_eq_true,bne_self_eq_false,Int.reduceBEq,Int.reduceBNe,Int.reduceLT,Int.reduceLE,h0,h8,h9,de,eJ,Bw,Bv,Eo,DJ,hsv,Gc,tv]
      refine ae sW ?_
      rintro r b6 ⟨s,e,rfl,hs,lJ⟩
      refine gA (zSQ h0 (zSQ h8 (zSQ h9 (zSQ de (zSQ eJ (zSQ Bw (zSQ Bv Eo))))))) ?_
      exact⟨_,_,_,rfl,hs,NR,r8.ro (lJ.2 i (by simp only[zS4];omega)) lJ.ro,nE.trans (fI.of lJ)⟩
     ·have kf:=(zSR.1 cE).1
      have nA:∀ (l:List av) X,(b1++l).set q X=b1.set q X++l:=fun l X=>aO kf l X
      have Bl:=fun Y=>ad (aw jl (show q≠b.length+1 by omega) Y)
      have fA:∀ (l:List av) Y X,(b1.set q Y++l).set (b.length+1) X=(b1.set q Y).set (b.length+1) X++l:=fun l Y X=>aO (by simpa using gw) l X
      have hs6:∀ (l:List av) Z Y X,((b1.set q Z).set (b.length+1) Y++l).set (b.length+1) X=(b1.set q Z).set (b.length+1) X++l:=fun l Z Y X=>by rw[aO (by simpa using gw),List.set_set]
      have hg6:=fun Z Y l=>cA (l1:=b1.set q Z) (i:=b.length+1) (by simpa using gw) Y l
      simp only[cz,↓Xn,↓Xo,↓Xg,↓Xd,↓Xe,↓Xf,Tryz.VΓ,Tryz.Γs,Xp,Xi,Nat.reduceAdd,Nat.reduceSub,Nat.reduceLT,Nat.reduceLeDiff,reduceIte,reduceCtorEq,Nat.reduceEqDiff,implies_true,forall_const,cw,eb,beq_self_eq_true,bne_self_eq_false,Int.reduceBEq,Int.reduceBNe,Int.reduceLT,Int.reduceLE,h0,h8,h9,de,eJ,Bw,Bv,Eo,wv,jl,ad jl,eg,hg3,hs5,cy,vy,ad cE,nA,Bl,fA,hs6,hg6,zS4]
      refine⟨by omega,⟨by unfold maxLen;omega,by omega⟩,?_⟩
      obtain⟨S,sj,sv,sD,sK,sx,sy,e⟩:∃ S,S[b.length+1]? = some (.cells [.str [104,116,116,112,115,58,47,47,120,46,101,120,97,109,112,108,101,47],SV.o (b1.length+1) (A.length+1),.aj,y] 135 true)∧S[b.length]? = some (.cells [.int .i64 0,.str [],.aj,.aj] 139 true)∧aW S i L1∧fI i bs S∧((SV.o (b1.length+1) (A.length+1)=.aj∧(A++[ab])=[])∨∃ q,SV.o (b1.length+1) (A.length+1)=.o q ((A++[ab])).length∧b.length+1<q∧S[q]? = some (.own (((A++[ab])).map SV.str) 9 1 ((A++[ab])).length true))∧((y=.aj∧K=[])∨∃ q,y=.o q K.length∧b.length+1<q∧S[q]? = some (.own (K.flatMap lc) 132 6 K.length true))∧S=_ :=
       ⟨(b1.set q .gone).set (b.length+1) (.cells [.str [104,116,116,112,115,58,47,47,120,46,101,120,97,109,112,108,101,47],.o (b1.length+1) (A.length+1),.aj,y] 135 true)++[.own [.str ab] 9 1 1 true,.own (A.map SV.str++[.str ab]) 9 1 (A.length+1) true],hg6 _ _ _,ad (aw (aw hv1 (by omega) _) (by omega) _) _,((Br.set (by omega) cE _).ox (aw jl (by omega) _) (by omega) _).app _,((Lr.gT (by omega) _).gT (by omega) _).app _,.inr ⟨b1.length+1,by simp,by omega,by rw[aQ (by simp),List.map_append,zSU];rfl⟩,hy1.imp (fun x=>x) (fun⟨q',h1,h2,h3⟩=>⟨q',h1,h2,ad (aw (aw h3 (Cf q q' rfl h1) _) (by omega) _) _⟩),rfl⟩
      rw[← e]
      clear e
      refine ae (sE (bs:=S) _ ?_ sx ?_ ?_ sy ?_ lK) ?_
      ·(try simp only[zSW,zSZ]);omega
      ·(try simp only[zSW,zSZ,zSU]);omega
      ·intro a ha;have:=nF a ha;omega
      ·omega
      rintro r b3 ⟨tr,rfl,eF,hT⟩
      have hk3l:=eF.1
      have fD:=sK.1
      have DJ:=eF.at sv
      have hvl:=(zSR.1 DJ).1
      have hsv:∀ X,(b3.set b.length X)[b.length]? = some X:=fun X=>zSS hvl
      obtain⟨t1,t2,t3,t4⟩:=hT.nK
      have Gc:(one tr.xk&&one tr.xi)=true:=by rw[t3,t4];rfl
      have vY:aW b3 i L1:=sD.ro (eF.2 i (by omega) (.inr fun c e s n hx=>by obtain⟨x,hi,-⟩:=sD;rw[hx]at hi;cases hi)) eF.ro
      have hT4:Tr (b3.set b.length (.cells (tv tr) 139 true)) 4 tr:=hT.ro ((Ro.refl b3).cell DJ _)
      have sW:=iX (by omega) hT4
      have r8:=vY.ox DJ (by omega) (.cells (tv tr) 139 true)
      have xL:fI i bs b3:=⟨by have:=sK.1;omega,fun k hk hn=>(eF.2 k (by omega) (.inl (by omega))).trans (sK.2 k hk hn)⟩
      have nE:=xL.gT (k:=b.length) (by omega) (.cells (tv tr) 139 true)
      unfold tv at sW nE r8
      simp only[cz,↓Xn,↓Xo,↓Xg,↓Xd,↓Xe,↓Xf,Tryz.VΓ,Tryz.Γs,Xp,Xi,Nat.reduceAdd,Nat.reduceSub,Nat.reduceLT,Nat.reduceLeDiff,reduceIte,reduceCtorEq,Nat.reduceEqDiff,implies_true,forall_const,cw,eb,beq_self_eq_true,bne_self_eq_false,Int.reduceBEq,Int.reduceBNe,Int.reduceLT,Int.reduceLE,h0,h8,h9,de,eJ,Bw,Bv,Eo,DJ,hsv,Gc,tv]
      refine ae sW ?_
      rintro r b6 ⟨s,e,rfl,hs,lJ⟩
      refine gA (zSQ h0 (zSQ h8 (zSQ h9 (zSQ de (zSQ eJ (zSQ Bw (zSQ Bv Eo))))))) ?_
      exact⟨_,_,_,rfl,hs,NR,r8.ro (lJ.2 i (by simp only[zS4];omega)) lJ.ro,nE.trans (fI.of lJ)⟩
    ·refine gA (zSQ h0 (zSQ h8 (zSQ h9 (zSQ de (zSQ eJ (zSQ Bw (zSQ Bv (zSQ Eo (zSQ wv (zSQ jl (zSQ cx (zSQ vx (zSQ cy vy))))))))))))) ?_
     obtain⟨S,sj,sv,sD,sK,sx,sy,e⟩:∃ S,S[b.length+1]? = some (.cells [.str ab,x,.aj,y] 135 true)∧S[b.length]? = some (.cells [.int .i64 0,.str [],.aj,.aj] 139 true)∧aW S i L1∧fI i bs S∧((x=.aj∧A=[])∨∃ q,x=.o q (A).length∧b.length+1<q∧S[q]? = some (.own ((A).map SV.str) 9 1 (A).length true))∧((y=.aj∧K=[])∨∃ q,y=.o q K.length∧b.length+1<q∧S[q]? = some (.own (K.flatMap lc) 132 6 K.length true))∧S=_:=⟨b1,jl,hv1,Br,Lr,F9,hy1,rfl⟩
     rw[← e]
     clear e
     refine ae (sE (bs:=S) _ ?_ sx ?_ ?_ sy ?_ lK) ?_
     ·(try simp only[zSW,zSZ]);omega
     ·(try simp only[zSW,zSZ,zSU]);omega
     ·intro a ha;have:=lA a ha;omega
     ·omega
     rintro r b3 ⟨tr,rfl,eF,hT⟩
     have hk3l:=eF.1
     have fD:=sK.1
     have DJ:=eF.at sv
     have hvl:=(zSR.1 DJ).1
     have hsv:∀ X,(b3.set b.length X)[b.length]? = some X:=fun X=>zSS hvl
     obtain⟨t1,t2,t3,t4⟩:=hT.nK
     have Gc:(one tr.xk&&one tr.xi)=true:=by rw[t3,t4];rfl
     have vY:aW b3 i L1:=sD.ro (eF.2 i (by omega) (.inr fun c e s n hx=>by obtain⟨x,hi,-⟩:=sD;rw[hx]at hi;cases hi)) eF.ro
     have hT4:Tr (b3.set b.length (.cells (tv tr) 139 true)) 4 tr:=hT.ro ((Ro.refl b3).cell DJ _)
     have sW:=iX (by omega) hT4
     have r8:=vY.ox DJ (by omega) (.cells (tv tr) 139 true)
     have xL:fI i bs b3:=⟨by have:=sK.1;omega,fun k hk hn=>(eF.2 k (by omega) (.inl (by omega))).trans (sK.2 k hk hn)⟩
     have nE:=xL.gT (k:=b.length) (by omega) (.cells (tv tr) 139 true)
     unfold tv at sW nE r8
     simp only[cz,↓Xn,↓Xo,↓Xg,↓Xd,↓Xe,↓Xf,Tryz.VΓ,Tryz.Γs,Xp,Xi,Nat.reduceAdd,Nat.reduceSub,Nat.reduceLT,Nat.reduceLeDiff,reduceIte,reduceCtorEq,Nat.reduceEqDiff,implies_true,forall_const,cw,eb,beq_self_eq_true,bne_self_eq_false,Int.reduceBEq,Int.reduceBNe,Int.reduceLT,Int.reduceLE,h0,h8,h9,de,eJ,Bw,Bv,Eo,DJ,hsv,Gc,tv]
     refine ae sW ?_
     rintro r b6 ⟨s,e,rfl,hs,lJ⟩
     refine gA (zSQ h0 (zSQ h8 (zSQ h9 (zSQ de (zSQ eJ (zSQ Bw (zSQ Bv Eo))))))) ?_
     exact⟨_,_,_,rfl,hs,NR,r8.ro (lJ.2 i (by simp only[zS4];omega)) lJ.ro,nE.trans (fI.of lJ)⟩
theorem yZ (c:UInt8):PC Tryz.V 226 [.int .u8 c.toNat] (.bool (dS c)):=by
 refine aZ 3000 Tryz.func226 rfl Tryz.ntmps226 Tryz.results226 Tryz.call226 (by simp) (by simp[flat,flat.ai]) (by simp[flat,flat.ai]) ?_
 refine se ?_
 have e1:((c.toNat:Int)==32)=(c==32):=by
  have:=dz (p:=fun c=>decide (((c.toNat:Int)==32)=(c==32))) (by decide +kernel) c
  exact of_decide_eq_true this
 have e2:((c.toNat:Int)==9)=(c==9):=by
  have:=dz (p:=fun c=>decide (((c.toNat:Int)==9)=(c==9))) (by decide +kernel) c
  exact of_decide_eq_true this
 rw[e1,e2]
 unfold dS
 refine⟨fun h=>by rw[h];simp,fun h=>by rw[h];simp⟩
theorem BH (r:Bytes)(c:UInt8):((r++[c]).reverse.dropWhile dS).reverse=if dS c then(r.reverse.dropWhile dS).reverse else r++[c]:=by
 rw[List.reverse_append,List.reverse_singleton,List.singleton_append,List.dropWhile_cons]
 split
 ·rfl
 ·simp
theorem DA (s:Bytes)(hs:s.length≤9223372036854775807):PC Tryz.V 176 [.str s] (.str (trimB s)):=by
 refine aZ 3000 Tryz.func176 rfl Tryz.ntmps176 Tryz.results176 Tryz.call176 (by simp) (by simp[flat,flat.ai]) (by simp[flat,flat.ai]) ?_
 refine se ?_
 refine az (fun σ=>∃ r:Bytes,r.length≤s.length∧r.dropWhile dS=s.dropWhile dS∧lk 0 σ.t=some (.str r)) (fun σ=>match lk 0 σ.t with|some (.str r)=>r.length|_=>0) ⟨s,Nat.le_refl _,rfl,rfl⟩ ?_
 rintro⟨t,b⟩ ⟨r,hr,he,g0⟩
 simp only at g0
 cases r with
 | nil =>
   refine gK g0 ?_
   refine⟨fun h=>absurd h (by decide),fun _=>?_⟩
   refine az (fun σ=>∃ r:Bytes,r.length≤s.length∧(r.reverse.dropWhile dS).reverse=trimB s∧lk 0 σ.t=some (.str r)) (fun σ=>match lk 0 σ.t with|some (.str r)=>r.length|_=>0) ⟨[],by simp,by unfold trimB;rw[← he];rfl,g0⟩ ?_
   rintro⟨t,b⟩ ⟨r,hr,he,g0⟩
   simp only at g0
   rcases List.eq_nil_or_concat r with rfl|⟨r,c,rfl⟩
   ·refine gK g0 ?_
    refine⟨fun h=>absurd h (by decide),fun _=>?_⟩
    rw[← he]
    rfl
   ·simp only[List.concat_eq_append]at hr he g0
    have pb:=yZ c
    have e1:decide ((0:Int)<((r++[c]).length:Int))=true:=decide_eq_true (by rw[zSU];simp only[zSW];omega)
    have e3:(((r++[c]).length:Int) - 1).toNat=r.length:=by simp
    have e2:(r++[c]).getD r.length 0=c:=by simp[zS5]
    have e4:(r++[c]).take r.length=r:=by simp
    have hr1:(r++[c]).length=r.length+1:=by simp
    have ht:=BH r c
    refine gK (zSQ g0 (zSQ e1 (zSQ e3 e2))) ?_
    refine⟨⟨by omega,by omega⟩,⟨by omega,by omega⟩,?_⟩
    (refine aa (pb) ?_;refine gK (zSQ g0 (zSQ e3 e4)) ?_)
    refine⟨fun h=>⟨⟨by omega,by omega⟩,⟨by omega,by omega⟩,⟨r,by omega,by rw[← he,ht,if_pos h],rfl⟩,by omega⟩,fun h=>?_⟩
    rw[← he,ht,if_neg (by rw[h];simp)]
 | cons c r =>
   have e1:decide ((0:Int)<((r.length+1:Nat):Int))=true:=decide_eq_true (by omega)
   have e2:(c::r).getD (zS8 0) 0=c:=rfl
   have pb:=yZ c
   simp only[zSW]at hr
   refine gK (zSQ g0 (zSQ e1 e2)) ?_
   refine⟨by omega,?_⟩
   (refine aa (pb) ?_;refine gK g0 ?_)
   refine⟨fun h=>⟨by omega,⟨r,by omega,by rw[← he,List.dropWhile_cons,if_pos h],rfl⟩,by simp⟩,fun h=>?_⟩
   refine az (fun σ=>∃ r:Bytes,r.length≤s.length∧(r.reverse.dropWhile dS).reverse=trimB s∧lk 0 σ.t=some (.str r)) (fun σ=>match lk 0 σ.t with|some (.str r)=>r.length|_=>0) ⟨c::r,by simp;omega,by unfold trimB;rw[← he,List.dropWhile_cons,if_neg (by rw[h];simp)],g0⟩ ?_
   rintro⟨t,b⟩ ⟨r,hr,he,g0⟩
   simp only at g0
   rcases List.eq_nil_or_concat r with rfl|⟨r,c,rfl⟩
   ·refine gK g0 ?_
    refine⟨fun h=>absurd h (by decide),fun _=>?_⟩
    rw[← he]
    rfl
   ·simp only[List.concat_eq_append]at hr he g0
    have pb:=yZ c
    have e1:decide ((0:Int)<((r++[c]).length:Int))=true:=decide_eq_true (by rw[zSU];simp only[zSW];omega)
    have e3:(((r++[c]).length:Int) - 1).toNat=r.length:=by simp
    have e2:(r++[c]).getD r.length 0=c:=by simp[zS5]
    have e4:(r++[c]).take r.length=r:=by simp
    have hr1:(r++[c]).length=r.length+1:=by simp
    have ht:=BH r c
    refine gK (zSQ g0 (zSQ e1 (zSQ e3 e2))) ?_
    refine⟨⟨by omega,by omega⟩,⟨by omega,by omega⟩,?_⟩
    (refine aa (pb) ?_;refine gK (zSQ g0 (zSQ e3 e4)) ?_)
    refine⟨fun h=>⟨⟨by omega,by omega⟩,⟨by omega,by omega⟩,⟨r,by omega,by rw[← he,ht,if_pos h],rfl⟩,by omega⟩,fun h=>?_⟩
    rw[← he,ht,if_neg (by rw[h];simp)]
def FM (o:Option Nat):SV:=match o with
 | some n=>.eW [.int .u64 n,.bool true]
 | none=>.eW [.int .u64 0,.bool false]
theorem Nl (o:Option Nat):flat (FM o)=true:=by cases o <;> simp[FM,flat,flat.ai]
theorem sc1_at' (L:List Bytes)(k:Nat)(h:k<L.length):(L.map SV.str)[k * 1]? = some (.str L[k]):=by simp[h]
theorem yY (s:Bytes)(hs:s.length≤1000000):PC Tryz.V 179 [.str s] (FM (oY s)):=by
 have xG:=jn 44 s
 have p1:=Jq s 44 (by omega)
 generalize hC:(aN 44 s).1=C at p1 xG
 have hF:trimB C=trimB (aN 44 s).1:=by rw[hC]
 have p2:=DA C (by omega)
 have hFl:(trimB C).length≤C.length:=by
  unfold trimB
  rw[List.length_reverse]
  refine Nat.le_trans (List.Sublist.length_le (List.dropWhile_sublist _)) ?_
  rw[List.length_reverse]
  exact List.Sublist.length_le (List.dropWhile_sublist _)
 have hb:oY s=if (aF 44 s).all (fun p=>trimB p==trimB C)&&bZ (trimB C) then some (if (bh isDigit 10 4611686018427387904 (trimB C)).2=0 then(bh isDigit 10 4611686018427387904 (trimB C)).1 else 4611686018427387904) else none:=by unfold oY;rw[hF]
 rw[hb]
 generalize trimB C=F at p2 hFl
 have p3:=y7 F (by omega)
 have p4:=FC F 4611686018427387904 (by omega) (by omega)
 have tw:=iA 44 s
 have bK:=rm 44 s
 have s1:=fun bs=>ET (bs:=bs) s [44] (aF 44 s) (yv 44 _ s (Lib.count_one 44 s).symm) (by omega) (by simp)
 have Mc:=ib 44 s
 have iU:=List.count_le_length (a:=(44:UInt8)) (l:=s)
 generalize aF 44 s=L at tw bK s1 Mc
 refine aZ 3000 Tryz.func179 rfl Tryz.ntmps179 Tryz.results179 Tryz.call179 (by simp) (by simp[flat,flat.ai]) (Nl _) ?_
 refine se ?_
 (refine aa (p1) ?_;refine se ?_)
 (refine aa (p2) ?_;refine se ?_)
 refine ae (s1 _) ?_
 rintro r b ⟨rfl,rfl⟩
 refine se ?_
 refine az (fun σ=>∃ k:Nat,k≤L.length∧lk 4 σ.t=some (.str F)∧lk 20 σ.t=some (.o 0 L.length)∧lk 21 σ.t=some (.int .i64 L.length)∧lk 22 σ.t=some (.int .i64 k)∧σ.b=[.own (L.map SV.str) 9 1 L.length true]∧∀ p∈L.take k,trimB p=F∧bZ F=true) (fun σ=>L.length - fX 22 σ) ⟨0,by omega,rfl,rfl,rfl,rfl,rfl,by simp⟩ ?_
 rintro⟨t,b⟩ ⟨k,hk,g4,g20,g21,g22,rL,da⟩
 simp only at g4 g20 g21 g22 rL
 subst rL
 rw[ao g22]
 by_cases aA:k<L.length
 ·have e1:decide ((k:Int)<L.length)=true:=decide_eq_true (by omega)
  have hu:=sc1_at' L k aA
  have ht:=zSX aA
  have oL:=zS0 aA
  have od:=tw _ oL
  generalize L[k]=x at hu ht oL od
  have p5:=DA x (by omega)
  simp only[cz,↓Xn,↓Xo,↓Xg,↓Xd,↓Xe,↓Xf,Tryz.VΓ,Tryz.Γs,Xp,Xi,Nat.reduceAdd,Nat.reduceSub,Nat.reduceLT,Nat.reduceLeDiff,reduceIte,reduceCtorEq,Nat.reduceEqDiff,implies_true,forall_const,cw,g4,g20,g21,g22,beq_self_eq_true,bne_self_eq_false,Int.reduceBEq,Int.reduceBNe,Int.reduceLT,Int.reduceLE,nO,e1,hu,Int.toNat_natCast,List.length_map]
  refine⟨⟨by omega,by omega⟩,by omega,?_⟩
  (refine aa (p5) ?_;refine gB (zSQ g4 (zSQ g20 (zSQ g21 g22))) ?_)
  refine⟨fun q1=>?_,fun q1=>?_⟩
  ·have q1:trimB x=F:=by simpa using q1
   (refine aa (p3) ?_;refine gB (zSQ g4 (zSQ g20 (zSQ g21 g22))) ?_)
   refine⟨fun q2=>?_,fun q2=>⟨⟨by omega,by omega⟩,⟨k+1,by omega,rfl,?_⟩,?_⟩⟩
   ·have q2:bZ F=false:=by simpa using q2
    rw[q2,zTf]
    rfl
   ·intro y hy
    rw[ht]at hy
    rcases zTd.1 hy with hy|hy
    ·exact da y hy
    ·rw[zTe.1 hy];exact⟨q1,by simpa using q2⟩
   ·rw[ao (k:=.i64) (n:=(k:Int)+1) rfl];omega
  ·have q1:(trimB x==F)=false:=by simpa using q1
   rw[show (L.all fun p=>trimB p==F)=false by rw[List.all_eq_false];exact⟨x,oL,by rw[q1];simp⟩]
   rfl
 ·have js:k=L.length:=by omega
  subst js
  rw[zSY]at da
  have e1:decide ((L.length:Int)<L.length)=false:=by simp
  refine gB (zSQ g4 (zSQ g20 (zSQ g21 (zSQ g22 e1)))) ?_
  (refine aa (p4) ?_;refine gB (zSQ g4 (zSQ g20 (zSQ g21 g22))) ?_)
  have h1:(L.all fun p=>trimB p==F)=true:=by rw[zTg];exact fun p hp=>by rw[(da p hp).1];simp
  have h2:bZ F=true:=by
   obtain⟨y,hy⟩:=List.exists_mem_of_ne_nil L bK
   exact(da y hy).2
  rw[h1,h2]
  simp only[Bool.and_self,if_true]
  refine⟨fun q=>?_,fun q=>?_⟩
  ·rw[if_neg (by simpa using q)]
   rfl
  ·rw[if_pos (by simpa using q)]
   rfl
def H0 (st:Int)(c1:Bool)(v1:Bytes)(c2:Bool)(v2 rest:Bytes)(most:Int):Bytes × Int :=
 if most<0 then([],4)
 else if (100≤st∧st≤199)∨st=204∨st=304 then([],0)
 else if c1=true then(if c2=true∨lower v1≠Er then([],190) else chunked rest most)
 else if c2=true then(match oY v2 with
  | none=>([],190)
  | some n=>if most<n then([],142) else if rest.length<n then([],191) else(rest.take n,0))
 else if most<rest.length then([],142) else(rest,0)
theorem GW (st:Int)(fs:List (Bytes × Bytes))(rest:Bytes)(most:Int):jq st fs rest most=H0 st (decide (0<((bP fs xx).length:Int))) (Lib.join (bP fs xx) [44,32]) (decide (0<((bP fs yd).length:Int))) (Lib.join (bP fs yd) [44,32]) rest most:=by
 unfold jq H0
 generalize bP fs xx=A
 generalize bP fs yd=B
 have h:∀ (x:Bytes) (l:List Bytes),decide (0<((x::l).length:Int))=true:=fun x l=>decide_eq_true (by simp)
 have h0:decide (0<(([]:List Bytes).length:Int))=false:=rfl
 cases A <;> cases B <;> simp only[h,h0,ne_eq,not_true,if_false,reduceCtorEq,not_false_eq_true,if_true,Bool.false_eq_true,true_or,false_or]
 all_goals rfl
theorem tO {bs:List av}{j:Nat}{fs:List (Bytes × Bytes)}{m:Bool}(hj:bs[j]? = some (.own (fs.flatMap fc) 100 2 fs.length m))(hn:fs.length≤1000000)(hl:∀ f∈fs,f.1.length≤9223372036854775807)(a st:Int)(rest:Bytes)(most:Int)(hr:rest.length≤4000000)(x7:-9223372036854775808≤most)(hm2:most≤9223372036854775807)
 (hte:(Lib.join (bP fs xx) [44,32]).length≤1000000) (iU:(Lib.join (bP fs yd) [44,32]).length≤1000000) :
 SC Tryz.V 109 [.agg [.int .i64 a,.int .i64 st,.o j fs.length],.str rest,.int .i64 most] bs (fun r b=>r=.eW [.str (jq st fs rest most).1,.int .i64 (jq st fs rest most).2]∧Kp bs b):=by
 have gw:j<bs.length:=(zSR.1 hj).1
 have gm:=fun X=>ad hj [X]
 have g1:=fun X=>db (by simp[flat,flat.ai]) (wL (bs:=bs++[X]) (gm X) hn hl xx (by decide) a st _ rfl hte _ rfl)
 have g2:=fun X=>db (by simp[flat,flat.ai]) (wL (bs:=bs++[X]) (gm X) hn hl yd (by decide) a st _ rfl iU _ rfl)
 have p1:=xR (Lib.join (bP fs xx) [44,32]) (by omega)
 have p2:PC Tryz.V 178 [.str rest,.int .i64 most] (.eW [.str (chunked rest most).1,.int .i64 (chunked rest most).2]) :=
  ⟨Tryz.call178,by simp[flat,flat.ai],by simp[flat,flat.ai],fun w _=>(Ed rest most w hr x7 hm2).mono fun _ _ ⟨h,k⟩=>⟨by rw[h];simp[ak,a8],k⟩⟩
 have p3:=yY (Lib.join (bP fs yd) [44,32]) iU
 rw[GW]
 generalize decide (0<((bP fs xx).length:Int))=c1 at g1
 generalize decide (0<((bP fs yd).length:Int))=c2 at g2
 generalize Lib.join (bP fs xx) [44,32]=v1 at g1 p1
 generalize Lib.join (bP fs yd) [44,32]=v2 at g2 p3
 refine bo 3000 Tryz.func109 rfl Tryz.ntmps109 Tryz.results109 Tryz.call109 (by simp) (ah bs.length _ (by simp[within,within.ax,gw])) ?_
 unfold xx at g1
 unfold yd at g2
 refine mc ?_
 refine⟨fun q=>⟨?_,(Kp.refl _).app _⟩,fun q=>?_⟩
 ·unfold H0;rw[if_pos (of_decide_eq_true q)]
 have q:=of_decide_eq_false q
 refine ae (g1 _) ?_
 rintro r b ⟨rfl,rfl⟩
 refine mc ?_
 refine ae (g2 _) ?_
 rintro r b ⟨rfl,rfl⟩
 have hK:=(Kp.refl bs).app [.cells [.int .i64 a,.int .i64 st,.o j fs.length] 48 true]
 by_cases zP:(100≤st∧st≤199)∨st=204∨st=304
 ·have e:H0 st c1 v1 c2 v2 rest most=([],0):=by unfold H0;rw[if_neg q,if_pos zP]
  rw[e]
  cases h1:decide (100≤st) <;> cases h2:decide (st≤199) <;> cases h3:(st==204) <;> cases h4:(st==304)
  all_goals first
  | (exfalso;simp only[decide_eq_false_iff_not,decide_eq_true_eq,beq_eq_false_iff_ne,beq_iff_eq,ne_eq]at h1 h2 h3 h4;omega)
  | (refine gB (zSQ h1 (zSQ h2 (zSQ h3 h4))) ?_;exact hK)
 ·have h3:(st==204)=false:=by rw[beq_eq_false_iff_ne];omega
  have h4:(st==304)=false:=by rw[beq_eq_false_iff_ne];omega
  have er:H0 st c1 v1 c2 v2 rest most=if c1=true then(if c2=true∨lower v1≠Er then([],190) else chunked rest most)
   else if c2=true then(match oY v2 with
    | none=>([],190)
    | some n=>if most<n then([],142) else if rest.length<n then([],191) else(rest.take n,0))
   else if most<rest.length then([],142) else(rest,0):=by unfold H0;rw[if_neg q,if_neg zP]
  rw[er]
  cases c1 <;> cases c2
  ·rw[if_neg (by decide),if_neg (by decide)]
   cases h1:decide (100≤st) <;> cases h2:decide (st≤199)
   all_goals first
   | (exfalso;simp only[decide_eq_true_eq]at h1 h2;omega)
   | (refine gB (zSQ h1 (zSQ h2 (zSQ h3 h4))) ?_;exact⟨fun h=>⟨by rw[if_pos (of_decide_eq_true h)],hK⟩,fun h=>⟨by rw[if_neg (of_decide_eq_false h)],hK⟩⟩)
  ·rw[if_neg (by decide),if_pos rfl]
   have w1:IntKind.u64.wrap most=most:=by simp[IntKind.wrap,IntKind.bits,IntKind.signed];omega
   have w2:IntKind.u64.wrap (rest.length:Int)=rest.length:=by simp[IntKind.wrap,IntKind.bits,IntKind.signed];omega
   cases hb:oY v2 with
   | none =>
     rw[hb]at p3
     unfold FM at p3
     cases h1:decide (100≤st) <;> cases h2:decide (st≤199)
     all_goals first
     | (exfalso;simp only[decide_eq_true_eq]at h1 h2;omega)
     | (refine gB (zSQ h1 (zSQ h2 (zSQ h3 h4))) ?_;refine aa p3 ?_;refine gB (zSQ h1 (zSQ h2 (zSQ h3 h4))) ?_;exact hK)
   | some n =>
     rw[hb]at p3
     unfold FM at p3
     cases h1:decide (100≤st) <;> cases h2:decide (st≤199)
     all_goals first
     | (exfalso;simp only[decide_eq_true_eq]at h1 h2;omega)
     | (refine gB (zSQ h1 (zSQ h2 (zSQ h3 h4))) ?_;refine aa p3 ?_;refine gB (zSQ h1 (zSQ h2 (zSQ h3 (zSQ h4 (zSQ w1 w2))))) ?_;exact⟨fun h=>⟨by rw[if_pos (of_decide_eq_true h)],hK⟩,fun h=>⟨fun k=>⟨by rw[if_neg (of_decide_eq_false h),if_pos (by have:=of_decide_eq_true k;omega)],hK⟩,fun k=>⟨⟨by omega,by have:=of_decide_eq_false k;omega⟩,by rw[if_neg (of_decide_eq_false h),if_neg (by have:=of_decide_eq_false k;omega)],hK⟩⟩⟩)
  ·rw[if_pos rfl]
   cases h1:decide (100≤st) <;> cases h2:decide (st≤199)
   all_goals first
   | (exfalso;simp only[decide_eq_true_eq]at h1 h2;omega)
   | (refine gB (zSQ h1 (zSQ h2 (zSQ h3 h4))) ?_;refine aa p1 ?_;refine gB (zSQ h1 (zSQ h2 (zSQ h3 h4))) ?_;refine⟨fun h=>⟨by rw[if_pos (Or.inr (by simpa[Er] using h))],hK⟩,fun h=>?_⟩;rw[if_neg (by simpa[Er] using h)];refine aa p2 ?_;refine gB (zSQ h1 (zSQ h2 (zSQ h3 h4))) ?_;exact hK)
  ·rw[if_pos rfl,if_pos (Or.inl rfl)]
   cases h1:decide (100≤st) <;> cases h2:decide (st≤199)
   all_goals first
   | (exfalso;simp only[decide_eq_true_eq]at h1 h2;omega)
   | (refine gB (zSQ h1 (zSQ h2 (zSQ h3 h4))) ?_;exact hK)
theorem KH (c:UInt8):PC Tryz.V 225 [.int .u8 c.toNat] (.bool (vj c)):=by
 refine aZ 3000 Tryz.func225 rfl Tryz.ntmps225 Tryz.results225 Tryz.call225 (by simp) (by simp[flat,flat.ai]) (by simp[flat,flat.ai]) ?_
 refine bC ?_
 (refine aa (Jo c) ?_;refine bC ?_)
 refine⟨fun h=>?_,fun h=>by unfold vj;rw[h];rfl⟩
 (refine aa (Jn c [33,35,36,37,38,39,42,43,45,46,94,95,96,124,126]) ?_;refine bC ?_)
 unfold vj;rw[h];rfl
theorem Nd (l p:Bytes)(hl:l.length<4294967281):PC Tryz.V 169 [.str l,.str p] (.int .i64 (Lib.index l p)) :=
 ⟨Tryz.call169,by simp[flat,flat.ai],by simp[flat,flat.ai],fun w ⟨m,hm⟩=>(Tryz.strings_Index ⟨List.toArray l⟩ ⟨List.toArray p⟩ m w hl hm).mono fun _ _ ⟨h,k⟩=>⟨h,cD k.symm⟩⟩
theorem Dy (s:Bytes)(m:Nat)(hs:s.length≤9223372036854775807)(hm:m≤4611686018427387904):PC Tryz.V 223 [.str s,.int .u64 m] (.eW [.int .u64 (aS m s).1,.int .i64 (aS m s).2]) :=
 ⟨Tryz.call223,by simp[flat,flat.ai],by simp[flat,flat.ai],fun w _=>(jQ s m w hs hm).mono fun _ _ ⟨h,k⟩=>⟨h,cD k⟩⟩
theorem Kz (c:UInt8):(decide ((c.toNat:Int)<32)=true∧((c.toNat:Int) != 9)=true∨((c.toNat:Int)==127)=true)↔fN c=false:=by
 have:=dz (p:=fun c=>decide ((decide ((c.toNat:Int)<32)&&((c.toNat:Int) != 9)||((c.toNat:Int)==127))=!fN c)) (by decide +kernel) c
 have:=of_decide_eq_true this
 cases h1:decide ((c.toNat:Int)<32) <;> cases h2:((c.toNat:Int) != 9) <;> cases h3:((c.toNat:Int)==127) <;> cases h4:fN c <;> rw[h1,h2,h3,h4]at this <;> simp at this ⊢
theorem gD {s:Bytes}{q:Nat}(h:q<s.length):s.getD q 0=s[q]:=by simp[zS5,h]
theorem G0 {p:UInt8→Bool}{s:Bytes}{q:Nat}(h:q<s.length)(h1:(s.take q).all p=true)(h2:p s[q]=true):(s.take (q+1)).all p=true:=by
 rw[zSX h,List.all_append,h1]
 simp[h2]
theorem dC {p:UInt8→Bool}{s:Bytes}{q:Nat}(h:q<s.length)(h2:p s[q]=false):s.all p=false:=by
 rw[List.all_eq_false]
 exact⟨_,zS0 h,by rw[h2];simp⟩
theorem ua (s:Bytes)(hs:s.length≤9223372036854775807):PC Tryz.V 174 [.str s] (.bool (mV s)):=by
 refine aZ 3000 Tryz.func174 rfl Tryz.ntmps174 Tryz.results174 Tryz.call174 (by simp) (by simp[flat,flat.ai]) (by simp[flat,flat.ai]) ?_
 refine se ?_
 refine az (fun σ=>∃ q:Nat,q≤s.length∧lk 0 σ.t=some (.str s)∧lk 6 σ.t=some (.int .i64 s.length)∧lk 7 σ.t=some (.int .i64 q)∧(s.take q).all fN=true) (fun σ=>s.length - fX 7 σ) ⟨0,by omega,rfl,rfl,rfl,by simp⟩ ?_
 rintro⟨t,b⟩ ⟨q,hq,h0,h6,h7,da⟩
 simp only at h0 h6 h7
 rw[ao h7]
 by_cases aA:q<s.length
 ·have bg:decide ((q:Int)<s.length)=true:=decide_eq_true (by omega)
  have hg:=gD aA
  have hp:=Kz s[q]
  have ht:=fun h=>G0 (p:=fN) aA da h
  have hn:=fun h=>dC (p:=fN) aA h
  generalize s[q]=c at hg hp ht hn
  have kL:fN c=true→∃ q':Nat,q'≤s.length∧(q:Int)+1=q'∧(s.take q').all fN=true:=fun h=>⟨q+1,by omega,rfl,ht h⟩
  cases d1:decide ((c.toNat:Int)<32) <;> cases d2:((c.toNat:Int) != 9) <;> cases d3:((c.toNat:Int)==127)
  all_goals
   rw[d1,d2,d3]at hp
   simp only[Bool.false_eq_true,and_self,and_false,false_and,or_false,or_true,true_iff,false_iff,Bool.not_eq_false]at hp
   refine gK (zSQ h0 (zSQ h6 (zSQ h7 (zSQ bg (zSQ hg (zSQ Int.toNat_natCast (zSQ d1 (zSQ d2 d3)))))))) ?_
  all_goals first
  | (refine⟨⟨by omega,by omega⟩,?_⟩;unfold mV;rw[hn hp];done)
  | (refine⟨⟨by omega,by omega⟩,⟨by omega,by omega⟩,⟨q+1,by omega,rfl,ht hp⟩,?_⟩;rw[ao (k:=.i64) (n:=(q:Int)+1) rfl];omega)
 ·have js:q=s.length:=by omega
  subst js
  have bg:decide ((s.length:Int)<s.length)=false:=by simp
  rw[zSY]at da
  refine gN (zSQ h0 (zSQ h6 (zSQ h7 bg))) ?_
  unfold mV;rw[da]
theorem FD (s:Bytes)(hs:s.length≤9223372036854775807):PC Tryz.V 173 [.str s] (.bool (zj s)):=by
 refine aZ 3000 Tryz.func173 rfl Tryz.ntmps173 Tryz.results173 Tryz.call173 (by simp) (by simp[flat,flat.ai]) (by simp[flat,flat.ai]) ?_
 refine se ?_
 refine az (fun σ=>∃ q:Nat,q≤s.length∧lk 0 σ.t=some (.str s)∧lk 5 σ.t=some (.int .i64 s.length)∧lk 6 σ.t=some (.int .i64 q)∧(s.take q).all vj=true) (fun σ=>s.length - fX 6 σ) ⟨0,by omega,rfl,rfl,rfl,by simp⟩ ?_
 rintro⟨t,b⟩ ⟨q,hq,h0,h6,h7,da⟩
 simp only at h0 h6 h7
 rw[ao h7]
 by_cases aA:q<s.length
 ·have bg:decide ((q:Int)<s.length)=true:=decide_eq_true (by omega)
  have hg:=gD aA
  have ht:=fun h=>G0 (p:=vj) aA da h
  have hn:=fun h=>dC (p:=vj) aA h
  generalize s[q]=c at hg ht hn
  have p1:=KH c
  refine gK (zSQ h0 (zSQ h6 (zSQ h7 (zSQ bg (zSQ hg Int.toNat_natCast))))) ?_
  refine⟨⟨by omega,by omega⟩,?_⟩
  (refine aa (p1) ?_;refine gK (zSQ h0 (zSQ h6 (zSQ h7 (zSQ bg hg)))) ?_)
  refine⟨fun h=>?_,fun h=>⟨⟨by omega,by omega⟩,⟨q+1,by omega,rfl,ht (by simpa using h)⟩,?_⟩⟩
  ·unfold zj;rw[hn (by simpa using h),zTf]
  ·rw[ao (k:=.i64) (n:=(q:Int)+1) rfl];omega
 ·have js:q=s.length:=by omega
  subst js
  have bg:decide ((s.length:Int)<s.length)=false:=by simp
  rw[zSY]at da
  refine gN (zSQ h0 (zSQ h6 (zSQ h7 bg))) ?_
  unfold zj;rw[da,Bool.and_true]
  cases s <;> rfl
theorem rT {bs:List av}{i:Nat}{r:Bytes}{mo:Bool}(hi:bs[i]? = some (.cells [.str r,.bool mo] 212 true))(hr:r.length<4294967281) :
 SC Tryz.V 171 [.p i 0] bs (fun x b=>x=.str (Lib.cut r [13,10]).1∧b=bs.set i (.cells [.str (Lib.cut r [13,10]).2.1,.bool (Lib.cut r [13,10]).2.2] 212 true)):=by
 have dF:i<bs.length:=(zSR.1 hi).1
 have p1:=p_CutS r [13,10] hr
 have s1:∀ X,(bs.set i X)[i]? = some X:=fun X=>by simp[dF]
 refine bo 3000 Tryz.func171 rfl Tryz.ntmps171 Tryz.results171 Tryz.call171 (by simp) (ah bs.length _ (by simp[within,within.ax,dF])) ?_
 refine gC hi ?_
 (refine aa (p1) ?_;refine gC (zSQ hi s1) ?_)
 rw[List.set_set]
def Kg (o:Option (Int × Int)):SV:=match o with
 | some (m,n)=>.eW [.agg [.int .i64 m,.int .i64 n,.aj],.bool true]
 | none=>.eW [.agg [.int .i64 0,.int .i64 0,.aj],.bool false]
theorem st_flat (o:Option (Int × Int)):flat (Kg o)=true:=by
 cases o with
 | none=>simp[Kg,flat,flat.ai]
 | some p=>simp[Kg,flat,flat.ai]
theorem A9 (s:Bytes)(hs:s.length≤4000000):PC Tryz.V 170 [.str s] (Kg (qh s)):=by
 have p1:=mG s hU
 have ht:Lib.hasPrefix s hU=true→Lib.trimPrefix s hU=s.drop 7:=fun h=>by unfold Lib.trimPrefix;rw[if_pos h];rfl
 refine aZ 3000 Tryz.func170 rfl Tryz.ntmps170 Tryz.results170 Tryz.call170 (by simp) (by simp[flat,flat.ai]) (st_flat _) ?_
 unfold hU at p1
 refine se ?_
 have hq:qh s=(if Lib.hasPrefix s hU=false∨(Lib.trimPrefix s hU).length<6 then none
  else if ((Lib.trimPrefix s hU).getD 0 0 != 48&&(Lib.trimPrefix s hU).getD 0 0 != 49)||(Lib.trimPrefix s hU).getD 1 0 != 32||(Lib.trimPrefix s hU).getD 5 0 != 32||!mV ((Lib.trimPrefix s hU).drop 6) then none
  else if (aS 599 (((Lib.trimPrefix s hU).drop 2).take 3)).2≠0∨(aS 599 (((Lib.trimPrefix s hU).drop 2).take 3)).1<100 then none
  else some (((Lib.trimPrefix s hU).getD 0 0).toNat - 48,(aS 599 (((Lib.trimPrefix s hU).drop 2).take 3)).1):Option (Int × Int)):=by
  unfold qh
  cases hp:Lib.hasPrefix s hU with
  | false=>rw[if_pos (Or.inl rfl),if_pos (Or.inl rfl)]
  | true=>rw[ht hp]
 rw[hq]
 have htl:=tD s hU
 unfold hU at htl ⊢
 generalize Lib.hasPrefix s [72,84,84,80,47,49,46]=c0 at p1 ⊢
 generalize Lib.trimPrefix s [72,84,84,80,47,49,46]=r at p1 htl ⊢
 have p2:=ua (r.drop 6) (by simp;omega)
 have p3:PC Tryz.V 223 [.str ((r.drop 2).take 3),.int .u64 599] _:=Dy ((r.drop 2).take 3) 599 (by simp;omega) (by omega)
 cases c0
 ·(refine aa (p1) ?_;refine se ?_)
  rfl
 by_cases h6:r.length<6
 ·rw[if_pos (Or.inr h6)]
  have h6':decide ((r.length:Int)<6)=true:=decide_eq_true (by omega)
  (refine aa (p1) ?_;refine gK h6' ?_)
  rfl
 have h6':decide ((r.length:Int)<6)=false:=decide_eq_false (by omega)
 rw[if_neg (by simp[h6])]
 have e:∀ (c:UInt8) (n:Int) (d:UInt8),n=d.toNat→((c.toNat:Int) != n)=(c != d):=by
  rintro c n d rfl
  rw[Bool.eq_iff_iff]
  simp only[bne_iff_ne,ne_eq]
  exact not_congr ⟨fun h=>UInt8.toNat_inj.1 (by exact_mod_cast h),fun h=>by rw[h]⟩
 generalize JE:r.getD 0 0=r0
 generalize hr1:r.getD 1 0=r1
 generalize hr5:r.getD 5 0=r5
 have i0:zS8 0=0:=rfl
 have i1:zS8 1=1:=rfl
 have i5:zS8 5=5:=rfl
 have i6:zS8 6=6:=rfl
 have e0:=e r0 48 48 rfl
 have e0':=e r0 49 49 rfl
 have e1:=e r1 32 32 rfl
 have e5:=e r5 32 32 rfl
 generalize mV (r.drop 6)=vb at p2 ⊢
 have hns:=kE 599 ((r.drop 2).take 3)
 generalize aS 599 ((r.drop 2).take 3)=ns at p3 hns ⊢
 cases d0:(r0 != 48) <;> cases d0':(r0 != 49) <;> cases d1:(r1 != 32) <;> cases d5:(r5 != 32)
 all_goals
  (refine aa (p1) ?_;refine gK (zSQ h6' (zSQ JE (zSQ hr1 (zSQ hr5 (zSQ i0 (zSQ i1 (zSQ i5 (zSQ i6 (zSQ e0 (zSQ e0' (zSQ e1 (zSQ e5 (zSQ d0 (zSQ d0' (zSQ d1 d5))))))))))))))) ?_)
 all_goals repeat refine⟨by omega,?_⟩
 all_goals try (simp only[Bool.or_true,Bool.true_or,Bool.and_true,if_true];rfl)
 all_goals
  have hr:r0=48∨r0=49:=by
   simp only[bne_eq_false_iff_eq,bne_iff_ne,ne_eq]at d0 d0'
   first|exact .inl d0|exact .inr d0'
  have w:IntKind.u8.wrap ((r0.toNat:Int) - 48)=(r0.toNat:Int) - 48:=by rcases hr with h|h <;> rw[h] <;> rfl
  have i2:zS8 2=2:=rfl
  cases vb
  ·(refine aa (p2) ?_;refine se ?_)
   rfl
  ·(refine aa (p2) ?_;refine gK (zSQ i2 i5) ?_)
   refine⟨by omega,?_⟩
   rw[show (r.drop 2).take 3=(r.take 5).drop 2 by rw[List.drop_take]]at p3
   have w2:IntKind.i64.wrap ((r0.toNat:Int) - 48)=(r0.toNat:Int) - 48:=by rcases hr with h|h <;> rw[h] <;> rfl
   have w3:IntKind.i64.wrap (ns.1:Int)=ns.1:=by simp[IntKind.wrap,IntKind.bits,IntKind.signed];omega
   (refine aa (p3) ?_;refine gK (zSQ i0 (zSQ JE (zSQ w (zSQ h6' (zSQ w2 w3))))) ?_)
   simp only[Bool.or_self,Bool.false_eq_true,if_false]
   refine⟨fun g1=>⟨fun g2=>?_,fun g2=>⟨by omega,?_⟩⟩,fun g1=>?_⟩
   ·rw[if_pos (Or.inr (by have:=of_decide_eq_true g2;omega))];rfl
   ·have g1:ns.2=0:=by simpa using g1
    rw[if_neg (by have:=of_decide_eq_false g2;rintro(h|h) <;> omega)];rfl
   ·rw[if_pos (Or.inl (by simpa using g1))];rfl
theorem tY (c:UInt8):PC Tryz.V 216 [.int .u8 c.toNat] (.bool (vj c)):=by
 refine aZ 3000 Tryz.func216 rfl Tryz.ntmps216 Tryz.results216 Tryz.call216 (by simp) (by simp[flat,flat.ai]) (by simp[flat,flat.ai]) ?_
 refine bC ?_
 (refine aa (jf c) ?_;refine bC ?_)
 refine⟨fun h=>?_,fun h=>?_⟩
 ·(refine aa (gR c) ?_;refine bC ?_)
  refine⟨fun h2=>?_,fun h2=>?_⟩
  ·(refine aa (kC c [33,35,36,37,38,39,42,43,45,46,94,95,96,124,126] (by simp)) ?_;refine bC ?_)
   unfold vj;rw[h,h2];rfl
  ·unfold vj;rw[h,h2];rfl
 ·unfold vj;rw[h];rfl
theorem sL (c:UInt8):PC Tryz.V 218 [.int .u8 c.toNat] (.bool (dS c)):=by
 have k:=dz (p:=fun c=>decide (dS c=((c.toNat:Int)==32||(c.toNat:Int)==9))) (by decide +kernel) c
 rw[of_decide_eq_true k]
 refine aZ 3000 Tryz.func218 rfl Tryz.ntmps218 Tryz.results218 Tryz.call218 (by simp) (by simp[flat,flat.ai]) (by simp[flat,flat.ai]) ?_
 cases h1:((c.toNat:Int)==32) <;> cases h2:((c.toNat:Int)==9) <;> exact gK (zSQ h1 (zSQ h2 (zSQ Bool.or_true (zSQ Bool.or_false (zSQ Bool.true_or Bool.false_or))))) zTh
theorem o6 (c:UInt8):PC Tryz.V 217 [.int .u8 c.toNat] (.bool (fN c)):=by
 have k:=dz (p:=fun c=>decide (fN c=((c.toNat:Int)==9||(decide ((32:Int)≤(c.toNat:Int))&&!((c.toNat:Int)==127))))) (by decide +kernel) c
 rw[of_decide_eq_true k]
 refine aZ 3000 Tryz.func217 rfl Tryz.ntmps217 Tryz.results217 Tryz.call217 (by simp) (by simp[flat,flat.ai]) (by simp[flat,flat.ai]) ?_
 have e:((c.toNat:Int) != 127)=!((c.toNat:Int)==127):=rfl
 cases h1:((c.toNat:Int)==9) <;> cases h2:decide ((32:Int)≤(c.toNat:Int)) <;> cases h3:((c.toNat:Int)==127) <;> rw[h3]at e <;> simp only[cz,↓Xn,↓Xo,↓Xg,↓Xd,↓Xe,↓Xf,Tryz.VΓ,Tryz.Γs,Xp,Xi,Nat.reduceAdd,Nat.reduceSub,Nat.reduceLT,Nat.reduceLeDiff,reduceIte,reduceCtorEq,Nat.reduceEqDiff,implies_true,forall_const,cw,beq_self_eq_true,bne_self_eq_false,Int.reduceBEq,Int.reduceBNe,Int.reduceLT,Int.reduceLE,h1,h2,e,Bool.or_true,Bool.or_false,Bool.true_or,Bool.false_or,Bool.and_true,zTf,Bool.true_and,Bool.false_and,Bool.not_true,Bool.not_false]
def jz (p:UInt8→Bool)(s:Bytes)(a b:Nat):Prop:=a≤b∧b≤s.length∧(∀ i,a≤i→i<b→p (s.getD i 0)=true)∧(b<s.length→p (s.getD b 0)=false)
theorem jz.of {p:UInt8→Bool}{s:Bytes}{a b:Nat}(h:(decide (a≤b∧b≤s.length)&&(List.range (b - a)).all (fun i=>p (s.getD (a+i) 0))&&(decide (s.length≤b)||!p (s.getD b 0)))=true):jz p s a b:=by
 simp only[Bool.and_eq_true,decide_eq_true_eq,zTg,List.mem_range,Bool.or_eq_true,Bool.not_eq_true']at h
 obtain⟨⟨⟨h1,h2⟩,h3⟩,h4⟩:=h
 refine⟨h1,h2,fun i h5 h6=>?_,fun h5=>h4.resolve_left (by omega)⟩
 have:=h3 (i - a) (by omega)
 rwa [show a+(i - a)=i by omega]at this
theorem fO {s:Bytes}{a b:Nat}(h:jz dS s a b)(hs:s.length≤4294967281):PC Tryz.V 198 [.str s,.int .i64 a] (.int .i64 b):=by
 obtain⟨hab,hb,bp,kL⟩:=h
 refine aZ 3000 Tryz.func198 rfl Tryz.ntmps198 Tryz.results198 Tryz.call198 (by simp) (by simp[flat,flat.ai]) (by simp[flat,flat.ai]) ?_
 refine bC ?_
 refine az (fun σ=>∃ k:Nat,a≤k∧k≤b∧lk 0 σ.t=some (.str s)∧lk 1 σ.t=some (.int .i64 k)) (fun σ=>b - fX 1 σ) ⟨a,by omega,by omega,rfl,rfl⟩ ?_
 rintro⟨t,b'⟩ ⟨k,hk,kg,h0,h1⟩
 simp only at h0 h1
 rw[ao h1]
 by_cases aA:k<s.length
 ·have hd:decide ((k:Int)<s.length)=true:=decide_eq_true (by omega)
  refine gK (zSQ h0 (zSQ h1 hd)) ?_
  refine⟨by omega,?_⟩
  by_cases e:k=b
  ·subst e
   (refine aa (sL (s.getD k 0)) ?_;exact gN (zSQ h0 (zSQ h1 (kL aA))) zTh)
  ·(refine aa (sL (s.getD k 0)) ?_;refine gN (zSQ h0 (zSQ h1 (bp k hk (by omega)))) ?_)
   exact⟨by omega,⟨k+1,by omega,by omega,rfl⟩,by rw[ao (k:=.i64) (n:=(k:Int)+1) rfl];omega⟩
 ·have hd:decide ((k:Int)<s.length)=false:=decide_eq_false (by omega)
  obtain rfl:k=b:=by omega
  exact gK (zSQ h0 (zSQ h1 hd)) zTh
theorem FA {s:Bytes}{a b:Nat}(h:jz vj s a b)(aA:a<b)(hs:s.length≤4294967281):PC Tryz.V 276 [.str s,.int .i64 a] (.eW [.str ((s.take b).drop a),.int .i64 b,.bool true]):=by
 obtain⟨hab,hb,bp,kL⟩:=h
 refine aZ 3000 Tryz.func276 rfl Tryz.ntmps276 Tryz.results276 Tryz.call276 (by simp) (by simp[flat,flat.ai]) (by simp[flat,flat.ai]) ?_
 refine bC ?_
 refine az (fun σ=>∃ k:Nat,a≤k∧k≤b∧lk 0 σ.t=some (.str s)∧lk 1 σ.t=some (.int .i64 a)∧lk 7 σ.t=some (.int .i64 k)) (fun σ=>b - fX 7 σ) ⟨a,by omega,by omega,rfl,rfl,rfl⟩ ?_
 rintro⟨t,b'⟩ ⟨k,hk,kg,h0,h1,h7⟩
 simp only at h0 h1 h7
 rw[ao h7]
 have hle:decide ((b:Int)≤a)=false:=decide_eq_false (by omega)
 by_cases hl:k<s.length
 ·have hd:decide ((k:Int)<s.length)=true:=decide_eq_true (by omega)
  refine gK (zSQ h0 (zSQ h1 (zSQ h7 hd))) ?_
  refine⟨by omega,?_⟩
  by_cases e:k=b
  ·subst e
   (refine aa (tY (s.getD k 0)) ?_;refine gN (zSQ h0 (zSQ h1 (zSQ h7 (zSQ (kL hl) hle)))) ?_)
   exact⟨by omega,by omega⟩
  ·(refine aa (tY (s.getD k 0)) ?_;refine gN (zSQ h0 (zSQ h1 (zSQ h7 (bp k hk (by omega))))) ?_)
   exact⟨by omega,⟨k+1,by omega,by omega,rfl⟩,by rw[ao (k:=.i64) (n:=(k:Int)+1) rfl];omega⟩
 ·have hd:decide ((k:Int)<s.length)=false:=decide_eq_false (by omega)
  obtain rfl:k=b:=by omega
  refine gK (zSQ h0 (zSQ h1 (zSQ h7 (zSQ hd hle)))) ?_
  exact⟨by omega,by omega⟩
def Dm (c:UInt8):Bool:=fN c&&c != 34&&c != 92
theorem Dv {s:Bytes}{a b:Nat}(ha:s.getD a 0=34)(h:jz Dm s (a+1) b)(hb:b<s.length)(hq:s.getD b 0=34)(hs:s.length≤4294967281):PC Tryz.V 288 [.str s,.int .i64 a] (.eW [.str ((s.take b).drop (a+1)),.int .i64 ((b:Int)+1),.bool true]):=by
 obtain⟨hab,hb',bp,kL⟩:=h
 refine aZ 3000 Tryz.func288 rfl Tryz.ntmps288 Tryz.results288 Tryz.call288 (by simp) (by simp[flat,flat.ai]) (by simp[flat,flat.ai]) ?_
 have g0:decide ((s.length:Int)≤a)=false:=decide_eq_false (by omega)
 have g1:(((s.getD a 0).toNat:Int) != 34)=false:=by rw[ha];rfl
 refine gK (zSQ g0 g1) ?_
 refine⟨by omega,by omega,az (fun σ=>∃ k:Nat,a+1≤k∧k≤b∧lk 0 σ.t=some (.str s)∧lk 7 σ.t=some (.str ((s.take k).drop (a+1)))∧lk 8 σ.t=some (.int .i64 k)) (fun σ=>b - fX 8 σ) ⟨a+1,by omega,by omega,rfl,by simp[lk],by simp[lk]⟩ ?_⟩
 rintro⟨t,b'⟩ ⟨k,hk,kg,h0,h7,h8⟩
 simp only at h0 h7 h8
 rw[ao h8]
 have hd:decide ((k:Int)<s.length)=true:=decide_eq_true (by omega)
 by_cases e:k=b
 ·subst e
  have g2:(((s.getD k 0).toNat:Int)==34)=true:=by rw[hq];rfl
  refine gK (zSQ h0 (zSQ h7 (zSQ h8 (zSQ hd g2)))) ?_
  exact⟨by omega,by omega⟩
 ·have hp:=bp k hk (by omega)
  have Ma:=dz (p:=fun c=>!Dm c||(decide (((c.toNat:Int)==34)=false)&&decide (((c.toNat:Int)==92)=false)&&fN c)) (by decide +kernel) (s.getD k 0)
  rw[hp]at Ma
  simp only[Bool.not_true,Bool.false_or,Bool.and_eq_true,decide_eq_true_eq]at Ma
  obtain⟨⟨g2,g3⟩,g4⟩:=Ma
  refine gK (zSQ h0 (zSQ h7 (zSQ h8 (zSQ hd (zSQ g2 g3))))) ?_
  refine⟨by omega,?_⟩
  (refine aa (o6 (s.getD k 0)) ?_;refine gA (zSQ h0 (zSQ h7 (zSQ h8 (zSQ g4 Bool.not_true)))) ?_)
  have x9:k<s.length:=by omega
  refine⟨by omega,by simpa[dW] using gd [s.getD k 0],by simp;omega,by omega,⟨k+1,by omega,by omega,?_,rfl⟩,by rw[ao (k:=.i64) (n:=(k:Int)+1) rfl];omega⟩
  rw[show vf (.int .u8 (s.getD k 0).toNat)=s[k] by rw[gD x9];simp[vf],zSX x9,List.drop_append_of_le_length (by simp;omega)]
theorem Du {s:Bytes}{a b:Nat}(ha:s.getD a 0=34)(h:jz Dm s (a+1) b)(hb:b<s.length)(hq:s.getD b 0=34)(hs:s.length≤4294967281):PC Tryz.V 277 [.str s,.int .i64 a] (.eW [.str ((s.take b).drop (a+1)),.int .i64 ((b:Int)+1),.bool true]):=by
 have p1:=Dv ha h hb hq hs
 obtain⟨hab,hb',bp,kL⟩:=h
 refine aZ 3000 Tryz.func277 rfl Tryz.ntmps277 Tryz.results277 Tryz.call277 (by simp) (by simp[flat,flat.ai]) (by simp[flat,flat.ai]) ?_
 have g0:decide ((a:Int)<s.length)=true:=decide_eq_true (by omega)
 have g1:(((s.getD a 0).toNat:Int)==34)=true:=by rw[ha];rfl
 refine gK (zSQ g0 g1) ?_
 refine⟨by omega,?_⟩
 (refine aa (p1) ?_;exact se zTh)
end Go.Proofs.YtnmlimehgifadaaGreatDoor
