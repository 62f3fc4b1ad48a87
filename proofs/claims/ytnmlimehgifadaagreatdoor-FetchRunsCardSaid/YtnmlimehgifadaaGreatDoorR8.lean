/- R8 -/
import Derived.Test.YtnmlimehgifadaaGreatDoorR7
open And renaming intro→zT4
open List renaming getElem?_eq_some_iff→zT5,getElem?_set_self→zT6,length_append→zT7,length_cons→zT8,take_succ_eq_append_getElem→zT9,take_length→zUa,length_nil→zUb,getElem_mem→zUc,getElem?_append_right→zUd,getElem?_set_ne→zUe,length_set→zUf,getD→zUg,getElem?_append_left→zUh,flatMap_append→zUk,append_nil→zUm,mem_append→zUn,mem_singleton→zUo,all_eq_true→zUq
open Option renaming some→zUi
open Int renaming toNat→zUj
open Prod renaming mk→zUl
open Bool renaming and_false→zUp
open True renaming intro→zUr
open Go.Proofs.Tryz
set_option linter.all false
set_option maxHeartbeats 16000000
set_option maxRecDepth 20000
namespace Go.Proofs.YtnmlimehgifadaaGreatDoor
open Go Vc Go.RowKit Wf
def jd:List PU→Bytes × Int
 | []=>([],0)
 | .bad::_=>([],2)
 | .lit c::r=>comb [c] (jd r)
 | .hex a b::r=>comb [unhex a b] (jd r)
theorem vw:∀ l:List PU,jd l=if PU.bad∈l then([],2) else(l.map PU.val,0)
 | []=>rfl
 | .bad::r=>by simp[jd]
 | .lit c::r=>by
   rw[jd,vw r];by_cases h:PU.bad∈r
   ·simp[h,comb]
   ·simp[h,comb,PU.val]
 | .hex a b::r=>by
   rw[jd,vw r];by_cases h:PU.bad∈r
   ·simp[h,comb]
   ·simp[h,comb,PU.val]
theorem MY (l:List PU):(jd l).2≠0→(jd l).1=[]:=by
 rw[vw];split
 ·intro _;rfl
 ·intro h;exact absurd rfl h
def DcI (s:Bytes)(σ:St):Prop:=∃ (i:Nat) (x:SV) (d:Bytes),lk 0 σ.t=some (.str s)∧lk 4 σ.t=some x∧lk 5 σ.t=some (.int .i64 i)∧i≤s.length∧d.length≤i∧Sl 5 1 0 x σ.b (d.map eb) d.length∧comb d (jd (aI (s.drop i)))=jd (aI s)
def DcM (s:Bytes)(σ:St):Nat:=match lk 5 σ.t with
 | some (.int _ k)=>s.length - k.toNat
 | _=>0
theorem Qj {s:Bytes}{σ:St}{k:Nat}(h:lk 5 σ.t=some (.int .i64 k)):DcM s σ=s.length - k:=by simp[DcM,h]
theorem Lf {s:Bytes}{t:List (Nat × SV)}{b:List aq}{i i':Nat}{x:SV}{d:Bytes}(h0:lk 0 t=some (.str s))(h4:lk 4 t=some x)(h5:lk 5 t=some (.int .i64 i'))(h:i'≤s.length∧d.length≤i')(ht:Sl 5 1 0 x b (d.map eb) d.length)
 (hn:comb d (jd (aI (s.drop i')))=jd (aI s)) (az:i<i'):DcI s ⟨t,b⟩∧DcM s ⟨t,b⟩<s.length - i :=
 ⟨⟨i',x,d,h0,h4,h5,h.1,h.2,ht,hn⟩,by rw[Qj h5];omega⟩
theorem gT (s:Bytes):PC QH 116 [.str s] (.eh [.str (aC s).1,.int .i64 (aC s).2]):=by
 have hpd:aC s=if 16384<s.length then([],5) else jd (aI s):=by unfold aC;rw[vw]
 rw[hpd];refine aU 3000 func116 rfl ntmps116 results116 call116 QB (by simp[flat,flat.ah]) (by simp[flat,flat.ah]) ?_;refine bw ?_;refine⟨fun hl=>?_,fun hl=>?_⟩
 ·have hl:16384<s.length:=(by simp at hl;omega)
  rw[if_pos hl]
 have hl:s.length≤16384:=(by simp at hl;omega);rw[if_neg QA];refine ax (DcI s) (DcM s) ⟨0,.ai,[],rfl,rfl,rfl,QA,QB,.inl ⟨rfl,rfl,rfl⟩,AL _ (MY _)⟩ ?_;rintro⟨t,b⟩ ⟨i,x,d,h0,h4,h5,hi,hd,ht,hn⟩;simp only at h0 h4 h5 ht;rw[Qj h5];by_cases az:i<s.length
 ·have hu:=sV az
  have hg:s.getD i 0=s[i]:=by simp[zUg,az]
  refine gN (zT4 h0 (zT4 h4 h5)) ?_;refine⟨fun _=>⟨⟨QA,QA⟩,fun hc=>?_,fun hc=>?_⟩,fun h=>absurd h QC⟩
  ·have hc:s[i]=37:=by
    rw[dG (n:=37) az 37 rfl]at hc;simpa using hc
   rw[if_pos hc]at hu;have pe:=xC s i az hc QA;cases he:nw s i with
   | none =>
     rw[he]at pe hu;simp only at hu;rw[hu]at hn;have om:jd (aI s)=([],2):=by rw[← hn];rfl
     rw[om]
     (refine aa pe ?_;simp only[bJ,↓Xn,↓Xo,↓Xg,↓Xd,↓Xe,↓Xf,Tryz.VΓ,Tryz.Γs,Xp,Xi,Nat.reduceAdd,Nat.reduceSub,Nat.reduceLT,Nat.reduceLeDiff,reduceIte,reduceCtorEq,Nat.reduceEqDiff,implies_true,forall_const,bI,h0,h4,h5,Option.isSome_none])
   | some v =>
     rw[he]at pe hu;have hx:=he;unfold nw at hx;obtain⟨⟨a,bb,r⟩,hp,hv⟩:=Option.map_eq_some_iff.1 hx;simp only at hv;rw[hp]at hu;simp only at hu;have hi3:i+3≤s.length:=by
      obtain⟨h1,-,-⟩:=ey hp;have:=congrArg List.length h1
      simp at this
      omega
     have jG:comb (d++[v]) (jd (aI (s.drop (i+2+1))))=jd (aI s):=by
      rw[← hn,hu,jd,lE,hv]
     simp only[Option.getD_some,Option.isSome_some]at pe
     (refine aa pe ?_;refine gN (zT4 h0 (zT4 h4 h5)) ?_)
     (rcases ht with⟨rfl,kn,kj⟩|⟨j,rfl,mG,hj⟩
      ·obtain rfl:d=[]:=by simpa using kn
       refine gN (zT4 h0 (zT4 h4 (zT4 h5 (zT4 hg @aB)))) ?_;refine⟨⟨QA,QA⟩,QA,⟨by unfold maxLen;omega,QA⟩,⟨QA,QA⟩,Lf (i':=i+2+1) (x:=.o (b++[aq.own [eb (v)] 5 1 1 true]).length 1) (d:=[]++[v]) h0 rfl (by simp only[lk,reduceIte,zUi.injEq,SV.int.injEq,true_and];omega) ⟨QA,by simp only[List.nil_append,zT8,zUb];omega⟩ (.inr ⟨_,rfl,QA,aB _ _⟩) (jG) QA⟩
      ·have e9:j<b.length:=(zT5.1 hj).1
       have ho:∀ X,(b++[X])[j]? = some (.own (d.map eb) 5 1 d.length true):=fun X=>ad hj [X]
       refine gN (zT4 h0 (zT4 h4 (zT4 h5 (zT4 hg (zT4 @aB ho))))) ?_;refine⟨⟨QA,QA⟩,QA,⟨by unfold maxLen;omega,QA⟩,⟨QA,QA⟩,Lf (i':=i+2+1) (x:=.o (b++[aq.own [eb (v)] 5 1 1 true]).length (d.length+1)) (d:=d++[v]) h0 rfl (by simp only[lk,reduceIte,zUi.injEq,SV.int.injEq,true_and];omega) ⟨QA,QC⟩ (.inr ⟨(b++[aq.own [eb (v)] 5 1 1 true]).length,QB,QA,by rw[zUd QB];simp[eb]⟩) (jG) QA⟩)
  ·have hc:¬ s[i]=37:=by
    rw[dG (n:=37) az 37 rfl]at hc;simpa using hc
   rw[if_neg hc]at hu;rw[hu,jd,lE]at hn;rw[hg]
   (rcases ht with⟨rfl,kn,kj⟩|⟨j,rfl,mG,hj⟩
    ·obtain rfl:d=[]:=by simpa using kn
     refine gN (zT4 h0 (zT4 h4 (zT4 h5 (zT4 hg @aB)))) ?_;refine⟨ by omega,⟨by unfold maxLen;omega,QA⟩,⟨QA,QA⟩,Lf (i':=i+1) (x:=.o (b++[aq.own [eb (s[i])] 5 1 1 true]).length 1) (d:=[]++[s[i]]) h0 rfl (by simp only[lk,reduceIte,zUi.injEq,SV.int.injEq,true_and];omega) ⟨QA,by simp only[List.nil_append,zT8,zUb];omega⟩ (.inr ⟨_,rfl,QA,aB _ _⟩) (hn) QA⟩
    ·have e9:j<b.length:=(zT5.1 hj).1
     have ho:∀ X,(b++[X])[j]? = some (.own (d.map eb) 5 1 d.length true):=fun X=>ad hj [X]
     refine gN (zT4 h0 (zT4 h4 (zT4 h5 (zT4 hg (zT4 @aB ho))))) ?_;refine⟨ by omega,⟨by unfold maxLen;omega,QA⟩,⟨QA,QA⟩,Lf (i':=i+1) (x:=.o (b++[aq.own [eb (s[i])] 5 1 1 true]).length (d.length+1)) (d:=d++[s[i]]) h0 rfl (by simp only[lk,reduceIte,zUi.injEq,SV.int.injEq,true_and];omega) ⟨QA,QC⟩ (.inr ⟨(b++[aq.own [eb (s[i])] 5 1 1 true]).length,QB,QA,by rw[zUd QB];simp[eb]⟩) (hn) QA⟩)
 ·have hU:i=s.length:=QA
  subst hU;rw[List.drop_length,gE]at hn;have om:jd (aI s)=(d,0):=by rw[← hn];simp[jd,comb]
  rw[om];rcases ht with⟨rfl,kn,kj⟩|⟨j,rfl,mG,hj⟩
  ·obtain rfl:d=[]:=by simpa using kn
   refine gN (zT4 h0 (zT4 h4 h5)) ?_;exact fun h=>absurd h QB
  ·refine gN (zT4 h0 (zT4 h4 (zT4 h5 hj))) ?_
   refine⟨fun h=>absurd h QB,fun _=>⟨gw d,?_⟩⟩;rw[lH]
theorem PT {keep s:Bytes}{i:Nat}(h:i<s.length):aH keep (s.take (i+1))=aH keep (s.take i)++ox keep s[i]:=by
 unfold aH;rw[zT9 h,zUk,List.flatMap_cons,List.flatMap_nil,zUm]
theorem sub_one {s:Bytes}{i:Nat}(h:i<s.length):(s.take (i+1)).drop i=[s[i]]:=by
 rw[zT9 h];exact List.drop_left' QC
def ReI (keep s:Bytes)(σ:St):Prop:=∃ i:Nat,i≤s.length∧lk 0 σ.t=some (.str s)∧lk 1 σ.t=some (.str keep)∧lk 5 σ.t=some (.str (aH keep (s.take i)))∧lk 6 σ.t=some (.int .i64 i)
def ReM (s:Bytes)(σ:St):Nat:=match lk 6 σ.t with
 | some (.int _ k)=>s.length - k.toNat
 | _=>0
theorem Qe {s:Bytes}{σ:St}{k:Nat}(h:lk 6 σ.t=some (.int .i64 k)):ReM s σ=s.length - k:=by simp[ReM,h]
theorem EH (keep s:Bytes)(i:Nat):(aH keep (s.take i)).length≤3 * s.length:=by
 have:=eO keep (s.take i)
 have:(s.take i).length≤s.length:=by simp;omega
 omega
theorem Ko {keep s:Bytes}{t:List (Nat × SV)}{b:List aq}{i:Nat}(hi:i<s.length)(h0:lk 0 t=some (.str s))(h1:lk 1 t=some (.str keep))(h5:lk 5 t=some (.str (aH keep (s.take i)++ox keep s[i])))(h6:lk 6 t=some (.int .i64 (i+1:Nat))):ReI keep s ⟨t,b⟩∧ReM s ⟨t,b⟩<s.length - i :=
 ⟨⟨i+1,QA,h0,h1,by rw[PT hi];exact h5,h6⟩,by rw[Qe h6];omega⟩
theorem mW (s keep:Bytes)(hs:s.length≤1000000)(hk:keep.length≤1000):PC QH 119 [.str s,.str keep] (.str (aH keep s)):=by
 refine aU 3000 func119 rfl ntmps119 results119 call119 QB (by simp[flat,flat.ah]) (by simp[flat,flat.ah]) ?_;refine bw ?_;refine ax (ReI keep s) (ReM s) ⟨0,QA,rfl,rfl,rfl,rfl⟩ ?_;rintro⟨t,b⟩ ⟨i,hi,h0,h1,h5,h6⟩;simp only at h0 h1 h5 h6;rw[Qe h6];have Iy:=EH keep s i;by_cases az:i<s.length
 ·have hg:s.getD i 0=s[i]:=by simp[zUg,az]
  have hnat:((s[i].toNat:Int) != 37)=(s[i] != 37):=by
   have h:=dG (s:=s) az 37 (n:=37) rfl;rw[hg]at h;show (!((s[i].toNat:Int)==37))=!(s[i]==37)
   rw[h]
  have hb:ox keep s[i]=if iu s[i]||(s[i] != 37&&keep.contains s[i]) then [s[i]] else nP s[i]:=rfl
  refine gN (zT4 h0 (zT4 h1 (zT4 h5 h6))) ?_;refine⟨fun _=>⟨⟨QA,QA⟩,?_⟩,fun h=>absurd h QC⟩;rw[hg]
  (refine aa (eG s[i]) ?_;refine gN (zT4 h0 (zT4 h1 (zT4 h5 (zT4 h6 hg)))) ?_)
  refine⟨fun hq=>⟨⟨QA,QA⟩,fun wR=>⟨⟨QA,QA⟩,?_⟩,fun wR=>⟨⟨QA,QA⟩,?_⟩⟩,fun hq=>?_⟩
  ·have e2:List.contains keep s[i]=false→ox keep s[i]=nP s[i]:=fun xS=>by rw[hb,hq,xS];simp
   have e1:List.contains keep s[i]=true→ox keep s[i]=(s.take (i+1)).drop i:=fun xS=>by rw[hb,xS,← hnat,wR,sub_one az];simp
   (refine aa (kV s[i] keep QA) ?_;refine gN (zT4 h0 (zT4 h1 (zT4 h5 (zT4 h6 hg)))) ?_)
   refine⟨fun xS=>⟨⟨QA,QA⟩,⟨QA,QA,QA⟩,by rw[sub_one az,List.length_singleton];omega,⟨QA,QA⟩,Ko az h0 h1 (by rw[e1 xS];rfl) (by simp only[lk,reduceIte,zUi.injEq,SV.int.injEq,true_and];omega)⟩,fun xS=>⟨⟨QA,QA⟩,?_⟩⟩
   (refine aa (mV s[i]) ?_;refine gN (zT4 h0 (zT4 h1 (zT4 h5 (zT4 h6 hg)))) ?_)
   exact⟨by rw[show (nP s[i]).length=3 from rfl];omega,⟨QA,QA⟩,Ko az h0 h1 (by rw[e2 xS];rfl) (by simp only[lk,reduceIte,zUi.injEq,SV.int.injEq,true_and];omega)⟩
  ·have e2:ox keep s[i]=nP s[i]:=by rw[hb,hq,← hnat,wR];simp
   (refine aa (mV s[i]) ?_;refine gN (zT4 h0 (zT4 h1 (zT4 h5 (zT4 h6 hg)))) ?_)
   exact⟨by rw[show (nP s[i]).length=3 from rfl];omega,⟨QA,QA⟩,Ko az h0 h1 (by rw[e2];rfl) (by simp only[lk,reduceIte,zUi.injEq,SV.int.injEq,true_and];omega)⟩
  ·have e1:ox keep s[i]=(s.take (i+1)).drop i:=by rw[hb,hq,sub_one az];simp
   exact⟨⟨QA,QA⟩,⟨QA,QA,QA⟩,by rw[sub_one az,List.length_singleton];omega,⟨QA,QA⟩,Ko az h0 h1 (by rw[e1];rfl) (by simp only[lk,reduceIte,zUi.injEq,SV.int.injEq,true_and];omega)⟩
 ·have hU:i=s.length:=QA
  subst hU;rw[zUa]at h5;refine gN (zT4 h0 (zT4 h1 (zT4 h5 h6))) ?_;exact fun h=>absurd h QB
end Go.Proofs.YtnmlimehgifadaaGreatDoor
namespace Wf
open Go Go.RowKit
structure oD where
 loc:Bytes
 host:Bytes
 deriving DecidableEq
def oD.none:oD:=⟨[],[]⟩
def atomS:Bytes:=[33,35,36,37,38,39,42,43,45,47,61,63,94,95,96,123,124,125,126]
def H7 (c:UInt8):Bool:=isAlpha c||isDigit c||atomS.contains c
def pK (s:Bytes):Bool:=!s.isEmpty&&s.all H7
def rO (s:Bytes):Bool:=(aD 46 s).all pK&&decide (s.length≤64)
def na:Bytes:=[109,97,105,108,116,111,58]
def p6:Bytes:=[33,36,39,42,43]
def KF:Bytes:=[37,33,36,39,42,43]
def nI (c:UInt8):Bool:=iu c||KF.contains c
def Ej (l:Bytes × Int)(h:Bytes × Int):oD × Int :=
 if l.2≠0 then(oD.none,l.2)
 else if rO l.1=false then(oD.none,80)
 else if h.2≠0 then(oD.none,h.2)
 else if ipv4 h.1=true then(oD.none,50)
 else(⟨l.1,h.1⟩,0)
def uU (s:Bytes):oD × Int :=
 if (aL 64 s).2.2=false∨(63:UInt8)∈s∨(35:UInt8)∈s then(oD.none,6)
 else if (aL 64 s).1.all nI=false then(oD.none,1)
 else Ej (aC (aL 64 s).1) (cp (aL 64 s).2.1)
def cK (s:Bytes):oD × Int :=
 if 4096<s.length then(oD.none,5)
 else if s.length<7∨lower (s.take 7)≠na then(oD.none,60)
 else uU (s.drop 7)
def eV (m:oD):Bytes:=na++aH p6 m.loc++[64]++m.host
theorem MV (s:Bytes):∀ c∈aH p6 s,nI c=true∧c≠64∧c≠63∧c≠35:=by
 intro c hc;obtain⟨d,-,hd⟩:=List.mem_flatMap.1 hc;have h1:=du (p:=fun d=>(ox p6 d).all fun c=>nI c&&c != 64&&c != 63&&c != 35) (by decide +kernel) d;have:=zUq.1 h1 c hd
 simpa[and_assoc] using this
theorem qY {s:Bytes}(h:rO s=true):s.length≤64:=by
 unfold rO at h;simp only[Bool.and_eq_true,decide_eq_true_eq]at h;exact h.2
structure Lj (m:oD):Prop where
 loc:rO m.loc=true
 host:cp m.host=(m.host,0)
 no:ipv4 m.host=false
theorem Gz {s:Bytes}{m:oD}(h:cK s=(m,0)):Lj m:=by
 unfold cK at h;split at h
 ·simp at h
 split at h
 ·simp at h
 unfold uU at h;split at h
 ·simp at h
 split at h
 ·simp at h
 unfold Ej at h;split at h
 ·rename_i h5;exact absurd (zUl.inj h).2 h5
 split at h
 ·simp at h
 rename_i h6
 split at h
 ·rename_i h5;exact absurd (zUl.inj h).2 h5
 split at h
 ·simp at h
 rename_i h7 h8
 simp only[zUl.injEq,and_true]at h;subst h;have e:cp (aL 64 (s.drop 7)).2.1=((cp (aL 64 (s.drop 7)).2.1).1,0):=by
  have:(cp (aL 64 (s.drop 7)).2.1).2=0:=by simpa using h7
  rw[← this]
 exact⟨by simpa using h6,(l6 e).2.2,by simpa using h8⟩
theorem Mb {m:oD}(h:Lj m):cK (eV m)=(m,0):=by
 have e1:(eV m).take 7=na:=rfl;have e2:(eV m).drop 7=aH p6 m.loc++64::m.host:=by show aH p6 m.loc++[64]++m.host=_;simp
 have l7:7≤(eV m).length:=by simp[eV,na]
 have h1:=eO p6 m.loc;have h2:=qY h.loc;have h3:=(l6 h.host).2.1;have hl:(eV m).length≤4096:=by simp[eV,na];omega
 have hb:=MV m.loc;have hh:=nk h.host;have nh:∀ c∈m.host,c≠63∧c≠35:=by
  intro c hc;have:=du (p:=fun c=>!(yG c||c==46)||(c != 63&&c != 35)) (by decide +kernel) c
  have h2:(yG c||c==46)=true:=by rcases hh c hc with h|rfl <;> simp[*]
  rw[h2]at this;simpa using this
 unfold cK;rw[if_neg QA,if_neg (by rw[e1,show lower na=na by decide];simp;omega),e2];unfold uU;rw[je (fk (fun k=>(hb _ k).2.1 rfl))];simp only;rw[if_neg ?_,if_neg ?_,wo p6 m.loc QA,h.host]
 ·unfold Ej
  rw[if_neg QB,if_neg (by simp[h.loc]),if_neg QB,if_neg (by simp[h.no])]
 ·have:(aH p6 m.loc).all nI=true:=zUq.2 fun c hc=>(hb c hc).1
  rw[this];simp
 ·simp only[zUn,List.mem_cons,not_or,reduceCtorEq,not_false_eq_true,true_and,Bool.true_eq_false]
  exact⟨⟨fun k=>(hb _ k).2.2.1 rfl,by decide,fun k=>(nh _ k).1 rfl⟩,fun k=>(hb _ k).2.2.2 rfl,by decide,fun k=>(nh _ k).2 rfl⟩
end Wf
namespace Go.Proofs.YtnmlimehgifadaaGreatDoor
open Go Vc Go.RowKit Wf
theorem xo {c:UInt8}{s:Bytes}{a i:Nat}(hi:i<s.length)(ha:a≤i)(hp:i - a≤pre (·==c) (s.drop a))(hc:s[i]=c):aD c (s.drop a)=(s.take i).drop a::aD c (s.drop (i+1)):=by
 have fD:pre (·==c) (s.drop a)=i - a:=by
  apply Nat.le_antisymm _ hp
  apply Nat.le_of_not_lt
  intro az;have:=ju (p:=(·==c)) (l:=s.drop a) (k:=i - a) az QC
  simp[show a+(i - a)=i by omega,hc]at this
 rw[dO (by rw[fD,List.length_drop];omega),fD,List.drop_drop,List.drop_take,show a+(i - a+1)=i+1 by omega]
theorem Cv {c:UInt8}{s:Bytes}{a i:Nat}(hi:i<s.length)(ha:a≤i)(hp:i - a≤pre (·==c) (s.drop a))(hc:s[i]≠c):i+1 - a≤pre (·==c) (s.drop a):=by
 apply Nat.le_of_not_lt
 intro az;have fD:pre (·==c) (s.drop a)=i - a:=QA;have:=iM (p:=(·==c)) (l:=s.drop a) (by rw[fD,List.length_drop];omega)
 simp[fD,show a+(i - a)=i by omega]at this;exact hc this
def SplI (bs:List aq)(s:Bytes)(c:UInt8)(σ:St):Prop:=∃ (i a:Nat) (x:SV) (dn:List Bytes),lk 0 σ.t=some (.str s)∧lk 1 σ.t=some (.int .u8 c.toNat)∧lk 5 σ.t=some x∧lk 6 σ.t=some (.int .i64 a)∧lk 7 σ.t=some (.int .i64 i) ∧
 a≤i∧i≤s.length∧dn.length≤a∧i - a≤pre (·==c) (s.drop a)∧dn++aD c (s.drop a)=aD c s∧Sl 9 1 bs.length x σ.b (dn.map SV.str) dn.length∧Kp bs σ.b
def SplM (s:Bytes)(σ:St):Nat:=match lk 7 σ.t with
 | some (.int _ k)=>s.length - k.toNat
 | _=>0
theorem Li {s:Bytes}{σ:St}{k:Nat}(h:lk 7 σ.t=some (.int .i64 k)):SplM s σ=s.length - k:=by simp[SplM,h]
theorem Dm {bs b:List aq}{s:Bytes}{c:UInt8}{t:List (Nat × SV)}{i i' a:Nat}{x:SV}{dn:List Bytes}(h0:lk 0 t=some (.str s))(h1:lk 1 t=some (.int .u8 c.toNat))(h5:lk 5 t=some x)(h6:lk 6 t=some (.int .i64 a))(h7:lk 7 t=some (.int .i64 i'))
 (h:a≤i'∧i'≤s.length∧dn.length≤a∧i' - a≤pre (·==c) (s.drop a)) (q8:dn++aD c (s.drop a)=aD c s) (fH:Sl 9 1 bs.length x b (dn.map SV.str) dn.length) (bm:Kp bs b) (az:i<i'):SplI bs s c ⟨t,b⟩∧SplM s ⟨t,b⟩<s.length - i :=
 ⟨⟨i',a,x,dn,h0,h1,h5,h6,h7,h.1,h.2.1,h.2.2.1,h.2.2.2,q8,fH,bm⟩,by rw[Li h7];omega⟩
theorem qJ {bs:List aq}(s:Bytes)(c:UInt8)(hs:s.length≤1000000) :
 SC QH 126 [.str s,.int .u8 c.toNat] bs (fun r b=>∃ j,r=.o j (aD c s).length∧bs.length≤j∧b[j]? = some (.own ((aD c s).map SV.str) 9 1 (aD c s).length true)∧Kp bs b):=by
 refine bp 3000 func126 rfl ntmps126 results126 call126 QB (af bs.length _ (by simp[within,within.av])) ?_;refine bw ?_;refine ax (SplI bs s c) (SplM s) ⟨0,0,.ai,[],rfl,rfl,rfl,rfl,rfl,QB,QB,QB,QB,QB,.inl ⟨rfl,rfl,rfl⟩,Kp.refl _⟩ ?_;rintro⟨t,b⟩ ⟨i,a,x,dn,h0,h1,h5,h6,h7,hai,his,hda,hp,q8,fH,bm⟩;simp only at h0 h1 h5 h6 h7 fH bm;rw[Li h7];rcases fH with⟨rfl,kn,hda0⟩|⟨j,rfl,mG,hj⟩
 ·obtain rfl:dn=[]:=by simpa using kn
  refine gN (zT4 h0 (zT4 h1 (zT4 h5 (zT4 h6 (zT4 h7 @aB))))) ?_;refine⟨fun hc=>?_,fun hc=>?_⟩
  ·have hi:i<s.length:=by simpa using hc
   refine⟨⟨QA,QA⟩,fun hq=>⟨⟨QA,QA,QA⟩,QA,⟨by unfold maxLen;omega,QA⟩,⟨QA,QA⟩,⟨QA,QA⟩,?_⟩,fun hq=>⟨⟨QA,QA⟩,?_⟩⟩
   ·rw[dG hi c rfl]at hq
    have jg:=xo hi hai hp (by simpa using hq);refine Dm (i':=i+1) (a:=i+1) (dn:=[(s.take i).drop a]) h0 h1 (by simp[lk]) rfl rfl ⟨QA,QA,QB,QA⟩ ?_ (.inr ⟨(b++[aq.own [.str ((s.take i).drop a)] 9 1 1 true]).length,rfl,?_,aB _ _⟩) ((bm.app _).app _) QA
    ·rw[← q8,jg];simp
    ·have:=bm.1;simp;omega
   ·rw[dG hi c rfl]at hq
    exact Dm (i':=i+1) (dn:=[]) h0 h1 h5 h6 rfl ⟨QA,QA,QB,Cv hi hai hp (by simpa using hq)⟩ q8 (.inl ⟨rfl,rfl,rfl⟩) bm QA
  ·have hi:i=s.length:=by simp at hc;omega
   refine⟨⟨QA,QA⟩,QA,⟨by unfold maxLen;omega,QA⟩,?_⟩;have hms:aD c s=[s.drop a]:=by
    rw[← q8,dC (by rw[List.length_drop];omega)];rfl
   rw[hms];refine⟨(b++[aq.own [.str (s.drop a)] 9 1 1 true]).length,rfl,?_,aB _ _,(bm.app _).app _⟩;have:=bm.1;simp;omega
 ·have h2:∀ X,(b++[X])[j]? = some (.own (dn.map SV.str) 9 1 dn.length true):=fun X=>ad hj _
  refine gN (zT4 h0 (zT4 h1 (zT4 h5 (zT4 h6 (zT4 h7 (zT4 @aB h2)))))) ?_;have e9:j<b.length:=(zT5.1 hj).1;refine⟨fun hc=>?_,fun hc=>?_⟩
  ·have hi:i<s.length:=by simpa using hc
   refine⟨⟨QA,QA⟩,fun hq=>⟨⟨QA,QA,QA⟩,QA,⟨by unfold maxLen;omega,QA⟩,⟨QA,QA⟩,⟨QA,QA⟩,?_⟩,fun hq=>⟨⟨QA,QA⟩,?_⟩⟩
   ·rw[dG hi c rfl]at hq
    have jg:=xo hi hai hp (by simpa using hq);refine Dm (i':=i+1) (a:=i+1) (dn:=dn++[(s.take i).drop a]) h0 h1 (by simp[lk];rfl) rfl rfl ⟨QA,QA,QC,QA⟩ ?_ (.inr ⟨(b++[aq.own [.str ((s.take i).drop a)] 9 1 1 true]).length,QB,?_,?_⟩) (((bm.app _).set mG _).app _) QA
    ·rw[← q8,jg];simp
    ·have:=bm.1;simp;omega
    ·rw[zUd QB];simp
   ·rw[dG hi c rfl]at hq
    exact Dm (i':=i+1) (dn:=dn) h0 h1 h5 h6 rfl ⟨QA,QA,hda,Cv hi hai hp (by simpa using hq)⟩ q8 (.inr ⟨j,rfl,mG,hj⟩) bm QA
  ·have hi:i=s.length:=by simp at hc;omega
   refine⟨⟨QA,QA⟩,QA,⟨by unfold maxLen;omega,QA⟩,?_⟩;have hms:aD c s=dn++[s.drop a]:=by
    rw[← q8,dC (c:=c) (s:=s.drop a) (by rw[List.length_drop];omega)]
   rw[hms];refine⟨(b++[aq.own [.str (s.drop a)] 9 1 1 true]).length,QB,?_,?_,((bm.app _).set mG _).app _⟩
   ·have:=bm.1;simp;omega
   ·rw[zUd QB];simp
def msv (m:oD):SV:=.agg [.str m.loc,.str m.host]
theorem Gk (s:Bytes)(hs:s.length≤1000000000):PC QH 118 [.str s] (.bool (ipv4 s)) :=
 ⟨call118,by simp[flat,flat.ah],by simp[flat,flat.ah],fun w hE=>(kU s w hs).mono fun _ _ ⟨h,k⟩=>⟨h,k⟩⟩
theorem any_mem (s:Bytes)(a c:UInt8):decide (0≤Lib.indexAny s [a,c])=decide (a∈s∨c∈s):=by
 rw[lb];by_cases h:pre ([a,c].contains ·) s<s.length
 ·rw[if_pos h]
  have h1:=iM h;have h2:s[pre ([a,c].contains ·) s]∈s:=zUc h;have h3:s[pre ([a,c].contains ·) s]=a∨s[pre ([a,c].contains ·) s]=c:=by simpa using h1
  simp only[Int.natCast_nonneg,decide_true];symm
  exact decide_eq_true (by rcases h3 with e|e <;> rw[e]at h2 <;> simp[h2])
 ·rw[if_neg h]
  simp only[show ¬ (0:Int)≤-1 by omega,decide_false];symm
  refine decide_eq_false ?_;intro k;have hle:=cO ([a,c].contains ·) s;have:∀ d∈s,[a,c].contains d=false:=by
   intro d hd;obtain⟨j,hj,rfl⟩:=List.getElem_of_mem hd;exact ju (p:=([a,c].contains ·)) (k:=j) QA hj
  rcases k with k|k
  ·have:=this _ k;simp at this
  ·have:=this _ k;simp at this
theorem LQ (c:UInt8):PC QH 187 [.int .u8 c.toNat] (.bool (H7 c)):=by
 refine aU 3000 func187 rfl ntmps187 results187 call187 QB (by simp[flat,flat.ah]) (by simp[flat,flat.ah]) ?_;refine bw ?_
 (refine aa (jw c) ?_;refine bw ?_)
 unfold H7;refine⟨fun h=>?_,fun h=>by rw[h];rfl⟩
 (refine aa (fm c) ?_;refine bw ?_)
 rw[h];refine⟨fun h2=>?_,fun h2=>by rw[h2];rfl⟩
 (refine aa (kV c atomS QD) ?_;refine bw ?_)
 rw[h2];rfl
theorem Jc (s:Bytes):PC QH 117 [.str s] (.bool (rO s)):=by
 refine aU 3000 func117 rfl ntmps117 results117 call117 QB (by simp[flat,flat.ah]) (by simp[flat,flat.ah]) ?_;refine bw ?_;unfold rO;refine⟨fun bF=>⟨fun hl=>?_,fun hl=>?_⟩,fun bF=>?_⟩
 ·have hl:¬ s.length≤64:=(by simp at hl;omega)
  rw[decide_eq_false hl,zUp]
 ·have hl:s.length≤64:=(by simp at hl;omega)
  rw[decide_eq_true hl,Bool.and_true];have fH:=iK 46 s;refine ae (qJ s 46 QA) ?_;rintro r b ⟨j,rfl,mG,hj,bm⟩;have E5:=gF 46 s;have Np:=List.count_le_length (a:=(46:UInt8)) (l:=s);generalize aD 46 s=L at *;simp only at mG hj bm;refine gN hj ?_;refine ax (fun σ=>∃ k:Nat,k≤L.length∧lk 14 σ.t=some (.o j L.length)∧lk 15 σ.t=some (.int .i64 L.length)∧lk 16 σ.t=some (.int .i64 k)∧σ.b[j]? = some (.own (L.map SV.str) 9 1 L.length true)∧(L.take k).all pK=true) (fun σ=>L.length - fA 16 σ) ⟨0,QA,rfl,rfl,rfl,hj,rfl⟩ ?_;rintro⟨t,b⟩ ⟨k,hk,oE,qp,h16,hb,cn⟩;simp only at oE qp h16 hb;rw[ak h16];by_cases az:k<L.length
  ·have mg:(L.map SV.str)[k * 1]? = some (.str L[k]):=by simp[az]
   have o6:=fH L[k] (zUc az);generalize hx:L[k]=x at *;have Ev:pK x=false→L.all pK=false:=fun h=>by
    rw[← Bool.not_eq_true];intro h2;have:=zUq.1 h2 x (hx ▸ zUc az)
    rw[h]at this;cases this
   refine gN (zT4 oE (zT4 qp (zT4 h16 (zT4 hb mg)))) ?_;refine⟨fun _=>⟨⟨QA,QA⟩,QC,fun hn=>?_,fun hn=>?_⟩,fun h=>absurd h QC⟩
   ·have hn:x=[]:=by simpa using hn
    rw[Ev (by rw[hn];rfl)]
   have hn:x.isEmpty=false:=by cases x <;> simp at hn ⊢
   refine ax (fun σ=>∃ i:Nat,i≤x.length∧lk 4 σ.t=some (.str x)∧lk 5 σ.t=some (.int .i64 i)∧lk 14 σ.t=some (.o j L.length)∧lk 15 σ.t=some (.int .i64 L.length)∧lk 16 σ.t=some (.int .i64 k)∧σ.b[j]? = some (.own (L.map SV.str) 9 1 L.length true)∧(x.take i).all H7=true) (fun σ=>x.length - fA 5 σ) ⟨0,QA,rfl,rfl,oE,qp,h16,hb,rfl⟩ ?_;rintro⟨t',b'⟩ ⟨i,hi,g4,g5,g14,g15,g16,gb,kF⟩;simp only at g4 g5 g14 g15 g16 gb;rw[ak g5];by_cases dJ:i<x.length
   ·have hg:x.getD i 0=x[i]:=by simp[zUg,dJ]
    refine gN (zT4 g4 (zT4 g5 (zT4 g14 (zT4 g15 (zT4 g16 (zT4 gb hg)))))) ?_;refine⟨fun _=>⟨⟨QA,QA⟩,?_⟩,fun h=>absurd h QC⟩
    (refine aa (LQ x[i]) ?_;refine gN (zT4 g4 (zT4 g5 (zT4 g14 (zT4 g15 (zT4 g16 (zT4 gb hg)))))) ?_)
    refine⟨fun ha=>?_,fun ha=>⟨⟨QA,QA⟩,⟨i+1,QA,rfl,bq dJ kF (by simpa using ha)⟩,?_⟩⟩
    ·have ha:H7 x[i]=false:=by simpa using ha
     rw[Ev (by unfold pK;rw[cX dJ ha,zUp])]
    ·rw[ak (k:=.i64) (n:=(i:Int)+1) rfl];omega
   ·have hU:i=x.length:=QA
    subst hU;rw[zUa]at kF;have hax:pK x=true:=by unfold pK;rw[hn,kF];rfl
    refine gN (zT4 g4 (zT4 g5 (zT4 g14 (zT4 g15 (zT4 g16 gb))))) ?_;refine⟨fun h=>absurd h QB,fun _=>⟨⟨QA,QA⟩,⟨k+1,QA,rfl,bq az cn (by rw[hx];exact hax)⟩,?_⟩⟩;rw[ak (k:=.i64) (n:=(k:Int)+1) rfl];omega
  ·have hU:k=L.length:=QA
   subst hU;rw[zUa]at cn;refine gN (zT4 oE (zT4 qp (zT4 h16 hb))) ?_;exact⟨fun h=>absurd h QB,fun _=>by rw[cn]⟩
 ·have bF:s=[]:=by simpa using bF
  subst bF;rfl
def qc (d:iJ):SV:=.agg [.str d.method,.str d.id]
def dusv (u:DidUrl):SV:=.agg [.str u.did.method,.str u.did.id,.str u.path,.str u.query,.str u.fragment,.bool u.aJ,.bool u.a8]
theorem tz (c:UInt8)(h:isDigit c=false):kY c=(decide (97≤c.toNat)&&decide (c.toNat≤122)):=by
 unfold kY;rw[h];simp[Bool.decide_and]
def lp (d:iJ):Prop:=d.method.length≤140737488355328∧d.id.length≤140737488355328
theorem xY (d:iJ):(ck d).length=d.method.length+d.id.length+5:=by simp[ck,rA];omega
theorem nE:∀ (f:Nat)(s:Bytes),(cE f s).length≤f
 | 0,_=>by simp[cE]
 | f+1,[]=>by simp[cE]
 | f+1,c::r=>by
   rw[cE];split
   ·split
    ·have:=nE f (by assumption);simp;omega
    ·simp
   ·have:=nE f r;simp;omega
theorem Mp (s:Bytes):(cp s).1.length≤s.length:=by
 unfold cp;split
 ·simp
 split
 ·simp
 split
 ·simp
 ·simp only[gh];omega
theorem dec_len (s:Bytes):(aC s).1.length≤s.length:=by
 unfold aC;split
 ·simp
 split
 ·simp
 ·have:=nE s.length s
  simpa[aI] using this
theorem Gg (m:oD)(h:m.loc.length≤300000∧m.host.length≤140737488355328):PC QH 64 [msv m] (.str (eV m)):=by
 have pe:=mW m.loc p6 QA QD;have hl:=eO p6 m.loc;refine aU 3000 func64 rfl ntmps64 results64 call64 QB (by simp[flat,flat.ah,msv]) (by simp[flat,flat.ah,msv]) ?_;unfold msv;refine bw ?_
 (refine aW (pe) ?_;refine bw ?_)
 exact⟨QA,QA,by simp only[zT7,zT8,zUb];omega,(ao QE),by simp[eV,na]⟩
theorem pre_set (s:Bytes):pre ([63,35].contains ·) s<s.length↔((63:UInt8)∈s∨(35:UInt8)∈s):=by
 have h:=any_mem s 63 35;rw[lb]at h;by_cases k:pre ([63,35].contains ·) s<s.length
 ·rw[if_pos k]at h
  have:decide ((63:UInt8)∈s∨(35:UInt8)∈s)=true:=by rw[← h];simp
  exact⟨fun _=>of_decide_eq_true this,fun _=>k⟩
 ·rw[if_neg k]at h
  have:decide ((63:UInt8)∈s∨(35:UInt8)∈s)=false:=by rw[← h];rfl
  exact⟨fun h=>absurd h k,fun h=>absurd h (of_decide_eq_false this)⟩
theorem Jb (s:Bytes):PC QH 63 [.str s] (.eh [msv (cK s).1,.int .i64 (cK s).2]):=by
 have pe:=iN (s.take 7) na QC QD;rw[show lower na=na by decide]at pe;refine aU 3000 func63 rfl ntmps63 results63 call63 QB (by simp[flat,flat.ah]) (by simp[flat,flat.ah,msv]) ?_;refine bw ?_;unfold cK;refine⟨fun h=>?_,fun h=>⟨fun h2=>⟨⟨QA,(by simp at h2;omega)⟩,?_⟩,fun h2=>?_⟩⟩
 ·have h:4096<s.length:=(by simp at h;omega)
  rw[if_pos h];rfl
 ·have h:¬ 4096<s.length:=(by simp at h;omega)
  have h2:¬ s.length<7:=(by simp at h2;omega);rw[if_neg h]
  (refine aa pe ?_;simp only[bJ,↓Xn,↓Xo,↓Xg,↓Xd,↓Xe,↓Xf,Tryz.VΓ,Tryz.Γs,Xp,Xi,Nat.reduceAdd,Nat.reduceSub,Nat.reduceLT,Nat.reduceLeDiff,reduceIte,reduceCtorEq,Nat.reduceEqDiff,implies_true,forall_const,bI,Int.reduceToNat])
  refine⟨fun h3=>?_,fun h3=>⟨⟨QA,QA⟩,?_⟩⟩
  ·rw[if_pos (.inr (by simpa using h3))];rfl
  have h3:lower (s.take 7)=na:=by simpa using h3
  rw[if_neg (by simp only[not_or];exact⟨h2,by simpa using h3⟩)];have hS:(s.drop 7).length≤4096:=by simp;omega
  generalize s.drop 7=S at hS ⊢;have pi:=bG S [64] QA QD;rw[show (List.contains [64] ·:UInt8→Bool)=(·==64) from by funext c;simp;exact(Bool.beq_eq_decide_eq _ _).symm]at pi;have pj:=bG S [63,35] QA QD;have hq:=pre_set S;have gz:=cO (·==64) S;have hpq:=cO ([63,35].contains ·) S;unfold uU
  (refine aa pi ?_;refine bw ?_)
  refine⟨fun h4=>?_,fun h4=>?_⟩
  ·have h4:pre (·==64) S<S.length:=by
    have:=beq_eq_false_iff_ne.1 h4
    omega
   rw[show aL 64 S=(S.take (pre (·==64) S),S.drop (pre (·==64) S+1),true) from if_pos h4];generalize hk:pre (·==64) S=k at *;simp only[Bool.true_eq_false,false_or]
   (refine aa pj ?_;refine bw ?_)
   refine⟨fun h5=>?_,fun h5=>?_⟩
   ·rw[if_pos (hq.1 (by have:=of_decide_eq_true h5;omega))];rfl
   rw[if_neg (fun h=>absurd (hq.2 h) (by have:=of_decide_eq_false h5;omega))];clear hq hpq pj pi pe hk h5;refine ax (fun σ=>∃ i:Nat,i≤k∧lk 0 σ.t=some (.str S)∧lk 2 σ.t=some (.p 0 0)∧lk 3 σ.t=some (.int .i64 0)∧lk 4 σ.t=some (.int .i64 k)∧lk 5 σ.t=some (.int .i64 i)∧σ.b=[.cells [.str [],.str []] 115 true]∧(S.take i).all nI=true) (fun σ=>k - fA 5 σ) ⟨0,QA,rfl,rfl,rfl,rfl,rfl,rfl,rfl⟩ ?_;rintro⟨t,b⟩ ⟨i,hi,g0,g2,g3,g4,g5,rfl,kF⟩;simp only at g0 g2 g3 g4 g5;rw[ak g5];by_cases az:i<k
   ·have dJ:i<S.length:=QA
    have hg:S.getD i 0=S[i]:=by simp[zUg,dJ]
    have Ev:nI S[i]=false→(S.take k).all nI=false:=fun h=>by
     have e:(S.take k)[i]'QC=S[i]:=by simp
     exact cX (s:=S.take k) (k:=i) QC (by rw[e];exact h)
    refine gN (zT4 g0 (zT4 g2 (zT4 g3 (zT4 g4 (zT4 g5 hg))))) ?_;refine⟨fun _=>⟨⟨QA,QA⟩,?_⟩,fun h=>absurd h QC⟩
    (refine aa (eG S[i]) ?_;refine gN (zT4 g0 (zT4 g2 (zT4 g3 (zT4 g4 (zT4 g5 hg))))) ?_)
    refine⟨fun hu=>⟨⟨QA,QA⟩,?_⟩,fun hu=>⟨⟨QA,QA⟩,⟨i+1,QA,rfl,bq dJ kF (by unfold nI;rw[show iu S[i]=true by simpa using hu];rfl)⟩,by rw[ak (k:=.i64) (n:=(i:Int)+1) rfl];omega⟩⟩;have hu:iu S[i]=false:=by simpa using hu
    (refine aa (kV S[i] KF QD) ?_;refine gN (zT4 g0 (zT4 g2 (zT4 g3 (zT4 g4 (zT4 g5 hg))))) ?_)
    refine⟨fun hk=>?_,fun hk=>⟨⟨QA,QA⟩,⟨i+1,QA,rfl,bq dJ kF (by unfold nI;rw[show KF.contains S[i]=true by simpa using hk];simp)⟩,by rw[ak (k:=.i64) (n:=(i:Int)+1) rfl];omega⟩⟩;rw[if_pos (Ev (by unfold nI;rw[hu,show KF.contains S[i]=false by simpa using hk];rfl))];rfl
   ·have hU:i=k:=QA
    subst hU;rw[kF];have pd:=gT (S.take i);have nr:=dec_len (S.take i);generalize aC (S.take i)=dd at pd nr ⊢;obtain⟨d,e1⟩:=dd;have ph:=Cz (S.drop (i+1)) QC;have hhl:=Mp (S.drop (i+1));generalize cp (S.drop (i+1))=hh at ph hhl ⊢;obtain⟨hh,e2⟩:=hh;simp only at pd ph nr hhl;have nr:d.length≤4096:=by simp at nr;omega
    have hhl:hh.length≤4096:=by simp at hhl;omega
    simp only[Bool.true_eq_false,if_false];unfold Ej;refine gN (zT4 g0 (zT4 g2 (zT4 g3 (zT4 g4 g5)))) ?_;refine⟨fun h=>absurd h QB,fun _=>⟨⟨QA,QA⟩,?_⟩⟩
    (refine aa pd ?_;refine gN (zT4 g0 (zT4 g2 (zT4 g3 (zT4 g4 g5)))) ?_)
    refine⟨fun h1=>(by rw[if_pos (by simpa using h1)];rfl),fun h1=>?_⟩;rw[if_neg (by simpa using h1)]
    (refine aa (Jc d) ?_;refine gN (zT4 g0 (zT4 g2 (zT4 g3 (zT4 g4 g5)))) ?_)
    refine⟨fun h2=>(by rw[if_pos (by simpa using h2)];rfl),fun h2=>⟨⟨QA,QA⟩,⟨QA,QA⟩,?_⟩⟩;rw[if_neg (by simpa using h2)]
    (refine aa ph ?_;refine gN (zT4 g0 (zT4 g2 (zT4 g3 (zT4 g4 g5)))) ?_)
    refine⟨fun h3=>(by rw[if_pos (by simpa using h3)];rfl),fun h3=>?_⟩;rw[if_neg (by simpa using h3)]
    (refine aa (Gk hh QA) ?_;refine gN (zT4 g0 (zT4 g2 (zT4 g3 (zT4 g4 g5)))) ?_)
    refine⟨fun h4=>?_,fun h4=>?_⟩
    ·rw[if_pos (by simpa using h4)];rfl
    ·rw[if_neg (by simpa using h4)];rfl
  ·have h4:=beq_iff_eq.1 h4
   rw[gH QA];rfl
 ·have h:¬ 4096<s.length:=(by simp at h;omega)
  have h2:s.length<7:=(by simp at h2;omega);rw[if_neg h,if_pos (.inl h2)];rfl
theorem xF (c:UInt8):PC QH 127 [.int .u8 c.toNat] (.bool (dy c)):=by
 refine aU 3000 func127 rfl ntmps127 results127 call127 QB (by simp[flat,flat.ah]) (by simp[flat,flat.ah]) ?_;refine bw ?_
 (refine aa (jw c) ?_;refine bw ?_)
 unfold dy;refine⟨fun h=>?_,fun h=>by rw[h];rfl⟩
 (refine aa (fm c) ?_;refine bw ?_)
 rw[h];refine⟨fun h2=>?_,fun h2=>by rw[h2];rfl⟩
 (refine aa (kV c [46,45,95] QD) ?_;refine bw ?_)
 rw[h2];rfl
theorem HQ {s:Bytes}{i:Nat}(h:i<s.length):bf (s.take (i+1))=bf (s.take i)++kH s[i]:=by
 unfold bf;rw[zT9 h,zUk,List.flatMap_cons,List.flatMap_nil,zUm]
theorem JW {n m k:Nat}:∀ {l:List Bytes},l.length≤n→(∀ y∈l,y.length≤m)→n * m≤k→l.flatten.length≤k:=by
 have:∀ (l:List Bytes),(∀ y∈l,y.length≤m)→l.flatten.length≤l.length * m:=by
  intro l;induction l with
  | nil=>simp
  | cons x l ih =>
    intro h;have h1:=h x List.mem_cons_self;have h2:=ih (fun y hy=>h y (List.mem_cons_of_mem _ hy));rw[List.flatten_cons,zT7,zT8,Nat.add_mul];omega
 intro l h1 h2 h3;have:=this l h2
 exact Nat.le_trans this (Nat.le_trans (Nat.mul_le_mul_right _ h1) h3)
theorem yr (s:Bytes)(i:Nat):(bf (s.take i)).length≤3 * s.length:=by
 have:=iT (s.take i)
 have:(s.take i).length≤s.length:=by simp;omega
 omega
theorem nH (s:Bytes)(hs:s.length≤1000000):PC QH 128 [.str s] (.str (bf s)):=by
 refine aU 3000 func128 rfl ntmps128 results128 call128 QB (by simp[flat,flat.ah]) (by simp[flat,flat.ah]) ?_;refine bw ?_;refine ax (fun σ=>∃ i:Nat,i≤s.length∧lk 0 σ.t=some (.str s)∧lk 3 σ.t=some (.str (bf (s.take i)))∧lk 4 σ.t=some (.int .i64 i)) (fun σ=>s.length - fA 4 σ) ⟨0,QA,rfl,rfl,rfl⟩ ?_;rintro⟨t,b⟩ ⟨i,hi,h0,h3,h4⟩;simp only at h0 h3 h4;rw[ak h4];have Iy:=yr s i;by_cases az:i<s.length
 ·have hg:s.getD i 0=s[i]:=by simp[zUg,az]
  have next:∀ (x:Bytes) (t':List (Nat × SV)),x=kH s[i]→lk 4 t'=some (.int .i64 ((i:Int)+1)) →
   (∃ k:Nat,k≤s.length∧SV.str (bf (s.take i)++x)=SV.str (bf (s.take k))∧SV.int IntKind.i64 ((i:Int)+1)=SV.int IntKind.i64 (k:Int))∧s.length - fA 4 ⟨t',b⟩<s.length - (i:Int).toNat:=fun x t' hx k4 =>
   ⟨⟨i+1,QA,by rw[HQ az,hx],rfl⟩,by rw[ak (σ:=⟨t',b⟩) k4];omega⟩
  refine gN (zT4 h0 (zT4 h3 (zT4 h4 hg))) ?_;refine⟨fun _=>⟨⟨QA,QA⟩,?_⟩,fun h=>absurd h QC⟩
  (refine aa (xF s[i]) ?_;refine gN (zT4 h0 (zT4 h3 (zT4 h4 hg))) ?_)
  refine⟨fun hp=>⟨QA,⟨QA,QA,QA⟩,by rw[sub_one az,List.length_singleton];omega,⟨QA,QA⟩,next _ _ (by rw[sub_one az,show kH s[i]=[s[i]] from if_pos hp]) rfl⟩,fun hp=>⟨⟨QA,QA⟩,?_⟩⟩
  (refine aa (mV s[i]) ?_;refine gN (zT4 h0 (zT4 h3 (zT4 h4 hg))) ?_)
  exact⟨by rw[show (nP s[i]).length=3 from rfl];omega,⟨QA,QA⟩,next _ _ (by rw[show kH s[i]=nP s[i] from if_neg (by rw[hp];simp)]) rfl⟩
 ·have hU:i=s.length:=QA
  subst hU;rw[zUa]at h3;refine gN (zT4 h0 (zT4 h3 h4)) ?_;exact fun h=>absurd h QB
theorem D9 (s:Bytes)(hs:s.length≤1000000):PC QH 125 [.str s] (.bool (iz s)):=by
 refine aU 3000 func125 rfl ntmps125 results125 call125 QB (by simp[flat,flat.ah]) (by simp[flat,flat.ah]) ?_;refine bw ?_;refine ax (fun σ=>∃ i:Nat,i≤s.length∧lk 0 σ.t=some (.str s)∧lk 3 σ.t=some (.int .i64 i)∧(s.take i).all kY=true) (fun σ=>s.length - fA 3 σ) ⟨0,QA,rfl,rfl,rfl⟩ ?_;rintro⟨t,b⟩ ⟨i,hi,h0,h3,cn⟩;simp only at h0 h3;rw[ak h3];by_cases az:i<s.length
 ·have hg:s.getD i 0=s[i]:=by simp[zUg,az]
  have dc:kY s[i]=false→iz s=false:=fun h=>by
   unfold iz;rw[cX az h,zUp]
  refine gN (zT4 h0 (zT4 h3 hg)) ?_;refine⟨fun _=>⟨⟨QA,QA⟩,?_⟩,fun h=>absurd h QC⟩
  (refine aa (fm s[i]) ?_;refine gN (zT4 h0 (zT4 h3 hg)) ?_)
  have fin:kY s[i]=true→∀ (t':List (Nat × SV)),lk 3 t'=some (.int .i64 ((i:Int)+1))→(∃ k:Nat,k≤s.length∧SV.int IntKind.i64 ((i:Int)+1)=SV.int IntKind.i64 (k:Int)∧(s.take k).all kY=true)∧s.length - fA 3 ⟨t',b⟩<s.length - (i:Int).toNat:=fun hm t' k6 =>
   ⟨⟨i+1,QA,rfl,bq az cn hm⟩,by rw[ak (σ:=⟨t',b⟩) k6];omega⟩
  cases hd:isDigit s[i]
  ·refine⟨fun _=>⟨⟨QA,QA⟩,fun h1=>⟨⟨QA,QA⟩,fun h2=>?_,fun h2=>⟨⟨QA,QA⟩,fin ?_ _ rfl⟩⟩,fun h1=>?_⟩,fun h=>(by cases h)⟩
   ·rw[dc (by rw[tz _ hd];simp at h1 h2 ⊢;omega)]
   ·rw[tz _ hd];simp at h1 h2 ⊢;omega
   ·rw[dc (by rw[tz _ hd];simp at h1 ⊢;omega)]
  ·exact⟨fun h=>(by cases h),fun _=>⟨⟨QA,QA⟩,fin (by unfold kY;rw[hd];rfl) _ rfl⟩⟩
 ·have hU:i=s.length:=QA
  subst hU;rw[zUa]at cn;refine gN (zT4 h0 h3) ?_;refine⟨fun h=>absurd h QB,fun _=>?_⟩;unfold iz;rw[cn,Bool.and_true];cases s <;> rfl
theorem lY (s:Bytes):PC QH 69 [.str s] (.eh [qc (bC s).1,.int .i64 (bC s).2]):=by
 refine aU 3000 func69 rfl ntmps69 results69 call69 QB (by simp[flat,flat.ah,qc,dusv]) (by simp[flat,flat.ah,qc,dusv]) ?_;refine bw ?_;unfold bC;refine⟨fun h=>?_,fun h=>?_⟩
 ·have h:4096<s.length:=(by simp at h;omega)
  rw[if_pos h];rfl
 have h:¬ 4096<s.length:=(by simp at h;omega);rw[if_neg h];have pp:=cD s rA;rw[show Lib.hasPrefix s rA=rA.isPrefixOf s from rfl]at pp
 (refine aa pp ?_;refine bw ?_)
 refine⟨fun h2=>(by rw[if_pos (by simpa using h2)];rfl),fun h2=>?_⟩;have h2:rA.isPrefixOf s=true:=by simpa using h2
 rw[if_neg (by rw[h2];simp),show zUj 4=4 from rfl];have hS:(s.drop 4).length≤4096:=by simp;omega
 refine⟨⟨QA,?_⟩,?_⟩
 ·have:=(List.isPrefixOf_iff_prefix.1 h2).length_le
  rw[show rA.length=4 from rfl]at this;omega
 generalize s.drop 4=S at hS ⊢;have pi:=bG S [58] QA QD;rw[fL]at pi
 (refine aa pi ?_;refine bw ?_)
 have gz:=cO (·==58) S;unfold rT;refine⟨fun h3=>?_,fun h3=>?_⟩
 ·have h3:pre (·==58) S=S.length:=by simp at h3;omega
  rw[gH h3,if_pos rfl];rfl
 have h3:¬ pre (·==58) S=S.length:=by simp at h3;omega
 rw[show aL 58 S=(S.take (pre (·==58) S),S.drop (pre (·==58) S+1),true) from if_pos QA];refine⟨⟨QA,QA⟩,?_⟩;simp only[Int.toNat_natCast];have pm:=D9 (S.take (pre (·==58) S)) QC
 (refine aa pm ?_;refine bw ?_)
 refine⟨fun h4=>?_,fun h4=>?_⟩
 ·rw[if_pos (by simpa using h4)];rfl
 rw[if_neg (by simpa using h4),HR];have hM:(S.drop (pre (·==58) S+1)).length≤4096:=by simp;omega
 generalize S.drop (pre (·==58) S+1)=I at hM ⊢;refine⟨⟨QA,QA⟩,⟨QA,QA⟩,?_⟩;have fH:=iK 58 I;have E5:=gF 58 I;have Np:=List.count_le_length (a:=(58:UInt8)) (l:=I);refine ae (qJ I 58 QA) ?_;rintro r b ⟨j,rfl,mG,hj,bm⟩;generalize aD 58 I=L at *;simp only at mG hj bm;have dK:=bm.at (j:=0) rfl;refine gN hj ?_;refine ax (fun σ=>∃ k:Nat,k≤L.length∧lk 0 σ.t=some (.str S)∧lk 2 σ.t=some (.p 0 0)∧lk 3 σ.t=some (.int .i64 0)∧lk 4 σ.t=some (.int .i64 (pre (·==58) S))∧lk 5 σ.t=some (.o j L.length)∧lk 46 σ.t=some (.o j L.length)∧lk 47 σ.t=some (.int .i64 L.length)∧lk 48 σ.t=some (.int .i64 k) ∧
  σ.b[0]? = some (.cells [.str [],.str []] 123 true)∧σ.b[j]? = some (.own (L.map SV.str) 9 1 L.length true)∧∀ y∈L.take k,PU.bad ∉ aI y) (fun σ=>L.length - fA 48 σ) ⟨0,QA,rfl,rfl,rfl,rfl,rfl,rfl,rfl,rfl,dK,hj,QB⟩ ?_
 clear dK hj bm;rintro⟨t,b⟩ ⟨k,hk,h0,h2,h3,h4,h5,h46,MN,h48,dK,hj,cn⟩;simp only at h0 h2 h3 h4 h5 h46 MN h48 dK hj;rw[ak h48];have kN:∀ X,(b.set 0 X)[0]? = some X:=fun X=>zT6 (zT5.1 dK).1
 by_cases az:k<L.length
 ·have hx:(L.map SV.str)[k * 1]? = some (.str L[k]):=by simp[az]
  have o6:=fH L[k] (zUc az);have pd:=gT L[k];rw[pC QA]at pd;refine gN (zT4 h0 (zT4 h2 (zT4 h3 (zT4 h4 (zT4 h5 (zT4 h46 (zT4 MN (zT4 h48 (zT4 dK (zT4 hj (zT4 kN hx))))))))))) ?_;refine⟨fun _=>⟨⟨QA,QA⟩,QC,?_⟩,fun h=>absurd h QC⟩;by_cases dc:PU.bad∈aI L[k]
  ·rw[if_pos dc]at pd
   rw[if_pos ⟨_,zUc az,dc⟩]
   (refine aa pd ?_;refine gK (zT4 h0 (zT4 h2 (zT4 h3 (zT4 h4 (zT4 h5 (zT4 h46 (zT4 MN (zT4 h48 (zT4 dK (zT4 hj (zT4 kN hx))))))))))) ?_)
   rfl
  ·rw[if_neg dc]at pd
   (refine aa pd ?_;refine gK (zT4 h0 (zT4 h2 (zT4 h3 (zT4 h4 (zT4 h5 (zT4 h46 (zT4 MN (zT4 h48 (zT4 dK (zT4 hj (zT4 kN hx))))))))))) ?_)
   refine⟨⟨QA,QA⟩,⟨k+1,QA,rfl,fun y hy=>?_⟩,?_⟩
   ·rw[zT9 az]at hy
    rcases zUn.1 hy with hy|hy
    ·exact cn y hy
    ·rw[zUo.1 hy];exact dc
   ·rw[ak (k:=.i64) (n:=(k:Int)+1) rfl];omega
 ·have hU:k=L.length:=QA
  subst hU;rw[zUa]at cn;rw[if_neg (fun⟨y,hy,hb⟩=>cn y hy hb)];refine gN (zT4 h0 (zT4 h2 (zT4 h3 (zT4 h4 (zT4 h5 (zT4 h46 (zT4 MN (zT4 h48 (zT4 dK (zT4 hj kN)))))))))) ?_;refine⟨fun h=>absurd h QB,fun _=>?_⟩;have hbad2:∀ y∈L,PU.bad ∉ aI y:=cn;clear cn h46 MN h48 az hk;refine ax (fun σ=>∃ k:Nat,k≤L.length∧lk 0 σ.t=some (.str S)∧lk 2 σ.t=some (.p 0 0)∧lk 3 σ.t=some (.int .i64 0)∧lk 4 σ.t=some (.int .i64 (pre (·==58) S))∧lk 5 σ.t=some (.o j L.length)∧lk 61 σ.t=some (.o j L.length)∧lk 62 σ.t=some (.int .i64 L.length)∧lk 63 σ.t=some (.int .i64 k)∧lk 10 σ.t=some (.str (gr (L.take k))) ∧
   σ.b[0]? = some (.cells [.str [],.str []] 123 true)∧σ.b[j]? = some (.own (L.map SV.str) 9 1 L.length true)∧(L.take k).all fh=true) (fun σ=>L.length - fA 63 σ) ⟨0,QA,h0,h2,h3,h4,h5,rfl,rfl,rfl,rfl,dK,hj,rfl⟩ ?_
  clear dK hj h0 h2 h3 h4 h5 kN;rintro⟨t,b⟩ ⟨k,hk,h0,h2,h3,h4,h5,MM,ML,yq,eB,dK,hj,cn⟩;simp only at h0 h2 h3 h4 h5 MM ML yq eB dK hj;have kN:∀ X,(b.set 0 X)[0]? = some X:=fun X=>zT6 (zT5.1 dK).1
  rw[ak yq];by_cases az:k<L.length
  ·have hx:(L.map SV.str)[k * 1]? = some (.str L[k]):=by simp[az]
   have o6:=fH L[k] (zUc az);have hxb:=hbad2 L[k] (zUc az);refine gN (zT4 h0 (zT4 h2 (zT4 h3 (zT4 h4 (zT4 h5 (zT4 MM (zT4 ML (zT4 yq (zT4 eB (zT4 dK (zT4 hj (zT4 kN hx)))))))))))) ?_;refine⟨fun _=>⟨⟨QA,QA⟩,QC,?_⟩,fun h=>absurd h QC⟩;have hidl:=Dq (L.take k);have hid2:(L.take k).flatten.length≤4097 * 4097:=JW (n:=4097) (m:=4097) QC (fun y hy=>by have:=fH y (List.mem_of_mem_take hy);omega) (Nat.le_refl _);have htl:(L.take k).length≤4097:=by simp;omega
   have hsj:=Bg az;have hxa:fh L[k]=false→L.all fh=false:=fun h=>cX az h
   have qZ:fh L[k]=true→(L.take (k+1)).all fh=true:=fun h=>bq az cn h
   clear cn;generalize L[k]=x at *;refine ax (fun σ=>∃ i:Nat,i≤x.length∧lk 0 σ.t=some (.str S)∧lk 2 σ.t=some (.p 0 0)∧lk 3 σ.t=some (.int .i64 0)∧lk 4 σ.t=some (.int .i64 (pre (·==58) S))∧lk 5 σ.t=some (.o j L.length)∧lk 61 σ.t=some (.o j L.length)∧lk 62 σ.t=some (.int .i64 L.length)∧lk 63 σ.t=some (.int .i64 k)∧lk 11 σ.t=some (.int .i64 k)∧lk 10 σ.t=some (.str (gr (L.take k)))∧lk 12 σ.t=some (.str x)∧lk 13 σ.t=some (.int .i64 i) ∧
    σ.b[0]? = some (.cells [.str [],.str []] 123 true)∧σ.b[j]? = some (.own (L.map SV.str) 9 1 L.length true)∧(x.take i).all (fun c=>dy c||c==37)=true) (fun σ=>x.length - fA 13 σ) ⟨0,QA,h0,h2,h3,h4,h5,MM,ML,yq,rfl,eB,rfl,rfl,dK,hj,rfl⟩ ?_
   clear dK hj h0 h2 h3 h4 h5 kN MM ML yq eB;rintro⟨t,b⟩ ⟨i,hi,h0,h2,h3,h4,h5,MM,ML,yq,fM,eB,qq,gO,dK,hj,cn⟩;simp only at h0 h2 h3 h4 h5 MM ML yq fM eB qq gO dK hj;have kN:∀ X,(b.set 0 X)[0]? = some X:=fun X=>zT6 (zT5.1 dK).1
   rw[ak gO];by_cases dJ:i<x.length
   ·have hg:x.getD i 0=x[i]:=by simp[zUg,dJ]
    refine gN (zT4 h0 (zT4 h2 (zT4 h3 (zT4 h4 (zT4 h5 (zT4 MM (zT4 ML (zT4 yq (zT4 eB (zT4 dK (zT4 hj (zT4 kN (zT4 fM (zT4 qq (zT4 gO hg))))))))))))))) ?_;refine⟨fun _=>⟨⟨QA,QA⟩,?_⟩,fun h=>absurd h QC⟩
    (refine aa (xF x[i]) ?_;refine gN (zT4 h0 (zT4 h2 (zT4 h3 (zT4 h4 (zT4 h5 (zT4 MM (zT4 ML (zT4 yq (zT4 eB (zT4 dK (zT4 hj (zT4 kN (zT4 fM (zT4 qq (zT4 gO hg))))))))))))))) ?_)
    have hb37:=dG dJ 37 (n:=37) rfl;have hb38:((x[i].toNat:Int) != 37)=(x[i] != 37):=by
     show (!_)=(!_);rw[← hb37,hg]
    rw[hb38];have fin:(dy x[i]||x[i]==37)=true→∀ (t':List (Nat × SV)),lk 13 t'=some (.int .i64 ((i:Int)+1))→(∃ m:Nat,m≤x.length∧SV.int IntKind.i64 ((i:Int)+1)=SV.int IntKind.i64 (m:Int)∧(x.take m).all (fun c=>dy c||c==37)=true)∧x.length - fA 13 ⟨t',b⟩<x.length - (i:Int).toNat:=fun hm t' k6 =>
     ⟨⟨i+1,QA,rfl,bq dJ cn hm⟩,by rw[ak (σ:=⟨t',b⟩) k6];omega⟩
    refine⟨fun hp=>⟨⟨QA,QA⟩,fun wR=>?_,fun wR=>⟨⟨QA,QA⟩,fin ?_ _ rfl⟩⟩,fun hp=>⟨⟨QA,QA⟩,fin ?_ _ rfl⟩⟩
    ·rw[if_pos (hxa (cX dJ (by simp at hp wR ⊢;exact⟨hp,wR⟩)))];rfl
    ·simp at wR ⊢;exact .inr wR
    ·simp at hp ⊢;exact .inl hp
   ·have hU:i=x.length:=QA
    subst hU;rw[zUa]at cn;have pd:=gT x;rw[pC QA,if_neg hxb]at pd;simp only at pd;have pe:=nH (ml x) (by have:=oz x;omega);have nr:=iT (ml x);have hdl2:=oz x;refine gN (zT4 h0 (zT4 h2 (zT4 h3 (zT4 h4 (zT4 h5 (zT4 MM (zT4 ML (zT4 yq (zT4 eB (zT4 dK (zT4 hj (zT4 kN (zT4 fM (zT4 qq gO)))))))))))))) ?_;refine⟨fun h=>absurd h QB,fun _=>?_⟩;have hxp:fh x=true:=cn
    (refine aa pd ?_;refine gK (zT4 h0 (zT4 h2 (zT4 h3 (zT4 h4 (zT4 h5 (zT4 MM (zT4 ML (zT4 yq (zT4 eB (zT4 dK (zT4 hj (zT4 kN (zT4 fM (zT4 qq gO)))))))))))))) ?_)
    refine⟨fun h0k=>⟨QA,?_⟩,fun h0k=>?_⟩
    ·(refine aa pe ?_;refine gN (zT4 h0 (zT4 h2 (zT4 h3 (zT4 h4 (zT4 h5 (zT4 MM (zT4 ML (zT4 yq (zT4 eB (zT4 dK (zT4 hj (zT4 kN (zT4 fM (zT4 qq gO)))))))))))))) ?_)
     refine⟨QC,⟨QA,QA⟩,⟨k+1,QA,rfl,?_,qZ hxp⟩,?_⟩
     ·rw[hsj,if_neg (by simp at h0k;omega)]
     ·rw[ak (k:=.i64) (n:=(k:Int)+1) rfl];omega
    ·(refine aa pe ?_;refine gN (zT4 h0 (zT4 h2 (zT4 h3 (zT4 h4 (zT4 h5 (zT4 MM (zT4 ML (zT4 yq (zT4 eB (zT4 dK (zT4 hj (zT4 kN (zT4 fM (zT4 qq gO)))))))))))))) ?_)
     refine⟨QA,⟨QA,QA⟩,⟨k+1,QA,rfl,?_,qZ hxp⟩,?_⟩
     ·rw[hsj,if_pos (by simp at h0k;omega),zUm]
     ·rw[ak (k:=.i64) (n:=(k:Int)+1) rfl];omega
  ·have hU:k=L.length:=QA
   subst hU;rw[zUa]at cn eB;rw[if_neg (by rw[cn];simp)];have hL0:0<L.length:=QA;have hz:(L.map SV.str)[((L.length:Int) - 1).toNat * 1]? = some (.str (L[L.length - 1]'QA)):=by
    rw[show ((L.length:Int) - 1).toNat * 1=L.length - 1 by omega];simp[hL0]
   have Iq:L.getLast? = some (L[L.length - 1]'QA):=by rw[List.getLast?_eq_getElem?];simp[hL0]
   rw[Iq];generalize L[L.length - 1]'QA=z at hz;simp only[zUi.injEq];have hpl2:=cO (·==58) S;refine gN (zT4 h0 (zT4 h2 (zT4 h3 (zT4 h4 (zT4 h5 (zT4 MM (zT4 ML (zT4 yq (zT4 eB (zT4 dK (zT4 hj (zT4 kN hz)))))))))))) ?_;refine⟨fun h=>absurd h QB,fun _=>⟨⟨QA,QA⟩,⟨QA,QA⟩,QC,fun h=>?_,fun h=>?_⟩⟩
   ·rw[if_pos (by simpa using h)];rfl
   ·rw[if_neg (by simpa using h)]
    exact⟨⟨QA,QA⟩,rfl⟩
theorem iH (d:iJ)(h:lp d):PC QH 122 [qc d] (.str (ck d)):=by
 obtain⟨m,i⟩:=d;simp only[lp]at h;refine aU 3000 func122 rfl ntmps122 results122 call122 QB (by simp[flat,flat.ah,qc,dusv]) (by simp[flat,flat.ah,qc,dusv]) ?_;unfold qc;refine bw ?_;simp only[zT7,zT8,zUb];refine⟨QA,QA,QA,?_⟩;simp[ck,rA]
theorem wT {g:Bytes→Bytes}{L:List Bytes}{k:Nat}(h:k<L.length):(L.take (k+1)).flatMap g=(L.take k).flatMap g++g L[k]:=by
 rw[zT9 h,zUk,List.flatMap_cons,List.flatMap_nil,zUm]
theorem pw {g:Bytes→Bytes}{L:List Bytes}{k:Nat}:((L.take k).flatMap g).length≤(L.flatMap g).length:=by
 conv=>rhs;rw[← List.take_append_drop k L]
 rw[zUk,zT7];omega
theorem nc:∀ {l:List Bytes}{x:Bytes},x∈l→x.length≤l.flatten.length
 | y::l,x,h=>by
   rw[List.flatten_cons,zT7];rcases List.mem_cons.1 h with rfl|h
   ·omega
   ·have:=nc h;omega
theorem H2 {u:bN}(h:fT u):Fair u:=by
 have h1:=iV u;have h2:=h.len;obtain⟨-,-,-,k4,k5,k6⟩:=cS h.host;refine⟨?_,QA,QA⟩;have hq:u.query.length≤4096:=by
  cases hb:u.aJ
  ·rw[h.noq hb];simp
  ·have:=h1.2.1 hb;omega
 have hf:u.fragment.length≤4096:=by
  cases hb:u.a8
  ·rw[h.nof hb];simp
  ·have:=h1.2.2 hb;omega
 omega
theorem IG (d:iJ)(h:(gI d).2=0):Fair (gI d).1:=H2 (Ck (d:=d) (u:=(gI d).1) (by rw[← h])).1
theorem D0 (p:Int)(h1:0≤p)(h2:p≤9223372036854775807):PC QH 153 [.int .i64 p] (.str (cf p.natAbs)) :=
 ⟨call153,by simp[flat,flat.ah],by simp[flat,flat.ah],fun w _=>(nG p w QA h2).mono fun _ _ ⟨h,k⟩=>⟨by rw[h,if_neg QA];rfl,k⟩⟩
theorem uy {bs:List aq}(d:iJ)(h:lp d):SC QH 129 [qc d] bs (fun r b=>Kp bs b∧∃ x,r=.eh [x,.agg [.str (bZ d).1.1,.int .i64 (bZ d).1.2],.int .i64 (bZ d).2] ∧
 ((bZ d).2=0→∃ j,x=.o j (aD 58 d.id).length∧bs.length≤j∧b[j]? = some (.own ((aD 58 d.id).map SV.str) 9 1 (aD 58 d.id).length true))):=by
 have pf:=iH d h;have pp:=lY (ck d);have hf:=@Ka d;have hd:=@AX d;refine bp 3000 func129 rfl ntmps129 results129 call129 QB (af bs.length _ (by simp[within,within.av,qc])) ?_;unfold qc;unfold qc at pf pp;unfold bZ;refine gN (zT4 @aB (zT4 @vD (zT4 @oA (zT4 @vC (zT4 @fK (zT4 @ug @rM)))))) ?_;refine⟨fun h1=>?_,fun h1=>?_⟩
 ·rw[if_pos (by simpa[hY] using h1)]
  refine⟨((Kp.refl _).app _).app _,.ai,rfl,fun k=>by simp at k⟩
 have h1:d.method=hY:=by simpa[hY] using h1
 rw[if_neg (by simp[h1])]
 (refine aa pf ?_;refine gN (zT4 @aB (zT4 @vD (zT4 @oA (zT4 @vC (zT4 @fK (zT4 @ug @rM)))))) ?_)
 (refine aa pp ?_;refine gN (zT4 @aB (zT4 @vD (zT4 @oA (zT4 @vC (zT4 @fK (zT4 @ug @rM)))))) ?_)
 refine⟨fun h2=>?_,fun h2=>?_⟩
 ·rw[if_pos (by simpa using h2)]
  refine⟨(((Kp.refl _).app _).app _).app _,.ai,rfl,fun k=>absurd k (by simpa using h2)⟩
 have h2:(bC (ck d)).2=0:=by simpa using h2
 rw[if_neg (by simp[h2])];have hf:=hf h1 h2;have hd:=hd h1 h2;obtain⟨T,hT⟩:=vz 58 d.id;have pd:=gT (aL 58 d.id).1;rw[hf]at pd ⊢;have u3:=jB 58 d.id;have mF:=oz (aL 58 d.id).1;have ph:=zu (ml (aL 58 d.id).1) QA;refine ae (qJ d.id 58 QA) ?_;rintro r b ⟨j,rfl,mG,hj,bm⟩;rw[hT]at hj ⊢;generalize (aL 58 d.id).1=c at *;simp only at mG bm hj;have KJ:=bm.at (vD _ _ _);have gp:Kp bs b:=((((Kp.refl bs).app _).app _).app _).trans bm;have jF:bs.length≤b.length:=gp.1;simp only[zT7,zT8,zUb]at mG;have e9:=(zT5.1 hj).1;have uZ:∀ X:aq,(bs++[X]).length=bs.length+1:=fun X=>QB
 rw[uZ]at KJ;have uY:∀ X,(b.set (bs.length+1) X)[bs.length+1]? = some X:=fun X=>zT6 (zT5.1 KJ).1
 simp only[bJ,↓Xn,↓Xo,↓Xg,↓Xd,↓Xe,↓Xf,Tryz.VΓ,Tryz.Γs,Xp,Xi,Nat.reduceAdd,Nat.reduceSub,Nat.reduceLT,Nat.reduceLeDiff,reduceIte,reduceCtorEq,Nat.reduceEqDiff,implies_true,forall_const,bI,hj,KJ,uZ,uY,List.map_cons,List.getElem?_cons_zero,Int.toNat_zero,Nat.zero_mul];refine⟨⟨QA,QA⟩,?_⟩
 (refine aa pd ?_;refine gN (zT4 hj (zT4 KJ (zT4 uZ uY))) ?_)
 have hzo:=fun X=>ad KJ [X]
 have Iq:=(zT5.1 KJ).1;have fI:∀ X Y,((b++[X]).set (bs.length+1) Y)[bs.length+1]? = some Y:=fun X Y=>zT6 QC
 (refine aa ph ?_;refine gN (zT4 hj (zT4 KJ (zT4 uZ (zT4 uY (zT4 @aB (zT4 @fK (zT4 hzo fI))))))) ?_)
 have bF:¬ b.length=bs.length+1:=QA;refine⟨(by
  refine bt (fun n=>if n=(bs.length+1) then 0 else 1) ?_;simp only[List.map_cons,List.map_nil,cz,dW,reduceIte,bF];exact ao QE),(gp.app _).set QA _,.o j (T.length+1),rfl,fun _=>⟨j,rfl,QA,?_⟩⟩
 rw[zUe QA];exact ad hj _
theorem yg (d:iJ)(h:lp d):PC QH 121 [qc d] (.eh [.agg [.str (bZ d).1.1,.int .i64 (bZ d).1.2],.int .i64 (bZ d).2]):=by
 have hf:=fun(bs:List aq)=>uy (bs:=bs) d h
 unfold qc at hf;refine aU 3000 func121 rfl ntmps121 results121 call121 QB (by simp[flat,flat.ah,qc,cA]) (by simp[flat,flat.ah,qc,cA]) ?_;unfold qc;refine bw ?_;refine ae (hf _) ?_;rintro r b ⟨bm,x,rfl,-⟩;have eZ:=bm.at (j:=1) rfl;have jF:=(zT5.1 eZ).1;have JO:=fun X=>ad eZ [X]
 have Pn:∀ X Y,((b++[X]).set 1 Y)[1]? = some Y:=fun X Y=>zT6 QC
 exact gN (zT4 eZ (zT4 JO (zT4 Pn (zT4 @aB @fK)))) zUr
theorem xE (d:iJ)(h:lp d):PC QH 70 [qc d] (.eh [cA (gI d).1,.int .i64 (gI d).2]):=by
 have hf:=fun(bs:List aq)=>uy (bs:=bs) d h
 have Ey:=@AX d;have hha:=@AB d;unfold qc at hf;unfold gI;generalize bZ d=A at hf hha ⊢;obtain⟨⟨x,p⟩,e⟩:=A;simp only at hf hha ⊢;refine aU 3000 func70 rfl ntmps70 results70 call70 QB (by simp[flat,flat.ah,qc,cA]) (by simp[flat,flat.ah,qc,cA]) ?_;unfold qc;refine bw ?_;refine ae (hf _) ?_;rintro r b ⟨bm,y,rfl,hx⟩;have eZ:=bm.at (j:=1) rfl;have jF:=(zT5.1 eZ).1;have JO:=fun X=>ad eZ [X]
 have Pn:∀ X Y,((b++[X]).set 1 Y)[1]? = some Y:=fun X Y=>zT6 QC
 refine gN (zT4 eZ (zT4 JO (zT4 Pn (zT4 @aB @fK)))) ?_;refine⟨fun h1=>(by rw[if_pos (by simpa using h1)];rfl),fun h1=>?_⟩;have h1:e=0:=by simpa using h1
 rw[if_neg (by simp[h1])];obtain⟨hh,hm,hp⟩:=hha h1;obtain⟨hl,OV⟩:=Ey hm hp;obtain⟨j,rfl,mG,hj⟩:=hx h1;have hsf:=yV 58 d.id;obtain⟨T,hT⟩:=vz 58 d.id;rw[hT]at OV hsf hj ⊢;generalize (aL 58 d.id).1=c at OV hsf hj ⊢;simp only[List.flatten_cons,zT7,zT8,List.tail_cons,List.map_cons]at hsf hj ⊢;have e9:=(zT5.1 hj).1;have hjo:=fun X=>ad hj [X]
 simp only[zT8,zUb]at mG;refine gN (zT4 eZ (zT4 JO (zT4 Pn (zT4 @aB (zT4 @fK (zT4 hj hjo)))))) ?_;refine⟨⟨QA,QA⟩,?_⟩;have e0:T.length+1 - zUj 1=T.length:=by simp
 have e1:List.drop (zUj 1 * 1) (List.take ((T.length+1) * 1) (SV.str c::T.map SV.str))=T.map SV.str:=by
  rw[List.take_of_length_le QB];simp
 simp only[e0,e1];have hfu:=K3 T;have dp:∀ q:Bytes,q.length≤100000→Fair ⟨x,p,q,[],[],false,false⟩:=fun q hq=>by
  obtain⟨-,-,-,k4,k5,k6⟩:=cS hh;exact⟨by simp only[zUb];omega,by simp only;omega,by simp only;omega⟩
 refine ax (fun σ=>∃ k:Nat,k≤T.length∧lk 2 σ.t=some (.p 1 0)∧lk 3 σ.t=some (.int .i64 0)∧lk 4 σ.t=some (.o j (T.length+1))∧lk 5 σ.t=some (.p b.length 0)∧lk 7 σ.t=some (.str ((T.take k).flatMap sr))∧lk 24 σ.t=some (.o (b.length+1) T.length)∧lk 25 σ.t=some (.int .i64 T.length)∧lk 26 σ.t=some (.int .i64 k) ∧
  σ.b[1]? = some (.cells [.str [],.int .i64 0,.str [],.str [],.str [],.bool false,.bool false] 35 true)∧σ.b[b.length]? = some (.cells [.str x,.int .i64 p] 24 true)∧σ.b[b.length+1]? = some (.own (T.map SV.str) 9 1 T.length false)∧(∃ c m,σ.b[j]? = some (.own c 9 1 (T.length+1) m))∧(T.take k).all mN=true) (fun σ=>T.length - fA 26 σ)
  ⟨0,QA,rfl,rfl,rfl,rfl,rfl,rfl,rfl,rfl,ad (by rw[zUe QA];exact JO _) _,ad (by rw[zUe QA];exact aB _ _) _,(by rw[zUd QB];simp),⟨_,_,ad (zT6 QC) _⟩,rfl⟩ ?_
 have hbL:1<b.length:=jF;clear hj hjo eZ JO Pn bm hx;generalize b.length=N at *;rintro⟨t,B⟩ ⟨k,hk,h2,h3,h4,h5,h7,sN,yI,vM,mf,hBN,qw,⟨cj,mj,hBj⟩,cn⟩;simp only at h2 h3 h4 h5 h7 sN yI vM mf hBN qw hBj;rw[ak vM];have nT:=pw (g:=sr) (L:=T) (k:=k);have me:∀ X,(B.set 1 X)[1]? = some X:=fun X=>zT6 (zT5.1 mf).1
 by_cases az:k<T.length
 ·have hx:(T.map SV.str)[k * 1]? = some (.str T[k]):=by simp[az]
  have hsg:=OV T[k] (List.mem_cons_of_mem _ (zUc az));have O9:=wT (g:=sr) az;have pd:=gT T[k];have hup:sr T[k]=47::aH [] (aC T[k]).1:=rfl;have nr:=iw T[k];have Iy:=eO [] (aC T[k]).1;have pe:=mW (aC T[k]).1 [] QA QB;have xP:mN T[k]=!((((aC T[k]).1==[])||((aC T[k]).1==[46]))||((aC T[k]).1==[46,46])):=by
   have wL:(aC T[k]).2=0:=by rw[pC QA,if_neg hsg.1]
   unfold mN;rw[wL];cases h2:(aC T[k]).1==[] <;> cases h3:(aC T[k]).1==[46] <;> cases h4:(aC T[k]).1==[46,46] <;> simp_all [bne]
  have dc:mN T[k]=false→T.all mN=false:=fun h=>cX az h
  have Am:mN T[k]=true→(T.take (k+1)).all mN=true:=fun h=>bq az cn h
  refine gN (zT4 h2 (zT4 h3 (zT4 h4 (zT4 h5 (zT4 h7 (zT4 sN (zT4 yI (zT4 vM (zT4 mf (zT4 hBN (zT4 qw hx))))))))))) ?_;refine⟨fun _=>⟨⟨QA,QA⟩,QC,?_⟩,fun h=>absurd h QC⟩;generalize aC T[k]=X at *;obtain⟨w,ew⟩:=X;simp only at pd pe xP hup nr Iy;have fin:∀ (t':List (Nat × SV)),mN T[k]=true→lk 26 t'=some (.int .i64 ((k:Int)+1))→T.length - fA 26 ⟨t',B⟩<T.length - (k:Int).toNat:=fun t' _ k6=>by rw[ak (σ:=⟨t',B⟩) k6];omega
  (refine aa pd ?_;refine gN (zT4 h2 (zT4 h3 (zT4 h4 (zT4 h5 (zT4 h7 (zT4 sN (zT4 yI (zT4 vM (zT4 mf (zT4 hBN (zT4 qw me))))))))))) ?_)
  refine⟨fun g1=>⟨fun g2=>⟨fun g3=>?_,fun g3=>?_⟩,fun g2=>?_⟩,fun g1=>?_⟩
  ·have hb:=dc (by rw[xP,g3];simp)
   simp only[hb,if_true];rfl
  ·have xP:mN T[k]=true:=by rw[xP,g1,g2,g3];rfl
   (refine aa pe ?_;refine gN (zT4 h2 (zT4 h3 (zT4 h4 (zT4 h5 (zT4 h7 (zT4 sN (zT4 yI (zT4 vM (zT4 mf (zT4 hBN qw)))))))))) ?_)
   refine⟨QA,QA,⟨QA,QA⟩,⟨k+1,QA,by rw[O9,hup],rfl,⟨cj,mj,hBj⟩,Am xP⟩,fin _ xP rfl⟩
  ·have hb:=dc (by rw[xP,g2];simp)
   simp only[hb,if_true];rfl
  ·have hb:=dc (by rw[xP,g1];simp)
   simp only[hb,if_true];rfl
 ·have hU:k=T.length:=QA
  subst hU;rw[zUa]at h7 cn;have KS:decide ((T.length:Int)<T.length)=false:=by simp
  have Px:=(zT5.1 mf).1;have BX:=fun X=>ad mf [X]
  have BW:∀ X Y,((B++[X]).set 1 Y)[1]? = some Y:=fun X Y=>zT6 QC
  have hTl:(((T.length+1:Nat):Int)==1)=decide (T=[]):=by
   cases T <;> simp
   omega
  have hpt:oK T=(if T=[] then [47,46,119,101,108,108,45,107,110,111,119,110] else T.flatMap sr)++[47,100,105,100,46,106,115,111,110]:=by
   unfold oK;by_cases hT:T=[]
   ·rw[if_pos hT,if_pos hT];rfl
   ·rw[if_neg hT,if_neg hT];rfl
  have gz:(oK T).length≤100000:=by rw[hpt];split <;> simp only[zT7,zT8,zUb] <;> omega
  have pf:=fX ⟨x,p,oK T,[],[],false,false⟩ (dp _ gz);unfold cA at pf;simp only at pf;by_cases hT:T=[]
  ·rw[if_pos hT]at hpt
   rw[hpt]at pf ⊢;have hTd:decide (T=[])=true:=decide_eq_true hT;simp only[List.cons_append,List.nil_append]at pf;refine gN (zT4 h2 (zT4 h3 (zT4 h4 (zT4 h5 (zT4 h7 (zT4 sN (zT4 yI (zT4 vM (zT4 mf (zT4 hBN (zT4 qw (zT4 hBj (zT4 BX (zT4 BW (zT4 KS (zT4 cn (zT4 hTl (zT4 hTd (zT4 @aB @fK))))))))))))))))))) ?_
   (refine aa pf ?_;refine gN (zT4 h2 (zT4 h3 (zT4 h4 (zT4 h5 (zT4 h7 (zT4 sN (zT4 yI (zT4 vM (zT4 mf (zT4 hBN (zT4 qw (zT4 hBj (zT4 BX (zT4 BW (zT4 KS (zT4 cn (zT4 hTl (zT4 hTd (zT4 @aB @fK))))))))))))))))))) ?_)
   unfold oa;exact⟨fun hl=>(by rw[if_pos (by simp only[decide_eq_true_eq,decide_eq_false_iff_not]at hl;omega)];rfl),fun hl=>(by rw[if_neg (by simp only[decide_eq_true_eq,decide_eq_false_iff_not]at hl;omega)];rfl)⟩
  ·rw[if_neg hT]at hpt
   rw[hpt]at pf ⊢;have hTd:decide (T=[])=false:=decide_eq_false hT;refine gN (zT4 h2 (zT4 h3 (zT4 h4 (zT4 h5 (zT4 h7 (zT4 sN (zT4 yI (zT4 vM (zT4 mf (zT4 hBN (zT4 qw (zT4 hBj (zT4 BX (zT4 BW (zT4 KS (zT4 cn (zT4 hTl (zT4 hTd (zT4 @aB @fK))))))))))))))))))) ?_;refine⟨QA,?_⟩
   (refine aa pf ?_;refine gN (zT4 h2 (zT4 h3 (zT4 h4 (zT4 h5 (zT4 h7 (zT4 sN (zT4 yI (zT4 vM (zT4 mf (zT4 hBN (zT4 qw (zT4 hBj (zT4 BX (zT4 BW (zT4 KS (zT4 cn (zT4 hTl (zT4 hTd (zT4 @aB @fK))))))))))))))))))) ?_)
   unfold oa;exact⟨fun hl=>(by rw[if_pos (by simp only[decide_eq_true_eq,decide_eq_false_iff_not]at hl;omega)];rfl),fun hl=>(by rw[if_neg (by simp only[decide_eq_true_eq,decide_eq_false_iff_not]at hl;omega)];rfl)⟩
theorem Az (x:Bytes):dV x=(x.all iD&&!((aC x).1==[])):=by
 unfold dV;by_cases h:(aC x).2=0
 ·rw[h];cases x.all iD <;> simp[bne]
 ·have h2:(aC x).1=[]:=by
   unfold aC at h ⊢;split
   ·rfl
   ·split
    ·rfl
    ·rename_i h1 h2;rw[if_neg h1,if_neg h2]at h;exact absurd rfl h
  rw[h2];cases x.all iD <;> simp
theorem rQ {u:bN}{L:List Bytes}(h:u.path=eg→L.all dV=true)(hb:L.all dV=false):mh u L=(iJ.none,110):=by
 unfold mh;rw[if_neg (fun k=>by rw[h k]at hb;cases hb),if_pos hb]
theorem vo {u:bN}{L:List Bytes}(h:L.all dV=true):mh u L=pk ⟨hY,bQ u++if u.path=eg then [] else L.flatMap cT⟩:=by
 unfold mh;by_cases k:u.path=eg
 ·rw[if_pos k,if_pos k,zUm]
 ·rw[if_neg k,if_neg k,if_neg (by rw[h];simp)]
theorem Bx (u:bN)(hk:Fair u):PC QH 188 [cA u] (.eh [qc (lg u).1,.int .i64 (lg u).2]):=by
 have pv1:=oX u hk;have gz:=hk.1;unfold cA at pv1 ⊢;cases hv:bX u
 ·rw[hv]at pv1
  rw[show lg u=(iJ.none,8) from if_pos hv];refine aU 3000 func188 rfl ntmps188 results188 call188 QB (by simp[flat,flat.ah,qc,cA]) (by simp[flat,flat.ah,qc,cA]) ?_;refine bw ?_
  (refine aa pv1 ?_;refine ly ?_)
  rfl
 obtain⟨T,z,hT,Iq,hL0,hp4⟩:=Ff hv;rw[JV hv hT Iq];rw[hv]at pv1;have hsf:=yV 47 u.path;have hpth:u.path=eg→T.dropLast.all dV=true:=by
  intro k;rw[k]at hT;obtain rfl:T=[([46,119,101,108,108,45,107,110,111,119,110]:List UInt8),iA]:=by
   have e:aD 47 eg=[[],([46,119,101,108,108,45,107,110,111,119,110]:List UInt8),iA]:=by decide +kernel
   rw[e]at hT;exact(List.cons.inj hT).2.symm
  decide +kernel
 refine aU 3000 func188 rfl ntmps188 results188 call188 QB (by simp[flat,flat.ah,qc,cA]) (by simp[flat,flat.ah,qc,cA]) ?_;refine bw ?_
 (refine aa pv1 ?_;refine ly ?_)
 refine ae (qJ u.path 47 QA) ?_;rintro r b ⟨j,rfl,mG,hj,bm⟩;rw[hT]at hsf hj ⊢;generalize (aL 47 u.path).1=c at *;clear hT;simp only[List.flatten_cons,zT7,zT8]at hsf;simp only at mG hj bm;have e0:T.length+1 - zUj 1=T.length:=by simp
 have e1:List.drop (zUj 1 * 1) (List.take ((T.length+1) * 1) (SV.str c::T.map SV.str))=T.map SV.str:=by
  rw[List.take_of_length_le QB];simp
 have hz:(T.map SV.str)[((T.length:Int) - 1).toNat * 1]? = some (.str z):=by
  rw[show ((T.length:Int) - 1).toNat * 1=T.length - 1 by omega,List.getElem?_map,← List.getLast?_eq_getElem?,Iq];rfl
 simp only[List.map_cons,zT8]at hj;have e9:=(zT5.1 hj).1;have hjo:=fun X=>ad hj [X]
 have eZ:=bm.at (j:=1) rfl;have dK:=bm.at (j:=0) rfl;have JO:=fun X=>ad eZ [X]
 have hbo0:=fun X=>ad dK [X]
 simp only[zT8,zUb]at mG;have hQ0:∀ Y Z,(b.set j Y++[Z])[0]? = b[0]? := fun Y Z=>by
  rw[zUh (by rw[zUf];omega),zUe QA]
 have hQ1:∀ Y Z,(b.set j Y++[Z])[1]? = b[1]? := fun Y Z=>by
  rw[zUh (by rw[zUf];omega),zUe QA]
 have hQn:∀ Y Z,(b.set j Y++[Z])[b.length]? = some Z:=fun Y Z=>by
  rw[zUd QB];simp
 have hQs:∀ Y Z W,((b.set j Y++[Z]).set 1 W)[1]? = some W:=fun Y Z W=>zT6 QC
 have hzS:(z != [100,105,100,46,106,115,111,110])=(z != iA):=rfl;have hQl:∀ Y Z,(b.set j Y++[Z]).length=b.length+1:=fun Y Z=>QB
 have hD0:∀ Y Z V,(b.set j Y++[Z]++[V])[0]? = b[0]? := fun Y Z V=>by
  rw[zUh QB];exact hQ0 Y Z
 have BV:∀ Y Z V,(b.set j Y++[Z]++[V])[1]? = b[1]? := fun Y Z V=>by
  rw[zUh QC];exact hQ1 Y Z
 have hDn:∀ Y Z V,(b.set j Y++[Z]++[V])[b.length+1]? = some V:=fun Y Z V=>by
  rw[zUd QB];simp
 have hDs:∀ Y Z V X,((b.set j Y++[Z]++[V]).set 1 X)[1]? = some X:=fun Y Z V X=>zT6 QB
 have nr:T.dropLast.length=T.length - 1:=List.length_dropLast ..;have e2:((T.length:Int) - 1).toNat=T.dropLast.length:=QA;have e3:List.take (T.dropLast.length * 1) (T.map SV.str)=T.dropLast.map SV.str:=by
  rw[Nat.mul_one,nr,List.dropLast_eq_take,List.map_take]
 rw[e2]at hz;have hdf:T.dropLast.flatten.length≤T.flatten.length:=by
  rw[List.dropLast_eq_take];have:=congrArg (fun l=>(List.flatten l).length) (List.take_append_drop (T.length - 1) T)
  simp only[List.flatten_append,zT7]at this;omega
 have Pm:=rH hv;obtain⟨-,-,-,k4,k5,k6⟩:=cS Pm.host;have hfd:=C0 T.dropLast;have dp:∀ q:Bytes,q.length≤100000→lp ⟨hY,q⟩:=fun q hq=>⟨show hY.length≤_ by decide,show q.length≤_ by omega⟩
 refine gN (zT4 e0 (zT4 e1 (zT4 e2 (zT4 e3 (zT4 hz (zT4 hj (zT4 hjo (zT4 dK (zT4 eZ (zT4 hQ0 (zT4 hQ1 (zT4 hQn (zT4 hQs (zT4 hQl (zT4 hD0 (zT4 BV (zT4 hDn (zT4 hDs (zT4 @aB hzS))))))))))))))))))) ?_;refine⟨⟨QA,QA⟩,fun hq=>⟨fun hf=>⟨⟨QA,QA⟩,⟨QA,QA⟩,QC,fun KJ=>?_,fun KJ=>⟨⟨QA,QA⟩,⟨QA,QA⟩,fun u3=>?_,fun u3=>?_⟩⟩,fun hf=>?_⟩,fun hq=>?_⟩
 ·rw[if_neg (by rw[hq];simp),if_neg (by rw[hf];simp),if_pos KJ];rfl
 ·rw[if_neg (by rw[hq];simp),if_neg (by rw[hf];simp),if_neg (by rw[KJ];simp),if_pos (by simp at u3;omega)];rfl
 ·rw[if_neg (by rw[hq];simp),if_neg (by rw[hf];simp),if_neg (by rw[KJ];simp),if_neg (by simp at u3;omega)]
  have pn:=D0 u.port QA QA;have hdc:=cJ 19 u.port.natAbs QA;have hxs:∀ x∈T.dropLast,x.length≤4096:=fun x hx=>by
   have:=nc hx
   omega
  have hLl:T.dropLast.length≤5000:=QA;have hfdl:(T.dropLast.flatMap cT).length≤60000:=QA;have hE0:=(hD0 (.own (.str c::T.map SV.str) 9 1 (T.length+1) false) (.own (T.map SV.str) 9 1 T.length false) (.own (T.dropLast.map SV.str) 9 1 T.dropLast.length false)).trans dK;have hE1:=(BV (.own (.str c::T.map SV.str) 9 1 (T.length+1) false) (.own (T.map SV.str) 9 1 T.length false) (.own (T.dropLast.map SV.str) 9 1 T.dropLast.length false)).trans eZ;have hEr:=hDn (.own (.str c::T.map SV.str) 9 1 (T.length+1) false) (.own (T.map SV.str) 9 1 T.length false) (.own (T.dropLast.map SV.str) 9 1 T.dropLast.length false);clear hD0 BV hDn hDs hQ0 hQ1 hQn hQs hQl hz e3 e1 hdf hfd;refine⟨fun hp=>?_,fun hp=>?_⟩
  ·have hp0:¬ u.port=0:=by simpa using hp
   have Hk:u.host++(37::51::65::cf u.port.natAbs)=bQ u:=by unfold bQ;rw[if_neg hp0];rfl
   (refine aa pn ?_;refine bw ?_)
   rw[Hk];have jF:(bQ u).length≤300:=by rw[← Hk];simp only[zT7,zT8];omega
   refine⟨QA,QA,?_⟩;refine ax (fun σ=>∃ k:Nat,k≤T.dropLast.length∧lk 1 σ.t=some (.p 0 0)∧lk 2 σ.t=some (.p 1 0)∧lk 3 σ.t=some (.int .i64 0)∧lk 5 σ.t=some (.str (bQ u++if u.path=eg then [] else(T.dropLast.take k).flatMap cT))∧lk 56 σ.t=some (.o (b.length+1) T.dropLast.length)∧lk 57 σ.t=some (.int .i64 T.dropLast.length)∧lk 58 σ.t=some (.int .i64 k) ∧
    σ.b[0]? = some (.cells [.str u.host,.int .i64 u.port,.str u.path,.str u.query,.str u.fragment,.bool u.aJ,.bool u.a8] 35 true)∧σ.b[1]? = some (.cells [.str [],.str []] 123 true)∧σ.b[b.length+1]? = some (.own (T.dropLast.map SV.str) 9 1 T.dropLast.length false)∧(T.dropLast.take k).all dV=true) (fun σ=>T.dropLast.length - fA 58 σ)
    ⟨0,QA,rfl,rfl,rfl,congrArg (fun x=>some (SV.str x)) (by split <;> simp),rfl,rfl,rfl,hE0,hE1,hEr,rfl⟩ ?_
   generalize b.length=N at *;generalize T.dropLast=L at *;rintro⟨t,B⟩ ⟨k,hk,h1,h2,h3,h5,wQ,sd,tL,nW,mf,qw,cn⟩;simp only at h1 h2 h3 h5 wQ sd tL nW mf qw;rw[ak tL];have me:∀ X,(B.set 1 X)[1]? = some X:=fun X=>zT6 (zT5.1 mf).1
   by_cases az:k<L.length
   ·have hx:(L.map SV.str)[k * 1]? = some (.str L[k]):=by simp[az]
    have o6:=hxs L[k] (zUc az);have O9:=wT (g:=cT) az;have dc:dV L[k]=false→L.all dV=false:=fun h=>cX az h
    have Am:dV L[k]=true→(L.take (k+1)).all dV=true:=fun h=>bq az cn h
    refine gN (zT4 h1 (zT4 h2 (zT4 h3 (zT4 h5 (zT4 wQ (zT4 sd (zT4 tL (zT4 nW (zT4 mf (zT4 qw (zT4 hx me))))))))))) ?_;refine⟨fun _=>⟨⟨QA,QA⟩,QC,?_⟩,fun h=>absurd h QC⟩;have hd:=Az L[k];have BK:cT L[k]=58::bf (aC L[k]).1:=rfl;have nr:=iw L[k];have pd:=gT L[k];have pe:=nH (aC L[k]).1 QA;have Iy:=iT (aC L[k]).1;have Hu:=pw (g:=cT) (L:=L) (k:=k);generalize L[k]=x at *;clear hx;refine ax (fun σ=>∃ i:Nat,i≤x.length∧lk 1 σ.t=some (.p 0 0)∧lk 2 σ.t=some (.p 1 0)∧lk 3 σ.t=some (.int .i64 0)∧lk 5 σ.t=some (.str (bQ u++if u.path=eg then [] else(L.take k).flatMap cT))∧lk 56 σ.t=some (.o (N+1) L.length)∧lk 57 σ.t=some (.int .i64 L.length)∧lk 58 σ.t=some (.int .i64 k)∧lk 7 σ.t=some (.str x)∧lk 8 σ.t=some (.int .i64 i) ∧
     σ.b[0]? = some (.cells [.str u.host,.int .i64 u.port,.str u.path,.str u.query,.str u.fragment,.bool u.aJ,.bool u.a8] 35 true)∧σ.b[1]? = some (.cells [.str [],.str []] 123 true)∧σ.b[N+1]? = some (.own (L.map SV.str) 9 1 L.length false)∧(x.take i).all iD=true) (fun σ=>x.length - fA 8 σ)
     ⟨0,QA,h1,h2,h3,h5,wQ,sd,tL,rfl,rfl,nW,mf,qw,rfl⟩ ?_
    clear h1 h2 h3 h5 wQ sd tL nW mf qw me cn hE0 hE1 hEr;rintro⟨t,B⟩ ⟨i,hi,h1,h2,h3,h5,wQ,sd,tL,h7,h8,nW,mf,qw,cn⟩;simp only at h1 h2 h3 h5 wQ sd tL h7 h8 nW mf qw;rw[ak h8];have me:∀ X,(B.set 1 X)[1]? = some X:=fun X=>zT6 (zT5.1 mf).1
    by_cases dJ:i<x.length
    ·have hg:x.getD i 0=x[i]:=by simp[zUg,dJ]
     have OO:iD x[i]=false→L.all dV=false:=fun h=>dc (by rw[hd,cX dJ h];rfl)
     refine gN (zT4 h1 (zT4 h2 (zT4 h3 (zT4 h5 (zT4 wQ (zT4 sd (zT4 tL (zT4 nW (zT4 mf (zT4 qw (zT4 h7 (zT4 h8 (zT4 hg me))))))))))))) ?_;refine⟨fun _=>⟨⟨QA,QA⟩,?_⟩,fun h=>absurd h QC⟩
     (refine aa (eG x[i]) ?_;refine gN (zT4 h1 (zT4 h2 (zT4 h3 (zT4 h5 (zT4 wQ (zT4 sd (zT4 tL (zT4 nW (zT4 mf (zT4 qw (zT4 h7 (zT4 h8 (zT4 hg me))))))))))))) ?_)
     have wR:((x[i].toNat:Int) != 37)=(x[i] != 37):=by
      have:=dG dJ 37 (n:=37) rfl
      show (!_)=(!_)
      rw[← this,hg]
     rw[wR];have fin:iD x[i]=true→∀ (t':List (Nat × SV)),lk 8 t'=some (.int .i64 ((i:Int)+1))→(∃ m:Nat,m≤x.length∧SV.int IntKind.i64 ((i:Int)+1)=SV.int IntKind.i64 (m:Int)∧(x.take m).all iD=true)∧x.length - fA 8 ⟨t',B⟩<x.length - (i:Int).toNat:=fun hm t' k6 =>
      ⟨⟨i+1,QA,rfl,bq dJ cn hm⟩,by rw[ak (σ:=⟨t',B⟩) k6];omega⟩
     refine⟨fun hp=>⟨⟨QA,QA⟩,fun h9=>?_,fun h9=>⟨⟨QA,QA⟩,fin ?_ _ rfl⟩⟩,fun hp=>⟨⟨QA,QA⟩,fin ?_ _ rfl⟩⟩
     ·have hb:=OO (by unfold iD;simp at hp h9 ⊢;exact⟨h9,hp⟩)
      rw[rQ hpth hb];rfl
     ·unfold iD;simp at h9 ⊢;exact .inl h9
     ·unfold iD;simp at hp ⊢;exact .inr hp
    ·have hU:i=x.length:=QA
     subst hU;rw[zUa]at cn;have KS:decide ((x.length:Int)<x.length)=false:=by simp
     generalize aC x=X at *;obtain⟨w,ew⟩:=X;simp only at pd pe hd BK nr Iy;refine gN (zT4 h1 (zT4 h2 (zT4 h3 (zT4 h5 (zT4 wQ (zT4 sd (zT4 tL (zT4 nW (zT4 mf (zT4 qw (zT4 h7 (zT4 h8 (zT4 me KS))))))))))))) ?_
     (refine aa pd ?_;refine gN (zT4 h1 (zT4 h2 (zT4 h3 (zT4 h5 (zT4 wQ (zT4 sd (zT4 tL (zT4 nW (zT4 mf (zT4 qw (zT4 h7 (zT4 h8 me)))))))))))) ?_)
     have tG:∀ (S:Bytes) (t':List (Nat × SV)),dV x=true→S=bQ u++(if u.path=eg then [] else(L.take (k+1)).flatMap cT)→lk 58 t'=some (.int .i64 ((k:Int)+1)) →
      (∃ m:Nat,m≤L.length∧SV.str S=SV.str (bQ u++if u.path=eg then [] else(L.take m).flatMap cT)∧SV.int IntKind.i64 ((k:Int)+1)=SV.int IntKind.i64 (m:Int)∧(L.take m).all dV=true)∧L.length - fA 58 ⟨t',B⟩<L.length - (k:Int).toNat:=fun S t' h hS k6 =>
      ⟨⟨k+1,QA,by rw[hS],rfl,Am h⟩,by rw[ak (σ:=⟨t',B⟩) k6];omega⟩
     refine⟨fun g1=>(by rw[rQ hpth (dc (by rw[hd,g1];simp))];rfl),fun g1=>?_⟩;have hgx:dV x=true:=by rw[hd,cn,g1];rfl
     refine⟨fun g2=>?_,fun g2=>?_⟩
     ·have bF:¬ u.path=eg:=fun e=>by rw[e]at g2;exact absurd g2 QD
      (refine aa pe ?_;refine gN (zT4 h1 (zT4 h2 (zT4 h3 (zT4 h5 (zT4 wQ (zT4 sd (zT4 tL (zT4 nW (zT4 mf (zT4 qw (zT4 h7 (zT4 h8 me)))))))))))) ?_)
      have hle:(bQ u++if u.path=eg then [] else(L.take k).flatMap cT).length≤100000:=by
       rw[if_neg bF,zT7];omega
      refine⟨QA,QA,⟨QA,QA⟩,tG _ _ hgx ?_ rfl⟩;rw[if_neg bF,if_neg bF,O9,BK,List.append_assoc]
     ·have he:u.path=eg:=by simpa[eg] using g2
      refine⟨⟨QA,QA⟩,?_⟩;have:=tG (bQ u++if u.path=eg then [] else(L.take k).flatMap cT) ((58,.int .i64 ((k:Int)+1))::t) hgx (by rw[if_pos he,if_pos he]) rfl
      refine⟨?_,?_⟩
      ·obtain⟨⟨m,q1,q2,q3,q4⟩,-⟩:=this
       exact⟨m,q1,q2,q3,q4⟩
      ·rw[ak (k:=.i64) (n:=(k:Int)+1) rfl];omega
   ·have hU:k=L.length:=QA
    subst hU;rw[zUa]at h5 cn;have KS:decide ((L.length:Int)<L.length)=false:=by simp
    rw[vo cn];have hle:(bQ u++if u.path=eg then [] else L.flatMap cT).length≤100000:=by
     rw[zT7];split
     ·simp;omega
     ·omega
    generalize (bQ u++if u.path=eg then [] else L.flatMap cT)=S at *;have pf:=iH ⟨hY,S⟩ (dp S hle);unfold qc at pf;simp only at pf;have Px:=(zT5.1 mf).1;have BX:=fun X=>ad mf [X]
    have BW:∀ X Y,((B++[X]).set 1 Y)[1]? = some Y:=fun X Y=>zT6 QC
    refine gN (zT4 h1 (zT4 h2 (zT4 h3 (zT4 h5 (zT4 wQ (zT4 sd (zT4 tL (zT4 nW (zT4 mf (zT4 qw (zT4 me (zT4 KS (zT4 BX (zT4 BW (zT4 @aB @fK))))))))))))))) ?_
    (refine aa pf ?_;refine gN (zT4 h1 (zT4 h2 (zT4 h3 (zT4 h5 (zT4 wQ (zT4 sd (zT4 tL (zT4 nW (zT4 mf (zT4 qw (zT4 me (zT4 KS (zT4 BX (zT4 BW (zT4 @aB @fK))))))))))))))) ?_)
    unfold pk;exact⟨fun hl=>(by rw[if_pos (by simp only[decide_eq_true_eq,decide_eq_false_iff_not]at hl;omega)];rfl),fun hl=>(by rw[if_neg (by simp only[decide_eq_true_eq,decide_eq_false_iff_not]at hl;omega)];rfl)⟩
  ·have hp0:u.port=0:=by simpa using hp
   have Hk:u.host=bQ u:=by unfold bQ;rw[if_pos hp0,zUm]
   have jF:(bQ u).length≤300:=by rw[← Hk];omega
   refine ax (fun σ=>∃ k:Nat,k≤T.dropLast.length∧lk 1 σ.t=some (.p 0 0)∧lk 2 σ.t=some (.p 1 0)∧lk 3 σ.t=some (.int .i64 0)∧lk 5 σ.t=some (.str (bQ u++if u.path=eg then [] else(T.dropLast.take k).flatMap cT))∧lk 56 σ.t=some (.o (b.length+1) T.dropLast.length)∧lk 57 σ.t=some (.int .i64 T.dropLast.length)∧lk 58 σ.t=some (.int .i64 k) ∧
    σ.b[0]? = some (.cells [.str u.host,.int .i64 u.port,.str u.path,.str u.query,.str u.fragment,.bool u.aJ,.bool u.a8] 35 true)∧σ.b[1]? = some (.cells [.str [],.str []] 123 true)∧σ.b[b.length+1]? = some (.own (T.dropLast.map SV.str) 9 1 T.dropLast.length false)∧(T.dropLast.take k).all dV=true) (fun σ=>T.dropLast.length - fA 58 σ)
    ⟨0,QA,rfl,rfl,rfl,congrArg (fun x=>some (SV.str x)) (by rw[Hk];split <;> simp),rfl,rfl,rfl,hE0,hE1,hEr,rfl⟩ ?_
   generalize b.length=N at *;generalize T.dropLast=L at *;rintro⟨t,B⟩ ⟨k,hk,h1,h2,h3,h5,wQ,sd,tL,nW,mf,qw,cn⟩;simp only at h1 h2 h3 h5 wQ sd tL nW mf qw;rw[ak tL];have me:∀ X,(B.set 1 X)[1]? = some X:=fun X=>zT6 (zT5.1 mf).1
   by_cases az:k<L.length
   ·have hx:(L.map SV.str)[k * 1]? = some (.str L[k]):=by simp[az]
    have o6:=hxs L[k] (zUc az);have O9:=wT (g:=cT) az;have dc:dV L[k]=false→L.all dV=false:=fun h=>cX az h
    have Am:dV L[k]=true→(L.take (k+1)).all dV=true:=fun h=>bq az cn h
    refine gN (zT4 h1 (zT4 h2 (zT4 h3 (zT4 h5 (zT4 wQ (zT4 sd (zT4 tL (zT4 nW (zT4 mf (zT4 qw (zT4 hx me))))))))))) ?_;refine⟨fun _=>⟨⟨QA,QA⟩,QC,?_⟩,fun h=>absurd h QC⟩;have hd:=Az L[k];have BK:cT L[k]=58::bf (aC L[k]).1:=rfl;have nr:=iw L[k];have pd:=gT L[k];have pe:=nH (aC L[k]).1 QA;have Iy:=iT (aC L[k]).1;have Hu:=pw (g:=cT) (L:=L) (k:=k);generalize L[k]=x at *;clear hx;refine ax (fun σ=>∃ i:Nat,i≤x.length∧lk 1 σ.t=some (.p 0 0)∧lk 2 σ.t=some (.p 1 0)∧lk 3 σ.t=some (.int .i64 0)∧lk 5 σ.t=some (.str (bQ u++if u.path=eg then [] else(L.take k).flatMap cT))∧lk 56 σ.t=some (.o (N+1) L.length)∧lk 57 σ.t=some (.int .i64 L.length)∧lk 58 σ.t=some (.int .i64 k)∧lk 7 σ.t=some (.str x)∧lk 8 σ.t=some (.int .i64 i) ∧
     σ.b[0]? = some (.cells [.str u.host,.int .i64 u.port,.str u.path,.str u.query,.str u.fragment,.bool u.aJ,.bool u.a8] 35 true)∧σ.b[1]? = some (.cells [.str [],.str []] 123 true)∧σ.b[N+1]? = some (.own (L.map SV.str) 9 1 L.length false)∧(x.take i).all iD=true) (fun σ=>x.length - fA 8 σ)
     ⟨0,QA,h1,h2,h3,h5,wQ,sd,tL,rfl,rfl,nW,mf,qw,rfl⟩ ?_
    clear h1 h2 h3 h5 wQ sd tL nW mf qw me cn hE0 hE1 hEr;rintro⟨t,B⟩ ⟨i,hi,h1,h2,h3,h5,wQ,sd,tL,h7,h8,nW,mf,qw,cn⟩;simp only at h1 h2 h3 h5 wQ sd tL h7 h8 nW mf qw;rw[ak h8];have me:∀ X,(B.set 1 X)[1]? = some X:=fun X=>zT6 (zT5.1 mf).1
    by_cases dJ:i<x.length
    ·have hg:x.getD i 0=x[i]:=by simp[zUg,dJ]
     have OO:iD x[i]=false→L.all dV=false:=fun h=>dc (by rw[hd,cX dJ h];rfl)
     refine gN (zT4 h1 (zT4 h2 (zT4 h3 (zT4 h5 (zT4 wQ (zT4 sd (zT4 tL (zT4 nW (zT4 mf (zT4 qw (zT4 h7 (zT4 h8 (zT4 hg me))))))))))))) ?_;refine⟨fun _=>⟨⟨QA,QA⟩,?_⟩,fun h=>absurd h QC⟩
     (refine aa (eG x[i]) ?_;refine gN (zT4 h1 (zT4 h2 (zT4 h3 (zT4 h5 (zT4 wQ (zT4 sd (zT4 tL (zT4 nW (zT4 mf (zT4 qw (zT4 h7 (zT4 h8 (zT4 hg me))))))))))))) ?_)
     have wR:((x[i].toNat:Int) != 37)=(x[i] != 37):=by
      have:=dG dJ 37 (n:=37) rfl
      show (!_)=(!_)
      rw[← this,hg]
     rw[wR];have fin:iD x[i]=true→∀ (t':List (Nat × SV)),lk 8 t'=some (.int .i64 ((i:Int)+1))→(∃ m:Nat,m≤x.length∧SV.int IntKind.i64 ((i:Int)+1)=SV.int IntKind.i64 (m:Int)∧(x.take m).all iD=true)∧x.length - fA 8 ⟨t',B⟩<x.length - (i:Int).toNat:=fun hm t' k6 =>
      ⟨⟨i+1,QA,rfl,bq dJ cn hm⟩,by rw[ak (σ:=⟨t',B⟩) k6];omega⟩
     refine⟨fun hp=>⟨⟨QA,QA⟩,fun h9=>?_,fun h9=>⟨⟨QA,QA⟩,fin ?_ _ rfl⟩⟩,fun hp=>⟨⟨QA,QA⟩,fin ?_ _ rfl⟩⟩
     ·have hb:=OO (by unfold iD;simp at hp h9 ⊢;exact⟨h9,hp⟩)
      rw[rQ hpth hb];rfl
     ·unfold iD;simp at h9 ⊢;exact .inl h9
     ·unfold iD;simp at hp ⊢;exact .inr hp
    ·have hU:i=x.length:=QA
     subst hU;rw[zUa]at cn;have KS:decide ((x.length:Int)<x.length)=false:=by simp
     generalize aC x=X at *;obtain⟨w,ew⟩:=X;simp only at pd pe hd BK nr Iy;refine gN (zT4 h1 (zT4 h2 (zT4 h3 (zT4 h5 (zT4 wQ (zT4 sd (zT4 tL (zT4 nW (zT4 mf (zT4 qw (zT4 h7 (zT4 h8 (zT4 me KS))))))))))))) ?_
     (refine aa pd ?_;refine gN (zT4 h1 (zT4 h2 (zT4 h3 (zT4 h5 (zT4 wQ (zT4 sd (zT4 tL (zT4 nW (zT4 mf (zT4 qw (zT4 h7 (zT4 h8 me)))))))))))) ?_)
     have tG:∀ (S:Bytes) (t':List (Nat × SV)),dV x=true→S=bQ u++(if u.path=eg then [] else(L.take (k+1)).flatMap cT)→lk 58 t'=some (.int .i64 ((k:Int)+1)) →
      (∃ m:Nat,m≤L.length∧SV.str S=SV.str (bQ u++if u.path=eg then [] else(L.take m).flatMap cT)∧SV.int IntKind.i64 ((k:Int)+1)=SV.int IntKind.i64 (m:Int)∧(L.take m).all dV=true)∧L.length - fA 58 ⟨t',B⟩<L.length - (k:Int).toNat:=fun S t' h hS k6 =>
      ⟨⟨k+1,QA,by rw[hS],rfl,Am h⟩,by rw[ak (σ:=⟨t',B⟩) k6];omega⟩
     refine⟨fun g1=>(by rw[rQ hpth (dc (by rw[hd,g1];simp))];rfl),fun g1=>?_⟩;have hgx:dV x=true:=by rw[hd,cn,g1];rfl
     refine⟨fun g2=>?_,fun g2=>?_⟩
     ·have bF:¬ u.path=eg:=fun e=>by rw[e]at g2;exact absurd g2 QD
      (refine aa pe ?_;refine gN (zT4 h1 (zT4 h2 (zT4 h3 (zT4 h5 (zT4 wQ (zT4 sd (zT4 tL (zT4 nW (zT4 mf (zT4 qw (zT4 h7 (zT4 h8 me)))))))))))) ?_)
      have hle:(bQ u++if u.path=eg then [] else(L.take k).flatMap cT).length≤100000:=by
       rw[if_neg bF,zT7];omega
      refine⟨QA,QA,⟨QA,QA⟩,tG _ _ hgx ?_ rfl⟩;rw[if_neg bF,if_neg bF,O9,BK,List.append_assoc]
     ·have he:u.path=eg:=by simpa[eg] using g2
      refine⟨⟨QA,QA⟩,?_⟩;have:=tG (bQ u++if u.path=eg then [] else(L.take k).flatMap cT) ((58,.int .i64 ((k:Int)+1))::t) hgx (by rw[if_pos he,if_pos he]) rfl
      refine⟨?_,?_⟩
      ·obtain⟨⟨m,q1,q2,q3,q4⟩,-⟩:=this
       exact⟨m,q1,q2,q3,q4⟩
      ·rw[ak (k:=.i64) (n:=(k:Int)+1) rfl];omega
   ·have hU:k=L.length:=QA
    subst hU;rw[zUa]at h5 cn;have KS:decide ((L.length:Int)<L.length)=false:=by simp
    rw[vo cn];have hle:(bQ u++if u.path=eg then [] else L.flatMap cT).length≤100000:=by
     rw[zT7];split
     ·simp;omega
     ·omega
    generalize (bQ u++if u.path=eg then [] else L.flatMap cT)=S at *;have pf:=iH ⟨hY,S⟩ (dp S hle);unfold qc at pf;simp only at pf;have Px:=(zT5.1 mf).1;have BX:=fun X=>ad mf [X]
    have BW:∀ X Y,((B++[X]).set 1 Y)[1]? = some Y:=fun X Y=>zT6 QC
    refine gN (zT4 h1 (zT4 h2 (zT4 h3 (zT4 h5 (zT4 wQ (zT4 sd (zT4 tL (zT4 nW (zT4 mf (zT4 qw (zT4 me (zT4 KS (zT4 BX (zT4 BW (zT4 @aB @fK))))))))))))))) ?_
    (refine aa pf ?_;refine gN (zT4 h1 (zT4 h2 (zT4 h3 (zT4 h5 (zT4 wQ (zT4 sd (zT4 tL (zT4 nW (zT4 mf (zT4 qw (zT4 me (zT4 KS (zT4 BX (zT4 BW (zT4 @aB @fK))))))))))))))) ?_)
    unfold pk;exact⟨fun hl=>(by rw[if_pos (by simp only[decide_eq_true_eq,decide_eq_false_iff_not]at hl;omega)];rfl),fun hl=>(by rw[if_neg (by simp only[decide_eq_true_eq,decide_eq_false_iff_not]at hl;omega)];rfl)⟩
 ·rw[if_neg (by rw[hq];simp),if_pos hf];rfl
 ·rw[if_pos hq];rfl
theorem ye (d:iJ)(h:lp d):PC QH 120 [qc d] (.eh [qc (gn d).1,.int .i64 (gn d).2]):=by
 have pt:=xE d h;have Pa:=IG d;unfold gn;generalize gI d=X at pt Pa ⊢;obtain⟨u,e⟩:=X;simp only at pt Pa ⊢;refine aU 3000 func120 rfl ntmps120 results120 call120 QB (by simp[flat,flat.ah,qc,cA]) (by simp[flat,flat.ah,qc,cA]) ?_;unfold qc;unfold qc cA at pt;refine bw ?_
 (refine aa pt ?_;refine bw ?_)
 refine⟨fun h1=>(by rw[if_pos (by simpa using h1)];rfl),fun h1=>?_⟩;rw[if_neg (by simpa using h1)];have pf:=Bx u (Pa (by simpa using h1));unfold qc cA at pf
 (refine aa pf ?_;exact bw zUr)
end Go.Proofs.YtnmlimehgifadaaGreatDoor
namespace Wf
open Go Go.RowKit
structure ln where
 kind:Int
 text:Bytes
 host:Bytes
 port:Int
 deriving DecidableEq
def ln.none:ln:=⟨0,[],[],0⟩
def wH (s:Bytes):ln × Int:=if (cw s).2≠0 then(ln.none,(cw s).2) else(⟨1,dZ (cw s).1,(cw s).1.host,0⟩,0)
def wG (s:Bytes):ln × Int:=if (cK s).2≠0 then(ln.none,(cK s).2) else(⟨2,eV (cK s).1,(cK s).1.host,0⟩,0)
def xM (s:Bytes):ln × Int:=if (bz s).2≠0 then(ln.none,(bz s).2) else(⟨3,bh (bz s).1,(bz s).1.host,(bz s).1.port⟩,0)
def ni (c:iJ × Int):ln × Int:=if c.2≠0 then(ln.none,c.2) else if (bZ c.1).2≠0 then(ln.none,(bZ c.1).2) else(⟨4,ck c.1,(bZ c.1).1.1,(bZ c.1).1.2⟩,0)
def xN (s:Bytes):ln × Int:=if (bC s).2≠0 then(ln.none,(bC s).2) else ni (gn (bC s).1)
def GZ:Bytes:=[97,99,99,116]
def Jy:Bytes:=[109,97,105,108,116,111]
def OM:Bytes:=[100,105,100]
def o5 (sch s:Bytes):ln × Int :=
 if sch=GZ then wH s else if sch=Jy then wG s else if sch=dX then xM s else if sch=OM then xN s else(ln.none,60)
def da (s:Bytes):ln × Int :=
 if 4096<s.length then(ln.none,5)
 else if (aL 58 s).2.2=false then(ln.none,60)
 else o5 (lower (aL 58 s).1) s
def nf (i:ln):Bool:=decide (da i.text=(i,0))
theorem G1 (c:iJ × Int)(h:(ni c).2≠0):(ni c).1=ln.none:=by
 unfold ni at h ⊢;split
 ·rfl
 rename_i h1
 rw[if_neg h1]at h;split
 ·rfl
 rename_i h2
 rw[if_neg h2]at h;exact absurd rfl h
theorem G0 (s:Bytes)(h:(da s).2≠0):(da s).1=ln.none:=by
 unfold da at h ⊢;split
 ·rfl
 rename_i h1
 rw[if_neg h1]at h;split
 ·rfl
 rename_i h2
 rw[if_neg h2]at h;unfold o5 at h ⊢;split
 ·rename_i k;rw[if_pos k]at h
  unfold wH at h ⊢;split
  ·rfl
  ·rename_i h3;rw[if_neg h3]at h;exact absurd rfl h
 rename_i k;rw[if_neg k]at h;clear k
 split
 ·rename_i k;rw[if_pos k]at h
  unfold wG at h ⊢;split
  ·rfl
  ·rename_i h3;rw[if_neg h3]at h;exact absurd rfl h
 rename_i k;rw[if_neg k]at h;clear k
 split
 ·rename_i k;rw[if_pos k]at h
  unfold xM at h ⊢;split
  ·rfl
  ·rename_i h3;rw[if_neg h3]at h;exact absurd rfl h
 rename_i k;rw[if_neg k]at h;clear k
 split
 ·rename_i k;rw[if_pos k]at h
  unfold xN at h ⊢;split
  ·rfl
  ·rename_i h3;rw[if_neg h3]at h;exact G1 _ h
 ·rfl
theorem o4 {p:Bytes}{r:Bytes}(hp:(58:UInt8) ∉ p)(hl:(p++58::r).length≤4096):da (p++58::r)=o5 (lower p) (p++58::r):=by
 unfold da;rw[if_neg QA,je (fk hp),if_neg QB]
theorem OK {s:Bytes}{i:ln}(h:da s=(i,0)):da i.text=(i,0)∧aN (bu i.host i.port)=((i.host,i.port),0) ∧
 ((∃ a:qt,i.kind=1∧i.text=dZ a∧i.host=a.host∧i.port=0)∨(∃ m:oD,i.kind=2∧i.text=eV m∧i.host=m.host∧i.port=0) ∨
  (∃ u:bN,i.kind=3∧i.text=bh u∧fT u∧i.host=u.host∧i.port=u.port) ∨
  (∃ (c:iJ) (u:bN) (r:Bytes),i.kind=4∧i.text=ck c∧c.method=hY∧c.id=bQ u++r∧i.host=u.host∧i.port=u.port)):=by
 have O3:∀ {x:Bytes},cp x=(x,0)→aN (bu x 0)=((x,0),0):=by
  intro x hx;have tL:(58:UInt8) ∉ x:=fun k=>by
   have:=nk hx _ k
   revert this;decide
  have e:bu x 0=x:=if_pos rfl;rw[e];unfold aN;rw[gH (fk tL)];simp only;unfold db;rw[hx];simp
 unfold da at h;split at h
 ·simp at h
 split at h
 ·simp at h
 rename_i h1 h2
 unfold o5 at h;split at h
 ·unfold wH at h
  split at h
  ·rename_i k;exact absurd (zUl.inj h).2 k
  rename_i k
  have e:cw s=((cw s).1,0):=by
   have:(cw s).2=0:=by simpa using k
   rw[← this]
  obtain⟨c1,c2,c3⟩:=AZ e;obtain⟨b1,b2⟩:=M8 e;generalize (cw s).1=a at *;obtain rfl:=(zUl.inj h).1;refine⟨?_,O3 c1.host,.inl ⟨a,rfl,rfl,rfl,rfl⟩⟩;have ea:dZ a=GZ++58::(a.user++[64]++a.host):=by simp[dZ,qg,GZ]
  simp only;rw[ea,o4 QD (by rw[← ea];omega),← ea];unfold o5;rw[if_pos QD];unfold wH;rw[b1];simp
 split at h
 ·unfold wG at h
  split at h
  ·rename_i k;exact absurd (zUl.inj h).2 k
  rename_i k
  have e:cK s=((cK s).1,0):=by
   have:(cK s).2=0:=by simpa using k
   rw[← this]
  have c1:=Gz e;have b1:=Mb c1;generalize (cK s).1=a at *;obtain rfl:=(zUl.inj h).1;refine⟨?_,O3 c1.host,.inr (.inl ⟨a,rfl,rfl,rfl,rfl⟩)⟩;have ea:eV a=Jy++58::(aH p6 a.loc++[64]++a.host):=by simp[eV,na,Jy]
  have hl:(eV a).length≤4096:=by
   have h1:=eO p6 a.loc;have h2:=qY c1.loc;have h3:=(l6 c1.host).2.1;simp[eV,na];omega
  simp only;rw[ea,o4 QD (by rw[← ea];omega),← ea];unfold o5;rw[if_neg QD,if_pos QD];unfold wG;rw[b1];simp
 split at h
 ·unfold xM at h
  split at h
  ·rename_i k;exact absurd (zUl.inj h).2 k
  rename_i k
  have e:bz s=((bz s).1,0):=by
   have:(bz s).2=0:=by simpa using k
   rw[← this]
  have c1:=jC e;generalize (bz s).1=a at *;obtain rfl:=(zUl.inj h).1;refine⟨?_,c1.host,.inr (.inr (.inl ⟨a,rfl,rfl,c1,rfl,rfl⟩))⟩;have ea:bh a=dX++58::([47,47]++bu a.host a.port++bK a++(if a.a8 then [35]++a.fragment else [])):=by simp[bh,dX]
  simp only;rw[ea,o4 QD (by rw[← ea];exact c1.len),← ea];unfold o5;rw[if_neg QD,if_neg QD,if_pos QD];unfold xM;rw[c1.parse];simp
 split at h
 ·unfold xN at h
  split at h
  ·rename_i k;exact absurd (zUl.inj h).2 k
  unfold ni at h;split at h
  ·rename_i k;exact absurd (zUl.inj h).2 k
  rename_i k1 k2
  split at h
  ·rename_i k;exact absurd (zUl.inj h).2 k
  have e:gn (bC s).1=((gn (bC s).1).1,0):=by
   have:(gn (bC s).1).2=0:=by simpa using k2
   rw[← this]
  obtain⟨u,d1,d2,d3,d4,d5,d6,⟨r,d7⟩,d8⟩:=nR e;generalize (gn (bC s).1).1=c at *;rw[d5]at h;obtain rfl:=(zUl.inj h).1;refine⟨?_,d1.host,.inr (.inr (.inr ⟨c,u,r,rfl,rfl,d8,d7,rfl,rfl⟩))⟩;have ea:ck c=OM++58::(c.method++[58]++c.id):=by simp[ck,rA,OM]
  have hl:=(EI d6).2.2.1;simp only;rw[ea,o4 QD (by rw[← ea];omega),← ea];unfold o5;rw[if_neg QD,if_neg QD,if_neg QD,if_pos QD];unfold xN;rw[d6];simp only[ne_eq,not_true,if_false];unfold ni;rw[d4];simp only[ne_eq,not_true,if_false];rw[d5];simp
 ·simp at h
end Wf
namespace Go.Proofs.YtnmlimehgifadaaGreatDoor
open Go Vc Go.RowKit Wf
def asv (a:qt):SV:=.agg [.str a.user,.str a.host]
theorem Gh (a:qt)(h:a.user.length≤140737488355328∧a.host.length≤140737488355328):PC QH 62 [asv a] (.str (dZ a)):=by
 refine aU 3000 func62 rfl ntmps62 results62 call62 QB (by simp[flat,flat.ah,asv]) (by simp[flat,flat.ah,asv]) ?_;unfold asv;refine bw ?_;refine⟨QA,QA,by simp only[zT7,zT8,zUb];omega,?_⟩;simp[dZ,qg]
theorem Jd (s:Bytes):PC QH 61 [.str s] (.eh [asv (cw s).1,.int .i64 (cw s).2]):=by
 have pe:=iN (s.take 5) qg QC QD;rw[show lower qg=qg by decide]at pe;refine aU 3000 func61 rfl ntmps61 results61 call61 QB (by simp[flat,flat.ah]) (by simp[flat,flat.ah,asv]) ?_;refine bw ?_;unfold cw;refine⟨fun h=>?_,fun h=>⟨fun h2=>⟨⟨QA,(by simp at h2;omega)⟩,?_⟩,fun h2=>?_⟩⟩
 ·have h:4096<s.length:=(by simp at h;omega)
  rw[if_pos h];rfl
 ·have h:¬ 4096<s.length:=(by simp at h;omega)
  have h2:¬ s.length<5:=(by simp at h2;omega);rw[if_neg h]
  (refine aa pe ?_;simp only[bJ,↓Xn,↓Xo,↓Xg,↓Xd,↓Xe,↓Xf,Tryz.VΓ,Tryz.Γs,Xp,Xi,Nat.reduceAdd,Nat.reduceSub,Nat.reduceLT,Nat.reduceLeDiff,reduceIte,reduceCtorEq,Nat.reduceEqDiff,implies_true,forall_const,bI,Int.reduceToNat])
  refine⟨fun h3=>?_,fun h3=>⟨⟨QA,QA⟩,?_⟩⟩
  ·rw[if_pos (.inr (by simpa using h3))];rfl
  rw[if_neg (by simp only[not_or];exact⟨h2,by simpa using h3⟩)];have hS:(s.drop 5).length≤4096:=by simp;omega
  generalize s.drop 5=S at hS ⊢;have pi:=bG S [64] QA QD;rw[show (List.contains [64] ·:UInt8→Bool)=(·==64) from by funext c;simp;exact(Bool.beq_eq_decide_eq _ _).symm]at pi;have gz:=cO (·==64) S;unfold vF
  (refine aa pi ?_;refine bw ?_)
  refine⟨fun h4=>?_,fun h4=>?_⟩
  ·have h4:=beq_iff_eq.1 h4
   rw[gH QA];rfl
  have h4:pre (·==64) S<S.length:=by
   have:=beq_eq_false_iff_ne.1 h4
   omega
  rw[show aL 64 S=(S.take (pre (·==64) S),S.drop (pre (·==64) S+1),true) from if_pos h4];simp only[Bool.true_eq_false,if_false];generalize hk:pre (·==64) S=k at *;have pn:=jv (S.take k) wF QD;have ph:=Cz (S.drop (k+1)) QC;generalize bM wF (S.take k)=n at pn ⊢;obtain⟨n,e1⟩:=n;generalize cp (S.drop (k+1))=hh at ph ⊢;obtain⟨hh,e2⟩:=hh;simp only at pn ph;unfold EV;simp only;refine⟨⟨QA,QA⟩,?_⟩
  (refine aa pn ?_;refine bw ?_)
  refine⟨fun h2=>⟨fun h3=>⟨⟨QA,?_⟩,fun h4=>?_,fun h4=>?_⟩,fun h3=>?_⟩,fun h2=>?_⟩
  ·cases n with
   | nil=>simp at h3
   | cons c r=>simp only[zT8];omega
  ·cases n with
   | nil=>simp at h3
   | cons c r =>
     have h4:c=37:=by
      rw[← UInt8.toNat_inj];have:((c.toNat:Int)==37)=true:=h4
      have:=beq_iff_eq.1 this
      have e:(37:UInt8).toNat=37:=rfl;omega
     rw[if_pos (.inr (.inr (by rw[h4];rfl)))];rfl
  ·cases n with
   | nil=>simp at h3
   | cons c r =>
     have h4:c≠37:=by
      rintro rfl;have:(((37:UInt8).toNat:Int)==37)=false:=h4
      simp at this
     rw[if_neg (by simp only[not_or];exact⟨by simpa using h2,QB,by simpa using h4⟩)];refine⟨⟨QA,QA⟩,⟨QA,QA⟩,?_⟩
     (refine aa ph ?_;refine bw ?_)
     refine⟨fun h5=>?_,fun h5=>?_⟩
     ·rw[if_pos (by simpa using h5)];rfl
     ·rw[if_neg (by simpa using h5)];rfl
  ·rw[if_pos (.inr (.inl (by simpa using h3)))];rfl
  ·rw[if_pos (.inl (by simpa using h2))];rfl
 ·have h:¬ 4096<s.length:=(by simp at h;omega)
  have h2:s.length<5:=(by simp at h2;omega);rw[if_neg h,if_pos (.inl h2)];rfl
def kM (i:ln):SV:=.agg [.int .i64 i.kind,.str i.text,.str i.host,.int .i64 i.port]
theorem id_fits (s:Bytes)(h:(cw s).2=0):(cw s).1.user.length≤140737488355328∧(cw s).1.host.length≤140737488355328:=by
 have h1:=(AZ (s:=s) (a:=(cw s).1) (by rw[← h])).2;unfold dZ at h1;simp at h1
 omega
theorem OL (s:Bytes)(h:(cK s).2=0):(cK s).1.loc.length≤300000∧(cK s).1.host.length≤140737488355328:=by
 have h1:=Gz (s:=s) (m:=(cK s).1) (by rw[← h]);have h2:=qY h1.loc;have h3:=(l6 h1.host).2.1;exact⟨QA,QA⟩
theorem LS (s:Bytes):PC QH 65 [.str s] (.eh [kM (xM s).1,.int .i64 (xM s).2]):=by
 have p1:=lW s;have p2:=fun h=>fX (bz s).1 (H2 (jC (s:=s) (u:=(bz s).1) (by rw[← (show (bz s).2=0 from h)])))
 unfold xM;unfold cA at p1 p2
 (refine aU 3000 func65 rfl ntmps65 results65 call65 QB (by simp[flat,flat.ah,kM]) (by simp[flat,flat.ah,kM]) ?_)
 unfold kM;refine ly ?_
 (refine aa p1 ?_;refine ly ?_)
 refine⟨fun h=>?_,fun h=>?_⟩
 ·have h:(bz s).2≠0:=by simpa using h
  simp[h,ln.none]
 ·have h:(bz s).2=0:=by simpa using h
  (refine aW (p2 h) ?_;refine ly ?_)
  simp only[h];exact⟨(ao QE),QB⟩
theorem GX (s:Bytes):lp (bC s).1:=by
 by_cases h:(bC s).2=0
 ·have h1:=EI (s:=s) (d:=(bC s).1) (by rw[← h])
  have h2:=xY (bC s).1;exact⟨QA,QA⟩
 ·rw[EJ s h];exact⟨by decide,by decide⟩
theorem GY {d c:iJ}(h:gn d=(c,0)):lp c:=by
 obtain⟨u,h1,h2,h3,h4,h5,h6,h7,h8⟩:=nR h;have h9:=EI h6;have eB:=xY c;exact⟨QA,QA⟩
theorem id_auth {d c:iJ}(h:gn d=(c,0)):(bZ c).2=0:=by
 obtain⟨u,h1,h2,h3,h4,h5,h6,h7,h8⟩:=nR h;rw[h5]
theorem yd (s:Bytes):PC QH 66 [.str s] (.eh [kM (xN s).1,.int .i64 (xN s).2]):=by
 have p1:=lY s;have p2:=ye (bC s).1 (GX s);unfold xN;unfold qc at p1 p2
 (refine aU 3000 func66 rfl ntmps66 results66 call66 QB (by simp[flat,flat.ah,kM]) (by simp[flat,flat.ah,kM]) ?_)
 unfold kM;refine ly ?_
 (refine aa p1 ?_;refine ly ?_)
 refine⟨fun h=>?_,fun h=>?_⟩
 ·have h:(bC s).2≠0:=by simpa using h
  simp[h,ln.none]
 have h:(bC s).2=0:=by simpa using h
 simp only[h,ne_eq,not_true_eq_false,if_false];generalize hz:gn (bC s).1=z at p2;obtain⟨c,e⟩:=z;simp only at p2
 (refine aa p2 ?_;refine ly ?_)
 refine⟨fun h=>?_,fun h=>?_⟩
 ·have h:e≠0:=by simpa using h
  simp[ni,h,ln.none]
 obtain rfl:e=0:=by simpa using h
 have p3:=yg c (GY hz);have p4:=iH c (GY hz);unfold qc at p3 p4;have ha:=id_auth hz;rw[ha]at p3
 (refine aa (p3) ?_;refine ly ?_)
 (refine aW (p4) ?_;refine ly ?_)
 exact⟨(ao QE),by simp[ni,ha]⟩
theorem id_eqF (a b:ln):(a.kind==b.kind&&(a.text==b.text&&(a.host==b.host&&a.port==b.port)))=decide (a=b):=by
 obtain⟨a1,a2,a3,a4⟩:=a;obtain⟨b1,b2,b3,b4⟩:=b;rw[Bool.eq_iff_iff];simp
theorem Gr (hp:∀ s,PC QH 29 [.str s] (.eh [kM (da s).1,.int .i64 (da s).2]))(i:ln):PC QH 191 [kM i] (.bool (nf i)):=by
 have p1:=hp i.text;unfold kM at p1
 (refine aU 3000 func191 rfl ntmps191 results191 call191 QB (by simp[flat,flat.ah,kM]) (by simp[flat,flat.ah,kM]) ?_)
 unfold kM;refine bw ?_
 (refine aa p1 ?_;refine gN @id_eqF ?_)
 unfold nf;refine⟨fun h=>?_,fun h=>?_⟩
 ·have h:(da i.text).2=0:=by simpa using h
  simp[Prod.ext_iff,h]
 ·have h:¬ (da i.text).2=0:=by simpa using h
  simp[Prod.ext_iff,h]
theorem mX (s:Bytes):PC QH 29 [.str s] (.eh [kM (da s).1,.int .i64 (da s).2]):=by
 (refine aU 3000 func29 rfl ntmps29 results29 call29 QB (by simp[flat,flat.ah,kM]) (by simp[flat,flat.ah,kM]) ?_)
 unfold kM;refine bw ?_;refine⟨fun h=>?_,fun h=>?_⟩
 ·have h:4096<s.length:=by simp at h;omega
  simp[da,h,ln.none]
 have h:s.length≤4096:=by simp at h;omega
 have h0:¬ 4096<s.length:=QA;have fD:pre (fun x=>[58].contains x) s=pre (·==58) s:=by congr 1;funext x;simp only[List.contains_cons,List.contains_nil,Bool.or_false]
 (refine aa (bG s [58] QA QD) ?_;refine bw ?_)
 rw[fD];have hle:=cO (·==(58:UInt8)) s;refine⟨fun h1=>?_,fun h1=>⟨⟨QA,QA⟩,?_⟩⟩
 ·have h1:pre (·==58) s=s.length:=by simp at h1;omega
  simp[da,h0,aL,h1,ln.none]
 have h1:¬ pre (·==58) s=s.length:=by simp at h1;omega
 have hid:da s=o5 (lower (s.take (pre (·==58) s))) s:=by
  unfold da aL;rw[if_neg h0,if_pos (show pre (·==58) s<s.length by omega)];rfl
 rw[hid]
 (refine aa (gU (s.take (pre (·==58) s)) QC) ?_;refine bw ?_)
 generalize lower (s.take (pre (·==58) s))=sch;clear hid h1 hle fD;refine⟨fun k1=>?_,fun k1=>⟨fun k2=>?_,fun k2=>⟨fun k3=>?_,fun k3=>⟨fun k4=>?_,fun k4=>?_⟩⟩⟩⟩
 ·rw[show o5 sch s=wH s by simp at k1;simp[o5,GZ,k1]]
  have p1:=Jd s;have p2:=fun h=>Gh (cw s).1 (id_fits s h)
  unfold wH;unfold asv at p1 p2
  (refine aa p1 ?_;refine ly ?_)
  refine⟨fun h=>?_,fun h=>?_⟩
  ·have h:(cw s).2≠0:=by simpa using h
   simp[h,ln.none]
  ·have h:(cw s).2=0:=by simpa using h
   (refine aW (p2 h) ?_;refine ly ?_)
   simp only[h];exact⟨(ao QE),QB⟩
 ·rw[show o5 sch s=wG s by simp at k1 k2;simp[o5,GZ,Jy,k2]]
  have p1:=Jb s;have p2:=fun h=>Gg (cK s).1 (OL s h)
  unfold wG;unfold msv at p1 p2
  (refine aa p1 ?_;refine ly ?_)
  refine⟨fun h=>?_,fun h=>?_⟩
  ·have h:(cK s).2≠0:=by simpa using h
   simp[h,ln.none]
  ·have h:(cK s).2=0:=by simpa using h
   (refine aW (p2 h) ?_;refine ly ?_)
   simp only[h];exact⟨(ao QE),QB⟩
 ·rw[show o5 sch s=xM s by simp at k1 k2 k3;simp[o5,GZ,Jy,dX,k3]]
  have p1:=LS s;unfold kM at p1
  (refine aa p1 ?_;exact ly zUr)
  try done
 ·rw[show o5 sch s=xN s by simp at k1 k2 k3 k4;simp[o5,GZ,Jy,OM,dX,k4]]
  have p1:=yd s;unfold kM at p1
  (refine aa p1 ?_;exact ly zUr)
  try done
 ·rw[show o5 sch s=(ln.none,60) by simp at k1 k2 k3 k4;simp[o5,GZ,Jy,OM,dX,k1,k2,k3,k4]]
  rfl
theorem fS.roD {i:Nat}{a b:List aq}{L:List Int}(h:fS i a b)(hd:bg a i L):Ro a b:=fun j c e s n hj=>by
 refine h.at hj ?_;rintro rfl;obtain⟨x,hx,-⟩:=hd;rw[hj]at hx;simp at hx
theorem Rs.cell {b:List aq}{x:SV}{L:List Bytes}(h:Rs b x L):Vc.cells x=[x]∧Ip x=false:=by
 rcases h with⟨rfl,-⟩|⟨j,rfl,-⟩ <;> exact⟨rfl,rfl⟩
theorem Rv.cell {b:List aq}{x:SV}{L:List Sv}(h:Rv b x L):Vc.cells x=[x]∧Ip x=false:=by
 rcases h with⟨rfl,-⟩|⟨j,rfl,-⟩ <;> exact⟨rfl,rfl⟩
def Fa (lo:Nat)(bs b:List aq):Prop:=bs.length≤b.length∧∀ k,k<bs.length→(k<lo∨∀ (c:List SV) (e s n:Nat),bs[k]? ≠ some (.own c e s n true))→b[k]? = bs[k]?
theorem Fa.of {lo:Nat}{bs b:List aq}(h:Kp bs b):Fa lo bs b:=⟨h.1,fun k hk _=>h.2 k hk⟩
theorem Fa.set {lo:Nat}{bs b:List aq}{q:Nat}{c:List SV}{e s n:Nat}(hq:bs[q]? = some (.own c e s n true)){X:aq}(h:Fa lo (bs.set q X) b)(hl:lo≤q)(hX:∀ (c:List SV)(e s n:Nat),X≠.own c e s n true):Fa lo bs b:=⟨by simpa using h.1,fun k hk hn=>by
 have bF:q≠k:=by
  rintro rfl;rcases hn with hn|hn
  ·omega
  ·exact hn _ _ _ _ hq
 have:=h.2 k (by simpa using hk) (hn.imp (fun x=>x) (fun hn c e s n hx=>by rw[zUe bF]at hx;exact hn _ _ _ _ hx))
 rwa [zUe bF]at this⟩
theorem Fa.at {lo:Nat}{bs b:List aq}(h:Fa lo bs b){k:Nat}{c:List SV}{T:TypeId}{m:Bool}(hk:bs[k]? = some (.cells c T m)):b[k]? = some (.cells c T m):=(h.2 k (zT5.1 hk).1 (.inr fun c e s n hx=>by rw[hk]at hx;cases hx)).trans hk
theorem Fa.ro {lo:Nat}{bs b:List aq}(h:Fa lo bs b):Ro bs b:=fun j c e s n hj=>(h.2 j (zT5.1 hj).1 (.inr fun c e s n hx=>by rw[hj]at hx;simp at hx)).trans hj
theorem th {lo:Nat}{bs:List aq}(s:Bytes)(hs:s.length≤20000){x:SV}{A:List Bytes}(hx:(x=.ai∧A=[])∨∃ q,x=.o q A.length∧lo<q∧bs[q]? = some (.own (A.map SV.str) 9 1 A.length true))(hA:A.length≤16)(KZ:∀ a∈A,a.length≤20000){y:SV}{L:List Lk}(hy:(y=.ai∧L=[])∨∃ q,y=.o q L.length∧lo<q∧bs[q]? = some (.own (L.flatMap lc) 132 6 L.length true))(hL:L.length≤16)(hLs:∀ l∈L,LkB l) :
 SC QH 77 [.agg [.str s,x,.ai,y]] bs (fun r b=>∃ v,r=.agg (tv v)∧Fa lo bs b∧Tr b 4 v):=by
 rcases hx with⟨rfl,rfl⟩|⟨q1,rfl,l1,h1⟩ <;> rcases hy with⟨rfl,rfl⟩|⟨q2,rfl,l2,h2⟩
 ·exact(iv s hs (.inl ⟨rfl,rfl⟩) hA KZ (.inl ⟨rfl,rfl⟩) hL hLs).mono fun r b ⟨v,e,hk,hT⟩=>⟨v,e,Fa.of hk,hT⟩
 ·refine mP h2 ((iv s hs (.inl ⟨rfl,rfl⟩) hA KZ (.inr ⟨q2,rfl,zT6 (zT5.1 h2).1⟩) hL hLs).mono fun r b ⟨v,e,hk,hT⟩=>⟨v,e,Fa.set h2 (Fa.of hk) QA QB,hT⟩)
 ·refine mP h1 ((iv s hs (.inr ⟨q1,rfl,zT6 (zT5.1 h1).1⟩) hA KZ (.inl ⟨rfl,rfl⟩) hL hLs).mono fun r b ⟨v,e,hk,hT⟩=>⟨v,e,Fa.set h1 (Fa.of hk) QA QB,hT⟩)
 ·have bF:q1≠q2:=by rintro rfl;rw[h1]at h2;simp at h2
  have h2':=aw h2 bF (.own (A.map SV.str) 9 1 A.length false);have mF:=(zT5.1 h2').1;refine mP h1 (mP h2' ((iv s hs (.inr ⟨q1,rfl,aw (zT6 (zT5.1 h1).1) (fun e=>bF e.symm) _⟩) hA KZ (.inr ⟨q2,rfl,zT6 mF⟩) hL hLs).mono fun r b ⟨v,e,hk,hT⟩=>⟨v,e,Fa.set h1 (Fa.set h2' (Fa.of hk) QA QB) QA QB,hT⟩))
structure JInv (bs:List aq) (i:Nat) (x0:SV) (N:List Bytes) (ab kd:Bytes) (vi ji k:Nat) (σ:St):Prop where
 h0:lk 0 σ.t=some (.p i 0)
 h8:lk 8 σ.t=some (.str ab)
 h9:lk 9 σ.t=some (.str kd)
 eB:lk 10 σ.t=some (.p vi 0)
 fM:lk 11 σ.t=some (.p ji 0)
 BZ:lk 50 σ.t=some x0
 BY:lk 51 σ.t=some (.int .i64 N.length)
 E8:lk 52 σ.t=some (.int .i64 k)
 hK:fS i bs σ.b
 hv:σ.b[vi]? = some (.cells [.int .i64 0,.str [],.ai,.ai] 139 true)
 hy:∃ (x y:SV) (A:List Bytes) (K:List Lk) (L:List Int),σ.b[ji]? = some (.cells [.str ab,x,.ai,y] 135 true)∧bg σ.b i L∧A.length+K.length=k∧Le 4096 A∧(∀ l∈K,LkB l) ∧
  ((x=.ai∧A=[])∨∃ q,x=.o q A.length∧ji<q∧σ.b[q]? = some (.own (A.map SV.str) 9 1 A.length true))∧((y=.ai∧K=[])∨∃ q,y=.o q K.length∧ji<q∧σ.b[q]? = some (.own (K.flatMap lc) 132 6 K.length true))
theorem FR {bs:List aq}{i:Nat}{L:List Int}(h:bg bs i L)(id:ln)(hid:id.text.length≤4096){x0:SV}{N:List Bytes}(KK:Rs bs x0 N)(hN:N.length≤8)(HD:Le 4096 N):SC QH 67 [.p i 0,kM id,x0] bs (fun r b=>∃ (s kd:Bytes) (L':List Int),r=.eh [.str s,.str kd]∧s.length≤1048576∧kd.length≤100∧bg b i L'∧fS i bs b):=by
 have dJ:i<bs.length:=by obtain⟨x,hi,-⟩:=h;exact(zT5.1 hi).1
 have Aa:=KK.within;refine bp 3000 func67 rfl ntmps67 results67 call67 QB (af bs.length _ (by simp[within,within.av,kM,dJ,Aa])) ?_;unfold kM;refine dY ?_;refine ae (eF (h.app _) 24 QA) ?_;rintro r b ⟨v,L1,rfl,hv,hD,hk⟩;have hK:=(fS.of (i:=i) ((Kp.refl bs).app _)).trans hk;have mL:=hk.at (aM bs _) QA;have jF:=hK.1;have w1:(v==1)=true∨(v==1)=false:=by cases v==1 <;> simp
 have w2:(v==2)=true∨(v==2)=false:=by cases v==2 <;> simp
 have w3:(v==3)=true∨(v==3)=false:=by cases v==3 <;> simp
 have w4:(v==4)=true∨(v==4)=false:=by cases v==4 <;> simp
 have w5:(v==5)=true∨(v==5)=false:=by cases v==5 <;> simp
 have wk:(id.kind==4)=true∨(id.kind==4)=false:=by cases id.kind==4 <;> simp
 rcases w2 with w2|w2
 ·have w1':(v==1)=false:=by simp at w2 ⊢;omega
  refine gA (zT4 w1' w2) ?_;exact⟨_,_,_,rfl,QB,QB,hD,hK⟩
 rcases w4 with w4|w4
 ·have w1':(v==1)=false:=by simp at w4 ⊢;omega
  have w3':(v==3)=false:=by simp at w4 ⊢;omega
  refine gA (zT4 w1' (zT4 w2 (zT4 w3' w4))) ?_;exact⟨_,_,_,rfl,QB,QB,hD,hK⟩
 have hN20:∀ a∈N,a.length≤20000:=fun a ha=>by have:=HD a ha;omega
 rcases wk with wk|wk
 ·rcases w1 with w1|w1
  rotate_left
  rcases w3 with w3|w3
  rotate_left
  rcases w5 with w5|w5
  all_goals
   refine gA (zT4 w1 (zT4 w2 (zT4 w3 (zT4 w4 (zT4 w5 (zT4 (ad mL) (zT4 mL wk))))))) ?_;refine ae (FH (hD.app _) _ (by first|omega|simp)) ?_;rintro r b2 ⟨S,L2,hSv,Nq,hSok,MI,bS⟩;have hKv:=(hK.app [.cells [.int .i64 0,.str [],.ai,.ai] 139 true]).trans bS;have hv2:=bS.at (aM b _) QA;obtain⟨cx,vx⟩:=KK.cell;obtain⟨cr,vr⟩:=hSv.cell;refine gA (zT4 cx (zT4 vx (zT4 cr vr))) ?_;refine ae (Bl (bs:=b2) _ ?_ (x:=x0) (A:=N) (L:=S) ?_ QA hN20 hSv QA hSok) ?_
   ·first|omega|simp
   ·rcases KK with h0|⟨j,h1,h2⟩
    ·exact .inl h0
    ·refine .inr ⟨j,h1,hKv.at h2 ?_⟩
     rintro rfl;obtain⟨x,hx,-⟩:=h;rw[h2]at hx;simp at hx
   rintro r b3 ⟨tr,rfl,eL,hT⟩;have yp:=hKv.trans (fS.of eL);have Eo:=eL.at hv2;have wO:bg b3 i L2:=MI.ro (eL.2 i (by have:=hKv.1;omega)) eL.ro;refine dY ?_;refine⟨QA,ae (iL wO [_,_] (n:=2) (m:=100) rfl QA ?_ rfl) ?_⟩
   ·simp
   rintro r b4 ⟨kd,L4,rfl,O6,CV,mJ⟩;have sb:=yp.trans mJ;have hv4:=mJ.at Eo QA;have hvl:=(zT5.1 hv4).1;have sv:∀ X,(b4.set b.length X)[b.length]? = some X:=fun X=>zT6 hvl
   obtain⟨t1,t2,t3,t4⟩:=hT.oc;have yH:(one tr.xk&&one tr.xi)=true:=by rw[t3,t4];rfl
   have hT4:Tr (b4.set b.length (.cells (tv tr) 139 true)) 5 tr:=hT.ro ((mJ.roD wO).trans ((Ro.refl b4).cell hv4 _));have sW:=jn QA hT4;have nV:=sb.ic (k:=b.length) QA (.cells (tv tr) 139 true);have sM:=CV.oO hv4 QA (.cells (tv tr) 139 true);unfold tv at sW nV sM;cases hc:(kd==[97,112,112,108,105,99,97,116,105,111,110,47,106,114,100,43,106,115,111,110])
   ·simp only[bJ,↓Xn,↓Xo,↓Xg,↓Xd,↓Xe,↓Xf,Tryz.VΓ,Tryz.Γs,Xp,Xi,Nat.reduceAdd,Nat.reduceSub,Nat.reduceLT,Nat.reduceLeDiff,reduceIte,reduceCtorEq,Nat.reduceEqDiff,implies_true,forall_const,bI,di,beq_self_eq_true,bne_self_eq_false,Int.reduceBEq,Int.reduceBNe,Int.reduceLT,Int.reduceLE,hv4,sv,yH,hc,tv]
    refine ae sW ?_;rintro r b6 ⟨s,e,rfl,hs,lx⟩;refine dY ?_;exact⟨_,_,_,rfl,hs,O6,sM.ro (lx.2 i (by have:=nV.1;omega)) lx.ro,nV.trans (fS.of lx)⟩
   ·simp only[bJ,↓Xn,↓Xo,↓Xg,↓Xd,↓Xe,↓Xf,Tryz.VΓ,Tryz.Γs,Xp,Xi,Nat.reduceAdd,Nat.reduceSub,Nat.reduceLT,Nat.reduceLeDiff,reduceIte,reduceCtorEq,Nat.reduceEqDiff,implies_true,forall_const,bI,di,beq_self_eq_true,bne_self_eq_false,Int.reduceBEq,Int.reduceBNe,Int.reduceLT,Int.reduceLE,hv4,sv,yH,hc,tv]
    refine ae sW ?_;rintro r b6 ⟨s,e,rfl,hs,lx⟩;refine dY ?_;exact⟨_,_,_,rfl,hs,QB,sM.ro (lx.2 i (by have:=nV.1;omega)) lx.ro,nV.trans (fS.of lx)⟩
 ·have o6:=KK.BC
  rcases w1 with w1|w1
  rotate_left
  rcases w3 with w3|w3
  rotate_left
  rcases w5 with w5|w5
  all_goals
   refine gA (zT4 w1 (zT4 w2 (zT4 w3 (zT4 w4 (zT4 w5 (zT4 (ad mL) (zT4 mL (zT4 wk o6)))))))) ?_;refine ax (fun σ=>∃ (k:Nat) (ab kd:Bytes),k≤N.length∧ab.length≤4096∧kd.length≤100∧JInv bs i x0 N ab kd b.length (b.length+1) k σ) (fun σ=>N.length - fA 52 σ) ⟨0,_,_,QA,?_,?_,rfl,rfl,rfl,rfl,rfl,rfl,rfl,rfl,hK.app _,aM b _,⟨.ai,.ai,[],[],_,aY b _ 1,hD.app _,rfl,(fun s hs=>by cases hs),(fun s hs=>by cases hs),.inl ⟨rfl,rfl⟩,.inl ⟨rfl,rfl⟩⟩⟩ ?_
   ·first|omega|simp
   ·simp
   rintro⟨t,b9⟩ ⟨k,ab,kd,hk,hab,O6,h0,h8,h9,eB,fM,BZ,BY,E8,Pw,hv9,x,y,A,K,L9,hj9,MH,hAK,lA,lK,hx,hy⟩;simp only at h0 h8 h9 eB fM BZ BY E8 Pw hv9 hj9 MH hx hy;rw[ak E8];by_cases az:k<N.length
   ·have aK:decide ((k:Int)<N.length)=true:=QF
    rcases KK with⟨rfl,rfl⟩|⟨j,rfl,hj⟩
    ·exact absurd az QB
    have oo:j≠i:=by
     rintro rfl;obtain⟨x,hx,-⟩:=h;rw[hj]at hx;simp at hx
    have r9:=Pw.at hj oo;have BO:(N.map SV.str)[k * 1]? = some (.str N[k]):=by simp[az]
    have hNk:=HD N[k] (zUc az);generalize N[k]=nm at BO hNk;refine gA (zT4 h0 (zT4 h8 (zT4 h9 (zT4 eB (zT4 fM (zT4 BZ (zT4 BY (zT4 E8 (zT4 aK (zT4 r9 BO)))))))))) ?_;refine⟨QA,QC,ae (eF MH 2 QA) ?_⟩;rintro r b1 ⟨v,L1,rfl,hv,BV,cV⟩;have MG:=Pw.trans cV;have hv1:=cV.at hv9 QA;have iQ:=cV.at hj9 QA;have e9:=(zT5.1 iQ).1;have Pq:=MG.1;have eU:∀ (l:List aq) X,(b1++l).set (b.length+1) X=b1.set (b.length+1) X++l:=fun l X=>aQ e9 l X
    have wv:(v==0)=true∨(v==0)=false:=by cases v==0 <;> simp
    have G2:((x=.ai∧A=[])∨∃ q,x=.o q A.length∧b.length+1<q∧b1[q]? = some (.own (A.map SV.str) 9 1 A.length true)):=hx.imp (fun x=>x) (fun⟨q,h1,h2,h3⟩=>⟨q,h1,h2,cV.at h3 QA⟩);have hy1:((y=.ai∧K=[])∨∃ q,y=.o q K.length∧b.length+1<q∧b1[q]? = some (.own (K.flatMap lc) 132 6 K.length true)):=hy.imp (fun x=>x) (fun⟨q,h1,h2,h3⟩=>⟨q,h1,h2,cV.at h3 QA⟩);clear hx hy;have xO:∀ q q':Nat,x=.o q A.length→y=.o q' K.length→q≠q':=by
     rintro q q' rfl rfl rfl;rcases G2 with⟨h0,-⟩|⟨p,h1,-,h3⟩
     ·cases h0
     rcases hy1 with⟨h0,-⟩|⟨p',h1',-,h3'⟩
     ·cases h0
     cases h1
     cases h1'
     rw[h3]at h3';simp at h3'
    rcases wv with wv|wv
    ·have hKB:∀ l∈K++[⟨([115,101,108,102]:List UInt8),[],nm,[]⟩],LkB l:=fun l hl=>by
      rcases zUn.1 hl with hl|hl
      ·exact lK l hl
      ·rw[zUo.1 hl];exact⟨QB,QB,by simp only;omega,QB⟩
     rcases hy1 with⟨rfl,rfl⟩|⟨q,rfl,hq,cM⟩
     ·refine gA (zT4 h0 (zT4 h8 (zT4 h9 (zT4 eB (zT4 fM (zT4 BZ (zT4 BY (zT4 E8 (zT4 wv (zT4 iQ (zT4 (ad iQ) eU))))))))))) ?_
      refine⟨QA,⟨by unfold maxLen;omega,QA⟩,QA,⟨k+1,ab,kd,QA,hab,O6,h0,h8,h9,eB,fM,BZ,BY,rfl,(MG.ic QA _).app _,ad (aw hv1 QA _) _,⟨x,.o (b1.length+1) 1,A,[⟨([115,101,108,102]:List UInt8),[],nm,[]⟩],_,bV e9 _ _,(BV.oO iQ QA _).app _,by simp at hAK ⊢;omega,lA,hKB,G2.imp (fun x=>x) (fun⟨q,h1,h2,h3⟩=>⟨q,h1,h2,ad (aw h3 QA _) _⟩),.inr ⟨b1.length+1,rfl,QA,?_⟩⟩⟩,?_⟩
      ·rw[aX QB];rfl
      ·rw[ak (k:=.i64) (n:=(k:Int)+1) rfl];omega
     ·have jV:=(zT5.1 cM).1
      have nS:∀ (l:List aq) X,(b1++l).set q X=b1.set q X++l:=fun l X=>aQ jV l X
      have yl:=fun Y=>ad (aw iQ (show q≠b.length+1 by omega) Y)
      have fI:∀ (l:List aq) Y X,(b1.set q Y++l).set (b.length+1) X=(b1.set q Y).set (b.length+1) X++l:=fun l Y X=>aQ (by simpa using e9) l X
      simp only[bJ,↓Xn,↓Xo,↓Xg,↓Xd,↓Xe,↓Xf,Tryz.VΓ,Tryz.Γs,Xp,Xi,Nat.reduceAdd,Nat.reduceSub,Nat.reduceLT,Nat.reduceLeDiff,reduceIte,reduceCtorEq,Nat.reduceEqDiff,implies_true,forall_const,bI,di,beq_self_eq_true,bne_self_eq_false,Int.reduceBEq,Int.reduceBNe,Int.reduceLT,Int.reduceLE,h0,h8,h9,eB,fM,BZ,BY,E8,wv,iQ,ad iQ,eU,ad cM,nS,yl,fI,zUf];refine⟨QA,⟨by unfold maxLen;omega,QA⟩,QA,⟨k+1,ab,kd,QA,hab,O6,h0,h8,h9,eB,fM,BZ,BY,rfl,((MG.ic QA _).ic QA _).app _,ad (aw (aw hv1 QA _) QA _) _,⟨x,.o (b1.length+1) (K.length+1),A,K++[⟨([115,101,108,102]:List UInt8),[],nm,[]⟩],_,bV (by simpa using e9) _ _,((BV.set QA cM _).oO (aw iQ QA _) QA _).app _,QC,lA,hKB,G2.imp (fun x=>x) (fun⟨q',h1,h2,h3⟩=>⟨q',h1,h2,ad (aw (aw h3 (fun e=>xO q' q h1 rfl e.symm) _) QA _) _⟩),.inr ⟨b1.length+1,QB,QA,?_⟩⟩⟩,?_⟩
      ·rw[aX QB,zUk,zT7];rfl
      ·rw[ak (k:=.i64) (n:=(k:Int)+1) rfl];omega
    ·have rp:Le 4096 (A++[nm]):=fun l hl=>by
      rcases zUn.1 hl with hl|hl
      ·exact lA l hl
      ·rw[zUo.1 hl];exact hNk
     rcases G2 with⟨rfl,rfl⟩|⟨q,rfl,hq,cM⟩
     ·refine gA (zT4 h0 (zT4 h8 (zT4 h9 (zT4 eB (zT4 fM (zT4 BZ (zT4 BY (zT4 E8 (zT4 wv (zT4 iQ (zT4 (ad iQ) eU))))))))))) ?_
      refine⟨QA,⟨by unfold maxLen;omega,QA⟩,QA,⟨k+1,ab,kd,QA,hab,O6,h0,h8,h9,eB,fM,BZ,BY,rfl,(MG.ic QA _).app _,ad (aw hv1 QA _) _,⟨.o (b1.length+1) 1,y,[nm],K,_,bV e9 _ _,(BV.oO iQ QA _).app _,by simp at hAK ⊢;omega,rp,lK,.inr ⟨b1.length+1,rfl,QA,?_⟩,hy1.imp (fun x=>x) (fun⟨q,h1,h2,h3⟩=>⟨q,h1,h2,ad (aw h3 QA _) _⟩)⟩⟩,?_⟩
      ·rw[aX QB];rfl
      ·rw[ak (k:=.i64) (n:=(k:Int)+1) rfl];omega
     ·have jV:=(zT5.1 cM).1
      have nS:∀ (l:List aq) X,(b1++l).set q X=b1.set q X++l:=fun l X=>aQ jV l X
      have yl:=fun Y=>ad (aw iQ (show q≠b.length+1 by omega) Y)
      have fI:∀ (l:List aq) Y X,(b1.set q Y++l).set (b.length+1) X=(b1.set q Y).set (b.length+1) X++l:=fun l Y X=>aQ (by simpa using e9) l X
      simp only[bJ,↓Xn,↓Xo,↓Xg,↓Xd,↓Xe,↓Xf,Tryz.VΓ,Tryz.Γs,Xp,Xi,Nat.reduceAdd,Nat.reduceSub,Nat.reduceLT,Nat.reduceLeDiff,reduceIte,reduceCtorEq,Nat.reduceEqDiff,implies_true,forall_const,bI,di,beq_self_eq_true,bne_self_eq_false,Int.reduceBEq,Int.reduceBNe,Int.reduceLT,Int.reduceLE,h0,h8,h9,eB,fM,BZ,BY,E8,wv,iQ,ad iQ,eU,ad cM,nS,yl,fI,zUf];refine⟨QA,⟨by unfold maxLen;omega,QA⟩,QA,⟨k+1,ab,kd,QA,hab,O6,h0,h8,h9,eB,fM,BZ,BY,rfl,((MG.ic QA _).ic QA _).app _,ad (aw (aw hv1 QA _) QA _) _,⟨.o (b1.length+1) (A.length+1),y,A++[nm],K,_,bV (by simpa using e9) _ _,((BV.set QA cM _).oO (aw iQ QA _) QA _).app _,QC,rp,lK,.inr ⟨b1.length+1,QB,QA,?_⟩,hy1.imp (fun x=>x) (fun⟨q',h1,h2,h3⟩=>⟨q',h1,h2,ad (aw (aw h3 (xO q q' rfl h1) _) QA _) _⟩)⟩⟩,?_⟩
      ·rw[aX QB,List.map_append,zT7];rfl
      ·rw[ak (k:=.i64) (n:=(k:Int)+1) rfl];omega
   ·have aK:decide ((k:Int)<N.length)=false:=QG
    refine gA (zT4 h0 (zT4 h8 (zT4 h9 (zT4 eB (zT4 fM (zT4 BZ (zT4 BY (zT4 E8 aK)))))))) ?_;refine ae (eF MH 6 QA) ?_;rintro r b1 ⟨v,L1,rfl,hv,BV,cV⟩;have hv1:=cV.at hv9 QA;have iQ:=cV.at hj9 QA;have e9:=(zT5.1 iQ).1;have MG:=Pw.trans cV;have eU:∀ (l:List aq) X,(b1++l).set (b.length+1) X=b1.set (b.length+1) X++l:=fun l X=>aQ e9 l X
    have wv:(v==0)=true∨(v==0)=false:=by cases v==0 <;> simp
    have G2:((x=.ai∧A=[])∨∃ q,x=.o q A.length∧b.length+1<q∧b1[q]? = some (.own (A.map SV.str) 9 1 A.length true)):=hx.imp (fun x=>x) (fun⟨q,h1,h2,h3⟩=>⟨q,h1,h2,cV.at h3 QA⟩);have hy1:((y=.ai∧K=[])∨∃ q,y=.o q K.length∧b.length+1<q∧b1[q]? = some (.own (K.flatMap lc) 132 6 K.length true)):=hy.imp (fun x=>x) (fun⟨q,h1,h2,h3⟩=>⟨q,h1,h2,cV.at h3 QA⟩);clear hx hy;have xO:∀ q q':Nat,x=.o q A.length→y=.o q' K.length→q≠q':=by
     rintro q q' rfl rfl rfl;rcases G2 with⟨h0,-⟩|⟨p,h1,-,h3⟩
     ·cases h0
     rcases hy1 with⟨h0,-⟩|⟨p',h1',-,h3'⟩
     ·cases h0
     cases h1
     cases h1'
     rw[h3]at h3';simp at h3'
    have rp:Le 4096 (A++[ab]):=fun l hl=>by
     rcases zUn.1 hl with hl|hl
     ·exact lA l hl
     ·rw[zUo.1 hl];exact hab
    have lkx:∀ b:List aq,(∃ q,x=.o q A.length∧b[q]? = some (.own (A.map SV.str) 9 1 A.length true))→Vc.cells x=[x]∧Ip x=false:=fun b ⟨q,h,_⟩=>by rw[h];exact⟨rfl,rfl⟩
    obtain⟨cx,vx⟩:Vc.cells x=[x]∧Ip x=false:=by
     rcases G2 with⟨rfl,-⟩|⟨q,rfl,-⟩ <;> exact⟨rfl,rfl⟩
    obtain⟨cy,vy⟩:Vc.cells y=[y]∧Ip y=false:=by
     rcases hy1 with⟨rfl,-⟩|⟨q,rfl,-⟩ <;> exact⟨rfl,rfl⟩
    have hg3:=fun Y l=>bV e9 Y l
    have hs5:∀ (l:List aq) Y X,(b1.set (b.length+1) Y++l).set (b.length+1) X=b1.set (b.length+1) X++l:=fun l Y X=>by rw[aQ (by simpa using e9),List.set_set]
    rcases wv with wv|wv
    ·rcases G2 with⟨rfl,rfl⟩|⟨q,rfl,hq,cM⟩
     ·refine gA (zT4 h0 (zT4 h8 (zT4 h9 (zT4 eB (zT4 fM (zT4 BZ (zT4 BY (zT4 E8 (zT4 wv (zT4 iQ (zT4 (ad iQ) (zT4 eU (zT4 hg3 (zT4 hs5 (zT4 cy vy))))))))))))))) ?_
      refine⟨QA,⟨by unfold maxLen;omega,QA⟩,?_⟩;obtain⟨S,sj,sv,sD,sK,sx,sy,e⟩:∃ S,S[b.length+1]? = some (.cells [.str [104,116,116,112,115,58,47,47,120,46,101,120,97,109,112,108,101,47],SV.o (b1.length+1) 1,.ai,y] 135 true)∧S[b.length]? = some (.cells [.int .i64 0,.str [],.ai,.ai] 139 true)∧bg S i L1∧fS i bs S∧((SV.o (b1.length+1) 1=.ai∧([ab]:List Bytes)=[])∨∃ q,SV.o (b1.length+1) 1=.o q (([ab]:List Bytes)).length∧b.length+1<q∧S[q]? = some (.own ((([ab]:List Bytes)).map SV.str) 9 1 (([ab]:List Bytes)).length true))∧((y=.ai∧K=[])∨∃ q,y=.o q K.length∧b.length+1<q∧S[q]? = some (.own (K.flatMap lc) 132 6 K.length true))∧S=_ :=
       ⟨b1.set (b.length+1) (.cells [.str [104,116,116,112,115,58,47,47,120,46,101,120,97,109,112,108,101,47],.o (b1.length+1) 1,.ai,y] 135 true)++[.own [.str ab] 9 1 1 true,.own [.str ab] 9 1 1 true],bV e9 _ _,ad (aw hv1 QA _) _,(BV.oO iQ QA _).app _,(MG.ic QA _).app _,.inr ⟨b1.length+1,rfl,QA,by rw[aX QB];rfl⟩,hy1.imp (fun x=>x) (fun⟨q,h1,h2,h3⟩=>⟨q,h1,h2,ad (aw h3 QA _) _⟩),rfl⟩
      rw[← e];clear e;refine ae (th (bs:=S) _ ?_ sx ?_ ?_ sy ?_ lK) ?_
      ·(try simp only[zT8,zUb]);omega
      ·(try simp only[zT8,zUb,zT7]);omega
      ·intro a ha;have:=rp a ha;omega
      ·omega
      rintro r b3 ⟨tr,rfl,eL,hT⟩;have hk3l:=eL.1;have fH:=sK.1;have Eo:=eL.at sv;have hvl:=(zT5.1 Eo).1;have hsv:∀ X,(b3.set b.length X)[b.length]? = some X:=fun X=>zT6 hvl
      obtain⟨t1,t2,t3,t4⟩:=hT.oc;have yH:(one tr.xk&&one tr.xi)=true:=by rw[t3,t4];rfl
      have wO:bg b3 i L1:=sD.ro (eL.2 i QA (.inr fun c e s n hx=>by obtain⟨x,hi,-⟩:=sD;rw[hx]at hi;cases hi)) eL.ro;have hT4:Tr (b3.set b.length (.cells (tv tr) 139 true)) 4 tr:=hT.ro ((Ro.refl b3).cell Eo _);have sW:=jn QA hT4;have sM:=wO.oO Eo QA (.cells (tv tr) 139 true);have yp:fS i bs b3:=⟨by have:=sK.1;omega,fun k hk hn=>(eL.2 k QA (.inl QA)).trans (sK.2 k hk hn)⟩;have nV:=yp.ic (k:=b.length) QA (.cells (tv tr) 139 true);unfold tv at sW nV sM;simp only[bJ,↓Xn,↓Xo,↓Xg,↓Xd,↓Xe,↓Xf,Tryz.VΓ,Tryz.Γs,Xp,Xi,Nat.reduceAdd,Nat.reduceSub,Nat.reduceLT,Nat.reduceLeDiff,reduceIte,reduceCtorEq,Nat.reduceEqDiff,implies_true,forall_const,bI,di,beq_self_eq_true,bne_self_eq_false,Int.reduceBEq,Int.reduceBNe,Int.reduceLT,Int.reduceLE,h0,h8,h9,eB,fM,BZ,BY,E8,Eo,hsv,yH,tv];refine ae sW ?_;rintro r b6 ⟨s,e,rfl,hs,lx⟩;refine gA (zT4 h0 (zT4 h8 (zT4 h9 (zT4 eB (zT4 fM (zT4 BZ (zT4 BY E8))))))) ?_;exact⟨_,_,_,rfl,hs,O6,sM.ro (lx.2 i (by simp only[zUf];omega)) lx.ro,nV.trans (fS.of lx)⟩
     ·have jV:=(zT5.1 cM).1
      have nS:∀ (l:List aq) X,(b1++l).set q X=b1.set q X++l:=fun l X=>aQ jV l X
      have yl:=fun Y=>ad (aw iQ (show q≠b.length+1 by omega) Y)
      have fI:∀ (l:List aq) Y X,(b1.set q Y++l).set (b.length+1) X=(b1.set q Y).set (b.length+1) X++l:=fun l Y X=>aQ (by simpa using e9) l X
      have hs6:∀ (l:List aq) Z Y X,((b1.set q Z).set (b.length+1) Y++l).set (b.length+1) X=(b1.set q Z).set (b.length+1) X++l:=fun l Z Y X=>by rw[aQ (by simpa using e9),List.set_set]
      have hg6:=fun Z Y l=>bV (l1:=b1.set q Z) (i:=b.length+1) (by simpa using e9) Y l
      simp only[bJ,↓Xn,↓Xo,↓Xg,↓Xd,↓Xe,↓Xf,Tryz.VΓ,Tryz.Γs,Xp,Xi,Nat.reduceAdd,Nat.reduceSub,Nat.reduceLT,Nat.reduceLeDiff,reduceIte,reduceCtorEq,Nat.reduceEqDiff,implies_true,forall_const,bI,di,beq_self_eq_true,bne_self_eq_false,Int.reduceBEq,Int.reduceBNe,Int.reduceLT,Int.reduceLE,h0,h8,h9,eB,fM,BZ,BY,E8,wv,iQ,ad iQ,eU,hg3,hs5,cy,vy,ad cM,nS,yl,fI,hs6,hg6,zUf];refine⟨QA,⟨by unfold maxLen;omega,QA⟩,?_⟩;obtain⟨S,sj,sv,sD,sK,sx,sy,e⟩:∃ S,S[b.length+1]? = some (.cells [.str [104,116,116,112,115,58,47,47,120,46,101,120,97,109,112,108,101,47],SV.o (b1.length+1) (A.length+1),.ai,y] 135 true)∧S[b.length]? = some (.cells [.int .i64 0,.str [],.ai,.ai] 139 true)∧bg S i L1∧fS i bs S∧((SV.o (b1.length+1) (A.length+1)=.ai∧(A++[ab])=[])∨∃ q,SV.o (b1.length+1) (A.length+1)=.o q ((A++[ab])).length∧b.length+1<q∧S[q]? = some (.own (((A++[ab])).map SV.str) 9 1 ((A++[ab])).length true))∧((y=.ai∧K=[])∨∃ q,y=.o q K.length∧b.length+1<q∧S[q]? = some (.own (K.flatMap lc) 132 6 K.length true))∧S=_ :=
       ⟨(b1.set q .gone).set (b.length+1) (.cells [.str [104,116,116,112,115,58,47,47,120,46,101,120,97,109,112,108,101,47],.o (b1.length+1) (A.length+1),.ai,y] 135 true)++[.own [.str ab] 9 1 1 true,.own (A.map SV.str++[.str ab]) 9 1 (A.length+1) true],hg6 _ _ _,ad (aw (aw hv1 QA _) QA _) _,((BV.set QA cM _).oO (aw iQ QA _) QA _).app _,((MG.ic QA _).ic QA _).app _,.inr ⟨b1.length+1,QB,QA,by rw[aX QB,List.map_append,zT7];rfl⟩,hy1.imp (fun x=>x) (fun⟨q',h1,h2,h3⟩=>⟨q',h1,h2,ad (aw (aw h3 (xO q q' rfl h1) _) QA _) _⟩),rfl⟩
      rw[← e];clear e;refine ae (th (bs:=S) _ ?_ sx ?_ ?_ sy ?_ lK) ?_
      ·(try simp only[zT8,zUb]);omega
      ·(try simp only[zT8,zUb,zT7]);omega
      ·intro a ha;have:=rp a ha;omega
      ·omega
      rintro r b3 ⟨tr,rfl,eL,hT⟩;have hk3l:=eL.1;have fH:=sK.1;have Eo:=eL.at sv;have hvl:=(zT5.1 Eo).1;have hsv:∀ X,(b3.set b.length X)[b.length]? = some X:=fun X=>zT6 hvl
      obtain⟨t1,t2,t3,t4⟩:=hT.oc;have yH:(one tr.xk&&one tr.xi)=true:=by rw[t3,t4];rfl
      have wO:bg b3 i L1:=sD.ro (eL.2 i QA (.inr fun c e s n hx=>by obtain⟨x,hi,-⟩:=sD;rw[hx]at hi;cases hi)) eL.ro;have hT4:Tr (b3.set b.length (.cells (tv tr) 139 true)) 4 tr:=hT.ro ((Ro.refl b3).cell Eo _);have sW:=jn QA hT4;have sM:=wO.oO Eo QA (.cells (tv tr) 139 true);have yp:fS i bs b3:=⟨by have:=sK.1;omega,fun k hk hn=>(eL.2 k QA (.inl QA)).trans (sK.2 k hk hn)⟩;have nV:=yp.ic (k:=b.length) QA (.cells (tv tr) 139 true);unfold tv at sW nV sM;simp only[bJ,↓Xn,↓Xo,↓Xg,↓Xd,↓Xe,↓Xf,Tryz.VΓ,Tryz.Γs,Xp,Xi,Nat.reduceAdd,Nat.reduceSub,Nat.reduceLT,Nat.reduceLeDiff,reduceIte,reduceCtorEq,Nat.reduceEqDiff,implies_true,forall_const,bI,di,beq_self_eq_true,bne_self_eq_false,Int.reduceBEq,Int.reduceBNe,Int.reduceLT,Int.reduceLE,h0,h8,h9,eB,fM,BZ,BY,E8,Eo,hsv,yH,tv];refine ae sW ?_;rintro r b6 ⟨s,e,rfl,hs,lx⟩;refine gA (zT4 h0 (zT4 h8 (zT4 h9 (zT4 eB (zT4 fM (zT4 BZ (zT4 BY E8))))))) ?_;exact⟨_,_,_,rfl,hs,O6,sM.ro (lx.2 i (by simp only[zUf];omega)) lx.ro,nV.trans (fS.of lx)⟩
    ·refine gA (zT4 h0 (zT4 h8 (zT4 h9 (zT4 eB (zT4 fM (zT4 BZ (zT4 BY (zT4 E8 (zT4 wv (zT4 iQ (zT4 cx (zT4 vx (zT4 cy vy))))))))))))) ?_
     obtain⟨S,sj,sv,sD,sK,sx,sy,e⟩:∃ S,S[b.length+1]? = some (.cells [.str ab,x,.ai,y] 135 true)∧S[b.length]? = some (.cells [.int .i64 0,.str [],.ai,.ai] 139 true)∧bg S i L1∧fS i bs S∧((x=.ai∧A=[])∨∃ q,x=.o q (A).length∧b.length+1<q∧S[q]? = some (.own ((A).map SV.str) 9 1 (A).length true))∧((y=.ai∧K=[])∨∃ q,y=.o q K.length∧b.length+1<q∧S[q]? = some (.own (K.flatMap lc) 132 6 K.length true))∧S=_:=⟨b1,iQ,hv1,BV,MG,G2,hy1,rfl⟩;rw[← e];clear e;refine ae (th (bs:=S) _ ?_ sx ?_ ?_ sy ?_ lK) ?_
     ·(try simp only[zT8,zUb]);omega
     ·(try simp only[zT8,zUb,zT7]);omega
     ·intro a ha;have:=lA a ha;omega
     ·omega
     rintro r b3 ⟨tr,rfl,eL,hT⟩;have hk3l:=eL.1;have fH:=sK.1;have Eo:=eL.at sv;have hvl:=(zT5.1 Eo).1;have hsv:∀ X,(b3.set b.length X)[b.length]? = some X:=fun X=>zT6 hvl
     obtain⟨t1,t2,t3,t4⟩:=hT.oc;have yH:(one tr.xk&&one tr.xi)=true:=by rw[t3,t4];rfl
     have wO:bg b3 i L1:=sD.ro (eL.2 i QA (.inr fun c e s n hx=>by obtain⟨x,hi,-⟩:=sD;rw[hx]at hi;cases hi)) eL.ro;have hT4:Tr (b3.set b.length (.cells (tv tr) 139 true)) 4 tr:=hT.ro ((Ro.refl b3).cell Eo _);have sW:=jn QA hT4;have sM:=wO.oO Eo QA (.cells (tv tr) 139 true);have yp:fS i bs b3:=⟨by have:=sK.1;omega,fun k hk hn=>(eL.2 k QA (.inl QA)).trans (sK.2 k hk hn)⟩;have nV:=yp.ic (k:=b.length) QA (.cells (tv tr) 139 true);unfold tv at sW nV sM;simp only[bJ,↓Xn,↓Xo,↓Xg,↓Xd,↓Xe,↓Xf,Tryz.VΓ,Tryz.Γs,Xp,Xi,Nat.reduceAdd,Nat.reduceSub,Nat.reduceLT,Nat.reduceLeDiff,reduceIte,reduceCtorEq,Nat.reduceEqDiff,implies_true,forall_const,bI,di,beq_self_eq_true,bne_self_eq_false,Int.reduceBEq,Int.reduceBNe,Int.reduceLT,Int.reduceLE,h0,h8,h9,eB,fM,BZ,BY,E8,Eo,hsv,yH,tv];refine ae sW ?_;rintro r b6 ⟨s,e,rfl,hs,lx⟩;refine gA (zT4 h0 (zT4 h8 (zT4 h9 (zT4 eB (zT4 fM (zT4 BZ (zT4 BY E8))))))) ?_;exact⟨_,_,_,rfl,hs,O6,sM.ro (lx.2 i (by simp only[zUf];omega)) lx.ro,nV.trans (fS.of lx)⟩
theorem zB (c:UInt8):PC QH 226 [.int .u8 c.toNat] (.bool (bA c)):=by
 refine aU 3000 func226 rfl ntmps226 results226 call226 QB (by simp[flat,flat.ah]) (by simp[flat,flat.ah]) ?_;refine ly ?_;have e1:((c.toNat:Int)==32)=(c==32):=by
  have:=du (p:=fun c=>decide (((c.toNat:Int)==32)=(c==32))) (by decide +kernel) c
  exact of_decide_eq_true this
 have e2:((c.toNat:Int)==9)=(c==9):=by
  have:=du (p:=fun c=>decide (((c.toNat:Int)==9)=(c==9))) (by decide +kernel) c
  exact of_decide_eq_true this
 rw[e1,e2];unfold bA;refine⟨fun h=>by rw[h];simp,fun h=>by rw[h];simp⟩
theorem Cf (r:Bytes)(c:UInt8):((r++[c]).reverse.dropWhile bA).reverse=if bA c then(r.reverse.dropWhile bA).reverse else r++[c]:=by
 rw[List.reverse_append,List.reverse_singleton,List.singleton_append,List.dropWhile_cons];split
 ·rfl
 ·simp
theorem Ec (s:Bytes)(hs:s.length≤9223372036854775807):PC QH 176 [.str s] (.str (trimB s)):=by
 refine aU 3000 func176 rfl ntmps176 results176 call176 QB (by simp[flat,flat.ah]) (by simp[flat,flat.ah]) ?_;refine ly ?_;refine ax (fun σ=>∃ r:Bytes,r.length≤s.length∧r.dropWhile bA=s.dropWhile bA∧lk 0 σ.t=some (.str r)) (fun σ=>match lk 0 σ.t with|some (.str r)=>r.length|_=>0) ⟨s,Nat.le_refl _,rfl,rfl⟩ ?_;rintro⟨t,b⟩ ⟨r,hr,he,g0⟩;simp only at g0;cases r with
 | nil =>
   refine gK g0 ?_;refine⟨fun h=>absurd h QD,fun _=>?_⟩;refine ax (fun σ=>∃ r:Bytes,r.length≤s.length∧(r.reverse.dropWhile bA).reverse=trimB s∧lk 0 σ.t=some (.str r)) (fun σ=>match lk 0 σ.t with|some (.str r)=>r.length|_=>0) ⟨[],QB,by unfold trimB;rw[← he];rfl,g0⟩ ?_;rintro⟨t,b⟩ ⟨r,hr,he,g0⟩;simp only at g0;rcases List.eq_nil_or_concat r with rfl|⟨r,c,rfl⟩
   ·refine gK g0 ?_
    refine⟨fun h=>absurd h QD,fun _=>?_⟩;rw[← he];rfl
   ·simp only[List.concat_eq_append]at hr he g0
    have pb:=zB c;have e1:decide ((0:Int)<((r++[c]).length:Int))=true:=decide_eq_true (by rw[zT7];simp only[zT8];omega);have e3:(((r++[c]).length:Int) - 1).toNat=r.length:=by simp
    have e2:(r++[c]).getD r.length 0=c:=by simp[zUg]
    have e4:(r++[c]).take r.length=r:=by simp
    have hr1:(r++[c]).length=r.length+1:=by simp
    have ht:=Cf r c;refine gK (zT4 g0 (zT4 e1 (zT4 e3 e2))) ?_;refine⟨⟨QA,QA⟩,⟨QA,QA⟩,?_⟩
    (refine aa (pb) ?_;refine gK (zT4 g0 (zT4 e3 e4)) ?_)
    refine⟨fun h=>⟨⟨QA,QA⟩,⟨QA,QA⟩,⟨r,QA,by rw[← he,ht,if_pos h],rfl⟩,QA⟩,fun h=>?_⟩;rw[← he,ht,if_neg (by rw[h];simp)]
 | cons c r =>
   have e1:decide ((0:Int)<((r.length+1:Nat):Int))=true:=QF;have e2:(c::r).getD (zUj 0) 0=c:=rfl;have pb:=zB c;simp only[zT8]at hr;refine gK (zT4 g0 (zT4 e1 e2)) ?_;refine⟨QA,?_⟩
   (refine aa (pb) ?_;refine gK g0 ?_)
   refine⟨fun h=>⟨QA,⟨r,QA,by rw[← he,List.dropWhile_cons,if_pos h],rfl⟩,QB⟩,fun h=>?_⟩;refine ax (fun σ=>∃ r:Bytes,r.length≤s.length∧(r.reverse.dropWhile bA).reverse=trimB s∧lk 0 σ.t=some (.str r)) (fun σ=>match lk 0 σ.t with|some (.str r)=>r.length|_=>0) ⟨c::r,QC,by unfold trimB;rw[← he,List.dropWhile_cons,if_neg (by rw[h];simp)],g0⟩ ?_;rintro⟨t,b⟩ ⟨r,hr,he,g0⟩;simp only at g0;rcases List.eq_nil_or_concat r with rfl|⟨r,c,rfl⟩
   ·refine gK g0 ?_
    refine⟨fun h=>absurd h QD,fun _=>?_⟩;rw[← he];rfl
   ·simp only[List.concat_eq_append]at hr he g0
    have pb:=zB c;have e1:decide ((0:Int)<((r++[c]).length:Int))=true:=decide_eq_true (by rw[zT7];simp only[zT8];omega);have e3:(((r++[c]).length:Int) - 1).toNat=r.length:=by simp
    have e2:(r++[c]).getD r.length 0=c:=by simp[zUg]
    have e4:(r++[c]).take r.length=r:=by simp
    have hr1:(r++[c]).length=r.length+1:=by simp
    have ht:=Cf r c;refine gK (zT4 g0 (zT4 e1 (zT4 e3 e2))) ?_;refine⟨⟨QA,QA⟩,⟨QA,QA⟩,?_⟩
    (refine aa (pb) ?_;refine gK (zT4 g0 (zT4 e3 e4)) ?_)
    refine⟨fun h=>⟨⟨QA,QA⟩,⟨QA,QA⟩,⟨r,QA,by rw[← he,ht,if_pos h],rfl⟩,QA⟩,fun h=>?_⟩;rw[← he,ht,if_neg (by rw[h];simp)]
def xJ (o:Option Nat):SV:=match o with
 | some n=>.eh [.int .u64 n,.bool true]
 | none=>.eh [.int .u64 0,.bool false]
theorem GC (o:Option Nat):flat (xJ o)=true:=by cases o <;> simp[xJ,flat,flat.ah]
theorem sc1_at' (L:List Bytes)(k:Nat)(h:k<L.length):(L.map SV.str)[k * 1]? = some (.str L[k]):=by simp[h]
theorem zA (s:Bytes)(hs:s.length≤1000000):PC QH 179 [.str s] (xJ (gP s)):=by
 have u3:=jB 44 s;have p1:=Ky s 44 QA;generalize hC:(aL 44 s).1=C at p1 u3;have hF:trimB C=trimB (aL 44 s).1:=by rw[hC]
 have p2:=Ec C QA;have hFl:(trimB C).length≤C.length:=by
  unfold trimB;rw[List.length_reverse];refine Nat.le_trans (List.Sublist.length_le (List.dropWhile_sublist _)) ?_;rw[List.length_reverse];exact List.Sublist.length_le (List.dropWhile_sublist _)
 have hb:gP s=if (aD 44 s).all (fun p=>trimB p==trimB C)&&bj (trimB C) then some (if (aF isDigit 10 4611686018427387904 (trimB C)).2=0 then(aF isDigit 10 4611686018427387904 (trimB C)).1 else 4611686018427387904) else none:=by unfold gP;rw[hF]
 rw[hb];generalize trimB C=F at p2 hFl;have p3:=zC F QA;have p4:=Gs F 4611686018427387904 QA QA;have q8:=iK 44 s;have bF:=rL 44 s;have s1:=fun bs=>FG (bs:=bs) s [44] (aD 44 s) (yW 44 _ s (Lib.count_one 44 s).symm) QA QB
 have Iu:=gF 44 s;have fY:=List.count_le_length (a:=(44:UInt8)) (l:=s);generalize aD 44 s=L at q8 bF s1 Iu;refine aU 3000 func179 rfl ntmps179 results179 call179 QB (by simp[flat,flat.ah]) (GC _) ?_;refine ly ?_
 (refine aa (p1) ?_;refine ly ?_)
 (refine aa (p2) ?_;refine ly ?_)
 refine ae (s1 _) ?_;rintro r b ⟨rfl,rfl⟩;refine ly ?_;refine ax (fun σ=>∃ k:Nat,k≤L.length∧lk 4 σ.t=some (.str F)∧lk 20 σ.t=some (.o 0 L.length)∧lk 21 σ.t=some (.int .i64 L.length)∧lk 22 σ.t=some (.int .i64 k)∧σ.b=[.own (L.map SV.str) 9 1 L.length true]∧∀ p∈L.take k,trimB p=F∧bj F=true) (fun σ=>L.length - fA 22 σ) ⟨0,QA,rfl,rfl,rfl,rfl,rfl,QB⟩ ?_;rintro⟨t,b⟩ ⟨k,hk,g4,g20,g21,g22,qv,cn⟩;simp only at g4 g20 g21 g22 qv;subst qv;rw[ak g22];by_cases az:k<L.length
 ·have e1:decide ((k:Int)<L.length)=true:=QF
  have hu:=sc1_at' L k az;have ht:=zT9 az;have o8:=zUc az;have o6:=q8 _ o8;generalize L[k]=x at hu ht o8 o6;have p5:=Ec x QA;simp only[bJ,↓Xn,↓Xo,↓Xg,↓Xd,↓Xe,↓Xf,Tryz.VΓ,Tryz.Γs,Xp,Xi,Nat.reduceAdd,Nat.reduceSub,Nat.reduceLT,Nat.reduceLeDiff,reduceIte,reduceCtorEq,Nat.reduceEqDiff,implies_true,forall_const,bI,g4,g20,g21,g22,beq_self_eq_true,bne_self_eq_false,Int.reduceBEq,Int.reduceBNe,Int.reduceLT,Int.reduceLE,kC,e1,hu,Int.toNat_natCast,List.length_map];refine⟨⟨QA,QA⟩,QA,?_⟩
  (refine aa (p5) ?_;refine gB (zT4 g4 (zT4 g20 (zT4 g21 g22))) ?_)
  refine⟨fun q1=>?_,fun q1=>?_⟩
  ·have q1:trimB x=F:=by simpa using q1
   (refine aa (p3) ?_;refine gB (zT4 g4 (zT4 g20 (zT4 g21 g22))) ?_)
   refine⟨fun q2=>?_,fun q2=>⟨⟨QA,QA⟩,⟨k+1,QA,rfl,?_⟩,?_⟩⟩
   ·have q2:bj F=false:=by simpa using q2
    rw[q2,zUp];rfl
   ·intro y hy
    rw[ht]at hy;rcases zUn.1 hy with hy|hy
    ·exact cn y hy
    ·rw[zUo.1 hy];exact⟨q1,by simpa using q2⟩
   ·rw[ak (k:=.i64) (n:=(k:Int)+1) rfl];omega
  ·have q1:(trimB x==F)=false:=by simpa using q1
   rw[show (L.all fun p=>trimB p==F)=false by rw[List.all_eq_false];exact⟨x,o8,by rw[q1];simp⟩];rfl
 ·have hU:k=L.length:=QA
  subst hU;rw[zUa]at cn;have e1:decide ((L.length:Int)<L.length)=false:=by simp
  refine gB (zT4 g4 (zT4 g20 (zT4 g21 (zT4 g22 e1)))) ?_
  (refine aa (p4) ?_;refine gB (zT4 g4 (zT4 g20 (zT4 g21 g22))) ?_)
  have h1:(L.all fun p=>trimB p==F)=true:=by rw[zUq];exact fun p hp=>by rw[(cn p hp).1];simp
  have h2:bj F=true:=by
   obtain⟨y,hy⟩:=List.exists_mem_of_ne_nil L bF;exact(cn y hy).2
  rw[h1,h2];simp only[Bool.and_self,if_true];refine⟨fun q=>?_,fun q=>?_⟩
  ·rw[if_neg (by simpa using q)]
   rfl
  ·rw[if_pos (by simpa using q)]
   rfl
def yc (st:Int)(c1:Bool)(v1:Bytes)(c2:Bool)(v2 rest:Bytes)(most:Int):Bytes × Int :=
 if most<0 then([],4)
 else if (100≤st∧st≤199)∨st=204∨st=304 then([],0)
 else if c1=true then(if c2=true∨lower v1≠Ca then([],190) else chunked rest most)
 else if c2=true then(match gP v2 with
  | none=>([],190)
  | some n=>if most<n then([],142) else if rest.length<n then([],191) else(rest.take n,0))
 else if most<rest.length then([],142) else(rest,0)
theorem x8 (st:Int)(fs:List (Bytes × Bytes))(rest:Bytes)(most:Int):fw st fs rest most=yc st (decide (0<((bn fs so).length:Int))) (Lib.join (bn fs so) [44,32]) (decide (0<((bn fs tQ).length:Int))) (Lib.join (bn fs tQ) [44,32]) rest most:=by
 unfold fw yc;generalize bn fs so=A;generalize bn fs tQ=B;have h:∀ (x:Bytes) (l:List Bytes),decide (0<((x::l).length:Int))=true:=fun x l=>decide_eq_true QB
 have h0:decide (0<(([]:List Bytes).length:Int))=false:=rfl;cases A <;> cases B <;> simp only[h,h0,ne_eq,not_true,if_false,reduceCtorEq,not_false_eq_true,if_true,Bool.false_eq_true,true_or,false_or]
 all_goals rfl
theorem uA {bs:List aq}{j:Nat}{fs:List (Bytes × Bytes)}{m:Bool}(hj:bs[j]? = some (.own (fs.flatMap fc) 100 2 fs.length m))(hn:fs.length≤1000000)(hl:∀ f∈fs,f.1.length≤9223372036854775807)(a st:Int)(rest:Bytes)(most:Int)(hr:rest.length≤4000000)(tU:-9223372036854775808≤most)(CS:most≤9223372036854775807)
 (hte:(Lib.join (bn fs so) [44,32]).length≤1000000) (fY:(Lib.join (bn fs tQ) [44,32]).length≤1000000) :
 SC QH 109 [.agg [.int .i64 a,.int .i64 st,.o j fs.length],.str rest,.int .i64 most] bs (fun r b=>r=.eh [.str (fw st fs rest most).1,.int .i64 (fw st fs rest most).2]∧Kp bs b):=by
 have e9:j<bs.length:=(zT5.1 hj).1;have fU:=fun X=>ad hj [X]
 have g1:=fun X=>cY (by simp[flat,flat.ah]) (xx (bs:=bs++[X]) (fU X) hn hl so QD a st _ rfl hte _ rfl)
 have g2:=fun X=>cY (by simp[flat,flat.ah]) (xx (bs:=bs++[X]) (fU X) hn hl tQ QD a st _ rfl fY _ rfl)
 have p1:=yx (Lib.join (bn fs so) [44,32]) QA;have p2:PC QH 178 [.str rest,.int .i64 most] (.eh [.str (chunked rest most).1,.int .i64 (chunked rest most).2]) :=
  ⟨call178,by simp[flat,flat.ah],by simp[flat,flat.ah],fun w _=>(ET rest most w hr tU CS).mono fun _ _ ⟨h,k⟩=>⟨by rw[h];simp[aj,aZ],k⟩⟩
 have p3:=zA (Lib.join (bn fs tQ) [44,32]) fY;rw[x8];generalize decide (0<((bn fs so).length:Int))=c1 at g1;generalize decide (0<((bn fs tQ).length:Int))=c2 at g2;generalize Lib.join (bn fs so) [44,32]=v1 at g1 p1;generalize Lib.join (bn fs tQ) [44,32]=v2 at g2 p3;refine bp 3000 func109 rfl ntmps109 results109 call109 QB (af bs.length _ (by simp[within,within.av,e9])) ?_;unfold so at g1;unfold tQ at g2;refine iC ?_;refine⟨fun q=>⟨?_,(Kp.refl _).app _⟩,fun q=>?_⟩
 ·unfold yc;rw[if_pos (of_decide_eq_true q)]
 have q:=of_decide_eq_false q;refine ae (g1 _) ?_;rintro r b ⟨rfl,rfl⟩;refine iC ?_;refine ae (g2 _) ?_;rintro r b ⟨rfl,rfl⟩;have hK:=(Kp.refl bs).app [.cells [.int .i64 a,.int .i64 st,.o j fs.length] 48 true];by_cases xR:(100≤st∧st≤199)∨st=204∨st=304
 ·have e:yc st c1 v1 c2 v2 rest most=([],0):=by unfold yc;rw[if_neg q,if_pos xR]
  rw[e];cases h1:decide (100≤st) <;> cases h2:decide (st≤199) <;> cases h3:(st==204) <;> cases h4:(st==304)
  all_goals first
  | (exfalso;simp only[decide_eq_false_iff_not,decide_eq_true_eq,beq_eq_false_iff_ne,beq_iff_eq,ne_eq]at h1 h2 h3 h4;omega)
  | (refine gB (zT4 h1 (zT4 h2 (zT4 h3 h4))) ?_;exact hK)
 ·have h3:(st==204)=false:=by rw[beq_eq_false_iff_ne];omega
  have h4:(st==304)=false:=by rw[beq_eq_false_iff_ne];omega
  have er:yc st c1 v1 c2 v2 rest most=if c1=true then(if c2=true∨lower v1≠Ca then([],190) else chunked rest most)
   else if c2=true then(match gP v2 with
    | none=>([],190)
    | some n=>if most<n then([],142) else if rest.length<n then([],191) else(rest.take n,0))
   else if most<rest.length then([],142) else(rest,0):=by unfold yc;rw[if_neg q,if_neg xR]
  rw[er];cases c1 <;> cases c2
  ·rw[if_neg QD,if_neg QD]
   cases h1:decide (100≤st) <;> cases h2:decide (st≤199)
   all_goals first
   | (exfalso;simp only[decide_eq_true_eq]at h1 h2;omega)
   | (refine gB (zT4 h1 (zT4 h2 (zT4 h3 h4))) ?_;exact⟨fun h=>⟨by rw[if_pos (of_decide_eq_true h)],hK⟩,fun h=>⟨by rw[if_neg (of_decide_eq_false h)],hK⟩⟩)
  ·rw[if_neg QD,if_pos rfl]
   have w1:IntKind.u64.wrap most=most:=by simp[IntKind.wrap,IntKind.bits,IntKind.signed];omega
   have w2:IntKind.u64.wrap (rest.length:Int)=rest.length:=by simp[IntKind.wrap,IntKind.bits,IntKind.signed];omega
   cases hb:gP v2 with
   | none =>
     rw[hb]at p3;unfold xJ at p3;cases h1:decide (100≤st) <;> cases h2:decide (st≤199)
     all_goals first
     | (exfalso;simp only[decide_eq_true_eq]at h1 h2;omega)
     | (refine gB (zT4 h1 (zT4 h2 (zT4 h3 h4))) ?_;refine aa p3 ?_;refine gB (zT4 h1 (zT4 h2 (zT4 h3 h4))) ?_;exact hK)
   | some n =>
     rw[hb]at p3;unfold xJ at p3;cases h1:decide (100≤st) <;> cases h2:decide (st≤199)
     all_goals first
     | (exfalso;simp only[decide_eq_true_eq]at h1 h2;omega)
     | (refine gB (zT4 h1 (zT4 h2 (zT4 h3 h4))) ?_;refine aa p3 ?_;refine gB (zT4 h1 (zT4 h2 (zT4 h3 (zT4 h4 (zT4 w1 w2))))) ?_;exact⟨fun h=>⟨by rw[if_pos (of_decide_eq_true h)],hK⟩,fun h=>⟨fun k=>⟨by rw[if_neg (of_decide_eq_false h),if_pos (by have:=of_decide_eq_true k;omega)],hK⟩,fun k=>⟨⟨QA,by have:=of_decide_eq_false k;omega⟩,by rw[if_neg (of_decide_eq_false h),if_neg (by have:=of_decide_eq_false k;omega)],hK⟩⟩⟩)
  ·rw[if_pos rfl]
   cases h1:decide (100≤st) <;> cases h2:decide (st≤199)
   all_goals first
   | (exfalso;simp only[decide_eq_true_eq]at h1 h2;omega)
   | (refine gB (zT4 h1 (zT4 h2 (zT4 h3 h4))) ?_;refine aa p1 ?_;refine gB (zT4 h1 (zT4 h2 (zT4 h3 h4))) ?_;refine⟨fun h=>⟨by rw[if_pos (Or.inr (by simpa[Ca] using h))],hK⟩,fun h=>?_⟩;rw[if_neg (by simpa[Ca] using h)];refine aa p2 ?_;refine gB (zT4 h1 (zT4 h2 (zT4 h3 h4))) ?_;exact hK)
  ·rw[if_pos rfl,if_pos (Or.inl rfl)]
   cases h1:decide (100≤st) <;> cases h2:decide (st≤199)
   all_goals first
   | (exfalso;simp only[decide_eq_true_eq]at h1 h2;omega)
   | (refine gB (zT4 h1 (zT4 h2 (zT4 h3 h4))) ?_;exact hK)
theorem LV (c:UInt8):PC QH 225 [.int .u8 c.toNat] (.bool (rU c)):=by
 refine aU 3000 func225 rfl ntmps225 results225 call225 QB (by simp[flat,flat.ah]) (by simp[flat,flat.ah]) ?_;refine bw ?_
 (refine aa (Kw c) ?_;refine bw ?_)
 refine⟨fun h=>?_,fun h=>by unfold rU;rw[h];rfl⟩
 (refine aa (Kv c [33,35,36,37,38,39,42,43,45,46,94,95,96,124,126]) ?_;refine bw ?_)
 unfold rU;rw[h];rfl
theorem Oq (l p:Bytes)(hl:l.length<4294967281):PC QH 169 [.str l,.str p] (.int .i64 (Lib.index l p)) :=
 ⟨call169,by simp[flat,flat.ah],by simp[flat,flat.ah],fun w ⟨m,hm⟩=>(Tryz.strings_Index ⟨List.toArray l⟩ ⟨List.toArray p⟩ m w hl hm).mono fun _ _ ⟨h,k⟩=>⟨h,cG k.symm⟩⟩
theorem Ea (s:Bytes)(m:Nat)(hs:s.length≤9223372036854775807)(hm:m≤4611686018427387904):PC QH 223 [.str s,.int .u64 m] (.eh [.int .u64 (aV m s).1,.int .i64 (aV m s).2]) :=
 ⟨call223,by simp[flat,flat.ah],by simp[flat,flat.ah],fun w _=>(j7 s m w hs hm).mono fun _ _ ⟨h,k⟩=>⟨h,cG k⟩⟩
theorem LN (c:UInt8):(decide ((c.toNat:Int)<32)=true∧((c.toNat:Int) != 9)=true∨((c.toNat:Int)==127)=true)↔e7 c=false:=by
 have:=du (p:=fun c=>decide ((decide ((c.toNat:Int)<32)&&((c.toNat:Int) != 9)||((c.toNat:Int)==127))=!e7 c)) (by decide +kernel) c
 have:=of_decide_eq_true this
 cases h1:decide ((c.toNat:Int)<32) <;> cases h2:((c.toNat:Int) != 9) <;> cases h3:((c.toNat:Int)==127) <;> cases h4:e7 c <;> rw[h1,h2,h3,h4]at this <;> simp at this ⊢
theorem gD {s:Bytes}{q:Nat}(h:q<s.length):s.getD q 0=s[q]:=by simp[zUg,h]
theorem mz {p:UInt8→Bool}{s:Bytes}{q:Nat}(h:q<s.length)(h1:(s.take q).all p=true)(h2:p s[q]=true):(s.take (q+1)).all p=true:=by
 rw[zT9 h,List.all_append,h1];simp[h2]
theorem cX {p:UInt8→Bool}{s:Bytes}{q:Nat}(h:q<s.length)(h2:p s[q]=false):s.all p=false:=by
 rw[List.all_eq_false];exact⟨_,zUc h,by rw[h2];simp⟩
theorem uK (s:Bytes)(hs:s.length≤9223372036854775807):PC QH 174 [.str s] (.bool (fB s)):=by
 refine aU 3000 func174 rfl ntmps174 results174 call174 QB (by simp[flat,flat.ah]) (by simp[flat,flat.ah]) ?_;refine ly ?_;refine ax (fun σ=>∃ q:Nat,q≤s.length∧lk 0 σ.t=some (.str s)∧lk 6 σ.t=some (.int .i64 s.length)∧lk 7 σ.t=some (.int .i64 q)∧(s.take q).all e7=true) (fun σ=>s.length - fA 7 σ) ⟨0,QA,rfl,rfl,rfl,QB⟩ ?_;rintro⟨t,b⟩ ⟨q,hq,h0,h6,h7,cn⟩;simp only at h0 h6 h7;rw[ak h7];by_cases az:q<s.length
 ·have aK:decide ((q:Int)<s.length)=true:=QF
  have hg:=gD az;have hp:=LN s[q];have ht:=fun h=>mz (p:=e7) az cn h
  have hn:=fun h=>cX (p:=e7) az h
  generalize s[q]=c at hg hp ht hn;have kE:e7 c=true→∃ q':Nat,q'≤s.length∧(q:Int)+1=q'∧(s.take q').all e7=true:=fun h=>⟨q+1,QA,rfl,ht h⟩
  cases d1:decide ((c.toNat:Int)<32) <;> cases d2:((c.toNat:Int) != 9) <;> cases d3:((c.toNat:Int)==127)
  all_goals
   rw[d1,d2,d3]at hp;simp only[Bool.false_eq_true,and_self,and_false,false_and,or_false,or_true,true_iff,false_iff,Bool.not_eq_false]at hp;refine gK (zT4 h0 (zT4 h6 (zT4 h7 (zT4 aK (zT4 hg (zT4 Int.toNat_natCast (zT4 d1 (zT4 d2 d3)))))))) ?_
  all_goals first
  | (refine⟨⟨QA,QA⟩,?_⟩;unfold fB;rw[hn hp];done)
  | (refine⟨⟨QA,QA⟩,⟨QA,QA⟩,⟨q+1,QA,rfl,ht hp⟩,?_⟩;rw[ak (k:=.i64) (n:=(q:Int)+1) rfl];omega)
 ·have hU:q=s.length:=QA
  subst hU;have aK:decide ((s.length:Int)<s.length)=false:=by simp
  rw[zUa]at cn;refine gN (zT4 h0 (zT4 h6 (zT4 h7 aK))) ?_;unfold fB;rw[cn]
theorem Gt (s:Bytes)(hs:s.length≤9223372036854775807):PC QH 173 [.str s] (.bool (oh s)):=by
 refine aU 3000 func173 rfl ntmps173 results173 call173 QB (by simp[flat,flat.ah]) (by simp[flat,flat.ah]) ?_;refine ly ?_;refine ax (fun σ=>∃ q:Nat,q≤s.length∧lk 0 σ.t=some (.str s)∧lk 5 σ.t=some (.int .i64 s.length)∧lk 6 σ.t=some (.int .i64 q)∧(s.take q).all rU=true) (fun σ=>s.length - fA 6 σ) ⟨0,QA,rfl,rfl,rfl,QB⟩ ?_;rintro⟨t,b⟩ ⟨q,hq,h0,h6,h7,cn⟩;simp only at h0 h6 h7;rw[ak h7];by_cases az:q<s.length
 ·have aK:decide ((q:Int)<s.length)=true:=QF
  have hg:=gD az;have ht:=fun h=>mz (p:=rU) az cn h
  have hn:=fun h=>cX (p:=rU) az h
  generalize s[q]=c at hg ht hn;have p1:=LV c;refine gK (zT4 h0 (zT4 h6 (zT4 h7 (zT4 aK (zT4 hg Int.toNat_natCast))))) ?_;refine⟨⟨QA,QA⟩,?_⟩
  (refine aa (p1) ?_;refine gK (zT4 h0 (zT4 h6 (zT4 h7 (zT4 aK hg)))) ?_)
  refine⟨fun h=>?_,fun h=>⟨⟨QA,QA⟩,⟨q+1,QA,rfl,ht (by simpa using h)⟩,?_⟩⟩
  ·unfold oh;rw[hn (by simpa using h),zUp]
  ·rw[ak (k:=.i64) (n:=(q:Int)+1) rfl];omega
 ·have hU:q=s.length:=QA
  subst hU;have aK:decide ((s.length:Int)<s.length)=false:=by simp
  rw[zUa]at cn;refine gN (zT4 h0 (zT4 h6 (zT4 h7 aK))) ?_;unfold oh;rw[cn,Bool.and_true]
  cases s <;> rfl
theorem sB {bs:List aq}{i:Nat}{r:Bytes}{mo:Bool}(hi:bs[i]? = some (.cells [.str r,.bool mo] 212 true))(hr:r.length<4294967281) :
 SC QH 171 [.p i 0] bs (fun x b=>x=.str (Lib.cut r [13,10]).1∧b=bs.set i (.cells [.str (Lib.cut r [13,10]).2.1,.bool (Lib.cut r [13,10]).2.2] 212 true)):=by
 have dJ:i<bs.length:=(zT5.1 hi).1;have p1:=p_CutS r [13,10] hr;have s1:∀ X,(bs.set i X)[i]? = some X:=fun X=>by simp[dJ]
 refine bp 3000 func171 rfl ntmps171 results171 call171 QB (af bs.length _ (by simp[within,within.av,dJ])) ?_;refine gC hi ?_
 (refine aa (p1) ?_;refine gC (zT4 hi s1) ?_)
 rw[List.set_set]
def Lv (o:Option (Int × Int)):SV:=match o with
 | some (m,n)=>.eh [.agg [.int .i64 m,.int .i64 n,.ai],.bool true]
 | none=>.eh [.agg [.int .i64 0,.int .i64 0,.ai],.bool false]
theorem st_flat (o:Option (Int × Int)):flat (Lv o)=true:=by
 cases o with
 | none=>simp[Lv,flat,flat.ah]
 | some p=>simp[Lv,flat,flat.ah]
theorem Bz (s:Bytes)(hs:s.length≤4000000):PC QH 170 [.str s] (Lv (lN s)):=by
 have p1:=mY s eS;have ht:Lib.hasPrefix s eS=true→Lib.trimPrefix s eS=s.drop 7:=fun h=>by unfold Lib.trimPrefix;rw[if_pos h];rfl
 refine aU 3000 func170 rfl ntmps170 results170 call170 QB (by simp[flat,flat.ah]) (st_flat _) ?_;unfold eS at p1;refine ly ?_;have hq:lN s=(if Lib.hasPrefix s eS=false∨(Lib.trimPrefix s eS).length<6 then none
  else if ((Lib.trimPrefix s eS).getD 0 0 != 48&&(Lib.trimPrefix s eS).getD 0 0 != 49)||(Lib.trimPrefix s eS).getD 1 0 != 32||(Lib.trimPrefix s eS).getD 5 0 != 32||!fB ((Lib.trimPrefix s eS).drop 6) then none
  else if (aV 599 (((Lib.trimPrefix s eS).drop 2).take 3)).2≠0∨(aV 599 (((Lib.trimPrefix s eS).drop 2).take 3)).1<100 then none
  else some (((Lib.trimPrefix s eS).getD 0 0).toNat - 48,(aV 599 (((Lib.trimPrefix s eS).drop 2).take 3)).1):Option (Int × Int)):=by
  unfold lN;cases hp:Lib.hasPrefix s eS with
  | false=>rw[if_pos (Or.inl rfl),if_pos (Or.inl rfl)]
  | true=>rw[ht hp]
 rw[hq];have htl:=ua s eS;unfold eS at htl ⊢;generalize Lib.hasPrefix s [72,84,84,80,47,49,46]=c0 at p1 ⊢;generalize Lib.trimPrefix s [72,84,84,80,47,49,46]=r at p1 htl ⊢;have p2:=uK (r.drop 6) QC;have p3:PC QH 223 [.str ((r.drop 2).take 3),.int .u64 599] _:=Ea ((r.drop 2).take 3) 599 QC QA;cases c0
 ·(refine aa (p1) ?_;refine ly ?_)
  rfl
 by_cases h6:r.length<6
 ·rw[if_pos (Or.inr h6)]
  have h6':decide ((r.length:Int)<6)=true:=QF
  (refine aa (p1) ?_;refine gK h6' ?_)
  rfl
 have h6':decide ((r.length:Int)<6)=false:=QG;rw[if_neg (by simp[h6])];have e:∀ (c:UInt8) (n:Int) (d:UInt8),n=d.toNat→((c.toNat:Int) != n)=(c != d):=by
  rintro c n d rfl;rw[Bool.eq_iff_iff];simp only[bne_iff_ne,ne_eq];exact not_congr ⟨fun h=>UInt8.toNat_inj.1 (by exact_mod_cast h),fun h=>by rw[h]⟩
 generalize KO:r.getD 0 0=r0;generalize hr1:r.getD 1 0=r1;generalize hr5:r.getD 5 0=r5;have i0:zUj 0=0:=rfl;have i1:zUj 1=1:=rfl;have i5:zUj 5=5:=rfl;have i6:zUj 6=6:=rfl;have e0:=e r0 48 48 rfl;have e0':=e r0 49 49 rfl;have e1:=e r1 32 32 rfl;have e5:=e r5 32 32 rfl;generalize fB (r.drop 6)=vb at p2 ⊢;have Nj:=kX 599 ((r.drop 2).take 3);generalize aV 599 ((r.drop 2).take 3)=ns at p3 Nj ⊢;cases d0:(r0 != 48) <;> cases d0':(r0 != 49) <;> cases d1:(r1 != 32) <;> cases d5:(r5 != 32)
 all_goals
  (refine aa (p1) ?_;refine gK (zT4 h6' (zT4 KO (zT4 hr1 (zT4 hr5 (zT4 i0 (zT4 i1 (zT4 i5 (zT4 i6 (zT4 e0 (zT4 e0' (zT4 e1 (zT4 e5 (zT4 d0 (zT4 d0' (zT4 d1 d5))))))))))))))) ?_)
 all_goals repeat refine⟨QA,?_⟩
 all_goals try (simp only[Bool.or_true,Bool.true_or,Bool.and_true,if_true];rfl)
 all_goals
  have hr:r0=48∨r0=49:=by
   simp only[bne_eq_false_iff_eq,bne_iff_ne,ne_eq]at d0 d0';first|exact .inl d0|exact .inr d0'
  have w:IntKind.u8.wrap ((r0.toNat:Int) - 48)=(r0.toNat:Int) - 48:=by rcases hr with h|h <;> rw[h] <;> rfl
  have i2:zUj 2=2:=rfl;cases vb
  ·(refine aa (p2) ?_;refine ly ?_)
   rfl
  ·(refine aa (p2) ?_;refine gK (zT4 i2 i5) ?_)
   refine⟨QA,?_⟩;rw[show (r.drop 2).take 3=(r.take 5).drop 2 by rw[List.drop_take]]at p3;have w2:IntKind.i64.wrap ((r0.toNat:Int) - 48)=(r0.toNat:Int) - 48:=by rcases hr with h|h <;> rw[h] <;> rfl
   have w3:IntKind.i64.wrap (ns.1:Int)=ns.1:=by simp[IntKind.wrap,IntKind.bits,IntKind.signed];omega
   (refine aa (p3) ?_;refine gK (zT4 i0 (zT4 KO (zT4 w (zT4 h6' (zT4 w2 w3))))) ?_)
   simp only[Bool.or_self,Bool.false_eq_true,if_false];refine⟨fun g1=>⟨fun g2=>?_,fun g2=>⟨QA,?_⟩⟩,fun g1=>?_⟩
   ·rw[if_pos (Or.inr (by have:=of_decide_eq_true g2;omega))];rfl
   ·have g1:ns.2=0:=by simpa using g1
    rw[if_neg (by have:=of_decide_eq_false g2;rintro(h|h) <;> omega)];rfl
   ·rw[if_pos (Or.inl (by simpa using g1))];rfl
theorem oY (c:UInt8):PC QH 216 [.int .u8 c.toNat] (.bool (rU c)):=by
 refine aU 3000 func216 rfl ntmps216 results216 call216 QB (by simp[flat,flat.ah]) (by simp[flat,flat.ah]) ?_;refine bw ?_
 (refine aa (jw c) ?_;refine bw ?_)
 refine⟨fun h=>?_,fun h=>?_⟩
 ·(refine aa (fm c) ?_;refine bw ?_)
  refine⟨fun h2=>?_,fun h2=>?_⟩
  ·(refine aa (kV c [33,35,36,37,38,39,42,43,45,46,94,95,96,124,126] QB) ?_;refine bw ?_)
   unfold rU;rw[h,h2];rfl
  ·unfold rU;rw[h,h2];rfl
 ·unfold rU;rw[h];rfl
theorem jS (c:UInt8):PC QH 218 [.int .u8 c.toNat] (.bool (bA c)):=by
 have k:=du (p:=fun c=>decide (bA c=((c.toNat:Int)==32||(c.toNat:Int)==9))) (by decide +kernel) c;rw[of_decide_eq_true k];refine aU 3000 func218 rfl ntmps218 results218 call218 QB (by simp[flat,flat.ah]) (by simp[flat,flat.ah]) ?_;cases h1:((c.toNat:Int)==32) <;> cases h2:((c.toNat:Int)==9) <;> exact gK (zT4 h1 (zT4 h2 (zT4 Bool.or_true (zT4 Bool.or_false (zT4 Bool.true_or Bool.false_or))))) zUr
theorem kA (c:UInt8):PC QH 217 [.int .u8 c.toNat] (.bool (e7 c)):=by
 have k:=du (p:=fun c=>decide (e7 c=((c.toNat:Int)==9||(decide ((32:Int)≤(c.toNat:Int))&&!((c.toNat:Int)==127))))) (by decide +kernel) c;rw[of_decide_eq_true k];refine aU 3000 func217 rfl ntmps217 results217 call217 QB (by simp[flat,flat.ah]) (by simp[flat,flat.ah]) ?_;have e:((c.toNat:Int) != 127)=!((c.toNat:Int)==127):=rfl;cases h1:((c.toNat:Int)==9) <;> cases h2:decide ((32:Int)≤(c.toNat:Int)) <;> cases h3:((c.toNat:Int)==127) <;> rw[h3]at e <;> simp only[bJ,↓Xn,↓Xo,↓Xg,↓Xd,↓Xe,↓Xf,Tryz.VΓ,Tryz.Γs,Xp,Xi,Nat.reduceAdd,Nat.reduceSub,Nat.reduceLT,Nat.reduceLeDiff,reduceIte,reduceCtorEq,Nat.reduceEqDiff,implies_true,forall_const,bI,beq_self_eq_true,bne_self_eq_false,Int.reduceBEq,Int.reduceBNe,Int.reduceLT,Int.reduceLE,h1,h2,e,Bool.or_true,Bool.or_false,Bool.true_or,Bool.false_or,Bool.and_true,zUp,Bool.true_and,Bool.false_and,Bool.not_true,Bool.not_false]
def jN (p:UInt8→Bool)(s:Bytes)(a b:Nat):Prop:=a≤b∧b≤s.length∧(∀ i,a≤i→i<b→p (s.getD i 0)=true)∧(b<s.length→p (s.getD b 0)=false)
theorem jN.of {p:UInt8→Bool}{s:Bytes}{a b:Nat}(h:(decide (a≤b∧b≤s.length)&&(List.range (b - a)).all (fun i=>p (s.getD (a+i) 0))&&(decide (s.length≤b)||!p (s.getD b 0)))=true):jN p s a b:=by
 simp only[Bool.and_eq_true,decide_eq_true_eq,zUq,List.mem_range,Bool.or_eq_true,Bool.not_eq_true']at h;obtain⟨⟨⟨h1,h2⟩,h3⟩,h4⟩:=h;refine⟨h1,h2,fun i h5 h6=>?_,fun h5=>h4.resolve_left QA⟩;have:=h3 (i - a) QA
 rwa [show a+(i - a)=i by omega]at this
theorem ga {s:Bytes}{a b:Nat}(h:jN bA s a b)(hs:s.length≤4294967281):PC QH 198 [.str s,.int .i64 a] (.int .i64 b):=by
 obtain⟨hab,hb,br,kE⟩:=h;refine aU 3000 func198 rfl ntmps198 results198 call198 QB (by simp[flat,flat.ah]) (by simp[flat,flat.ah]) ?_;refine bw ?_;refine ax (fun σ=>∃ k:Nat,a≤k∧k≤b∧lk 0 σ.t=some (.str s)∧lk 1 σ.t=some (.int .i64 k)) (fun σ=>b - fA 1 σ) ⟨a,QA,QA,rfl,rfl⟩ ?_;rintro⟨t,b'⟩ ⟨k,hk,gp,h0,h1⟩;simp only at h0 h1;rw[ak h1];by_cases az:k<s.length
 ·have hd:decide ((k:Int)<s.length)=true:=QF
  refine gK (zT4 h0 (zT4 h1 hd)) ?_;refine⟨QA,?_⟩;by_cases e:k=b
  ·subst e
   (refine aa (jS (s.getD k 0)) ?_;exact gN (zT4 h0 (zT4 h1 (kE az))) zUr)
  ·(refine aa (jS (s.getD k 0)) ?_;refine gN (zT4 h0 (zT4 h1 (br k hk QA))) ?_)
   exact⟨QA,⟨k+1,QA,QA,rfl⟩,by rw[ak (k:=.i64) (n:=(k:Int)+1) rfl];omega⟩
 ·have hd:decide ((k:Int)<s.length)=false:=QG
  obtain rfl:k=b:=QA;exact gK (zT4 h0 (zT4 h1 hd)) zUr
theorem Gp {s:Bytes}{a b:Nat}(h:jN rU s a b)(az:a<b)(hs:s.length≤4294967281):PC QH 276 [.str s,.int .i64 a] (.eh [.str ((s.take b).drop a),.int .i64 b,.bool true]):=by
 obtain⟨hab,hb,br,kE⟩:=h;refine aU 3000 func276 rfl ntmps276 results276 call276 QB (by simp[flat,flat.ah]) (by simp[flat,flat.ah]) ?_;refine bw ?_;refine ax (fun σ=>∃ k:Nat,a≤k∧k≤b∧lk 0 σ.t=some (.str s)∧lk 1 σ.t=some (.int .i64 a)∧lk 7 σ.t=some (.int .i64 k)) (fun σ=>b - fA 7 σ) ⟨a,QA,QA,rfl,rfl,rfl⟩ ?_;rintro⟨t,b'⟩ ⟨k,hk,gp,h0,h1,h7⟩;simp only at h0 h1 h7;rw[ak h7];have hle:decide ((b:Int)≤a)=false:=QG;by_cases hl:k<s.length
 ·have hd:decide ((k:Int)<s.length)=true:=QF
  refine gK (zT4 h0 (zT4 h1 (zT4 h7 hd))) ?_;refine⟨QA,?_⟩;by_cases e:k=b
  ·subst e
   (refine aa (oY (s.getD k 0)) ?_;refine gN (zT4 h0 (zT4 h1 (zT4 h7 (zT4 (kE hl) hle)))) ?_)
   exact⟨QA,QA⟩
  ·(refine aa (oY (s.getD k 0)) ?_;refine gN (zT4 h0 (zT4 h1 (zT4 h7 (br k hk QA)))) ?_)
   exact⟨QA,⟨k+1,QA,QA,rfl⟩,by rw[ak (k:=.i64) (n:=(k:Int)+1) rfl];omega⟩
 ·have hd:decide ((k:Int)<s.length)=false:=QG
  obtain rfl:k=b:=QA;refine gK (zT4 h0 (zT4 h1 (zT4 h7 (zT4 hd hle)))) ?_;exact⟨QA,QA⟩
def DV (c:UInt8):Bool:=e7 c&&c != 34&&c != 92
theorem D6 {s:Bytes}{a b:Nat}(ha:s.getD a 0=34)(h:jN DV s (a+1) b)(hb:b<s.length)(hq:s.getD b 0=34)(hs:s.length≤4294967281):PC QH 288 [.str s,.int .i64 a] (.eh [.str ((s.take b).drop (a+1)),.int .i64 ((b:Int)+1),.bool true]):=by
 obtain⟨hab,hb',br,kE⟩:=h;refine aU 3000 func288 rfl ntmps288 results288 call288 QB (by simp[flat,flat.ah]) (by simp[flat,flat.ah]) ?_;have g0:decide ((s.length:Int)≤a)=false:=QG;have g1:(((s.getD a 0).toNat:Int) != 34)=false:=by rw[ha];rfl
 refine gK (zT4 g0 g1) ?_;refine⟨QA,QA,ax (fun σ=>∃ k:Nat,a+1≤k∧k≤b∧lk 0 σ.t=some (.str s)∧lk 7 σ.t=some (.str ((s.take k).drop (a+1)))∧lk 8 σ.t=some (.int .i64 k)) (fun σ=>b - fA 8 σ) ⟨a+1,QA,QA,rfl,by simp[lk],by simp[lk]⟩ ?_⟩;rintro⟨t,b'⟩ ⟨k,hk,gp,h0,h7,h8⟩;simp only at h0 h7 h8;rw[ak h8];have hd:decide ((k:Int)<s.length)=true:=QF;by_cases e:k=b
 ·subst e
  have g2:(((s.getD k 0).toNat:Int)==34)=true:=by rw[hq];rfl
  refine gK (zT4 h0 (zT4 h7 (zT4 h8 (zT4 hd g2)))) ?_;exact⟨QA,QA⟩
 ·have hp:=br k hk QA
  have Ni:=du (p:=fun c=>!DV c||(decide (((c.toNat:Int)==34)=false)&&decide (((c.toNat:Int)==92)=false)&&e7 c)) (by decide +kernel) (s.getD k 0);rw[hp]at Ni;simp only[Bool.not_true,Bool.false_or,Bool.and_eq_true,decide_eq_true_eq]at Ni;obtain⟨⟨g2,g3⟩,g4⟩:=Ni;refine gK (zT4 h0 (zT4 h7 (zT4 h8 (zT4 hd (zT4 g2 g3))))) ?_;refine⟨QA,?_⟩
  (refine aa (kA (s.getD k 0)) ?_;refine gA (zT4 h0 (zT4 h7 (zT4 h8 (zT4 g4 Bool.not_true)))) ?_)
  have u9:k<s.length:=QA;refine⟨QA,by simpa[eb] using gw [s.getD k 0],QC,QA,⟨k+1,QA,QA,?_,rfl⟩,by rw[ak (k:=.i64) (n:=(k:Int)+1) rfl];omega⟩;rw[show vP (.int .u8 (s.getD k 0).toNat)=s[k] by rw[gD u9];simp[vP],zT9 u9,List.drop_append_of_le_length QC]
theorem D5 {s:Bytes}{a b:Nat}(ha:s.getD a 0=34)(h:jN DV s (a+1) b)(hb:b<s.length)(hq:s.getD b 0=34)(hs:s.length≤4294967281):PC QH 277 [.str s,.int .i64 a] (.eh [.str ((s.take b).drop (a+1)),.int .i64 ((b:Int)+1),.bool true]):=by
 have p1:=D6 ha h hb hq hs;obtain⟨hab,hb',br,kE⟩:=h;refine aU 3000 func277 rfl ntmps277 results277 call277 QB (by simp[flat,flat.ah]) (by simp[flat,flat.ah]) ?_;have g0:decide ((a:Int)<s.length)=true:=QF;have g1:(((s.getD a 0).toNat:Int)==34)=true:=by rw[ha];rfl
 refine gK (zT4 g0 g1) ?_;refine⟨QA,?_⟩
 (refine aa (p1) ?_;exact ly zUr)
end Go.Proofs.YtnmlimehgifadaaGreatDoor
