/- R6 -/
import Derived.Deep.RegionWith
import Derived.Deep.QuietTactic
import Derived.BigQuiet
import Derived.StillTailTactics
import Derived.Lib.Join
import Derived.Test.YtnmlimehgifadaaGreatDoorR5
open And renaming intro→zSP
open List renaming getElem?_eq_some_iff→zSQ,toArray→zSR,getElem?_append_left→zSS,length_append→zSU,length_cons→zSW,getElem?_set_self→zSX,length_nil→zSY,getElem?_set_ne→zSZ,mem_singleton→zS1,map_cons→zS3,cons_append→zS4,map_nil→zS5,append_assoc→zS8,flatMap_append→zS9,mem_append→zTb,getElem?_append_right→zTc,getElem?_eq_none→zTd,getElem?_eq_getElem→zTe,length_map→zTg,nil_append→zTh,flatMap_cons→zTi,length_take→zTj,getElem_mem→zTk,length_drop→zTl
open Nat renaming add_sub_cancel_left→zS0,le_refl→zS6,sub_self→zS7,lt_or_ge→zTf
open Go.Proofs.Tryz
set_option linter.all false
set_option maxHeartbeats 16000000
set_option maxRecDepth 20000
namespace Go.Proofs.YtnmlimehgifadaaGreatDoor
open Go Vc Go.RowKit Wf
def DE (c:Int):List SV:=[.int .u8 c]
theorem N0 (a:Int)(L:List Int):((a::L).flatMap DE).drop 1=L.flatMap DE:=by rw[zTi];rfl
def fS (i:Nat)(bs b:List aq):Prop:=bs.length≤b.length∧∀ k,k<bs.length→k≠i→b[k]? = bs[k]?
theorem fS.refl (i:Nat)(bs:List aq):fS i bs bs:=⟨zS6 _,fun _ _ _=>rfl⟩
theorem fS.trans {i:Nat}{a b c:List aq}(h:fS i a b)(k:fS i b c):fS i a c:=⟨Nat.le_trans h.1 k.1,fun q hq hn=>(k.2 q (Nat.lt_of_lt_of_le hq h.1) hn).trans (h.2 q hq hn)⟩
theorem fS.app {i:Nat}{a b:List aq}(h:fS i a b)(X:List aq):fS i a (b++X):=⟨by simp;have:=h.1;omega,fun q hq hn=>by rw[zSS (Nat.lt_of_lt_of_le hq h.1)];exact h.2 q hq hn⟩
theorem fS.of {i:Nat}{a b:List aq}(h:Kp a b):fS i a b:=⟨h.1,fun q hq _=>h.2 q hq⟩
theorem fS.at {i:Nat}{a b:List aq}(h:fS i a b){k:Nat}{r:aq}(hk:a[k]? = some r)(hn:k≠i):b[k]? = some r:=(h.2 k (zSQ.1 hk).1 hn).trans hk
def bg (b:List aq)(i:Nat)(L:List Int):Prop:=∃ x,b[i]? = some (.cells [x] 80 true)∧((x=.ai∧L=[])∨∃ j,x=.o j L.length∧j≠i∧b[j]? = some (.own (L.flatMap DE) 5 1 L.length false))∧∀ r∈L,0≤r∧r≤255
def jJ (L:List Int)(n:Int):Int:=match L with
 | []=>0
 | a::_=>if n≤1 then 0 else a % n
def zJ (L:List Int)(n:Int):List Int:=match L with
 | []=>[]
 | a::L=>if n≤1 then a::L else L
theorem qW (L:List Int){n:Int}(h:0<n):0≤jJ L n∧jJ L n<n:=by
 unfold jJ;split
 ·omega
 ·split
  ·omega
  ·exact⟨Int.emod_nonneg _ QA,Int.emod_lt_of_pos _ h⟩
theorem tO {bs:List aq}{i:Nat}{L:List Int}(h:bg bs i L)(n:Int)(hn:n≤1000000):∃ nB,nB.length≤bs.length+1∧bg nB i (zJ L n)∧fS i bs nB∧SC QH 30 [.p i 0,.int .i64 n] bs (fun r b=>r=.int .i64 (jJ L n)∧b=nB):=by
 obtain⟨x,hi,hx,hr⟩:=h;have dJ:i<bs.length:=(zSQ.1 hi).1;have sc:=fun nB=>bp (V:=QH) (f:=30) (bs:=bs) 3000 func30 rfl ntmps30 results30 call30 (args:=[.p i 0,.int .i64 n]) (R:=fun r b=>r=.int .i64 (jJ L n)∧b=nB) QB (af bs.length _ (by simp[within,within.av,dJ]))
 rcases hx with⟨rfl,rfl⟩|⟨j,rfl,oo,hj⟩
 ·refine⟨bs,QA,⟨.ai,hi,.inl ⟨rfl,rfl⟩,hr⟩,fS.refl _ _,sc _ ?_⟩
  refine gB hi ?_;rfl
 ·cases L with
  | nil =>
    simp only[zSY]at hi hj;refine⟨bs,QA,⟨_,hi,.inr ⟨j,rfl,oo,hj⟩,hr⟩,fS.refl _ _,sc _ ?_⟩;have h0:(((0:Nat):Int)==0)=true:=rfl;refine gB (zSP hi (zSP hj h0)) ?_;rfl
  | cons a L =>
    have h0:((((a::L).length:Nat):Int)==0)=false:=by rw[beq_eq_false_iff_ne,zSW];omega
    simp only[zSW]at h0;have ha:=hr a List.mem_cons_self;have e9:j<bs.length:=(zSQ.1 hj).1;by_cases h1:n≤1
    ·refine⟨bs,QA,?_,fS.refl _ _,sc _ ?_⟩
     ·simp only[zJ,if_pos h1]
      exact⟨_,hi,.inr ⟨j,rfl,oo,hj⟩,hr⟩
     ·have hd:decide (n≤1)=true:=decide_eq_true h1
      have hv:jJ (a::L) n=0:=by simp only[jJ,if_pos h1]
      rw[hv];exact gB (zSP hi (zSP hj (zSP hd h0))) True.intro
    ·have hd:decide (n≤1)=false:=decide_eq_false h1
     have hv:jJ (a::L) n=a % n:=by simp only[jJ,if_neg h1]
     have hL:zJ (a::L) n=L:=by simp only[zJ,if_neg h1]
     have kn:((a::L).flatMap DE)[Int.toNat 0 * 1]? = some (.int .u8 a):=rfl;have eU:bs.set j (.own ((a::L).flatMap DE) 5 1 (L.length+1) false)=bs:=by
      apply List.ext_getElem?
      intro k;by_cases hk:k=j
      ·subst hk;rw[zSX e9];exact hj.symm
      ·rw[zSZ (fun e=>hk e.symm)]
     have eZ:∀ X,(bs++[X])[i]? = some (.cells [.o j (L.length+1)] 80 true):=fun X=>ad hi [X]
     have hrem:j0 .rem .i64 a n=a % n:=Int.tmod_eq_emod_of_nonneg ha.1;have hw:IntKind.i64.wrap a=a:=by simp[IntKind.wrap,IntKind.bits,IntKind.signed];omega
     have hlen:=jq DE 1 (fun _=>rfl) (a::L);have G4:(((a::L).flatMap DE).take ((L.length+1) * 1)).drop (Int.toNat 1 * 1)=L.flatMap DE:=by
      rw[List.take_of_length_le (by rw[hlen];simp)];exact N0 a L
     rw[hL];refine⟨(bs++[aq.own (L.flatMap DE) 5 1 L.length false]).set i (.cells [.o bs.length L.length] 80 true),QB,⟨_,zSX QC,.inr ⟨_,rfl,QA,by rw[zSZ QA];exact aB _ _⟩,fun r h=>hr r (List.mem_cons_of_mem _ h)⟩,⟨QB,fun k hk hn=>by rw[zSZ (fun e=>hn e.symm),zSS hk]⟩,sc _ ?_⟩;rw[hv];refine gB (zSP hi (zSP hj (zSP hd (zSP h0 (zSP kn (zSP eU (zSP eZ (zSP hrem (zSP hw G4))))))))) ?_;exact⟨QA,by rw[hlen];simp[Int.toNat],QA,QA,by simp[Int.toNat]⟩
theorem C8 {bs:List aq}{i:Nat}{L:List Int}(h:bg bs i L)(n:Int)(hn:n≤1000000):∃ nB,bg nB i (zJ L n)∧fS i bs nB∧SC QH 30 [.p i 0,.int .i64 n] bs (fun r b=>r=.int .i64 (jJ L n)∧b=nB):=by
 obtain⟨nB,_,h⟩:=tO h n hn;exact⟨nB,h⟩
theorem fS.outs {i:Nat}{bs nB:List aq}(h:fS i bs nB)(hl:nB.length≤bs.length+1):Ih [(i,0,0),(bs.length,0,0)] nB bs:=by
 refine Ee (fun j hj=>?_) (fun y hy=>by simp at hy;rcases hy with rfl|rfl <;> rfl);have h1:j≠i:=fun e=>hj (i,0,0) QB e.symm
 have h2:j≠bs.length:=fun e=>hj (bs.length,0,0) QB e.symm
 by_cases az:j<bs.length
 ·exact h.2 j az h1
 ·rw[zTd QA,zTd QA]
theorem bg.app {b:List aq}{i:Nat}{L:List Int}(h:bg b i L)(X:List aq):bg (b++X) i L:=by
 obtain⟨x,hi,hx,hr⟩:=h;refine⟨x,ad hi X,?_,hr⟩;rcases hx with h|⟨j,h1,h2,h3⟩
 ·exact .inl h
 ·exact .inr ⟨j,h1,h2,ad h3 X⟩
theorem AD {bs:List aq}{i:Nat}{L:List Int}(h:bg bs i L){q m:Nat}{T:List Bytes}{mm:Bool}(hm:0<m∧m≤1000)(hT:T.length=m)(hq:bs[q]? = some (.own (T.map .str) 9 1 m mm))(KP:q≠i) :
 ∃ nB,bg nB i (zJ L m)∧fS i bs nB∧SC QH 59 [.p i 0,.o q m] bs (fun r b=>r=.str (T.getD (jJ L m).toNat [])∧b=nB):=by
 obtain⟨nB,h1,h2,h3⟩:=C8 h m QA;have dJ:i<bs.length:=by obtain⟨x,hi,-⟩:=h;exact(zSQ.1 hi).1
 have jV:q<bs.length:=(zSQ.1 hq).1;have hv:=qW L (n:=m) QA;have p7:=h2.at hq KP;refine⟨nB,h1,h2,bp 3000 func59 rfl ntmps59 results59 call59 QB (af bs.length _ (by simp[within,within.av,dJ,jV])) ?_⟩;have hat:(T.map SV.str)[(jJ L m).toNat * 1]? = some (.str (T.getD (jJ L m).toNat [])):=by
  rw[Nat.mul_one,List.getElem?_map,List.getD_eq_getElem?_getD,zTe QA];rfl
 refine gB hq ?_;refine ae h3 ?_;rintro r b ⟨rfl,rfl⟩;refine gB (zSP p7 hat) ?_;exact⟨hv,by rw[zTg,hT];omega⟩
theorem Ef {T:List Bytes}{L:List Int}(h:0<T.length):T.getD (jJ L T.length).toNat []∈T:=by
 have hv:=qW L (n:=T.length) QA;rw[List.getD_eq_getElem?_getD,zTe QA];exact zTk _
def Af:List Bytes:=[([97,46,101,120,97,109,112,108,101]:List UInt8),([98,46,101,120,97,109,112,108,101]:List UInt8),([99,46,101,120,97,109,112,108,101,58,56,52,52,51]:List UInt8),([100,46,101,120,97,109,112,108,101]:List UInt8)]
theorem MX {bs:List aq}{i:Nat}{L:List Int}(h:bg bs i L):∃ nB,bg nB i (zJ L 4)∧fS i bs nB∧SC QH 58 [.p i 0] bs (fun r b=>r=.str (Af.getD (jJ L 4).toNat [])∧b=nB):=by
 have dJ:i<bs.length:=by obtain⟨x,hi,-⟩:=h;exact(zSQ.1 hi).1
 obtain⟨nB,h1,h2,h3⟩:=AD (h.app [.own (Af.map .str) 9 1 4 true]) (q:=bs.length) (m:=4) (T:=Af) QA rfl (aB _ _) QA;refine⟨nB,h1,(fS.of ((Kp.refl bs).app _)).trans h2,bp 3000 func58 rfl ntmps58 results58 call58 QB (af bs.length _ (by simp[within,within.av,dJ])) ?_⟩;refine iC ?_;refine⟨QA,ae h3 ?_⟩;rintro r b ⟨rfl,rfl⟩;refine iC ?_;rfl
theorem iL {bs:List aq}{i:Nat}{L:List Int}(h:bg bs i L)(T:List Bytes){n m:Nat}(hn:T.length=n)(hm:0<n∧n≤1000)(hT:∀ s∈T,s.length≤m){X:aq}(hX:X=.own (T.map .str) 9 1 n true) :
 SC QH 59 [.p i 0,.o bs.length n] (bs++[X]) (fun r b=>∃ s L',r=.str s∧s.length≤m∧bg b i L'∧fS i bs b):=by
 subst hX;have dJ:i<bs.length:=by obtain⟨x,hi,-⟩:=h;exact(zSQ.1 hi).1
 obtain⟨nB,h1,h2,h3⟩:=AD (h.app [.own (T.map .str) 9 1 n true]) (q:=bs.length) (m:=n) (T:=T) hm hn (aB _ _) QA;refine h3.mono ?_;rintro r b ⟨rfl,rfl⟩;have o8:=Ef (T:=T) (L:=L) QA;rw[hn]at o8;exact⟨_,_,rfl,hT _ o8,h1,(fS.of ((Kp.refl bs).app _)).trans h2⟩
theorem eF {bs:List aq}{i:Nat}{L:List Int}(h:bg bs i L)(n:Int)(hn:0<n∧n≤1000000):SC QH 30 [.p i 0,.int .i64 n] bs (fun r b=>∃ v L',r=.int .i64 v∧(0≤v∧v<n)∧bg b i L'∧fS i bs b):=by
 obtain⟨nB,h1,h2,h3⟩:=C8 h n hn.2;refine h3.mono ?_;rintro r b ⟨rfl,rfl⟩;exact⟨_,_,rfl,qW L hn.1,h1,h2⟩
theorem sc_host {bs:List aq}{i:Nat}{L:List Int}(h:bg bs i L):SC QH 58 [.p i 0] bs (fun r b=>∃ s L',r=.str s∧s.length≤20∧bg b i L'∧fS i bs b):=by
 obtain⟨nB,h1,h2,h3⟩:=MX h;refine h3.mono ?_;rintro r b ⟨rfl,rfl⟩;have o8:=Ef (T:=Af) (L:=L) QD;exact⟨_,_,rfl,(by decide:∀ s∈Af,s.length≤20) _ o8,h1,h2⟩
theorem C7 {bs:List aq}{i:Nat}{L:List Int}(h:bg bs i L):SC QH 28 [.p i 0] bs (fun r b=>∃ s L',r=.str s∧s.length≤100∧bg b i L'∧fS i bs b):=by
 have dJ:i<bs.length:=by obtain⟨x,hi,-⟩:=h;exact(zSQ.1 hi).1
 refine bp 3000 func28 rfl ntmps28 results28 call28 QB (af bs.length _ (by simp[within,within.av,dJ])) ?_;refine iC ?_;refine ae (sc_host h) ?_;rintro r b ⟨x,L1,rfl,hx,h,hk⟩;refine iC ?_;refine ae (eF h 6 QA) ?_;rintro r b ⟨v,L2,rfl,hv,h,bS⟩;replace hk:=hk.trans bS;clear bS;have hv6:(v=0∨v=1)∨v=2∨v=3∨4≤v:=QA;have fin:∀ {b s L'},s.length≤100→bg b i L'→fS i bs b→∃ s' L',SV.str s=.str s'∧s'.length≤100∧bg b i L'∧fS i bs b:=fun h1 h2 h3=>⟨_,_,rfl,h1,h2,h3⟩
 rcases hv6 with hv01|rfl|rfl|hv4
 ·have e1:(v==0||v==1)=true:=by rcases hv01 with rfl|rfl <;> rfl
  rcases hv01 with rfl|rfl
  all_goals
   refine iC ?_;refine⟨QA,ae (iL h [([97,99,99,116,58]:List UInt8),([65,67,67,84,58]:List UInt8)] (n:=2) (m:=10) rfl QA QD rfl) ?_⟩;rintro r b ⟨s1,L3,rfl,uY,h,bS⟩;replace hk:=hk.trans bS;clear bS;refine iC ?_;refine⟨QA,ae (iL h [([98,111,98]:List UInt8),([97,109,121]:List UInt8),([120,37,50,102,121]:List UInt8),([99,43,100]:List UInt8)] (n:=4) (m:=10) rfl QA QD rfl) ?_⟩;rintro r b ⟨s2,L4,rfl,fI,h,bS⟩;replace hk:=hk.trans bS;clear bS;refine iC ?_;refine⟨QA,by first|omega | (simp only[zSU,zSW,zSY];omega),QA,ae (iL h [([97,46,101,120,97,109,112,108,101]:List UInt8),([66,46,101,120,97,109,112,108,101]:List UInt8),([99,46,101,120,97,109,112,108,101]:List UInt8)] (n:=3) (m:=10) rfl QA QD rfl) ?_⟩;rintro r b ⟨s3,L5,rfl,CO,h,bS⟩;replace hk:=hk.trans bS;clear bS;refine iC ?_;exact⟨by first|omega | (simp only[zSU,zSW,zSY];omega),fin (by first|omega | (simp only[zSU,zSW,zSY];omega)) h hk⟩
 ·refine iC ?_
  refine⟨QA,ae (iL h [([98,111,98]:List UInt8),([37,54,49,109,121]:List UInt8),([99,43,100]:List UInt8)] (n:=3) (m:=10) rfl QA QD rfl) ?_⟩;rintro r b ⟨s1,L3,rfl,uY,h,bS⟩;replace hk:=hk.trans bS;clear bS;refine iC ?_;refine⟨QA,by first|omega | (simp only[zSU,zSW,zSY];omega),QA,ae (iL h [([97,46,101,120,97,109,112,108,101]:List UInt8),([98,46,69,120,97,109,112,108,101]:List UInt8)] (n:=2) (m:=10) rfl QA QD rfl) ?_⟩;rintro r b ⟨s3,L5,rfl,CO,h,bS⟩;replace hk:=hk.trans bS;clear bS;refine iC ?_;exact⟨by first|omega | (simp only[zSU,zSW,zSY];omega),fin (by first|omega | (simp only[zSU,zSW,zSY];omega)) h hk⟩
 ·refine iC ?_
  refine⟨QA,QA,ae (iL h [([]:List UInt8),([47]:List UInt8),([47,117,47,98,111,98]:List UInt8),([47,46,47,120,63,121,61,49]:List UInt8),([47,126,97,35,109,101]:List UInt8)] (n:=5) (m:=10) rfl QA QD rfl) ?_⟩;rintro r b ⟨s3,L5,rfl,CO,h,bS⟩;replace hk:=hk.trans bS;clear bS;refine iC ?_;exact⟨by first|omega | (simp only[zSU,zSW,zSY];omega),fin (by first|omega | (simp only[zSU,zSW,zSY];omega)) h hk⟩
 ·have e0:(v==0)=false:=beq_eq_false_iff_ne.2 QA
  have e1:(v==1)=false:=beq_eq_false_iff_ne.2 QA;have e2:(v==2)=false:=beq_eq_false_iff_ne.2 QA;have e3:(v==3)=false:=beq_eq_false_iff_ne.2 QA;refine gB (zSP e0 (zSP e1 (zSP e2 e3))) ?_;refine⟨fun _=>⟨QA,ae (iL h [([]:List UInt8),([58,117]:List UInt8),([58,117,58,98,111,98]:List UInt8),([58,97,37,55,101,98]:List UInt8)] (n:=4) (m:=10) rfl QA QD rfl) ?_⟩,fun _=>⟨QA,QA,ae (iL h [([]:List UInt8),([58,117]:List UInt8),([58,117,58,98,111,98]:List UInt8),([58,97,37,55,101,98]:List UInt8)] (n:=4) (m:=10) rfl QA QD rfl) ?_⟩⟩;all_goals
   rintro r b ⟨s3,L5,rfl,CO,h,bS⟩;replace hk:=hk.trans bS;clear bS;refine iC ?_;exact⟨by first|omega | (simp only[zSU,zSW,zSY];omega),fin (by first|omega | (simp only[zSU,zSW,zSY];omega)) h hk⟩
end Go.Proofs.YtnmlimehgifadaaGreatDoor
namespace Wf
open Go Go.RowKit
def wK (d:Nat):UInt8:=if d<10 then(48+d).toUInt8 else(87+d).toUInt8
def nO (n:Nat):Bytes:=if _h:n=0 then [] else nO (n / 16)++[wK (n % 16)]
termination_by n
decreasing_by omega
theorem Pd (k:Nat):List.drop (k % 16) (48::List.take (k % 16) [49,50,51,52,53,54,55,56,57,97,98,99,100,101,102])=[wK (k % 16)]:=by
 have:(List.range 16).all (fun d=>List.drop d (48::List.take d [49,50,51,52,53,54,55,56,57,97,98,99,100,101,102])==[wK d])=true:=by decide +kernel
 rw[List.all_eq_true]at this;simpa using this (k % 16) QC
theorem Pc {k n:Nat}{l:Bytes}(h0:0<k)(h:nO k++l=nO n):nO (k / 16)++(wK (k % 16)::l)=nO n:=by
 rw[← h];conv=>rhs;rw[nO,dif_neg QA]
 simp
theorem oq {n:Nat}(h:0<n):nO n=nO (n / 16)++[wK (n % 16)]:=by
 rw[nO,dif_neg QA]
theorem jY:nO 0=[]:=by rw[nO];rfl
theorem xT (n:Nat):(nO n).length≤n:=by
 induction n using Nat.strongRecOn with
 | _ n ih =>
   rcases Nat.eq_zero_or_pos n with rfl|h
   ·simp[jY]
   ·rw[oq h];have:=ih (n / 16) QA;simp;omega
def df (size:Int)(s:Bytes):Nat:=(min (max size 1) s.length).toNat
theorem lj {size:Int}{s:Bytes}(h:s≠[]):0<df size s∧df size s≤s.length:=by
 have:=List.length_pos_iff.2 h;unfold df;omega
def crlf:Bytes:=[13,10]
def encode (size:Int)(s:Bytes):Bytes :=
 if _h:s=[] then [48,13,10,13,10] else nO (df size s)++crlf++s.take (df size s)++crlf++encode size (s.drop (df size s))
termination_by s.length
decreasing_by have:=lj (size:=size) _h;simp;omega
theorem rS {size:Int}{s:Bytes}(h:s≠[]):encode size s=nO (df size s)++crlf++s.take (df size s)++crlf++encode size (s.drop (df size s)):=by
 rw[encode,dif_neg h]
theorem iS {size:Int}:encode size []=[48,13,10,13,10]:=by rw[encode];rfl
theorem HL {size:Int}{s0 s acc:Bytes}(h:s≠[])(he:acc++encode size s=encode size s0):(acc++(nO (df size s)++(13::10::(s.take (df size s)++[13,10]))))++encode size (s.drop (df size s))=encode size s0:=by
 rw[← he,rS h];simp[crlf]
def aO:Bytes→Int × Bytes
 | 13::10::r=>(0,r)
 | []=>(191,[])
 | [13]=>(191,[13])
 | r=>(190,r)
theorem eQ (r:Bytes):(∃ t,r=13::10::t)∨r=[]∨r=[13]∨(Lib.hasPrefix r [13,10]=false∧r.isEmpty=false∧(r==[13])=false∧aO r=(190,r)):=by
 match r with
 | []=>exact .inr (.inl rfl)
 | [c] =>
   by_cases h:c=13
   ·exact .inr (.inr (.inl (by rw[h])))
   ·refine .inr (.inr (.inr ⟨by simp[Lib.hasPrefix,List.isPrefixOf],rfl,by simp[h],?_⟩))
    unfold aO;split <;> simp_all
 | c::d::t =>
   by_cases h:c=13∧d=10
   ·exact .inl ⟨t,by rw[h.1,h.2]⟩
   ·refine .inr (.inr (.inr ⟨?_,rfl,QB,?_⟩))
    ·simp[Lib.hasPrefix,List.isPrefixOf];intro h1;subst h1;intro h2;exact h ⟨rfl,h2.symm⟩
    ·unfold aO
     split <;> simp_all
theorem zL (r:Bytes):(aO r).2.length≤r.length:=by
 rcases eQ r with⟨t,rfl⟩|rfl|rfl|⟨_,_,_,h⟩
 ·simp[aO];omega
 ·simp[aO]
 ·simp[aO]
 ·rw[h];exact zS6 _
def cZ (c:UInt8):Bool:=[13,10].contains c
def oM (r:Bytes)(n:Nat):Nat:=if (aF aR 16 4611686018427387904 (r.take n)).2=0 then(aF aR 16 4611686018427387904 (r.take n)).1 else 4611686018427387904
def bR (r:Bytes):Nat:=pre (fun c=>!aR c) r
def ui (r:Bytes):Bool:=match r.drop (bR r) with
 | c::_=>c==59||c==13
 | []=>false
def cH (r:Bytes)(old:Nat):Int × Nat × Bytes :=
 if bR r=r.length then(191,old,r)
 else if bR r=0∨ui r=false then(190,old,r)
 else if (aO (r.drop (pre cZ r))).1=0 then(0,oM r (bR r),(aO (r.drop (pre cZ r))).2)
 else((aO (r.drop (pre cZ r))).1,old,(aO (r.drop (pre cZ r))).2)
theorem Cm {r:Bytes}(h:bR r<r.length):ui r=(r[bR r]==59||r[bR r]==13):=by
 unfold ui;rw[drop_cons r _ h]
theorem semi_at (c:UInt8):Lib.indexByte [59,13] c=if c=59 then 0 else if c=13 then 1 else -1:=by
 have:=du (p:=fun c=>decide (Lib.indexByte [59,13] c=if c=59 then 0 else if c=13 then 1 else -1)) (by decide +kernel) c
 exact of_decide_eq_true this
theorem zK {r:Bytes}(h:(aO r).1=0):(aO r).2.length+2=r.length:=by
 rcases eQ r with⟨t,rfl⟩|rfl|rfl|⟨_,_,_,h4⟩
 ·simp[aO]
 ·simp[aO]at h
 ·simp[aO]at h
 ·rw[h4]at h;simp at h
def eD:Nat→Bytes→Int
 | 0,_=>0
 | f+1,r =>
   if (aO (r.drop (pre cZ r))).1≠0 then(aO (r.drop (pre cZ r))).1
   else if r.take (pre cZ r)=[] then 0
   else eD f (aO (r.drop (pre cZ r))).2
def ij (most:Int):Nat→Bytes→Bytes→Nat→Bytes × Int
 | 0,_,_,_=>([],0)
 | f+1,acc,r,old =>
   if (cH r old).1≠0 then([],(cH r old).1)
   else if most<0∨most - acc.length<(cH r old).2.1 then([],142)
   else if (cH r old).2.1=0 then
    if eD ((cH r old).2.2.length+1) (cH r old).2.2≠0 then([],eD ((cH r old).2.2.length+1) (cH r old).2.2) else(acc,0)
   else if (cH r old).2.2.length<(cH r old).2.1 then([],191)
   else if (aO ((cH r old).2.2.drop (cH r old).2.1)).1≠0 then([],(aO ((cH r old).2.2.drop (cH r old).2.1)).1)
   else ij most f (acc++(cH r old).2.2.take (cH r old).2.1) (aO ((cH r old).2.2.drop (cH r old).2.1)).2 (cH r old).2.1
def chunked (s:Bytes)(most:Int):Bytes × Int:=ij most (s.length+1) [] s 0
theorem FA {r:Bytes}{old:Nat}(h:(cH r old).1=0):(cH r old).2.2.length<r.length:=by
 unfold cH at h ⊢;split at h
 ·simp at h
 ·split at h
  ·simp at h
  ·split at h
   ·rename_i h1 h2 h3
    rw[if_neg h1,if_neg h2,if_pos h3];have:=zK h3
    simp at this ⊢
    omega
   ·rename_i h3
    exact absurd h h3
theorem Ly (r:Bytes)(old:Nat):(cH r old).2.2.length≤r.length:=by
 unfold cH;split
 ·exact zS6 _
 ·split
  ·exact zS6 _
  ·have:=zL (r.drop (pre cZ r))
   simp at this
   split <;> (simp only;omega)
theorem FB (r:Bytes)(old:Nat)(h:old≤4611686018427387904):(cH r old).2.1≤4611686018427387904:=by
 unfold cH;split
 ·exact h
 ·split
  ·exact h
  ·split
   ·simp only[oM]
    split
    ·exact mZ _ _ _ _
    ·exact zS6 _
   ·exact h
open Go Go.RowKit
theorem pre_append {p:UInt8→Bool}{a b:Bytes}(h:∀ c∈a,p c=false):pre p (a++b)=a.length+pre p b:=by
 induction a with
 | nil=>simp
 | cons c a ih =>
   rw[zS4,bY,h c QB,ih (fun x hx=>h x (by simp[hx]))];simp;omega
open Go Go.RowKit
end Wf
namespace Go.Proofs.YtnmlimehgifadaaGreatDoor
open Go.RowKit Wf
attribute [local go_sem] fN eY get_list
theorem mw (cb:Nat)(r:Bytes)(n:Int)(w:World)(hr:r.length≤4000000000)(hc:w.heap[cb]? = some (.cells #[(Value.string ⟨zSR (r)⟩),.int .u64 n] 256 (0,0))) :
 Calls Tryz.prog 231 #[.pointer (some ⟨cb,0,none⟩)] w fun e w'=>e=.returned (.int .i64 (aO r).1)∧w'.heap[cb]? = some (.cells #[(Value.string ⟨zSR ((aO r).2)⟩),.int .u64 n] 256 (0,0))∧Fr (·=cb) w w':=by
 have kn:w.cell? ⟨cb,0,none⟩=some (Value.string ⟨zSR (r)⟩):=Lib.cell_of_heap hc 0;have hf:=Lib.frozen_of_heap hc 0;have Hc:=hid hc;clear hc;rcases eQ r with⟨t,rfl⟩|rfl|rfl|⟨h1,h2,h3,h4⟩
 ·have hp:Lib.hasPrefix (13::10::t) [13,10]=true:=rfl
  simp at hr
  go_enter func231,ntmps231
  go_wp2_with (go_at_call 115;refine(Tryz.strings_HasPrefix _ _ _).mono ?_;rintro e w' ⟨rfl,rfl⟩)
  go_ret
  exact⟨rfl,heap_set Hc.out _,Fr.LA _ _⟩
 ·have hp:Lib.hasPrefix [] [13,10]=false:=rfl
  go_enter func231,ntmps231
  go_wp2_with (go_at_call 115;refine(Tryz.strings_HasPrefix _ _ _).mono ?_;rintro e w' ⟨rfl,rfl⟩)
  go_ret
  exact⟨rfl,Hc.out,Fr.refl _ _⟩
 ·have hp:Lib.hasPrefix [13] [13,10]=false:=rfl
  go_enter func231,ntmps231
  go_wp2_with (go_at_call 115;refine(Tryz.strings_HasPrefix _ _ _).mono ?_;rintro e w' ⟨rfl,rfl⟩)
  go_ret
  exact⟨rfl,Hc.out,Fr.refl _ _⟩
 ·have H4:=hid h4
  clear h4;go_enter func231,ntmps231
  go_wp2_with (go_at_call 115;refine(Tryz.strings_HasPrefix _ _ _).mono ?_;rintro e w' ⟨rfl,rfl⟩)
  go_ret
  rw[H4.out];exact⟨rfl,Hc.out,Fr.refl _ _⟩
theorem ny (cb:Nat)(r:Bytes)(n:Int)(w:World)(hr:r.length≤4000000000)(hc:w.heap[cb]? = some (.cells #[(Value.string ⟨zSR (r)⟩),.int .u64 n] 256 (0,0))) :
 Calls Tryz.prog 232 #[.pointer (some ⟨cb,0,none⟩)] w fun e w'=>e=.returned (.tuple #[(Value.string ⟨zSR (r.take (pre cZ r))⟩),.int .i64 (aO (r.drop (pre cZ r))).1])∧w'.heap[cb]? = some (.cells #[(Value.string ⟨zSR ((aO (r.drop (pre cZ r))).2)⟩),.int .u64 n] 256 (0,0))∧Fr (·=cb) w w':=by
 have kn:w.cell? ⟨cb,0,none⟩=some (Value.string ⟨zSR (r)⟩):=Lib.cell_of_heap hc 0;have hf:=Lib.frozen_of_heap hc 0;have Hc:=hid hc;have BP:Lib.indexAny r [13,10]=if pre cZ r<r.length then(pre cZ r:Int) else -1:=lb r [13,10]
 have hle:=cO cZ r;have Hix:=hid BP;clear hc BP;go_enter func232,ntmps232
 go_wp2_with fail
 refine(strings_IndexAny _ _ _ QD QD QD QA).mono ?_;rintro e w1 ⟨rfl,eZ⟩;rw[Hix.out];have HB:w1.cell? ⟨cb,0,none⟩=some (Value.string ⟨zSR (r)⟩):=(eZ.cell (cW Hc.out)).trans kn;have Ix:w1.frozen? ⟨cb,0,none⟩=false:=(eZ.frozen (cW Hc.out)).trans hf;have Hc1:=hid ((eZ.block cb (cW Hc.out)).trans Hc.out);have Hb1:=hid eZ;clear kn hf eZ;by_cases az:pre cZ r<r.length
 ·rw[if_pos az]
  go_wp2_with (go_at_call 231;refine(mw cb (r.drop (pre cZ r)) n _ QC (by exact heap_set Hc1.out _)).mono ?_;rintro e w2 ⟨rfl,mK,qk⟩)
  go_ret2
  exact⟨rfl,mK,((Fr.kg Hb1.out (fun k h1 h2=>QA)).trans (Fr.LA _ _)).trans qk⟩
 ·have hd:r.drop (pre cZ r)=[]:=List.drop_of_length_le QA
  have ht:r.take (pre cZ r)=r:=List.take_of_length_le QA;have Hd:=hid hd;have Ht:=hid ht;clear hd ht;rw[if_neg az];go_wp2_with (go_at_call 231;refine(mw cb [] n _ QB (by exact heap_set Hc1.out _)).mono ?_;rintro e w2 ⟨rfl,mK,qk⟩)
  go_ret2
  rw[Hd.out,Ht.out];exact⟨rfl,mK,((Fr.kg Hb1.out (fun k h1 h2=>QA)).trans (Fr.LA _ _)).trans qk⟩
open Go.RowKit Wf
attribute [local go_sem] fN eY get_list
theorem ER (cb:Nat)(r:Bytes)(n:Nat)(w:World)(hr:r.length≤4000000000)(hc:w.heap[cb]? = some (.cells #[(Value.string ⟨zSR (r)⟩),.int .u64 n] 256 (0,0))) :
 Calls Tryz.prog 228 #[.pointer (some ⟨cb,0,none⟩)] w fun e w'=>e=.returned (.int .i64 (cH r n).1)∧w'.heap[cb]? = some (.cells #[(Value.string ⟨zSR ((cH r n).2.2)⟩),.int .u64 (cH r n).2.1] 256 (0,0))∧Fr (·=cb) w w':=by
 have kn:w.cell? ⟨cb,0,none⟩=some (Value.string ⟨zSR (r)⟩):=Lib.cell_of_heap hc 0;have Hc:=hid hc;have hle:=cO (fun c=>!aR c) r;change bR r≤r.length at hle;clear hc;go_enter func228,ntmps228
 go_wp2_with fail
 go_loop [3] (fun i=>∃ k:Nat,k≤bR r∧i=.int .i64 k) (fun i=>bR r - (intOf i).toNat)
 case atStart=>exact⟨0,QA,rfl⟩
 case round =>
  obtain⟨k,hk,rfl⟩:=hrel;by_cases az:k<bR r
  ·have hx:aR r[k]=true:=by have:=ju (p:=fun c=>!aR c) az QA;simpa using this
   go_wp2_with (go_at_call 255;refine(eT _ _).mono ?_;rintro e w' ⟨rfl,rfl⟩)
   go_round
   case rel=>exact⟨k+1,QA,by go_num⟩
   case measure=>simp[intOf];omega
  ·obtain rfl:k=bR r:=QA
   clear hk az;by_cases kE:bR r=r.length
   ·have eZ:((bR r:Int)==(r.length:Int))=true:=by simp[kE]
    have Hs:=hid (show cH r n=(191,n,r) by unfold cH;rw[if_pos kE]);go_wp2_with (go_at_call 255;refine(eT _ _).mono ?_;rintro e w' ⟨rfl,rfl⟩)
    go_ret
    rw[Hs.out];exact⟨rfl,Hc.out,Fr.refl _ _⟩
   ·have BN:bR r<r.length:=QA
    have eZ:((bR r:Int)==(r.length:Int))=false:=beq_eq_false_iff_ne.2 QA;have hx:aR r[bR r]=false:=by
     have h:=iM (p:=fun c=>!aR c) (l:=r) BN;simp only[Bool.not_eq_true']at h;exact h
    clear kE;have Hsep:=hid (Cm BN);by_cases hz:bR r=0
    ·have Hs:=hid (show cH r n=(190,n,r) by unfold cH;rw[if_neg QA,if_pos (Or.inl hz)])
     have qv:((bR r:Int)==0)=true:=by simp[hz]
     clear hz;go_wp2_with (go_at_call 255;refine(eT _ _).mono ?_;rintro e w' ⟨rfl,rfl⟩)
     go_ret
     rw[Hs.out];exact⟨rfl,Hc.out,Fr.refl _ _⟩
    ·have qv:((bR r:Int)==0)=false:=beq_eq_false_iff_ne.2 QA
     have BP:=semi_at r[bR r];cases qj:ui r
     ·have Hs:=hid (show cH r n=(190,n,r) by unfold cH;rw[if_neg QA,if_pos (Or.inr qj)])
      have hi:Lib.indexByte [59,13] r[bR r]=-1:=by
       rw[BP];have:=Hsep.out;rw[qj]at this;simp at this;rw[if_neg (by simp_all),if_neg (by simp_all)]
      have Hi:=hid hi;clear hi BP qj;go_wp2_with (first
       | (go_at_call 255;refine(eT _ _).mono ?_;rintro e w' ⟨rfl,rfl⟩)
       | (go_at_call 209;refine(eM _ _ _).mono ?_;rintro e w' ⟨rfl,rfl⟩;rw[Hi.out]))
      go_ret
      rw[Hs.out];exact⟨rfl,Hc.out,Fr.refl _ _⟩
     ·have hi:¬ Lib.indexByte [59,13] r[bR r]<0:=by
       rw[BP];have:=Hsep.out;rw[qj]at this;simp at this
       rcases this with h|h
       ·rw[if_pos h];decide
       ·rw[h];decide
      have Hs:=hid (show cH r n=if (aO (r.drop (pre cZ r))).1=0 then(0,oM r (bR r),(aO (r.drop (pre cZ r))).2) else((aO (r.drop (pre cZ r))).1,n,(aO (r.drop (pre cZ r))).2) by
       unfold cH;rw[if_neg QA,if_neg (by simp[hz,qj])])
      clear BP qj hz;by_cases he:(aO (r.drop (pre cZ r))).1=0
      ·have Hs2:=hid (Hs.out.trans (if_pos he))
       have he2:((aO (r.drop (pre cZ r))).1 != 0)=false:=by simp[he]
       clear he;have xP:oM r (bR r)=if (aF aR 16 4611686018427387904 (r.take (bR r))).2=0 then(aF aR 16 4611686018427387904 (r.take (bR r))).1 else 4611686018427387904:=rfl
       generalize hnp:aF aR 16 4611686018427387904 (r.take (bR r))=np at xP;have Hnp:=hid hnp;have Hso:=hid xP;clear hnp xP;by_cases Pe:np.2=0
       ·have Hso2:=hid (Hso.out.trans (if_pos Pe))
        have he4:(np.2 != 0)=false:=by simp[Pe]
        clear Pe;go_wp2_with (first
         | (go_at_call 255;refine(eT _ _).mono ?_;rintro e w' ⟨rfl,rfl⟩)
         | (go_at_call 209;refine(eM _ _ _).mono ?_;rintro e w' ⟨rfl,rfl⟩)
         | (go_at_call 266;refine(uO _ _ QC).mono ?_;rintro e w3 ⟨rfl,Mk⟩;subst Mk;rw[Hnp.out])
         | (go_at_call 232;refine(ny cb r n _ hr Hc.out).mono ?_;rintro e w2 ⟨rfl,mK,qk⟩;have bS:=Lib.cell_of_heap mK 1;have hz2:=Lib.frozen_of_heap mK 1;replace mK:=hid mK))
        go_ret
        rw[Hs2.out,Hso2.out];exact⟨rfl,heap_set mK.out _,qk.trans (Fr.LA _ _)⟩
       ·have Hso2:=hid (Hso.out.trans (if_neg Pe))
        have he4:(np.2 != 0)=true:=by simp[Pe]
        clear Pe;go_wp2_with (first
         | (go_at_call 255;refine(eT _ _).mono ?_;rintro e w' ⟨rfl,rfl⟩)
         | (go_at_call 209;refine(eM _ _ _).mono ?_;rintro e w' ⟨rfl,rfl⟩)
         | (go_at_call 266;refine(uO _ _ QC).mono ?_;rintro e w3 ⟨rfl,Mk⟩;subst Mk;rw[Hnp.out])
         | (go_at_call 232;refine(ny cb r n _ hr Hc.out).mono ?_;rintro e w2 ⟨rfl,mK,qk⟩;have bS:=Lib.cell_of_heap mK 1;have hz2:=Lib.frozen_of_heap mK 1;replace mK:=hid mK))
        go_ret
        rw[Hs2.out,Hso2.out];exact⟨rfl,heap_set mK.out _,qk.trans (Fr.LA _ _)⟩
      ·have Hs2:=hid (Hs.out.trans (if_neg he))
       have he2:((aO (r.drop (pre cZ r))).1 != 0)=true:=by simp[he]
       clear he;go_wp2_with (first
        | (go_at_call 255;refine(eT _ _).mono ?_;rintro e w' ⟨rfl,rfl⟩)
        | (go_at_call 209;refine(eM _ _ _).mono ?_;rintro e w' ⟨rfl,rfl⟩)
        | (go_at_call 232;refine(ny cb r n _ hr Hc.out).mono ?_;rintro e w2 ⟨rfl,mK,qk⟩))
       go_ret
       rw[Hs2.out];exact⟨rfl,mK,qk⟩
open Go.RowKit Wf
attribute [local go_sem] fN eY get_list
def yL (w:World)(b:Nat):Nat:=lR ((w.cell? ⟨b,0,none⟩).getD undef)
theorem pG {w:World}{b:Nat}{r:Bytes}{x:Value}{T:TypeId}(h:w.heap[b]? = some (.cells #[(Value.string ⟨zSR (r)⟩),x] T (0,0))):yL w b=r.length:=by
 unfold yL;rw[Lib.cell_of_heap h 0];rfl
set_option maxRecDepth 100000 in
theorem ET (s:Bytes)(most:Int)(w:World)(hs:s.length≤4000000)(h1:-9223372036854775808≤most)(h2:most≤9223372036854775807) :
 Calls Tryz.prog 178 #[(Value.string ⟨zSR (s)⟩),.int .i64 most] w fun e w'=>e=.returned (.tuple #[(Value.string ⟨zSR ((chunked s most).1)⟩),.int .i64 (chunked s most).2])∧Below w.heap.size w w':=by
 go_enter func178,ntmps178
 go_wp2_with fail
 go_step3
 go_wp2_with fail
 go_step3
 go_wp2_with fail
 go_loopw [] (fun wr=>∃ (f:Nat) (acc r:Bytes) (old:Nat),r.length<f∧r.length+acc.length≤s.length∧(0≤most→(acc.length:Int)≤most)∧old≤4611686018427387904∧xc w.heap.size acc wr∧wr.heap[w.heap.size+1]? = some (.cells #[(Value.string ⟨zSR (r)⟩),.int .u64 old] 256 (0,0))∧Below w.heap.size w wr∧ij most f acc r old=chunked s most) (fun wr=>yL wr (w.heap.size+1))
 case atStart =>
  refine⟨s.length+1,[],s,0,QA,QB,QB,QA,?_,?_,((Below.refl _ _).alloc (zS6 _) _).alloc QB _,rfl⟩
  ·exact(xc.fresh w).alloc _
  ·have:=eK (w.alloc (.cells #[.pointer none,.slice none 0 0] 253)) (.cells #[(Value.string ⟨zSR (s)⟩),.int .u64 0] 256)
   rw[size_alloc]at this;exact this
 case round =>
  obtain⟨f,acc,r,old,hf,hra,hm,ho,hb,hc,hw,heq⟩:=hrel;have Hb:=hid hb;have Hc:=hid hc;have Hw:=hid hw;have Hcl:=hid (pG hc);cases f with
  | zero=>omega
  | succ f =>
  have fH:=Ly r old;have Ba:=FA (r:=r) (old:=old);have hsb:=FB r old ho;rw[ij]at heq;have lZ:=ER (w.heap.size+1) r old wr QA hc;generalize cH r old=S at fH Ba hsb heq lZ;obtain⟨e,n,r2⟩:=S;simp only at fH Ba hsb heq lZ;have Heq:=hid heq;have Hsz:=hid lZ;clear hb hc hw heq lZ;by_cases he:e=0
  ·have Hsk:=hid (Ba he)
   clear Ba;subst he;go_wp2_with fail
   refine Hsz.out.mono ?_;rintro e w2 ⟨rfl,mK,qk⟩;have qv:xc w.heap.size acc w2:=Hb.out.fr qk Hc.out QD QA;have gQ:=Hw.out.trans (qk.below (B:=w.heap.size) (fun k hk=>QA) (Nat.le_of_lt Hb.out.lt));have jG:=Lib.cell_of_heap mK 1;have KN:=Lib.cell_of_heap mK 0;have hz2:=Lib.frozen_of_heap mK 0;have Hb2:=hid qv;have Hw2:=hid gQ;have Hc2:=hid mK;have Hf2:=hid qk;clear qv gQ mK qk;by_cases Et:most<0
   ·have Hq:=hid ((if_pos (Or.inl Et)).symm.trans Heq.out)
    go_wp2_with fail
    go_quiet (fail)
    go_wp2_with fail
    rw[Exit.noGoto_ret];go_ret2
    rw[← Hq.out];exact⟨rfl,below_drewN Hw2.out _⟩
   ·have hm':=hm QA
    have uY:IntKind.i64.wrap (most - (acc.length:Int))=most - (acc.length:Int):=IntWalk.i64_in _ QA;have fI:IntKind.u64.wrap (most - (acc.length:Int))=most - (acc.length:Int):=u64_in QA QA;by_cases JP:most - acc.length<n
    ·have Hq:=hid ((if_pos (Or.inr JP)).symm.trans Heq.out)
     go_wp2_with fail
     go_quiet ((go_at_call 229;refine oU (rD _ acc _ (by exact Hb2.out))))
     clear uY fI;go_wp2_with fail
     rw[Exit.noGoto_ret];go_ret2
     rw[← Hq.out];exact⟨rfl,below_drewN Hw2.out _⟩
    ·have Hq:=hid ((if_neg (show ¬ (most<0∨most - acc.length<n) by omega)).symm.trans Heq.out)
     have hbg:decide (most - (acc.length:Int)<(n:Int))=false:=decide_eq_false JP;by_cases kj:n=0
     ·have Hq2:=hid ((if_pos kj).symm.trans Hq.out)
      have hn0':((n:Int)==0)=true:=by simp[kj]
      go_wp2_with fail
      go_quiet ((go_at_call 229;refine oU (rD _ acc _ (by exact Hb2.out))))
      clear uY fI;subst kj;have Hb3:Hid (xc w.heap.size acc (w2.drewN nq)):=hid Hb2.out;have Hw3:Hid (Below w.heap.size w (w2.drewN nq)):=hid (below_drewN Hw2.out _);have Hc3:Hid ((w2.drewN nq).heap[w.heap.size+1]? = some (.cells #[(Value.string ⟨zSR (r2)⟩),.int .u64 ((0:Nat):Int)] 256 (0,0))):=hid Hc2.out;clear Hb Hc Hw Hcl Heq Hsz jG KN hz2 Hb2 Hw2 Hc2 Hf2 hm ho Hq hsb Hsk hbg hn0';have hbg0:decide (most - (acc.length:Int)<0)=false:=QG;generalize w2.drewN nq=w3 at Hb3 Hw3 Hc3 ⊢;have tT:=Lib.cell_of_heap Hc3.out 1;have hr3:=Lib.cell_of_heap Hc3.out 0;have hng0:decide (most<0)=false:=QG;go_wp2_with fail
      clear tT hr3;simp only[hbg0,hng0,Bool.or_self];go_loopw [] (fun wq=>∃ (g:Nat) (q:Bytes),q.length<g∧q.length≤r2.length∧xc w.heap.size acc wq∧wq.heap[w.heap.size+1]? = some (.cells #[(Value.string ⟨zSR (q)⟩),.int .u64 ((0:Nat):Int)] 256 (0,0))∧Below w.heap.size w wq∧eD g q=eD (r2.length+1) r2) (fun wq=>yL wq (w.heap.size+1))
      case atStart=>exact⟨r2.length+1,r2,QA,QA,Hb3.out,Hc3.out,Hw3.out,rfl⟩
      case round =>
       obtain⟨g,q,hg,hq,hb,hc,hw,htr⟩:=hrel;have Hb4:=hid hb;have Hc4:=hid hc;have Hw4:=hid hw;have Hcl:=hid (pG hc);cases g with
       | zero=>omega
       | succ g =>
       rw[eD]at htr;have BN:=ny (w.heap.size+1) q (0:Nat) wr QA hc;have hnk:=zK (r:=q.drop (pre cZ q));have hple:=cO cZ q;have htl:(q.take (pre cZ q)).length=pre cZ q:=by simp;omega
       simp only[zTl]at hnk;generalize aO (q.drop (pre cZ q))=E at BN hnk htr;generalize q.take (pre cZ q)=tk at BN htr htl;obtain⟨e,q2⟩:=E;simp only at BN hnk htr;have Hln:=hid BN;have Htr:=hid htr;clear hb hc hw BN htr;by_cases he:e=0
       ·have hnk':=hnk he
        clear hnk;subst he;by_cases G4:tk=[]
        ·have htk':tk.isEmpty=true:=by simp[G4]
         have Htr2:=hid ((if_pos G4).symm.trans ((if_neg (show ¬ ((0:Int)≠0) by simp)).symm.trans Htr.out));go_wp2_with fail
         refine Hln.out.mono ?_;rintro e w2 ⟨rfl,mK,qk⟩;have Hc2:=hid mK;have Hf2:=hid qk;have Hb5:=hid (Hb4.out.fr qk Hc4.out QD QA);have Hw5:=hid (Hw4.out.trans (qk.below (B:=w.heap.size) (fun k hk=>QA) (Nat.le_of_lt Hb4.out.lt)));clear mK qk;go_wp2_with (go_at_call 233;refine(AV _ acc _ Hb5.out).mono ?_;rintro e w6 ⟨rfl,hb6,hw6,ho6⟩)
         rw[Exit.noGoto_ret];go_ret2
         have hq:=Hq2.out;rw[← Htr2.out,if_neg QB]at hq;rw[← hq];exact⟨rfl,Hw5.out.trans hw6⟩
        ·have htk':tk.isEmpty=false:=by simp[G4]
         have Htr2:=hid ((if_neg G4).symm.trans ((if_neg (show ¬ ((0:Int)≠0) by simp)).symm.trans Htr.out));go_wp2_with fail
         refine Hln.out.mono ?_;rintro e w2 ⟨rfl,mK,qk⟩;have Hc2:=hid mK;have Hb5:=hid (Hb4.out.fr qk Hc4.out QD QA);have Hw5:=hid (Hw4.out.trans (qk.below (B:=w.heap.size) (fun k hk=>QA) (Nat.le_of_lt Hb4.out.lt)));clear mK qk;go_wp2_with fail
         refine⟨⟨g,q2,QA,QA,Hb5.out,Hc2.out,Hw5.out,Htr2.out⟩,?_⟩;rw[pG Hc2.out,Hcl.out];omega
       ·have he2:(e != 0)=true:=by simp[he]
        go_wp2_with fail
        refine Hln.out.mono ?_;rintro e w2 ⟨rfl,mK,qk⟩;have Htr2:=hid ((if_pos he).symm.trans Htr.out);go_wp2_with fail
        rw[Exit.noGoto_ret];go_ret2
        have hq:=Hq2.out;rw[← Htr2.out,if_pos he]at hq;rw[← hq];exact⟨rfl,Hw4.out.trans (qk.below (B:=w.heap.size) (fun k hk=>QA) (Nat.le_of_lt Hb4.out.lt))⟩
     ·have Hq2:=hid ((if_neg kj).symm.trans Hq.out)
      have hn0':((n:Int)==0)=false:=by simp[kj]
      clear Heq Hq;go_wp2_with fail
      go_quiet ((go_at_call 229;refine oU (rD _ acc _ (by exact Hb2.out))))
      clear uY fI;have Hb3:Hid (xc w.heap.size acc (w2.drewN nq)):=hid Hb2.out;have Hw3:Hid (Below w.heap.size w (w2.drewN nq)):=hid (below_drewN Hw2.out _);have Hc3:Hid ((w2.drewN nq).heap[w.heap.size+1]? = some (.cells #[(Value.string ⟨zSR (r2)⟩),.int .u64 (n:Int)] 256 (0,0))):=hid Hc2.out;clear Hb Hc Hw Hsz jG KN hz2 Hb2 Hw2 Hc2 Hf2 hm ho hbg;generalize w2.drewN nq=w3 at Hb3 Hw3 Hc3 ⊢;have tT:=Lib.cell_of_heap Hc3.out 1;have hr3:=Lib.cell_of_heap Hc3.out 0;have hz3:=Lib.frozen_of_heap Hc3.out 0;have CO:IntKind.u64.wrap (r2.length:Int)=(r2.length:Int):=u64_in QA QA;by_cases hsh:r2.length<n
      ·have Hq3:=hid ((if_pos hsh).symm.trans Hq2.out)
       go_wp2_with fail
       go_quiet (fail)
       clear CO;go_wp2_with fail
       rw[Exit.noGoto_ret];go_ret2
       rw[← Hq3.out];exact⟨rfl,below_drewN Hw3.out _⟩
      ·have Hq3:=hid ((if_neg hsh).symm.trans Hq2.out)
       have hsh':decide ((r2.length:Int)<(n:Int))=false:=QG;go_wp2_with fail
       go_quiet (fail)
       clear CO;go_wp2_with fail
       have hr4:(w3.drewN nq).cell? ⟨w.heap.size+1,0,none⟩=some (Value.string ⟨zSR (r2)⟩):=hr3;have hn4:(w3.drewN nq).cell? ⟨w.heap.size+1,1,none⟩=some (.int .u64 n):=tT;have Hb4:Hid (xc w.heap.size acc (w3.drewN nq)):=hid Hb3.out;have Hw4:Hid (Below w.heap.size w (w3.drewN nq)):=hid (below_drewN Hw3.out _);have Hc4:Hid ((w3.drewN nq).heap[w.heap.size+1]? = some (.cells #[(Value.string ⟨zSR (r2)⟩),.int .u64 (n:Int)] 256 (0,0))):=hid Hc3.out;clear hr3 tT hz3;have hle4:n≤r2.length:=QA;generalize w3.drewN nq=w4 at hr4 hn4 Hb4 Hw4 Hc4 ⊢;go_still_tail 9,QE
       change wpList _ _ _ _ _ w4.drew;have pc:xc w.heap.size acc w4.drew:=Hb4.out;have hw4:Below w.heap.size w w4.drew:=Hw4.out.drew;have hc4:w4.drew.heap[w.heap.size+1]? = some (.cells #[(Value.string ⟨zSR (r2)⟩),.int .u64 (n:Int)] 256 (0,0)):=Hc4.out;have Hb5:=hid pc;have Hw5:=hid hw4;have Hc5:=hid hc4;clear hr4 hn4 Hb4 Hw4 Hc4 pc hw4 hc4;generalize w4.drew=w5 at Hb5 Hw5 Hc5 ⊢;go_wp2_with (go_at_call 230;refine(sf _ acc (r2.take n) _ (by exact Hb5.out) QC).mono ?_;rintro e w6 ⟨rfl,hb6,hw6,ho6⟩)
       have hc6:=Fr.kept ho6 Hc5.out QA QD;have hr6:=Lib.cell_of_heap hc6 0;have hn6:=Lib.cell_of_heap hc6 1;have hz6:=Lib.frozen_of_heap hc6 0;have Hb6:=hid hb6;have Hw6:=hid (Hw5.out.trans hw6);have Hc6:=hid hc6;clear Hb5 Hw5 Hc5 hb6 hw6 ho6 hc6;go_still_tail 12,QE
       change wpList _ _ _ _ _ w6.drew;go_wp2_with fail
       have tF:=mw (w.heap.size+1) (r2.drop n) n (w6.setCell ⟨w.heap.size+1,0,none⟩ (Value.string ⟨zSR (r2.drop n)⟩)).drew QC (by exact heap_set Hc6.out _);have hnk:=zL (r2.drop n);simp only[zTl]at hnk;have hq4:=Hq3.out;clear Hq2 Hq3 hr6 hn6 hz6;generalize aO (r2.drop n)=E at tF hnk hq4;obtain⟨e2,q2⟩:=E;simp only at tF hnk hq4;have Hnl:=hid tF;have Hq4:=hid hq4;clear tF hq4;have Hw7:Hid (Below w.heap.size w (w6.setCell ⟨w.heap.size+1,0,none⟩ (Value.string ⟨zSR (r2.drop n)⟩)).drew):=hid ((Hw6.out.setCell (p:=⟨w.heap.size+1,0,none⟩) QB _).drew);have Hb7:Hid (xc w.heap.size (acc++r2.take n) (w6.setCell ⟨w.heap.size+1,0,none⟩ (Value.string ⟨zSR (r2.drop n)⟩)).drew):=hid (Hb6.out.fr (Fr.LA _ _).drew Hc6.out QD QA);have Hc7:Hid ((w6.setCell ⟨w.heap.size+1,0,none⟩ (Value.string ⟨zSR (r2.drop n)⟩)).drew.heap[w.heap.size+1]? = some (.cells #[(Value.string ⟨zSR (r2.drop n)⟩),.int .u64 (n:Int)] 256 (0,0))):=hid (heap_set Hc6.out _);clear Hb6 Hw6 Hc6;have hml:(r2.take n).length=n:=by simp;omega
       have Hml:=hid hml;clear hml;generalize (w6.setCell ⟨w.heap.size+1,0,none⟩ (Value.string ⟨zSR (r2.drop n)⟩)).drew=w7 at Hnl Hw7 Hb7 Hc7 ⊢;refine Hnl.out.mono ?_;rintro e w8 ⟨rfl,Mx,hf8⟩;have Hc8:=hid Mx;have Hw8:=hid (Hw7.out.trans (hf8.below (B:=w.heap.size) (fun k hk=>QA) (Nat.le_of_lt Hb7.out.lt)));have Hb8:=hid (Hb7.out.fr hf8 Hc7.out QD QA);clear Mx hf8 Hb7 Hw7 Hc7;by_cases hee:e2=0
       ·have Hq5:=hid ((if_neg (show ¬ (e2≠0) by simp[hee])).symm.trans Hq4.out)
        have he2:(e2 != 0)=false:=by simp[hee]
        clear hee Hq4;go_wp2_with fail
        have hsk2:=Hsk.out;refine⟨⟨f,acc++r2.take n,q2,n,QA,QC,fun _=>by simp only[zSU,Hml.out];omega,QA,Hb8.out,Hc8.out,Hw8.out,Hq5.out⟩,?_⟩;rw[pG Hc8.out,Hcl.out];omega
       ·have Hq5:=hid ((if_pos (show e2≠0 from hee)).symm.trans Hq4.out)
        have he2:(e2 != 0)=true:=by simp[hee]
        clear hee Hq4;go_wp2_with fail
        rw[Exit.noGoto_ret];go_ret2
        rw[← Hq5.out];exact⟨rfl,Hw8.out⟩
  ·have he2:(e != 0)=true:=by simp[he]
   clear Ba;go_wp2_with fail
   refine Hsz.out.mono ?_;rintro e w2 ⟨rfl,mK,qk⟩;go_wp2_with fail
   rw[Exit.noGoto_ret];go_ret2
   rw[if_pos he]at Heq;rw[← Heq.out];exact⟨rfl,Hw.out.trans (qk.below (B:=w.heap.size) (fun k hk=>QA) (Nat.le_of_lt Hb.out.lt))⟩
open Go.RowKit Wf
attribute [local go_sem] fN eY get_list
theorem LL (n:Nat)(w:World)(h0:0<n)(hn:n≤1000000000) :
 Calls Tryz.prog 159 #[.int .i64 n] w fun e w'=>e=.returned (Value.string ⟨zSR (nO n)⟩)∧w=w':=by
 go_enter func159,ntmps159
 go_wp2
 go_loop [0,3] (fun t i=>∃ (k:Nat) (l:Bytes),0<k∧k+l.length≤n∧t=.int .i64 k∧i=(Value.string ⟨zSR (l)⟩)∧nO k++l=nO n) (fun t i=>(intOf t).toNat)
 case atStart=>exact⟨n,[],h0,QB,rfl,rfl,QB⟩
 case round =>
  obtain⟨k,l,kD,hk,rfl,rfl,heq⟩:=hrel;have Heq:=hid (Pc kD heq);clear heq;by_cases hz:k / 16=0
  ·have hz':((k:Int) / 16==0)=true:=by simp;omega
   go_wp2
   go_ret
   refine⟨kT ?_,rfl⟩;have:=Heq.out
   rw[hz,jY]at this;rw[Pd];exact this
  ·have hz':((k:Int) / 16==0)=false:=by simp;omega
   go_wp2
   go_round
   case rel=>exact⟨k / 16,wK (k % 16)::l,QA,QC,by go_num,by rw[Pd];rfl,Heq.out⟩
   case measure=>simp[intOf];omega
theorem DM (s:Bytes)(size:Int)(w:World)(hs:s.length≤1100000)(h1:-9223372036854775808≤size)(h2:size≤9223372036854775807) :
 Calls Tryz.prog 97 #[(Value.string ⟨zSR (s)⟩),.int .i64 size] w fun e w'=>e=.returned (Value.string ⟨zSR (encode size s)⟩)∧Below w.heap.size w w':=by
 go_enter func97,ntmps97
 go_wp2
 go_loopw [0,5] (fun v o wr=>∃ s' acc:Bytes,v=(Value.string ⟨zSR (s')⟩)∧o=(Value.string ⟨zSR (acc)⟩)∧s'.length≤s.length∧Below w.heap.size w wr∧acc.length+100 * s'.length≤100 * s.length∧acc++encode size s'=encode size s) (fun v _ _=>lR v)
 case atStart=>exact⟨s,[],rfl,rfl,QA,Below.refl _ _,QB,QB⟩
 case round =>
  obtain⟨s',acc,rfl,rfl,hs',hw,hl,heq⟩:=hrel;have Heq:=hid heq;have Hw:=hid hw;clear heq hw;cases hn:s'.isEmpty
  ·have bF:s'≠[]:=by rintro rfl;simp at hn
   obtain⟨hp1,hp2⟩:=lj (size:=size) bF;have fY:min (max 1 size) (s'.length:Int)=(df size s':Int):=by unfold df;omega
   have hnx:=HL (size:=size) bF Heq.out;clear Heq;generalize df size s'=n at *;have o6:=xT n;have Hnx:=hid hnx;have Hcl:=hid fY;clear fY hnx bF;go_wp2
   rw[Hcl.out];go_quiet ((go_at_call 159;exact oU (LL _ _ hp1 QA)))
   go_wp2
   refine⟨⟨s'.drop n,_,rfl,rfl,QC,below_drewN Hw.out _,QC,Hnx.out⟩,?_⟩;simp[sLen_mk];omega
  ·have bF:s'=[]:=by simpa using hn
   have heq:=Heq.out;rw[bF,iS]at heq;have Heq2:=hid heq;clear heq;go_wp2_with fail
   go_ret
   exact⟨kT Heq2.out,Hw.out⟩
open Go.RowKit Wf
attribute [local go_sem] fN eY get_list
open Go Vc Go.RowKit
theorem Mt (w:World)(o:Obj):(w.alloc o).heap[w.heap.size]? = some o:=by
 show (w.heap.push o)[w.heap.size]? = some o
 simp
theorem JM (w:World)(o:Obj):(w.alloc o).heap.size=w.heap.size+1:=by
 show (w.heap.push o).size=_
 simp
theorem sc_row {V:Cx}{f:FuncId}{args:List SV}{bs:List aq}{c:List SV}{T:TypeId}(tH:Vc.Enters V f)(hfa:flat.ah args=true)(hfc:flat.ah c=true)(hn:c.length≤maxLen)
 (h:∀ w,V.E w→Calls V.P f (aZ nX args).toArray w fun e w'=>e=.returned (.slice (some ⟨w.heap.size,0,none⟩) c.length c.length)∧w'=w.alloc (.cells (aZ nX c).toArray T)) :
 SC V f args bs (fun r b=>r=.o bs.length c.length∧b=bs++[.own c T 1 c.length true]):=by
 refine⟨tH,fun β fp w nU hG hE=>?_⟩;rw[eX args hfa β nX];refine(h w hE).mono ?_;rintro e w' ⟨rfl,rfl⟩;have hb:Below w.heap.size w (w.alloc (.cells (aZ nX c).toArray T)):=Below.alloc (Below.refl _ _) (zS6 _) _;refine⟨.o bs.length c.length,bs++[.own c T 1 c.length true],fun i=>if i<bs.length then β i else⟨w.heap.size,0,c.length+1⟩,
  fun i k=>if i<bs.length then fp i k else(i=bs.length∧k=w.heap.size),⟨rfl,rfl⟩,fun i hi=>by simp[hi],QB,fun β' hβ=>?_,tW.kg hb,?_⟩
 ·have hAgr:cP bs.length β β':=fun i hi=>by
   have:=hβ i (by rw[zSU];omega)
   simpa[hi] using this
  have uZ:β' bs.length=⟨w.heap.size,0,c.length+1⟩:=by
   have:=hβ bs.length QB
   simpa using this.symm
  have Mz:=nU β' hAgr;refine⟨?_,?_,?_,?_⟩
  ·simp[aj,uZ,oV]
  ·intro i r hi
   rcases zTf i bs.length with az|sL
   ·rw[zSS az]at hi
    have:=(Mz.holds i r hi).stays (w':=w.alloc (.cells (aZ nX c).toArray T)) (fun k hk=>hb.block k (Mz.lt i r hi k hk))
    simpa[az] using this
   ·rw[zTc sL]at hi
    obtain rfl:i=bs.length:=by
     rcases Nat.eq_or_lt_of_le sL with e|e
     ·exact e.symm
     ·rw[zTd QC]at hi;cases hi
    simp only[zS7,List.getElem?_cons_zero,Option.some.injEq]at hi;subst hi;right
    have hc:(aZ nX c)=c.map (aj β'):=by rw[← cu,eX c hfc nX β']
    have hhd:Head (w.alloc (.cells (aZ nX c).toArray T)) w.heap.size T (c.map (aj β')) [] (0,0):=⟨by rw[List.append_nil,← hc];exact Mt _ _,.inr (zS6 _)⟩;rw[uZ];exact⟨QB,QB,by simpa using hn,QB,hhd.wE,fun _=>⟨rfl,[],(0,0),hhd,.inr (zS6 _),QB⟩,fun k=>QB⟩
  ·intro i r hi k hk
   rcases zTf i bs.length with az|sL
   ·rw[zSS az]at hi
    simp only[az,if_true]at hk;exact Nat.lt_of_lt_of_le (Mz.lt i r hi k hk) hb.size
   ·simp only[show ¬ i<bs.length by omega,if_false]at hk
    rw[hk.2,JM];omega
  ·intro i j r r' hi hj Hj hm k hk hk'
   rcases zTf i bs.length with az|sL
   ·rw[zSS az]at hi
    simp only[az,if_true]at hk;rcases zTf j bs.length with p9|hjg
    ·rw[zSS p9]at hj
     simp only[p9,if_true]at hk';exact Mz.sep i j r r' hi hj Hj hm k hk hk'
    ·simp only[show ¬ j<bs.length by omega,if_false]at hk'
     have:=Mz.lt i r hi k hk
     omega
   ·simp only[show ¬ i<bs.length by omega,if_false]at hk
    rcases zTf j bs.length with p9|hjg
    ·rw[zSS p9]at hj
     simp only[p9,if_true]at hk';have:=Mz.lt j r' hj k hk'
     omega
    ·simp only[show ¬ j<bs.length by omega,if_false]at hk'
     omega
 ·refine⟨fun i r' hi hm k hk=>?_,fun i r' hi k hk=>?_⟩
  ·rcases zTf i bs.length with az|sL
   ·rw[zSS az]at hi
    simp only[az,if_true]at hk;exact .inr ⟨i,r',hi,hm,hk⟩
   ·simp only[show ¬ i<bs.length by omega,if_false]at hk
    exact .inl QA
  ·rcases zTf i bs.length with az|sL
   ·rw[zSS az]at hi
    simp only[az,if_true]at hk;exact .inr ⟨i,r',hi,hk⟩
   ·simp only[show ¬ i<bs.length by omega,if_false]at hk
    exact .inl QA
open Go Vc Go.RowKit Wf
theorem p_CutS (l p:Bytes)(hl:l.length<4294967281):PC QH 172 [.str l,.str p] (.eh [.str (Lib.cut l p).1,.str (Lib.cut l p).2.1,.bool (Lib.cut l p).2.2]) :=
 ⟨call172,by simp[flat,flat.ah],by simp[flat,flat.ah],fun w ⟨m,hm⟩=>(Tryz.strings_Cut ⟨zSR l⟩ ⟨zSR p⟩ m w hl hm).mono fun _ _ ⟨h,k⟩=>⟨h,below_draws k⟩⟩
theorem CX:∀ L:List Bytes,flat.ah (L.map SV.str)=true
 | []=>by simp[flat.ah]
 | x::L=>by simp[flat.ah,flat,CX L]
theorem FG {bs:List aq}(s sep:Bytes)(L:List Bytes)(hL:Lib.splitK sep 0 (Lib.count s sep) s=L)(hs:s.length≤1100000)(hp:1≤sep.length) :
 SC QH 234 [.str s,.str sep] bs (fun r b=>r=.o bs.length L.length∧b=bs++[.own (L.map SV.str) 9 1 L.length true]):=by
 have hd:=Lib.splitB_data ⟨zSR sep⟩ 0 (Lib.countB ⟨zSR s⟩ ⟨zSR sep⟩) ⟨zSR s⟩;have hlen:=Lib.splitB_all ⟨zSR sep⟩ hp 0 _ ⟨zSR s⟩ rfl;have hle:=Lib.countB_le ⟨zSR sep⟩ hp s.length ⟨zSR s⟩ (zS6 _);have hz:(⟨zSR s⟩:ByteArray).size=s.length:=rfl;have fY:Lib.countB ⟨zSR s⟩ ⟨zSR sep⟩+1=L.length:=by
  rw[← hlen,← hL];have:=congrArg List.length hd
  rw[zTg]at this;exact this
 have e:(Lib.splitB ⟨zSR sep⟩ 0 (Lib.countB ⟨zSR s⟩ ⟨zSR sep⟩) ⟨zSR s⟩).map Value.string=L.map oL:=by
  rw[← hL];refine Eq.trans ?_ (congrArg (List.map oL) hd);rw[List.map_map];exact List.map_congr_left fun x _=>rfl
 refine(sc_row (V:=QH) (c:=L.map SV.str) (T:=9) call234 (by simp[flat,flat.ah]) ?_ ?_ fun w ⟨m,hm⟩=>?_).mono ?_
 ·exact CX L
 ·unfold maxLen;rw[zTg];omega
 ·refine(Tryz.strings_Split ⟨zSR s⟩ ⟨zSR sep⟩ m w (show s.length<4294967281 by omega) hm hp).mono fun _ _ ⟨h,k⟩=>⟨?_,?_⟩
  ·rw[h,fY,zTg]
  ·rw[k,e]
   congr 2
   rw[cu,List.map_map];exact congrArg zSR (List.map_congr_left fun x _=>rfl)
 ·rintro r b ⟨h1,h2⟩
  rw[zTg]at h1 h2;exact⟨h1,h2⟩
def BAt (i:Nat)(l:Bytes)(b:List aq):Prop:=b[i]? = some (.ext (si 253 5 l))∨(l=[]∧b[i]? = some (.cells [.v (.pointer none),.ai] 253 true))
theorem BAt.lt {i:Nat}{l:Bytes}{b:List aq}(h:BAt i l b):i<b.length:=by
 rcases h with h|⟨-,h⟩ <;> exact(zSQ.1 h).1
theorem BAt.set {i:Nat}{l m:Bytes}{b:List aq}(h:BAt i l b):BAt i m (b.set i (.ext (si 253 5 m))):=.inl (zSX h.lt)
theorem zC (s:Bytes)(hs:s.length≤9223372036854775807):PC QH 235 [.str s] (.bool (bj s)) :=
 ⟨call235,by simp[flat,flat.ah],by simp[flat,flat.ah],fun w _=>(ik s w hs).mono fun _ _ ⟨h,k⟩=>⟨by rw[h];simp[aj,aZ],by subst k;exact cG rfl⟩⟩
theorem Gs (s:Bytes)(m:Nat)(hs:s.length≤9223372036854775807)(hm:m≤4611686018427387904):PC QH 236 [.str s,.int .u64 m] (.eh [.int .u64 (aF isDigit 10 m s).1,.int .i64 (aF isDigit 10 m s).2]) :=
 ⟨call236,by simp[flat,flat.ah],by simp[flat,flat.ah],fun w _=>(kW s m w hs hm).mono fun _ _ ⟨h,k⟩=>⟨by rw[h];simp[aj,aZ],by subst k;exact cG rfl⟩⟩
def Digs (D:Bytes):Prop:=D≠[]∧D.length≤1000∧∀ c∈D,isDigit c=true
theorem xx {bs:List aq}{j:Nat}{fs:List (Bytes × Bytes)}{m:Bool}(hj:bs[j]? = some (.own (fs.flatMap fc) 100 2 fs.length m))(hn:fs.length≤1000000)(hl:∀ f∈fs,f.1.length≤9223372036854775807)(name:Bytes)(Ai:name.length≤9223372036854775807)(a c:Int)(v:Bytes)(hv:Lib.join (bn fs name) [44,32]=v)(hlen:v.length≤1000000)(ok:Bool)(cn:decide (0<((bn fs name).length:Int))=ok) :
 SC QH 177 [.agg [.int .i64 a,.int .i64 c,.o j fs.length],.str name] bs (fun r b=>r=.eh [.str v,.bool ok]∧Kp bs b):=by
 have e9:j<bs.length:=(zSQ.1 hj).1;refine bp 3000 func177 rfl ntmps177 results177 call177 QB (af bs.length _ (by simp[within,within.av,e9])) ?_;refine JU ?_;have fU:=fun X=>ad hj [X]
 have w1:=fun X=>qI (bs:=bs++[X]) (fU X) hn hl name Ai a c
 refine ae (w1 _) ?_;rintro r b ⟨bm,fH⟩;have eA:=((Kp.refl bs).app [.cells [.int .i64 a,.int .i64 c,.o j fs.length] 48 true]).trans bm;have hvl:=gW fs name;rcases fH with⟨rfl,hc,kj⟩|⟨i,rfl,hLi,hi⟩
 ·have he:bn fs name=[]:=List.length_eq_zero_iff.1 kj
  rw[he]at hv cn;have hv:([]:Bytes)=v:=by rw[← hv];rfl
  have cn:false=ok:=by rw[← cn];rfl
  subst hv cn;refine iC ?_;refine ae (NY _) ?_;rintro r b ⟨rfl,rfl⟩;refine iC ?_;exact eA
 ·refine iC ?_
  have s1:=NX hi QA [44,32] (by rw[hv];omega);rw[hv]at s1;refine ae s1 ?_;rintro r b ⟨rfl,rfl⟩;refine gB cn ?_;exact eA
end Go.Proofs.YtnmlimehgifadaaGreatDoor
namespace Wf
open Go Go.RowKit
def bA (c:UInt8):Bool:=c==32||c==9
def trimB (s:Bytes):Bytes:=((s.dropWhile bA).reverse.dropWhile bA).reverse
def rU (c:UInt8):Bool:=isAlpha c||isDigit c||[33,35,36,37,38,39,42,43,45,46,94,95,96,124,126].contains c
def e7 (c:UInt8):Bool:=c==9||(decide (32≤c.toNat)&&c != 127)
def oh (s:Bytes):Bool:=!s.isEmpty&&s.all rU
def fB (s:Bytes):Bool:=s.all e7
def lh (l:Bytes):Option (Bytes × Bytes):=if (aL 58 l).2.2&&oh (aL 58 l).1&&fB (aL 58 l).2.1 then some (lower (aL 58 l).1,trimB (aL 58 l).2.1) else none
def fQ:Nat→Bytes→Bool→List (Bytes × Bytes)→List (Bytes × Bytes) × Int
 | 0,_,_,_=>([],0)
 | f+1,rest,more,fs =>
   if more=false then(fs,0) else if 64≤fs.length then([],161) else match lh (Lib.cut rest [13,10]).1 with
    | none=>([],180)
    | some x=>fQ f (Lib.cut rest [13,10]).2.1 (Lib.cut rest [13,10]).2.2 (fs++[x])
def eS:Bytes:=[72,84,84,80,47,49,46]
def lN (l:Bytes):Option (Int × Int) :=
 if Lib.hasPrefix l eS=false∨(l.drop 7).length<6 then none
 else if ((l.drop 7).getD 0 0 != 48&&(l.drop 7).getD 0 0 != 49)||(l.drop 7).getD 1 0 != 32||(l.drop 7).getD 5 0 != 32||!fB ((l.drop 7).drop 6) then none
 else if (aV 599 (((l.drop 7).drop 2).take 3)).2≠0∨(aV 599 (((l.drop 7).drop 2).take 3)).1<100 then none
 else some (((l.drop 7).getD 0 0).toNat - 48,(aV 599 (((l.drop 7).drop 2).take 3)).1)
def bL (s:Bytes):(Int × Int × List (Bytes × Bytes)) × Int × Int :=
 if Lib.index (s.take 16384) [13,10,13,10]<0 then((0,0,[]),0,if 16384<s.length then 142 else 191)
 else match lN (Lib.cut (s.take (Lib.index (s.take 16384) [13,10,13,10]).toNat) [13,10]).1 with
  | none=>((0,0,[]),0,180)
  | some (m,n) =>
    if (fQ (s.length+1) (Lib.cut (s.take (Lib.index (s.take 16384) [13,10,13,10]).toNat) [13,10]).2.1 (Lib.cut (s.take (Lib.index (s.take 16384) [13,10,13,10]).toNat) [13,10]).2.2 []).2=0
    then((m,n,(fQ (s.length+1) (Lib.cut (s.take (Lib.index (s.take 16384) [13,10,13,10]).toNat) [13,10]).2.1 (Lib.cut (s.take (Lib.index (s.take 16384) [13,10,13,10]).toNat) [13,10]).2.2 []).1),Lib.index (s.take 16384) [13,10,13,10]+4,0)
    else((0,0,[]),0,(fQ (s.length+1) (Lib.cut (s.take (Lib.index (s.take 16384) [13,10,13,10]).toNat) [13,10]).2.1 (Lib.cut (s.take (Lib.index (s.take 16384) [13,10,13,10]).toNat) [13,10]).2.2 []).2)
def ow (f:Bytes × Bytes):Bytes:=f.1++[58,32]++f.2
def headText (status:Nat)(fs:List (Bytes × Bytes)):Bytes:=eS++[49,32]++cf status++[32,45]++[13,10]++fs.flatMap (fun f=>ow f++[13,10])++[13,10]
def dec3 (st:Nat):Bytes:=[ry (st / 100),ry (st / 10 % 10),ry (st % 10)]
theorem AG {st:Nat}(h1:100≤st)(h2:st<1000):cf st=dec3 st:=by
 rw[jA QA,jA QA,fE QA];unfold dec3;rw[show st / 10 / 10=st / 100 by omega];rfl
open Go Go.RowKit
def so:Bytes:=[116,114,97,110,115,102,101,114,45,101,110,99,111,100,105,110,103]
def tQ:Bytes:=[99,111,110,116,101,110,116,45,108,101,110,103,116,104]
def Ca:Bytes:=[99,104,117,110,107,101,100]
def gP (s:Bytes):Option Nat :=
 if (aD 44 s).all (fun p=>trimB p==trimB (aL 44 s).1)&&bj (trimB (aL 44 s).1) then some (if (aF isDigit 10 4611686018427387904 (trimB (aL 44 s).1)).2=0 then(aF isDigit 10 4611686018427387904 (trimB (aL 44 s).1)).1 else 4611686018427387904) else none
def fw (st:Int)(fs:List (Bytes × Bytes))(rest:Bytes)(most:Int):Bytes × Int :=
 if most<0 then([],4)
 else if (100≤st∧st≤199)∨st=204∨st=304 then([],0)
 else if bn fs so≠[] then(if bn fs tQ≠[]∨lower (Lib.join (bn fs so) [44,32])≠Ca then([],190) else chunked rest most)
 else if bn fs tQ≠[] then(match gP (Lib.join (bn fs tQ) [44,32]) with
  | none=>([],190)
  | some n=>if most<n then([],142) else if rest.length<n then([],191) else(rest.take n,0))
 else if most<rest.length then([],142) else(rest,0)
structure fJ where
 url:bN
 minor:Int
 status:Int
 fields:List (Bytes × Bytes)
 body:Bytes
 deriving DecidableEq
def fJ.none:fJ:=⟨bN.none,0,0,[],[]⟩
def bO (L:List jD)(now:Int)(u:bN):fJ × Int × Int :=
 if (bH L u now).2≠0 then(fJ.none,0,(bH L u now).2)
 else if (bL (bH L u now).1).2.2≠0 then(fJ.none,0,(bL (bH L u now).1).2.2)
 else if fZ (bL (bH L u now).1).1.2.1 then(⟨u,(bL (bH L u now).1).1.1,(bL (bH L u now).1).1.2.1,(bL (bH L u now).1).1.2.2,[]⟩,(bL (bH L u now).1).1.2.1,0)
 else(⟨u,(bL (bH L u now).1).1.1,(bL (bH L u now).1).1.2.1,(bL (bH L u now).1).1.2.2,(fw (bL (bH L u now).1).1.2.1 (bL (bH L u now).1).1.2.2 ((bH L u now).1.drop (bL (bH L u now).1).2.1.toNat) 1048576).1⟩,(bL (bH L u now).1).1.2.1,
  (fw (bL (bH L u now).1).1.2.1 (bL (bH L u now).1).1.2.2 ((bH L u now).1.drop (bL (bH L u now).1).2.1.toNat) 1048576).2)
structure fb where
 next:bN
 dj:Int
 done:Bool
 err:Int
 fC:fJ
 trace:List (bN × Int × Int)
 seen:List bN
 deriving DecidableEq
def bD (u:bN):fb:=if bX u=false then⟨bN.none,0,true,8,fJ.none,[],[]⟩ else⟨u.bare,0,false,0,fJ.none,[],[u.bare]⟩
def bP (L:List jD)(now:Int)(f:fb):fb :=
 if f.done then f
 else if (bO L now f.next).2.2=0∧fZ (bO L now f.next).2.1=true then
  (if (bT f.next (bO L now f.next).1.fields f.seen f.dj).2=0
    then⟨(bT f.next (bO L now f.next).1.fields f.seen f.dj).1,f.dj+1,false,f.err,fJ.none,f.trace++[(f.next,(bO L now f.next).2)],f.seen++[(bT f.next (bO L now f.next).1.fields f.seen f.dj).1]⟩
    else⟨f.next,f.dj,true,(bT f.next (bO L now f.next).1.fields f.seen f.dj).2,fJ.none,f.trace++[(f.next,(bO L now f.next).2)],f.seen⟩)
 else if (bO L now f.next).2.2≠0 then⟨f.next,f.dj,true,(bO L now f.next).2.2,fJ.none,f.trace++[(f.next,(bO L now f.next).2)],f.seen⟩
 else⟨f.next,f.dj,true,f.err,(bO L now f.next).1,f.trace++[(f.next,(bO L now f.next).2)],f.seen⟩
def DQ (st:Nat)(fs:List (Bytes × Bytes))(body:Bytes):Bytes:=headText st (fs++[(tQ,cf body.length)])++body
section
variable {H:Nat→Bytes} {st k:Nat}
end
open Go Go.RowKit
structure Il (u:bN) (f:fb):Prop where
 nd:f.done=false
 err:f.err=0
 fC:f.fC=fJ.none
 dj:f.dj=f.trace.length
 le:f.trace.length≤5
 seen:f.seen=f.trace.map (·.1)++[f.next]
 nodup:f.seen.Nodup
 valid:∀ v∈f.seen,bX v=true
 red:∀ t∈f.trace,fZ t.2.1=true
 head:f.seen.head? = some u.bare
structure Qi (u:bN) (f:fb):Prop where
 done:f.done=true
 urls:f.trace.map (·.1)=f.seen
 pos:0<f.trace.length
 le:f.trace.length≤6
 nodup:f.seen.Nodup
 valid:∀ v∈f.seen,bX v=true
 red:∀ i (h:i+1<f.trace.length),fZ f.trace[i].2.1=true
 head:f.seen.head? = some u.bare
 last:f.err=0→∃ t,f.trace.getLast? = some t∧f.fC.url=t.1∧f.fC.status=t.2.1
theorem Cq (L:List jD)(now:Int)(u:bN)(h:(bO L now u).2.2=0):(bO L now u).1.url=u∧(bO L now u).1.status=(bO L now u).2.1:=by
 unfold bO at h ⊢;split
 ·rename_i h1;rw[if_pos h1]at h;exact absurd h h1
 ·rename_i h1
  rw[if_neg h1]at h;split
  ·rename_i h2;rw[if_pos h2]at h;exact absurd h h2
  ·split
   ·exact⟨rfl,rfl⟩
   ·exact⟨rfl,rfl⟩
theorem IP {u:bN}(h:bX u=true):Il u (bD u):=by
 unfold bD;rw[if_neg (by rw[h];simp)];exact⟨rfl,rfl,rfl,rfl,QB,rfl,QB,fun v hv=>by rw[zS1.1 hv];exact(rH h).bare.valid,fun t ht=>(by cases ht),rfl⟩
theorem Ay {u:bN}{f:fb}(h:Il u f)(t:Int × Int)(e:Int)(r:fJ)(hr:e=0→r.url=f.next∧r.status=t.1):Qi u ⟨f.next,f.dj,true,e,r,f.trace++[(f.next,t)],f.seen⟩ where
 done:=rfl
 urls:=by simp[h.seen]
 pos:=by simp
 le:=by have:=h.le;simp;omega
 nodup:=h.nodup
 valid:=h.valid
 red:=fun i hi=>by
  simp only[zSU,zSW,zSY]at hi;simp only;rw[List.getElem_append_left QA];exact h.red _ (zTk _)
 head:=h.head
 last:=fun he=>⟨(f.next,t),QB,hr he⟩
theorem Ls {u:bN}{f:fb}(L:List jD)(now:Int)(h:Il u f):(Il u (bP L now f)∧(bP L now f).trace.length=f.trace.length+1)∨(Qi u (bP L now f)∧(bP L now f).trace.length=f.trace.length+1):=by
 have hu:=Cq L now f.next;unfold bP;rw[if_neg (by rw[h.nd];simp)];generalize bO L now f.next=r at hu;obtain⟨r,st,e⟩:=r;simp only at hu ⊢;split
 ·rename_i h1
  generalize hn:bT f.next r.fields f.seen f.dj=n;obtain⟨v,e2⟩:=n;simp only;split
  ·rename_i h2
   subst h2;obtain⟨k1,k2,-,k4⟩:=DP hn;left
   refine⟨⟨rfl,h.err,rfl,?_,?_,?_,?_,?_,?_,?_⟩,QB⟩
   ·rw[h.dj];simp
   ·have:=h.dj;simp;omega
   ·simp[h.seen]
   ·simp only[List.nodup_append,List.nodup_cons,List.not_mem_nil,not_false_eq_true,List.nodup_nil,and_self,and_true,true_and]
    exact⟨h.nodup,fun a ha b hb=>by rw[zS1.1 hb];rintro rfl;exact k4 ha⟩
   ·intro w hw
    rcases zTb.1 hw with hw|hw
    ·exact h.valid w hw
    ·rw[zS1.1 hw];exact k2
   ·intro t ht
    rcases zTb.1 ht with ht|ht
    ·exact h.red t ht
    ·rw[zS1.1 ht];exact h1.2
   ·simp only
    rw[List.head?_append,h.head];rfl
  ·rename_i h2
   right
   exact⟨Ay h (st,e) e2 fJ.none (fun q=>absurd q h2),QB⟩
 ·split
  ·rename_i h2
   right
   exact⟨Ay h (st,e) e fJ.none (fun q=>absurd q h2),QB⟩
  ·rename_i h2
   right
   have h2:=Decidable.not_not.1 h2;exact⟨Ay h (st,e) f.err r (fun _=>hu h2),QB⟩
def aA (L:List jD)(now:Int)(u:bN):Nat→fb
 | 0=>bD u
 | n+1=>bP L now (aA L now u n)
theorem j3 (L:List jD)(now:Int)(u:bN){n:Nat}(h:(aA L now u n).done=true):∀ m,n≤m→aA L now u m=aA L now u n:=by
 intro m hm;obtain⟨d,rfl⟩:∃ d,m=n+d:=⟨m - n,QA⟩;clear hm;induction d with
 | zero=>rfl
 | succ d ih =>
   rw[← Nat.add_assoc,aA,ih];unfold bP;rw[if_pos h]
theorem AY (L:List jD)(now:Int){u:bN}(hv:bX u=true):∀ n,(Il u (aA L now u n)∧(aA L now u n).trace.length=n)∨∃ k,k≤n∧Qi u (aA L now u k)∧(aA L now u k).trace.length=k∧∀ j<k,(aA L now u j).done=false
 | 0=>.inl ⟨IP hv,by unfold aA bD;rw[if_neg (by rw[hv];simp)];rfl⟩
 | n+1=>by
   rcases AY L now hv n with⟨h,hl⟩|⟨k,hk,h⟩
   ·rcases Ls L now h with⟨h1,h2⟩|⟨h1,h2⟩
    ·exact .inl ⟨h1,by rw[aA,h2,hl]⟩
    ·refine .inr ⟨n+1,zS6 _,h1,by rw[aA,h2,hl],fun j hj=>?_⟩
     by_cases hjn:j=n
     ·subst hjn;exact h.nd
     ·cases hd:(aA L now u j).done with
      | false=>rfl
      | true =>
        have:=j3 L now u hd n QA
        rw[← this]at hd;rw[h.nd]at hd;cases hd
   ·exact .inr ⟨k,QA,h⟩
open Go Go.RowKit
theorem ie:∀ (s p:Bytes),0≤Lib.index s p→Lib.index s p+p.length≤s.length
 | [],p,h=>by
   unfold Lib.index at h ⊢;cases p with
   | nil=>simp
   | cons c p=>simp at h
 | c::s,p,h=>by
   unfold Lib.index at h ⊢;split
   ·rename_i hp
    have:=(List.isPrefixOf_iff_prefix.1 hp).length_le
    omega
   ·rename_i hp
    rw[if_neg hp]at h;split at h
    ·omega
    ·rename_i h1
     have h1:¬ Lib.index s p=-1:=by simpa using h1
     have ih:=ie s p (by have:=Lib.index_ge s p;omega);rw[if_neg (by simpa using h1),zSW];omega
theorem EM {r p:Bytes}(h:(Lib.cut r p).2.2=true):(Lib.cut r p).2.1.length+p.length≤r.length:=by
 unfold Lib.cut at h ⊢;split at h
 ·rename_i h0
  rw[if_pos h0];have:=ie r p h0
  simp only[zTl];omega
 ·cases h
theorem EL {r p:Bytes}(h:(Lib.cut r p).2.2=false):(Lib.cut r p).2.1=[]:=by
 unfold Lib.cut at h ⊢;split at h
 ·cases h
 ·rename_i h0;rw[if_neg h0]
theorem AI (r p:Bytes):(Lib.cut r p).1.length≤r.length:=by
 unfold Lib.cut;split
 ·simp;omega
 ·simp
theorem EK (r p:Bytes):(Lib.cut r p).1.length+(Lib.cut r p).2.1.length≤r.length:=by
 unfold Lib.cut;split
 ·rename_i h0
  have:=ie r p h0
  simp only[zTl,zTj];omega
 ·simp
def cF:List (Bytes × Bytes)→Nat
 | []=>0
 | f::l=>f.1.length+f.2.length+cF l
theorem CN (f:Bytes × Bytes):∀ l,cF (l++[f])=cF l+(f.1.length+f.2.length)
 | []=>by simp[cF]
 | g::l=>by rw[zS4,cF,CN f l,cF];omega
theorem q7 {l:List (Bytes × Bytes)}:∀ f∈l,f.1.length+f.2.length≤cF l:=by
 induction l with
 | nil=>intro f h;cases h
 | cons g l ih =>
   intro f h;rw[cF];rcases List.mem_cons.1 h with rfl|h
   ·omega
   ·have:=ih f h;omega
theorem vQ (s:Bytes):(trimB s).length≤s.length:=by
 unfold trimB;have h1:=(List.dropWhile_suffix bA (l:=s)).length_le;have h2:=(List.dropWhile_suffix bA (l:=(s.dropWhile bA).reverse)).length_le;rw[List.length_reverse]at h2 ⊢;omega
theorem HV (c:UInt8)(s:Bytes):(aL c s).1.length+(aL c s).2.1.length≤s.length:=by
 unfold aL;split
 ·simp;omega
 ·simp
theorem HJ {l:Bytes}{x:Bytes × Bytes}(h:lh l=some x):x.1.length+x.2.length≤l.length:=by
 unfold lh at h;split at h
 ·cases h
  have h1:=HV 58 l;have h2:=vQ (aL 58 l).2.1;simp only[gh];omega
 ·cases h
theorem tI (n:Nat)(r:Bytes)(fs:List (Bytes × Bytes)):fQ (n+1) r false fs=(fs,0):=by rw[fQ,if_pos rfl]
theorem rm (n:Nat)(r:Bytes){fs:List (Bytes × Bytes)}(h:64≤fs.length):fQ (n+1) r true fs=([],161):=by rw[fQ,if_neg QB,if_pos h]
theorem tJ (n:Nat){r:Bytes}{fs:List (Bytes × Bytes)}(h:¬ 64≤fs.length)(hf:lh (Lib.cut r [13,10]).1=none):fQ (n+1) r true fs=([],180):=by rw[fQ,if_neg QB,if_neg h,hf]
theorem rh (n:Nat){r:Bytes}{fs:List (Bytes × Bytes)}(h:¬ 64≤fs.length){x:Bytes × Bytes}(hf:lh (Lib.cut r [13,10]).1=some x):fQ (n+1) r true fs=fQ n (Lib.cut r [13,10]).2.1 (Lib.cut r [13,10]).2.2 (fs++[x]):=by rw[fQ,if_neg QB,if_neg h,hf]
theorem CU:∀ (n:Nat)(r:Bytes)(m:Bool)(fs:List (Bytes × Bytes)),fs.length≤64→(fQ n r m fs).1.length≤64∧cF (fQ n r m fs).1≤cF fs+r.length
 | 0,r,m,fs,h=>by rw[fQ];simp[cF]
 | n+1,r,false,fs,h=>by rw[tI];exact⟨h,by simp only;omega⟩
 | n+1,r,true,fs,h=>by
   by_cases h6:64≤fs.length
   ·rw[rm n r h6];simp[cF]
   ·cases hf:lh (Lib.cut r [13,10]).1 with
    | none=>rw[tJ n h6 hf];simp[cF]
    | some x =>
      rw[rh n h6 hf];have ih:=CU n (Lib.cut r [13,10]).2.1 (Lib.cut r [13,10]).2.2 (fs++[x]) QC;have h1:=HJ hf;have h2:=EK r [13,10];rw[CN]at ih;exact⟨ih.1,QA⟩
theorem lf (s:Bytes):(bL s).1.2.2.length≤64∧cF (bL s).1.2.2≤16384∧0≤(bL s).2.1∧(bL s).2.1≤s.length:=by
 unfold bL;split
 ·simp[cF]
 rename_i h0
 have dp:=ie (s.take 16384) [13,10,13,10] QA;rw[zTj]at dp;simp only[zSW,zSY]at dp;generalize Lib.index (s.take 16384) [13,10,13,10]=k at h0 dp ⊢;split
 ·simp[cF]
 rename_i m n jg
 split
 ·have h1:=EK (s.take k.toNat) [13,10]
  have h2:=CU (s.length+1) (Lib.cut (s.take k.toNat) [13,10]).2.1 (Lib.cut (s.take k.toNat) [13,10]).2.2 [] QB;rw[zTj]at h1;rw[cF]at h2;refine⟨h2.1,?_,?_,?_⟩
  ·have:=h2.2;simp only;omega
  ·simp only;omega
  ·simp only;omega
 ·simp[cF]
theorem Mf (fs:List (Bytes × Bytes))(name:Bytes):Lib.lens (bn fs name)≤cF fs:=by
 unfold bn;induction fs with
 | nil=>simp[Lib.lens,cF]
 | cons f l ih =>
   rw[List.filter_cons,cF];split
   ·rw[zS3]
    have:Lib.lens (f.2::(l.filter fun f=>lower f.1==lower name).map (·.2))=f.2.length+Lib.lens ((l.filter fun f=>lower f.1==lower name).map (·.2)):=by simp[Lib.lens]
    omega
   ·omega
theorem rP (fs:List (Bytes × Bytes))(name:Bytes):(Lib.join (bn fs name) [44,32]).length≤cF fs+2 * fs.length:=by
 have h1:=Mf fs name;have h2:=gW fs name;generalize bn fs name=L at h1 h2;cases L with
 | nil=>simp[Lib.join_nil]
 | cons x r =>
   rw[Lib.join_length];simp only[zSW,zSY]at h2 ⊢;omega
open Go Go.RowKit
def eJ (st:Nat)(fs:List (Bytes × Bytes))(body:Bytes)(ch:Bool):Bytes:=if ch then headText st (fs++[(so,Ca)])++encode 50 body else DQ st fs body
def aE:Bytes:=([97,46,101,120,97,109,112,108,101]:List UInt8)
def sU (p:Bytes):bN:=⟨aE,0,p,[],[],false,false⟩
def lQ:List jD:=[⟨aE,0,[47],eJ 302 [(uV,[47])] [] false,0,0,0⟩,⟨aE,0,[47,120],eJ 200 [] [97,98,99] true,0,0,0⟩]
def N6:Bytes:=([72,84,84,80,47,49,46,49,32,51,48,50,32,45,13,10,108,111,99,97,116,105,111,110,58,32,47,13,10,99,111,110,116,101,110,116,45,108,101,110,103,116,104,58,32,48,13,10,13,10]:List UInt8)
def N5:Bytes:=([72,84,84,80,47,49,46,49,32,50,48,48,32,45,13,10,116,114,97,110,115,102,101,114,45,101,110,99,111,100,105,110,103,58,32,99,104,117,110,107,101,100,13,10,13,10,51,13,10,97,98,99,13,10,48,13,10,13,10]:List UInt8)
theorem sane_r1:eJ 302 [(uV,[47])] [] false=N6:=by
 unfold eJ DQ headText;rw[AG (st:=302) QA QA];simp only[zSY,Bool.false_eq_true,if_false];rw[fE (n:=0) QA];decide +kernel
theorem hexS_3:nO 3=[51]:=by rw[oq QA,jY];rfl
theorem N4:encode 50 [97,98,99]=([51,13,10,97,98,99,13,10,48,13,10,13,10]:List UInt8):=by
 rw[rS QB];have h:df 50 ([97,98,99]:Bytes)=3:=by decide
 rw[h,hexS_3];simp only[List.drop_succ_cons,List.drop_zero];rw[iS];rfl
theorem sane_r2:eJ 200 [] [97,98,99] true=N5:=by
 unfold eJ headText;rw[AG (st:=200) QA QA,N4];decide +kernel
theorem ze:lQ=[⟨aE,0,[47],N6,0,0,0⟩,⟨aE,0,[47,120],N5,0,0,0⟩]:=by unfold lQ;rw[sane_r1,sane_r2]
theorem sane_v1:bX (sU [47])=true:=by decide +kernel
theorem sane_v2:bX (sU [47,120])=true:=by decide +kernel
theorem sane_q1:bO lQ 0 (sU [47])=(⟨sU [47],1,302,[(uV,[47]),(tQ,[48])],[]⟩,302,0):=by rw[ze];decide +kernel
theorem sane_q2:bO lQ 0 (sU [47,120])=(⟨sU [47,120],1,200,[(so,Ca)],[97,98,99]⟩,200,0):=by rw[ze];decide +kernel
theorem sane_n1:bT (sU [47]) [(uV,[47]),(tQ,[48])] [sU [47]] 0=(bN.none,251):=by decide +kernel
theorem sane_1:aA lQ 0 (sU [47]) 6=⟨sU [47],0,true,251,fJ.none,[(sU [47],302,0)],[sU [47]]⟩:=by
 have h1:aA lQ 0 (sU [47]) 1=⟨sU [47],0,true,251,fJ.none,[(sU [47],302,0)],[sU [47]]⟩:=by
  rw[aA,aA];unfold bD;rw[if_neg (by rw[sane_v1];simp)];unfold bP;simp only[show (sU [47]).bare=sU [47] from rfl,sane_q1,sane_n1];rw[if_neg QB,if_pos QD,if_neg QD];rfl
 rw[j3 lQ 0 _ (n:=1) (by rw[h1]) 6 QA,h1]
theorem sane_2:aA lQ 0 (sU [47,120]) 6=⟨sU [47,120],0,true,0,⟨sU [47,120],1,200,[(so,Ca)],[97,98,99]⟩,[(sU [47,120],200,0)],[sU [47,120]]⟩:=by
 have h1:aA lQ 0 (sU [47,120]) 1=⟨sU [47,120],0,true,0,⟨sU [47,120],1,200,[(so,Ca)],[97,98,99]⟩,[(sU [47,120],200,0)],[sU [47,120]]⟩:=by
  rw[aA,aA];unfold bD;rw[if_neg (by rw[sane_v2];simp)];unfold bP;simp only[show (sU [47,120]).bare=sU [47,120] from rfl,sane_q2];rw[if_neg QB,if_neg QD,if_neg QD];rfl
 rw[j3 lQ 0 _ (n:=1) (by rw[h1]) 6 QA,h1]
end Wf
namespace Go.Proofs.YtnmlimehgifadaaGreatDoor
open Go Vc Go.RowKit Wf
theorem rem_nat (x y:Nat):j0 .rem .i64 (x:Int) (y:Int)=((x % y:Nat):Int):=by
 have h:j0 .rem .i64 (x:Int) (y:Int)=Int.tmod x y:=rfl;rw[h];first
 | exact(Int.ofNat_tmod x y).symm
 | exact Int.ofNat_tmod x y
 | (rw[Int.tmod_eq_emod_of_nonneg QA];omega)
theorem quo_nat (x y:Nat)(hx:x≤9223372036854775807):j0 .quo .i64 (x:Int) (y:Int)=((x / y:Nat):Int):=by
 have h:j0 .quo .i64 (x:Int) (y:Int)=IntKind.i64.wrap (Int.tdiv x y):=rfl;have h2:Int.tdiv (x:Int) y=((x / y:Nat):Int):=by
  first
  | exact(Int.ofNat_tdiv x y).symm
  | exact Int.ofNat_tdiv x y
  | (rw[Int.tdiv_eq_ediv_of_nonneg QA];omega)
 have h3:x / y≤x:=Nat.div_le_self x y;rw[h,h2];generalize x / y=z at h3 ⊢;simp[IntKind.wrap,IntKind.bits,IntKind.signed];omega
theorem gV (n:Nat)(hn:n≤1000000000):PC QH 98 [.int .i64 n] (.str (cf n)):=by
 refine aU 3000 func98 rfl ntmps98 results98 call98 QB (by simp[flat,flat.ah]) (by simp[flat,flat.ah]) ?_;refine ly ?_;refine ax (fun σ=>∃ (m:Nat) (l:Bytes),m≤1000000000∧l.length+(cf m).length=(cf n).length∧cf m++l=cf n∧lk 0 σ.t=some (.int .i64 m)∧lk 3 σ.t=some (.str l)) (fun σ=>match lk 0 σ.t with|some (.int _ n)=>n.toNat|_=>0) ⟨n,[],hn,QB,QB,rfl,rfl⟩ ?_;rintro⟨t,b⟩ ⟨m,l,hm,hl,he,g0,g3⟩;simp only at g0 g3;have key2:∀ d:Nat,d<10→IntKind.u8.wrap (48+(d:Int))=((ry d).toNat:Int):=by decide +kernel
 have kr:=rem_nat m 10;have kq:=quo_nat m 10 QA;have kd:=key2 (m % 10) QA;rw[show ((10:Nat):Int)=10 from rfl]at kr kq;have hu:BE (.int .u8 (ry (m % 10)).toNat)=true:=by have:=(ry (m % 10)).toNat_lt;simp[BE];omega
 have hv:vP (.int .u8 (ry (m % 10)).toNat)=ry (m % 10):=by simp[vP]
 refine gB (zSP g0 (zSP g3 (zSP kr (zSP kq (zSP kd (zSP hu hv)))))) ?_;have BN:=cJ 9 n QA;refine⟨by decide,⟨QA,QA⟩,by decide,QA,by decide,fun h=>?_,fun h=>⟨⟨m / 10,ry (m % 10)::l,QA,?_,?_,rfl,rfl⟩,?_⟩⟩
 ·have h:m / 10=0:=by have:=beq_iff_eq.1 h;omega
  rw[← he,fE QA,show m % 10=m by omega];rfl
 ·have h:¬ m / 10=0:=by have:=beq_eq_false_iff_ne.1 h;omega
  rw[← hl,kI (n:=m) QA,zSW];omega
 ·have h:¬ m / 10=0:=by have:=beq_eq_false_iff_ne.1 h;omega
  rw[← he,jA (n:=m) QA];simp
 ·have h:¬ m / 10=0:=by have:=beq_eq_false_iff_ne.1 h;omega
  omega
theorem Om (n:Nat)(h2:n≤9223372036854775807):PC QH 153 [.int .i64 n] (.str (cf n)) :=
 ⟨call153,by simp[flat,flat.ah],by simp[flat,flat.ah],fun w _=>(nG n w QA QA).mono fun _ _ ⟨h,k⟩=>⟨by rw[h,if_neg QA];rfl,k⟩⟩
theorem uJ (s:Bytes)(n:Int)(hs:s.length≤1100000)(h1:-9223372036854775808≤n)(h2:n≤9223372036854775807):PC QH 97 [.str s,.int .i64 n] (.str (encode n s)) :=
 ⟨call97,by simp[flat,flat.ah],by simp[flat,flat.ah],fun w _=>(DM s n w hs h1 h2).mono fun _ _ ⟨h,k⟩=>⟨by rw[h];simp[aj],k⟩⟩
def B7 (fs:List (Bytes × Bytes)):Bytes:=fs.flatMap (fun f=>ow f++[13,10])
theorem MR {fs:List (Bytes × Bytes)}{k:Nat}(h:k<fs.length):B7 (fs.take (k+1))=B7 (fs.take k)++(ow fs[k]++[13,10]):=by
 unfold B7;rw[List.take_succ_eq_append_getElem h,zS9];simp
theorem At:∀ fs:List (Bytes × Bytes),(B7 fs).length=cF fs+4 * fs.length
 | []=>rfl
 | f::l=>by
   have:=At l
   unfold B7 at this ⊢;rw[zTi,zSU,this,cF];simp[ow];omega
theorem gy:∀ (l r:List (Bytes × Bytes)),cF (l++r)=cF l+cF r
 | [],r=>by simp[cF]
 | f::l,r=>by rw[zS4,cF,gy l r,cF];omega
theorem Ml (fs:List (Bytes × Bytes))(k:Nat):cF (fs.take k)≤cF fs:=by
 have h:=gy (fs.take k) (fs.drop k);rw[List.take_append_drop]at h;omega
theorem Bk {bs:List aq}{j:Nat}{fs:List (Bytes × Bytes)}{m:Bool}(hj:bs[j]? = some (.own (fs.flatMap fc) 100 2 fs.length m))(hn:fs.length≤1000000)(hm:cF fs≤1000000000)(st:Nat)(jg:st≤1000000000) :
 SC QH 96 [.agg [.int .i64 1,.int .i64 st,.o j fs.length]] bs (fun r b=>r=.str (headText st fs)∧Kp bs b):=by
 have e9:j<bs.length:=(zSQ.1 hj).1;have p1:=Om st QA;have nr:=cJ 9 st QA;refine bp 3000 func96 rfl ntmps96 results96 call96 QB (af bs.length _ (by simp[within,within.av,e9])) ?_;refine iC ?_
 (refine aa (p1) ?_;refine iC ?_)
 refine⟨QA,QA,?_⟩;have hT:headText st fs=72::84::84::80::47::49::46::49::32::(cf st++[32,45,13,10])++B7 fs++[13,10]:=by
  unfold headText eS B7;simp
 rw[hT];refine ax (fun σ=>∃ (k:Nat) (acc:Bytes),k≤fs.length∧acc=72::84::84::80::47::49::46::49::32::(cf st++[32,45,13,10])++B7 (fs.take k)∧lk 4 σ.t=some (.str acc)∧lk 19 σ.t=some (.o j fs.length)∧lk 20 σ.t=some (.int .i64 fs.length)∧lk 21 σ.t=some (.int .i64 k)∧σ.b[j]? = some (.own (fs.flatMap fc) 100 2 fs.length m)∧Kp bs σ.b) (fun σ=>fs.length - fA 21 σ) ⟨0,_,QA,by simp[B7],rfl,rfl,rfl,rfl,ad hj _,(Kp.refl _).app _⟩ ?_;rintro⟨t,b⟩ ⟨k,acc,hk,hacc,h4,Bd,CW,vn,hb,bm⟩;simp only at h4 Bd CW vn hb bm;rw[ak vn];have hal:acc.length≤2000000000+4000000:=by
  rw[hacc];have h1:=At (fs.take k);have h2:=Ml fs k;rw[zTj]at h1;simp only[zSU,zSW,zSY,h1];omega
 by_cases az:k<fs.length
 ·have aK:decide ((k:Int)<fs.length)=true:=QF
  have hu:=K6 fs k az;have mI:=Aw fs;have hx:=MR az;have nT:=q7 fs[k] (zTk az);generalize fs[k]=f at hu hx nT;unfold fc at hb hu mI;refine gC (zSP h4 (zSP Bd (zSP CW (zSP vn (zSP hb (zSP hu (zSP mI (zSP aK Int.toNat_natCast)))))))) ?_;refine⟨⟨QA,QA⟩,QA,QA,QC,QC,QC,⟨QA,QA⟩,⟨k+1,_,QA,?_,rfl,rfl,ad hb _,bm.app _⟩,?_⟩
  ·rw[hacc,hx];simp[ow]
  ·rw[ak (k:=.i64) (n:=(k:Int)+1) rfl];omega
 ·have hU:k=fs.length:=QA
  subst hU;rw[List.take_length]at hacc;have aK:decide ((fs.length:Int)<fs.length)=false:=by simp
  refine gC (zSP h4 (zSP Bd (zSP CW (zSP vn (zSP hb aK))))) ?_;exact⟨QA,by rw[hacc];simp,bm⟩
theorem jm {bs:List aq}{j n:Nat}{cs:List SV}{m:Bool}(fs:List (Bytes × Bytes))(hj:bs[j]? = some (.own cs 100 2 n m))(hc:cs=fs.flatMap fc)(hnn:n=fs.length)(hn:fs.length≤1000000)(hm:cF fs≤1000000000)(st:Nat)(jg:st≤1000000000) :
 SC QH 96 [.agg [.int .i64 1,.int .i64 st,.o j n]] bs (fun r b=>r=.str (headText st fs)∧b=bs):=by
 subst hc hnn;exact cY (by simp[flat]) (Bk hj hn hm st jg)
theorem iZ (st:Nat)(jg:st≤1000000000)(fs:List (Bytes × Bytes)):(headText st fs).length≤cF fs+4 * fs.length+100:=by
 have h1:=At fs;have h2:=cJ 9 st QA;unfold B7 at h1;unfold headText eS;simp only[zSU,zSW,zSY,h1];omega
theorem tM (n:Int):∀ (m:Nat)(s:Bytes),s.length≤m→(encode n s).length≤6 * s.length+5
 | 0,s,h=>by rw[List.length_eq_zero_iff.1 (Nat.le_zero.1 h),iS];simp
 | m+1,s,h=>by
   by_cases hs:s=[]
   ·rw[hs,iS];simp
   ·have h1:=lj (size:=n) hs
    have h2:=xT (df n s);have h3:=tM n m (s.drop (df n s)) QC;rw[rS hs];simp only[zSU,zTl,zTj]at h3 ⊢;have:crlf.length=2:=rfl
    omega
theorem fj {bs:List aq}{x:SV}{fs:List (Bytes × Bytes)}(hx:Sx 100 2 x bs (fs.flatMap fc) fs.length)(hn:fs.length≤1000)(hm:cF fs≤1000000)(st:Nat)(jg:st≤1000000000)(body:Bytes)(hb:body.length≤1100000)(ch:Bool) :
 SC QH 45 [.int .i64 st,.str [],.str body,x,.bool ch] bs (fun r b=>r=.str (eJ st fs body ch)∧b=bs):=by
 refine cY (by simp[flat]) ?_;have Aa:=hx.within;have p1:=uJ body 50 hb QA QA;have Iy:=tM 50 _ body (zS6 _);have p2:=gV body.length QA;have rZ:∀ X,rV (bs++[X]) 2 x=some (fs.length,fs.flatMap fc):=fun X=>by
  rcases hx with⟨rfl,hc,hl⟩|⟨j,m,rfl,hl,hj⟩
  ·rw[hc,hl];rfl
  ·simp[rV,ad hj [X]]
 have ld:=Av fs;have q1:∀ X X' Y Z,(bs++[X]++[Y]++[Z])[(bs++[X']).length]? = some Y:=fun X X' Y Z=>by
  rw[show (bs++[X']).length=(bs++[X]).length by simp];exact ad (aB _ _) [Z]
 have q2:∀ X X' Y Z W,((bs++[X]++[Y]++[Z]).set (bs++[X']).length .gone++[W])[bs.length]? = some X:=fun X X' Y Z W=>by
  rw[zSS QB,zSZ QB];exact ad (ad (aB _ _) _) _
 have q3:∀ (X X' Y Z W W':aq) ,(((bs++[X]++[Y]++[Z]).set (bs++[X']).length .gone++[W]).set bs.length W')[bs.length]? = some W':=fun X X' Y Z W W'=>by
  rw[zSX QB]
 refine bp 3000 func45 rfl ntmps45 results45 call45 QB (af bs.length _ (by simp[within,within.av,Aa])) ?_;have q4:∀ X X' Y Z W W' A B C,(((bs++[X]++[Y]++[Z]).set (bs++[X']).length .gone++[W]).set bs.length W')[(bs++[A]++[B]++[C]).length]? = some W:=fun X X' Y Z W W' A B C=>by
  rw[zSZ QB,show (bs++[A]++[B]++[C]).length=((bs++[X]++[Y]++[Z]).set (bs++[X']).length .gone).length by simp];exact aB _ _
 have q5:∀ X X' Y Z W W',Kp bs (((bs++[X]++[Y]++[Z]).set (bs++[X']).length .gone++[W]).set bs.length W'):=fun X X' Y Z W W'=>(((((Kp.refl bs).app [X]).app [Y]).app [Z]).set QB .gone).app [W] |>.set (zS6 _) W'
 cases ch
 ·refine gB (zSP rZ (zSP ld (zSP q1 (zSP q2 q3)))) ?_
  refine⟨⟨by unfold maxLen;omega,QA⟩,?_⟩
  (refine aW (p2) ?_;refine gB (zSP rZ (zSP ld (zSP q1 (zSP q2 q3)))) ?_)
  refine⟨QA,⟨by unfold maxLen;omega,QA⟩,?_,?_⟩
  ·refine bt (fun n=>n - bs.length) ?_
   simp only[zS3,zS5,cz,dW,zSU,zSW,zSY,Nat.zero_add,Nat.add_assoc,Nat.reduceAdd,zS0,zS7];exact ao QE
  have hd:=cJ 9 body.length QA;have hh:=iZ st jg (fs++[(tQ,cf body.length)]);rw[gy]at hh;simp only[cF,zSU,zSW,zSY]at hh;have fY:tQ.length=14:=rfl;refine ae (jm (fs++[(tQ,cf body.length)]) (q4 _ _ _ _ _ _ _ _ _) (by rw[zS9];rfl) QB QC (by rw[gy];simp only[cF];omega) st jg) ?_;rintro r b ⟨rfl,rfl⟩;refine iC ?_;exact⟨QA,rfl,q5 _ _ _ _ _ _⟩
 ·refine gB (zSP rZ (zSP ld (zSP q1 (zSP q2 q3)))) ?_
  refine⟨⟨by unfold maxLen;omega,QA⟩,QA,⟨by unfold maxLen;omega,QA⟩,?_⟩;have hh:=iZ st jg (fs++[(so,Ca)]);rw[gy]at hh;simp only[cF,zSU,zSW,zSY]at hh;have fY:so.length=17:=rfl;have fY:Ca.length=7:=rfl;refine ae (jm (fs++[(so,Ca)]) (q4 _ _ _ _ _ _ _ _ _) (by rw[zS9];rfl) QB QC (by rw[gy];simp only[cF];omega) st jg) ?_;rintro r b ⟨rfl,rfl⟩;refine iC ?_
  (refine aa (p1) ?_;refine iC ?_)
  exact⟨QA,rfl,q5 _ _ _ _ _ _⟩
def dB (u:bN)(raw:Bytes):jD:=⟨u.host,u.port,bK u,raw,0,0,0⟩
theorem eP (u:bN)(hu:Fair u)(raw:Bytes):PC QH 80 [.agg (uc u),.str raw] (.agg (ac (dB u raw))):=by
 have p1:=mT u hu;refine aU 3000 func80 rfl ntmps80 results80 call80 QB (by simp[flat,flat.ah,uc]) (by simp[flat,flat.ah,ac]) ?_;unfold cA at p1;unfold uc ac dB;refine bw ?_
 (refine aW (p1) ?_;refine ly ?_)
 exact(ao QE)
theorem pW {bs:List aq}(u:bN)(hu:Fair u):SC QH 78 [.agg (uc u)] bs (fun r b=>r=.agg (ac (dB u (eJ 404 [] [] false)))∧b=bs):=by
 have p1:=eP u hu (eJ 404 [] [] false);have s1:=fun X Y=>fj (bs:=bs++[X]++[Y]) (x:=.ai) (fs:=[]) (.inl ⟨rfl,rfl,rfl⟩) QD QD 404 QA [] QB false
 refine cY (by simp[flat,flat.ah,ac]) ?_;refine bp 3000 func78 rfl ntmps78 results78 call78 QB (af bs.length _ (by simp[within,within.av,uc])) ?_;unfold uc ac dB at p1;unfold uc ac dB;simp only at p1 ⊢;refine iC ?_;have hn:∀ X,(bs++[X]).length=bs.length+1:=fun X=>QB
 have t1:∀ X Y Z,((bs++[X]++[Y]).set (bs.length+1) Z)[bs.length+1]? = some Z:=fun X Y Z=>zSX QB
 have t0:∀ X Y,(bs++[X]++[Y])[bs.length+1]? = some Y:=fun X Y=>by rw[← hn X];exact aB _ _
 refine bE [] (s1 _ _) (fun _ _ _=>rfl) ?_;rw[hn];refine gB (zSP t0 t1) ?_
 (refine aW (p1) ?_;refine gB (zSP t0 t1) ?_)
 have z1:(bs.length=bs.length+1)=False:=by simp
 exact⟨(by
  refine bt (fun n=>if n=bs.length+1 then 0 else 1) ?_;simp only[zS3,zS5,cz,dW,reduceIte,z1];exact ao QE),(((Kp.refl bs).app _).app _).set QA _⟩
def LM (st:Nat)(kind:Bytes)(fs:List (Bytes × Bytes))(body:Bytes)(ch:Bool):Bytes:=if kind=[] then eJ st fs body ch else eJ st ((([99,111,110,116,101,110,116,45,116,121,112,101]:List UInt8),kind)::fs) body ch
theorem uz {bs:List aq}{x:SV}{fs:List (Bytes × Bytes)}(hx:Sx 100 2 x bs (fs.flatMap fc) fs.length)(hn:fs.length≤1000)(hm:cF fs≤1000000)(st:Nat)(jg:st≤1000000000)(kind:Bytes)(hk:kind.length≤1000000)(body:Bytes)(hb:body.length≤1100000)(ch:Bool) :
 SC QH 45 [.int .i64 st,.str kind,.str body,x,.bool ch] bs (fun r b=>r=.str (LM st kind fs body ch)∧b=bs):=by
 unfold LM;by_cases Iv:kind=[]
 ·rw[if_pos Iv,Iv]
  exact fj hx hn hm st jg body hb ch
 rw[if_neg Iv];have gp:(kind != [])=true:=by simpa using Iv
 refine cY (by simp[flat]) ?_;have Aa:=hx.within;have p1:=uJ body 50 hb QA QA;have Iy:=tM 50 _ body (zS6 _);have p2:=gV body.length QA;have rZ:∀ X Y Z,rV (bs++[X]++[Y]++[Z]) 2 x=some (fs.length,fs.flatMap fc):=fun X Y Z=>by
  rcases hx with⟨rfl,hc,hl⟩|⟨j,m,rfl,hl,hj⟩
  ·rw[hc,hl];rfl
  ·simp only[rV,ad (ad (ad hj [X]) [Y]) [Z],and_self,if_true]
 have ld:=Av fs;refine bp 3000 func45 rfl ntmps45 results45 call45 QB (af bs.length _ (by simp[within,within.av,Aa])) ?_;cases ch
 ·refine gB (zSP rZ (zSP ld gp)) ?_
  refine⟨QA,⟨by unfold maxLen;omega,QA⟩,?_⟩;have jG:∀ X Y,(bs++[X]++[Y]).length=bs.length+2:=fun X Y=>QB
  rw[jG];have s0:∀ X Y Z,(bs++[X]++[Y]++[Z])[bs.length]? = some X:=fun X Y Z=>ad (ad (aB _ _) _) _
  have s2:∀ X Y Z,(bs++[X]++[Y]++[Z])[bs.length+2]? = some Z:=fun X Y Z=>by rw[← jG X Y];exact aB _ _
  have sk:∀ X Y Z,Kp bs (bs++[X]++[Y]++[Z]):=fun X Y Z=>(((Kp.refl bs).app _).app _).app _
  have sl:∀ X Y Z,(bs++[X]++[Y]++[Z]).length=bs.length+3:=fun X Y Z=>QB
  generalize hS:(bs++[_]++[_]++[_])=S;replace s0:S[bs.length]? = _:=hS ▸ s0 _ _ _;replace s2:S[bs.length+2]? = _:=hS ▸ s2 _ _ _;replace sk:Kp bs S:=hS ▸ sk _ _ _;replace sl:S.length=bs.length+3:=hS ▸ sl _ _ _;replace rZ:rV S 2 x=_:=hS ▸ rZ _ _ _;clear hS;have u0:∀ X,(S.set (bs.length+2) .gone++[X])[bs.length]? = S[bs.length]? := fun X=>by rw[zSS QC,zSZ QA]
  have u0:∀ X Y,((S.set (bs.length+2) .gone++[X]).set bs.length Y)[bs.length]? = some Y:=fun X Y=>zSX QC
  have u1:∀ X Y,((S.set (bs.length+2) .gone++[X]).set bs.length Y)[S.length]? = some X:=fun X Y=>by
   rw[zSZ QA,show S.length=(S.set (bs.length+2) .gone).length by simp];exact aB _ _
  have uk:∀ X Y,Kp bs ((S.set (bs.length+2) .gone++[X]).set bs.length Y):=fun X Y=>((sk.set QA _).app _).set (zS6 _) _
  have ul:∀ X Y,((S.set (bs.length+2) .gone++[X]).set bs.length Y).length=bs.length+4:=fun X Y=>QC
  have ux:∀ X,(S.set (bs.length+2) .gone++[X])[bs.length]? = S[bs.length]? := fun X=>by rw[zSS QC,zSZ QA]
  refine gB (zSP rZ (zSP ld (zSP gp (zSP s0 (zSP s2 ux))))) ?_;refine⟨⟨by unfold maxLen;omega,QA⟩,?_⟩;generalize Nq:((S.set (bs.length+2) .gone++[_]).set bs.length _)=S2;replace u0:S2[bs.length]? = _:=Nq ▸ u0 _ _;replace u1:S2[S.length]? = _:=Nq ▸ u1 _ _;replace uk:Kp bs S2:=Nq ▸ uk _ _;replace ul:S2.length=bs.length+4:=Nq ▸ ul _ _;clear Nq rZ s0 s2 ux;rw[sl]at u0 u1 ⊢;clear sk sl;have v0:=fun X=>ad u0 [X]
  have v1:=fun X=>ad u1 [X]
  have q2:∀ Z W,((S2++[Z]).set (bs.length+3) .gone++[W])[bs.length]? = S2[bs.length]? := fun Z W=>by
   rw[zSS QC,zSZ QA,zSS QA]
  have q3:∀ Z W W',(((S2++[Z]).set (bs.length+3) .gone++[W]).set bs.length W')[bs.length]? = some W':=fun Z W W'=>zSX QC
  have q4:∀ Z W W' A,(((S2++[Z]).set (bs.length+3) .gone++[W]).set bs.length W')[(S2++[A]).length]? = some W:=fun Z W W' A=>by
   rw[zSZ QC,show (S2++[A]).length=((S2++[Z]).set (bs.length+3) .gone).length by simp];exact aB _ _
  have q5:∀ Z W W',Kp bs (((S2++[Z]).set (bs.length+3) .gone++[W]).set bs.length W'):=fun Z W W'=>(((uk.app _).set QA .gone).app _).set (zS6 _) W'
  refine gB (zSP ld (zSP gp (zSP u0 (zSP @v0 (zSP @v1 q3))))) ?_
  (refine aW (p2) ?_;refine gB (zSP ld (zSP gp (zSP u0 (zSP @v0 (zSP @v1 (zSP q2 q3)))))) ?_)
  have z1:(S2.length=bs.length)=False:=by simp;omega
  have z2:∀ X,((S2++[X]).length=bs.length)=False:=fun X=>QC
  have z3:(bs.length+3=bs.length)=False:=by simp
  refine⟨QA,⟨by unfold maxLen;omega,QA⟩,(by
   refine bt (fun n=>if n=bs.length then 0 else 1) ?_;simp only[zS3,zS5,cz,dW,reduceIte,z1,z2,z3];exact ao QE),?_⟩
  have hd:=cJ 9 body.length QA;have hh:=iZ st jg ((([99,111,110,116,101,110,116,45,116,121,112,101]:List UInt8),kind)::fs++[(tQ,cf body.length)]);rw[gy]at hh;have fY:tQ.length=14:=rfl;simp only[cF,zSU,zSW,zSY,zS4]at hh;refine ae (jm ((([99,111,110,116,101,110,116,45,116,121,112,101]:List UInt8),kind)::fs++[(tQ,cf body.length)]) (q4 _ _ _ _) (by rw[zS4,zTi,zS9];rfl) QC QC (by rw[gy];simp only[cF,zSW,zSY];omega) st jg) ?_;rintro r b ⟨rfl,rfl⟩;simp only[bJ,↓Xn,↓Xo,↓Xg,↓Xd,↓Xe,↓Xf,Tryz.VΓ,Tryz.Γs,Xp,Xi,Nat.reduceAdd,Nat.reduceSub,Nat.reduceLT,Nat.reduceLeDiff,reduceIte,reduceCtorEq,Nat.reduceEqDiff,implies_true,forall_const,bI,kC,beq_self_eq_true,bne_self_eq_false,Int.reduceBEq,Int.reduceBNe,Int.reduceLT,Int.reduceLE,zS4];exact⟨QA,rfl,q5 _ _ _⟩
 ·refine gB (zSP rZ (zSP ld gp)) ?_
  refine⟨QA,⟨by unfold maxLen;omega,QA⟩,?_⟩;have jG:∀ X Y,(bs++[X]++[Y]).length=bs.length+2:=fun X Y=>QB
  rw[jG];have s0:∀ X Y Z,(bs++[X]++[Y]++[Z])[bs.length]? = some X:=fun X Y Z=>ad (ad (aB _ _) _) _
  have s2:∀ X Y Z,(bs++[X]++[Y]++[Z])[bs.length+2]? = some Z:=fun X Y Z=>by rw[← jG X Y];exact aB _ _
  have sk:∀ X Y Z,Kp bs (bs++[X]++[Y]++[Z]):=fun X Y Z=>(((Kp.refl bs).app _).app _).app _
  have sl:∀ X Y Z,(bs++[X]++[Y]++[Z]).length=bs.length+3:=fun X Y Z=>QB
  generalize hS:(bs++[_]++[_]++[_])=S;replace s0:S[bs.length]? = _:=hS ▸ s0 _ _ _;replace s2:S[bs.length+2]? = _:=hS ▸ s2 _ _ _;replace sk:Kp bs S:=hS ▸ sk _ _ _;replace sl:S.length=bs.length+3:=hS ▸ sl _ _ _;replace rZ:rV S 2 x=_:=hS ▸ rZ _ _ _;clear hS;have u0:∀ X,(S.set (bs.length+2) .gone++[X])[bs.length]? = S[bs.length]? := fun X=>by rw[zSS QC,zSZ QA]
  have u0:∀ X Y,((S.set (bs.length+2) .gone++[X]).set bs.length Y)[bs.length]? = some Y:=fun X Y=>zSX QC
  have u1:∀ X Y,((S.set (bs.length+2) .gone++[X]).set bs.length Y)[S.length]? = some X:=fun X Y=>by
   rw[zSZ QA,show S.length=(S.set (bs.length+2) .gone).length by simp];exact aB _ _
  have uk:∀ X Y,Kp bs ((S.set (bs.length+2) .gone++[X]).set bs.length Y):=fun X Y=>((sk.set QA _).app _).set (zS6 _) _
  have ul:∀ X Y,((S.set (bs.length+2) .gone++[X]).set bs.length Y).length=bs.length+4:=fun X Y=>QC
  have ux:∀ X,(S.set (bs.length+2) .gone++[X])[bs.length]? = S[bs.length]? := fun X=>by rw[zSS QC,zSZ QA]
  refine gB (zSP rZ (zSP ld (zSP gp (zSP s0 (zSP s2 ux))))) ?_;refine⟨⟨by unfold maxLen;omega,QA⟩,?_⟩;generalize Nq:((S.set (bs.length+2) .gone++[_]).set bs.length _)=S2;replace u0:S2[bs.length]? = _:=Nq ▸ u0 _ _;replace u1:S2[S.length]? = _:=Nq ▸ u1 _ _;replace uk:Kp bs S2:=Nq ▸ uk _ _;replace ul:S2.length=bs.length+4:=Nq ▸ ul _ _;clear Nq rZ s0 s2 ux;rw[sl]at u0 u1 ⊢;clear sk sl;have v0:=fun X=>ad u0 [X]
  have v1:=fun X=>ad u1 [X]
  have q2:∀ Z W,((S2++[Z]).set (bs.length+3) .gone++[W])[bs.length]? = S2[bs.length]? := fun Z W=>by
   rw[zSS QC,zSZ QA,zSS QA]
  have q3:∀ Z W W',(((S2++[Z]).set (bs.length+3) .gone++[W]).set bs.length W')[bs.length]? = some W':=fun Z W W'=>zSX QC
  have q4:∀ Z W W' A,(((S2++[Z]).set (bs.length+3) .gone++[W]).set bs.length W')[(S2++[A]).length]? = some W:=fun Z W W' A=>by
   rw[zSZ QC,show (S2++[A]).length=((S2++[Z]).set (bs.length+3) .gone).length by simp];exact aB _ _
  have q5:∀ Z W W',Kp bs (((S2++[Z]).set (bs.length+3) .gone++[W]).set bs.length W'):=fun Z W W'=>(((uk.app _).set QA .gone).app _).set (zS6 _) W'
  refine gB (zSP ld (zSP gp (zSP u0 (zSP @v0 (zSP @v1 (zSP q2 q3)))))) ?_;refine⟨QA,⟨by unfold maxLen;omega,QA⟩,?_⟩;have hh:=iZ st jg ((([99,111,110,116,101,110,116,45,116,121,112,101]:List UInt8),kind)::fs++[(so,Ca)]);rw[gy]at hh;have fY:so.length=17:=rfl;have hcl2:Ca.length=7:=rfl;simp only[cF,zSU,zSW,zSY,zS4]at hh;refine ae (jm ((([99,111,110,116,101,110,116,45,116,121,112,101]:List UInt8),kind)::fs++[(so,Ca)]) (q4 _ _ _ _) (by rw[zS4,zTi,zS9];rfl) QC QC (by rw[gy];simp only[cF,zSW,zSY];omega) st jg) ?_;rintro r b ⟨rfl,rfl⟩;simp only[bJ,↓Xn,↓Xo,↓Xg,↓Xd,↓Xe,↓Xf,Tryz.VΓ,Tryz.Γs,Xp,Xi,Nat.reduceAdd,Nat.reduceSub,Nat.reduceLT,Nat.reduceLeDiff,reduceIte,reduceCtorEq,Nat.reduceEqDiff,implies_true,forall_const,bI,kC,beq_self_eq_true,bne_self_eq_false,Int.reduceBEq,Int.reduceBNe,Int.reduceLT,Int.reduceLE,zS4]
  (refine aa (p1) ?_;simp only[bJ,↓Xn,↓Xo,↓Xg,↓Xd,↓Xe,↓Xf,Tryz.VΓ,Tryz.Γs,Xp,Xi,Nat.reduceAdd,Nat.reduceSub,Nat.reduceLT,Nat.reduceLeDiff,reduceIte,reduceCtorEq,Nat.reduceEqDiff,implies_true,forall_const,bI,kC,beq_self_eq_true,bne_self_eq_false,Int.reduceBEq,Int.reduceBNe,Int.reduceLT,Int.reduceLE,zS4])
  exact⟨QA,rfl,q5 _ _ _⟩
theorem fS.ic {i:Nat}{a b:List aq}(h:fS i a b){k:Nat}(hk:a.length≤k)(X:aq):fS i a (b.set k X):=⟨by simp;exact h.1,fun q hq hn=>by rw[zSZ QA];exact h.2 q hq hn⟩
theorem bg.set {b:List aq}{i:Nat}{L:List Int}(h:bg b i L){k:Nat}(hk:k≠i){c:List SV}{e s n:Nat}(hr:b[k]? = some (.own c e s n true))(X:aq):bg (b.set k X) i L:=by
 obtain⟨x,hi,hx,hq⟩:=h;refine⟨x,by rw[zSZ hk];exact hi,?_,hq⟩;rcases hx with h|⟨j,h1,h2,h3⟩
 ·exact .inl h
 ·exact .inr ⟨j,h1,h2,by rw[zSZ (by rintro rfl;rw[hr]at h3;simp at h3)];exact h3⟩
theorem I0 {bs:List aq}{i:Nat}{L:List Int}(h:bg bs i L):SC QH 68 [.p i 0] bs (fun r b=>∃ fs L' q,r=.o q fs.length∧0<fs.length∧fs.length≤2∧cF fs≤200∧bs.length≤q∧b[q]? = some (.own (fs.flatMap fc) 100 2 fs.length true)∧bg b i L'∧fS i bs b):=by
 have dJ:i<bs.length:=by obtain⟨x,hi,-⟩:=h;exact(zSQ.1 hi).1
 refine bp 3000 func68 rfl ntmps68 results68 call68 QB (af bs.length _ (by simp[within,within.av,dJ])) ?_;refine iC ?_;refine⟨QA,ae (iL h [([109,97,120,45,97,103,101,61,49,48,48]:List UInt8),([109,97,120,45,97,103,101,61,49,48,48,48,44,32,112,117,98,108,105,99]:List UInt8),([109,97,120,45,97,103,101,61,53]:List UInt8),([109,97,120,45,97,103,101,61,57,57,57,57,57,57,57,57,57]:List UInt8),([110,111,45,115,116,111,114,101,44,32,109,97,120,45,97,103,101,61,57]:List UInt8),([112,114,105,118,97,116,101]:List UInt8),([109,97,120,45,97,103,101,61,120]:List UInt8)] (n:=7) (m:=30) rfl QA QD rfl) ?_⟩;rintro r b ⟨s1,L1,rfl,uY,h,hk⟩;have u9:=hk.1;refine iC ?_;refine⟨QA,ae (eF (h.app _) 4 QA) ?_⟩;rintro r b2 ⟨v,L2,rfl,hv,h2,bS⟩;have g1:=bS.at (aB b _) QA;have nL:=(hk.app _).trans bS;clear bS;have jF:b.length<b2.length:=(zSQ.1 g1).1;have kcc:(([99,97,99,104,101,45,99,111,110,116,114,111,108]:List UInt8):Bytes).length=13:=rfl;have kag:(([97,103,101]:List UInt8):Bytes).length=3:=rfl;by_cases hv0:v=0
 ·have e0:(v==0)=true:=beq_iff_eq.2 hv0
  refine gB (zSP g1 e0) ?_;refine⟨QA,ae (iL h2 [([52,48]:List UInt8),([51]:List UInt8),([49,48,48,48]:List UInt8),([121]:List UInt8)] (n:=4) (m:=10) rfl QA QD rfl) ?_⟩;rintro r b3 ⟨s2,L3,rfl,fI,h3,eL⟩;have g3:=eL.at g1 QA;have g4:=fun X=>ad g3 [X]
  have hkl3:=eL.1;refine gB (zSP g3 g4) ?_;refine⟨QA,⟨by unfold maxLen;omega,QA⟩,[(([99,97,99,104,101,45,99,111,110,116,114,111,108]:List UInt8),s1),(([97,103,101]:List UInt8),s2)],L3,_,rfl,QB,QB,by simp only[cF];omega,QC,?_,((h3.app _).set QA (g4 _) _).app _,(((nL.trans eL).app _).ic u9 _).app _⟩;have e:∀ X Y,(b3++[X]).length=((b3++[X]).set b.length Y).length:=fun X Y=>QB
  rw[e _ .gone,aB];rfl
 ·have e0:(v==0)=false:=beq_eq_false_iff_ne.2 hv0
  refine gB (zSP g1 e0) ?_;exact⟨[(([99,97,99,104,101,45,99,111,110,116,114,111,108]:List UInt8),s1)],L2,b.length,rfl,QB,QB,by simp only[cF];omega,u9,g1,h2,nL⟩
def Ro (a b:List aq):Prop:=∀ (j:Nat) (c:List SV) (e s n:Nat),a[j]? = some (.own c e s n false)→b[j]? = some (.own c e s n false)
theorem Ro.refl (a:List aq):Ro a a:=fun _ _ _ _ _ h=>h
theorem Ro.trans {a b c:List aq}(h:Ro a b)(k:Ro b c):Ro a c:=fun j _ _ _ _ x=>k j _ _ _ _ (h j _ _ _ _ x)
end Go.Proofs.YtnmlimehgifadaaGreatDoor
namespace Vc
open Go.Proofs.YtnmlimehgifadaaGreatDoor
open Go Vc Go.RowKit Wf
theorem Kp.ro {a b:List aq}(h:Kp a b):Ro a b:=fun _ _ _ _ _ x=>h.at x
end Vc
namespace Go.Proofs.YtnmlimehgifadaaGreatDoor
open Go Vc Go.RowKit Wf
theorem Ro.app {a b:List aq}(h:Ro a b)(X:List aq):Ro a (b++X):=fun j _ _ _ _ x=>ad (h j _ _ _ _ x) X
end Go.Proofs.YtnmlimehgifadaaGreatDoor
namespace Vc
open Go.Proofs.YtnmlimehgifadaaGreatDoor
open Go Vc Go.RowKit Wf
theorem Nv.ro {a b:List aq}(h:Nv a b):Ro a b:=fun j c e s n x=>by
 have hl:j<b.length:=by rw[h.1];exact(zSQ.1 x).1
 rcases h.2 j b[j] (zTe hl) with h1|⟨c',e',s',n',m',h1,h2⟩
 ·rw[zTe hl,← h1,x]
 ·rw[x]at h1
  cases h1
  rw[zTe hl,h2]
end Vc
namespace Go.Proofs.YtnmlimehgifadaaGreatDoor
open Go Vc Go.RowKit Wf
theorem Ro.set {a b:List aq}(h:Ro a b){q:Nat}(hq:∀ c e s n,b[q]? ≠ some (.own c e s n false))(X:aq):Ro a (b.set q X):=fun j c e s n x=>by
 have:=h j c e s n x
 have bF:q≠j:=by rintro rfl;exact hq _ _ _ _ this
 rw[zSZ bF];exact this
theorem Ro.rW {a b:List aq}(h:Ro a b){q:Nat}{c:List SV}{e s n:Nat}(hq:b[q]? = some (.own c e s n true))(X:aq):Ro a (b.set q X):=h.set (fun c e s n hx=>by rw[hq]at hx;cases hx) X
structure Tv where
 k:Int
 t:Bytes
 xk:SV
 xi:SV
def tv (v:Tv):List SV:=[.int .i64 v.k,.str v.t,v.xk,v.xi]
def Rs (b:List aq)(x:SV)(L:List Bytes):Prop:=(x=.ai∧L=[])∨∃ j,x=.o j L.length∧b[j]? = some (.own (L.map SV.str) 9 1 L.length false)
def Ri (b:List aq)(x:SV)(L:List Tv):Prop:=(x=.ai∧L=[])∨∃ j,x=.o j L.length∧b[j]? = some (.own (L.flatMap tv) 139 4 L.length false)
theorem Rs.ro {a b:List aq}{x:SV}{L:List Bytes}(h:Rs a x L)(k:Ro a b):Rs b x L:=by
 rcases h with h|⟨j,h1,h2⟩
 ·exact .inl h
 ·exact .inr ⟨j,h1,k _ _ _ _ _ h2⟩
theorem Ri.ro {a b:List aq}{x:SV}{L:List Tv}(h:Ri a x L)(k:Ro a b):Ri b x L:=by
 rcases h with h|⟨j,h1,h2⟩
 ·exact .inl h
 ·exact .inr ⟨j,h1,k _ _ _ _ _ h2⟩
theorem Rs.within {b:List aq}{x:SV}{L:List Bytes}(h:Rs b x L):Vc.within b.length x=true:=by
 rcases h with⟨rfl,-⟩|⟨j,rfl,h2⟩
 ·rfl
 ·have:=(zSQ.1 h2).1
  simp[Vc.within,this]
theorem Ri.within {b:List aq}{x:SV}{L:List Tv}(h:Ri b x L):Vc.within b.length x=true:=by
 rcases h with⟨rfl,-⟩|⟨j,rfl,h2⟩
 ·rfl
 ·have:=(zSQ.1 h2).1
  simp[Vc.within,this]
def Tr (b:List aq):Nat→Tv→Prop
 | 0,_=>False
 | d+1,v=>v.t.length≤20000∧(v.k=0∨v.k=5∨v.k=6∨v.k=7)∧∃ (K:List Bytes) (L:List Tv),Rs b v.xk K∧Ri b v.xi L∧K.length≤16∧L.length≤16∧(∀ s∈K,s.length≤20000)∧(v.k=7→K.length=L.length)∧(v.k≠7→K=[])∧∀ x∈L,Tr b d x
theorem Tr.ro {a b:List aq}(k:Ro a b):∀ {d:Nat}{v:Tv},Tr a d v→Tr b d v
 | 0,_,h=>h
 | _+1,_,⟨h1,h2,K,L,h3,h4,h5,h6,h7,h8,h9,eB⟩=>⟨h1,h2,K,L,h3.ro k,h4.ro k,h5,h6,h7,h8,h9,fun x hx=>(eB x hx).ro k⟩
theorem Tr.up {b:List aq}:∀ {d:Nat}{v:Tv},Tr b d v→Tr b (d+1) v
 | 0,_,h=>h.elim
 | _+1,_,⟨h1,h2,K,L,h3,h4,h5,h6,h7,h8,h9,eB⟩=>⟨h1,h2,K,L,h3,h4,h5,h6,h7,h8,h9,fun x hx=>(eB x hx).up⟩
theorem Tr.le {b:List aq}{d d2:Nat}{v:Tv}(h:Tr b d v)(hd:d≤d2):Tr b d2 v:=by
 induction hd with
 | refl=>exact h
 | step _ ih=>exact ih.up
theorem Tr.zero (b:List aq)(d:Nat):Tr b (d+1) ⟨0,[],.ai,.ai⟩:=⟨QB,.inl rfl,[],[],.inl ⟨rfl,rfl⟩,.inl ⟨rfl,rfl⟩,QB,QB,QB,QB,QB,QB⟩
theorem Tr.text (b:List aq)(d:Nat)(s:Bytes)(hs:s.length≤20000):Tr b (d+1) ⟨5,s,.ai,.ai⟩:=⟨hs,.inr (.inl rfl),[],[],.inl ⟨rfl,rfl⟩,.inl ⟨rfl,rfl⟩,QB,QB,QB,QB,QB,QB⟩
theorem Tr.within {b:List aq}:∀ {d:Nat}{v:Tv},Tr b d v→Vc.within b.length (.agg (tv v))=true
 | 0,_,h=>h.elim
 | _+1,_,⟨_,_,_,_,h3,h4,_⟩=>by simp[Vc.within,Vc.within.av,tv,h3.within,h4.within]
theorem xl (L:List Tv)(k:Nat)(h:k<L.length):((L.flatMap tv).drop (k * 4)).take 4=tv L[k]:=mQ tv 4 (fun _=>rfl) L k h
theorem oI (L:List Tv):(L.flatMap tv).length=L.length * 4:=jq tv 4 (fun _=>rfl) L
end Go.Proofs.YtnmlimehgifadaaGreatDoor
namespace Vc
open Go Go.RowKit Wf
mutual
def Nb (ρ:Nat→Nat):SV→SV
 | .p i off=>.p (ρ i) off
 | .o i n=>.o (ρ i) n
 | .f i n=>.f (ρ i) n
 | .agg l=>.agg (qK ρ l)
 | .eh l=>.eh (qK ρ l)
 | .fn f l=>.fn f (qK ρ l)
 | .mv f l=>.mv f (qK ρ l)
 | .ifc t x=>.ifc t (Nb ρ x)
 | .bool b=>.bool b
 | .int k n=>.int k n
 | .str l=>.str l
 | .ai=>.ai
 | .v x=>.v x
def qK (ρ:Nat→Nat):List SV→List SV
 | []=>[]
 | x::r=>Nb ρ x::qK ρ r
end
mutual
theorem AK (ρ:Nat→Nat)(β:Nat→Bt)(x:SV):aj β (Nb ρ x)=aj (fun i=>β (ρ i)) x:=by
 cases x <;> simp only[Nb,aj]
 ·rw[lD ρ β _]
 ·rw[lD ρ β _]
 ·rw[lD ρ β _]
 ·rw[lD ρ β _]
 ·rw[AK ρ β _]
theorem lD (ρ:Nat→Nat)(β:Nat→Bt)(l:List SV):aZ β (qK ρ l)=aZ (fun i=>β (ρ i)) l:=by
 cases l with
 | nil=>rfl
 | cons x r =>
   simp only[qK,aZ];rw[AK ρ β x,lD ρ β r]
end
mutual
theorem tl {ρ:Nat→Nat}{m:Nat}(hρ:∀ k,k<m→ρ k=k)(x:SV)(h:within m x=true):Nb ρ x=x:=by
 cases x <;> simp only[within,decide_eq_true_eq]at h <;> simp only[Nb]
 ·rw[hρ _ h]
 ·rw[hρ _ h]
 ·rw[hρ _ h]
 ·rw[fW hρ _ h]
 ·rw[fW hρ _ h]
 ·rw[fW hρ _ h]
 ·rw[fW hρ _ h]
 ·rw[tl hρ _ h]
theorem fW {ρ:Nat→Nat}{m:Nat}(hρ:∀ k,k<m→ρ k=k)(l:List SV)(h:within.av m l=true):qK ρ l=l:=by
 cases l with
 | nil=>rfl
 | cons x r =>
   simp only[within.av,Bool.and_eq_true]at h;simp only[qK];rw[tl hρ x h.1,fW hρ r h.2]
end
theorem N9 (ρ:Nat→Nat)(l:List SV):qK ρ l=l.map (Nb ρ):=by
 induction l with
 | nil=>rfl
 | cons x r ih=>rw[qK,ih];rfl
variable {V:Cx} {f:FuncId} {args:List SV} {bs:List aq} {R:SV→List aq→Prop}
def Kept (bs b:List aq)(ρ:Nat→Nat)(m i:Nat)(X:aq):Prop:=X=.gone∨∃ (c:List SV) (e s n:Nat) (mm:Bool),X=.own c e s n false∧bs.length≤ρ i∧b[ρ i]? = some (.own (qK ρ c) e s n mm)∧within.av m c=true
theorem SC.pick (h:SC V f args bs (fun r b=>∃ (ρ:Nat→Nat)(Xs:List aq)(r2:SV),Kp bs b∧(∀ k,k<bs.length→ρ k=k)∧(∀ q X,Xs[q]? = some X→Kept bs b ρ (bs.length+Xs.length) (bs.length+q) X)∧r=Nb ρ r2∧within (bs.length+Xs.length) r2=true∧R r2 (bs++Xs))):SC V f args bs R:=by
 refine⟨h.1,fun β fp w nU hG hE=>(h.2 β fp w nU hG hE).mono ?_⟩;rintro ex w' ⟨r,bs',β₂,fp₂,⟨ρ,Xs,r2,⟨hlen,bm⟩,hρ,hX,rfl,hw,hR⟩,Bc,-,br,nM,mb,kP⟩;have old:∀ {i r},bs[i]? = some r→bs'[i]? = some r:=fun {i r} hi=>(bm i (zSQ.1 hi).1).trans hi
 obtain⟨he,qv⟩:=br β₂ (fun _ _=>rfl);have low:∀ {i X},(bs++Xs)[i]? = some X→(i<bs.length∧bs[i]? = some X)∨(bs.length≤i∧(X=.gone∨∃ (c:List SV) (e s n:Nat) (mm:Bool),X=.own c e s n false∧bs.length≤ρ i∧bs'[ρ i]? = some (.own (qK ρ c) e s n mm)∧within.av (bs.length+Xs.length) c=true)):=fun {i X} hi=>by
  rcases zTf i bs.length with h1|h1
  ·rw[zSS h1]at hi
   exact .inl ⟨h1,hi⟩
  ·rw[zTc h1]at hi
   have:=hX _ _ hi
   rw[show bs.length+(i - bs.length)=i by omega]at this;exact .inr ⟨h1,this⟩
 have ng:∀ {i X},(bs++Xs)[i]? = some X→X≠.gone→bs'[ρ i]? ≠ none∧(i<bs.length∧ρ i=i∨bs.length≤i∧bs.length≤ρ i):=fun {i X} hi hg=>by
  rcases low hi with⟨h1,h2⟩|⟨h1,h2|⟨c,e,s,n,mm,-,h3,h4,-⟩⟩
  ·rw[hρ i h1,old h2]
   exact⟨QB,.inl ⟨h1,rfl⟩⟩
  ·exact absurd h2 hg
  ·rw[h4]
   exact⟨QB,.inr ⟨h1,h3⟩⟩
 refine⟨r2,bs++Xs,fun i=>β₂ (ρ i),fun i k=>(bs++Xs)[i]? ≠ some .gone∧fp₂ (ρ i) k,hR,fun i hi=>?_,QB,fun β' hβ=>?_,nM,fun i X hi hm k hk=>?_,fun i X hi k hk=>?_⟩
 ·show β i=β₂ (ρ i)
  rw[hρ i hi];exact Bc i hi
 ·rw[zSU]at hβ
  have e1:∀ c,within.av (bs.length+Xs.length) c=true→(qK ρ c).map (aj β₂)=c.map (aj β'):=fun c hc=>by
   rw[← cu,← cu,lD];exact af _ c hc _ _ hβ
  have hB:cP bs.length β₂ β':=fun i hi=>by
   have:β₂ (ρ i)=β' i:=hβ i QA
   rw[← this,hρ i hi]
  refine⟨by rw[he,AK];rw[rB _ r2 hw _ _ hβ],⟨fun i X hi=>?_,fun i X hi k hk=>?_,fun i j X Y hi hj Hj hm k hk bS=>?_⟩⟩
  ·rcases low hi with⟨h1,h2⟩|⟨h1,rfl|⟨c,e,s,n,mm,rfl,h3,h4,h5⟩⟩
   ·have g1:=(nU β₂ Bc).holds i X h2
    have g2:=(nU β' (fun i hi=>(Bc i hi).trans (hB i hi))).holds i X h2;have e:β₂ i=β' i:=hB i h1;have g3:=qv.holds i X (old h2);rw[e]at g1 g3;have g4:=DJ g1 g2 g3;by_cases hg:X=.gone
    ·subst hg
     intro k hk;exact hk.1 hi
    ·have:(fun k=>(bs++Xs)[i]? ≠ some .gone∧fp₂ (ρ i) k)=fp₂ i:=by
      funext k
      rw[hρ i h1,hi];simp[hg]
     rw[this];exact g4
   ·intro k hk
    exact hk.1 hi
   ·have g3:=qv.holds _ _ h4
    have Iw:i<bs.length+Xs.length:=by
     have:=(zSQ.1 hi).1
     simpa using this
    have e:β₂ (ρ i)=β' i:=hβ i Iw;rw[e]at g3;have:(fun k=>(bs++Xs)[i]? ≠ some .gone∧fp₂ (ρ i) k)=fp₂ (ρ i):=by
     funext k
     rw[hi];simp
    rw[this];rcases g3 with⟨k1,k2,k3,k4⟩|⟨k1,k2,k3,k4,k5,-,k7⟩
    ·refine .inl ⟨k1,k2,?_,k4⟩
     cases c with
     | nil=>rfl
     | cons x r=>simp[qK]at k3
    ·refine .inr ⟨k1,k2,k3,?_,?_,QB,k7⟩
     ·rw[N9,zTg]at k4
      exact k4
     ·rw[e1 c h5]at k5
      exact k5
  ·obtain⟨X',hX'⟩:∃ X',bs'[ρ i]? = some X':=by
    have:=(ng hi (fun e=>hk.1 (e ▸ hi))).1
    cases hh:bs'[ρ i]? with
    | none=>exact absurd hh this
    | some x=>exact⟨x,rfl⟩
   exact qv.lt _ _ hX' k hk.2
  ·have hgi:X≠.gone:=fun e=>hk.1 (e ▸ hi)
   have hgj:Y≠.gone:=fun e=>bS.1 (e ▸ hj)
   rcases low hi with⟨h1,h2⟩|⟨h1,rfl|⟨c,e,s,n,mm,rfl,h3,h4,h5⟩⟩
   ·rcases low hj with⟨l1,l2⟩|⟨l1,rfl|⟨c',e',s',n',mm',rfl,l3,l4,l5⟩⟩
    ·have a1:=hk.2
     have a2:=bS.2;rw[hρ i h1]at a1;rw[hρ j l1]at a2;exact qv.sep i j X Y (old h2) (old l2) Hj hm k a1 a2
    ·exact hgj rfl
    ·have a1:=hk.2
     rw[hρ i h1]at a1;have tU:X.dD=true:=hm.resolve_right (by simp[aq.dD]);exact qv.sep i (ρ j) X _ (old h2) l4 QA (.inl tU) k a1 bS.2
   ·exact hgi rfl
   ·rcases low hj with⟨l1,l2⟩|⟨l1,rfl|⟨c',e',s',n',mm',rfl,l3,l4,l5⟩⟩
    ·have a2:=bS.2
     rw[hρ j l1]at a2;have tU:Y.dD=true:=hm.resolve_left (by simp[aq.dD]);exact qv.sep (ρ i) j _ Y h4 (old l2) QA (.inr tU) k hk.2 a2
    ·exact hgj rfl
    ·rcases hm with hm|hm <;> simp[aq.dD]at hm
 ·rcases low hi with⟨h1,h2⟩|⟨h1,rfl|⟨c,e,s,n,mm,rfl,h3,h4,h5⟩⟩
  ·have a1:=hk.2
   rw[hρ i h1]at a1;exact mb i X (old h2) hm k a1
  ·simp[aq.dD]at hm
  ·simp[aq.dD]at hm
 ·rcases low hi with⟨h1,h2⟩|⟨h1,rfl|⟨c,e,s,n,mm,rfl,h3,h4,h5⟩⟩
  ·have a1:=hk.2
   rw[hρ i h1]at a1;exact kP i X (old h2) k a1
  ·exact absurd hi hk.1
  ·exact kP _ _ h4 k hk.2
def MW:aq→aq
 | .own c e s n _=>.own c e s n false
 | r=>r
def iE (lo:Nat)(b:List aq):List aq:=b.take lo++(b.drop lo).map MW
theorem vu (lo:Nat)(b:List aq):(iE lo b).length=b.length:=by
 simp[iE];omega
theorem vt {lo:Nat}{b:List aq}{k:Nat}(h:k<lo)(hl:lo≤b.length):(iE lo b)[k]? = b[k]? := by
 unfold iE;rw[zSS QC,List.getElem?_take];simp[h]
theorem ka {lo:Nat}{b:List aq}{k:Nat}(h:lo≤k){r:aq}(hr:b[k]? = some r):(iE lo b)[k]? = some (MW r):=by
 have hk:=(zSQ.1 hr).1;unfold iE;rw[zTc QC,List.getElem?_map,List.getElem?_drop,zTj,Nat.min_eq_left QA,show lo+(k - lo)=k by omega,hr];rfl
theorem gY {lo:Nat}{b:List aq}(hl:lo≤b.length):Nv b (iE lo b):=⟨vu lo b,fun i r hi=>by
 have dJ:=(zSQ.1 hi).1;rw[vu]at dJ;have hb:=zTe dJ;rcases zTf i lo with h|h
 ·rw[vt h hl]at hi
  exact .inl hi
 ·rw[ka h hb]at hi
  rw[hb];have hi:=(Option.some.inj hi).symm;cases hx:b[i] with
  | own c e s n m=>rw[hx]at hi;exact .inr ⟨c,e,s,n,m,rfl,hi⟩
  | cells c T m=>rw[hx]at hi;exact .inl (by rw[hi];rfl)
  | ext R=>rw[hx]at hi;exact .inl (by rw[hi];rfl)
  | gone=>rw[hx]at hi;exact .inl (by rw[hi];rfl)⟩
theorem Kp.iE {bs b:List aq}(h:Kp bs b):Kp bs (iE bs.length b):=⟨by rw[vu];exact h.1,fun k hk=>by rw[vt hk h.1];exact h.2 k hk⟩
theorem SC.wV (h:SC V f args bs (fun r b=>bs.length≤b.length∧R r (iE bs.length b))):SC V f args bs R :=
 SC.dim (h.mono fun r b ⟨h1,h2⟩=>⟨_,gY h1,h2⟩)
theorem aY (b l:List aq)(k:Nat):(b++l)[b.length+k]? = l[k]? := by
 rw[zTc QA,zS0]
theorem aM (b l:List aq):(b++l)[b.length]? = l[0]? := aY b l 0
theorem EU (b l:List aq)(k:Nat)(X:aq):(b++l).set (b.length+k) X=b++l.set k X:=by
 rw[List.set_append_right _ _ QA,zS0]
theorem oB (b l:List aq)(X:aq):(b++l).set b.length X=b++l.set 0 X:=EU b l 0 X
def di:=zSP (zSP (@aY) (zSP (@aM) (@EU))) (zSP (zSP (@oB) (@zS8.{0})) (zSP (zSP (@zS4.{0}) (@zTh.{0})) (zSP (zSP (@zSU.{0}) (@zSW.{0})) (zSP (zSP (@zSY.{0}) (@Nat.zero_add)) (zSP (zSP (@List.set_cons_succ.{0}) (@List.set_cons_zero.{0})) (@Nat.add_assoc))))))
theorem gA {P Q H : Prop} (hs : H) (h : Q) (e : H → P = Q := by intro hs; simp only[bJ,↓Xn,↓Xo,↓Xg,↓Xd,↓Xe,↓Xf,Tryz.VΓ,Tryz.Γs,Xp,Xi,Nat.reduceAdd,Nat.reduceSub,Nat.reduceLT,Nat.reduceLeDiff,reduceIte,reduceCtorEq,Nat.reduceEqDiff,implies_true,forall_const,bI,di,beq_self_eq_true,bne_self_eq_false,Int.reduceBEq,Int.reduceBNe,Int.reduceLT,Int.reduceLE,hs] <;> rfl) : P := (e hs).symm ▸ h
theorem dY {P Q : Prop} (h : Q) (e : P = Q := by simp only[bJ,↓Xn,↓Xo,↓Xg,↓Xd,↓Xe,↓Xf,Tryz.VΓ,Tryz.Γs,Xp,Xi,Nat.reduceAdd,Nat.reduceSub,Nat.reduceLT,Nat.reduceLeDiff,reduceIte,reduceCtorEq,Nat.reduceEqDiff,implies_true,forall_const,bI,di,beq_self_eq_true,bne_self_eq_false,Int.reduceBEq,Int.reduceBNe,Int.reduceLT,Int.reduceLE] <;> rfl) : P := e.symm ▸ h
theorem gL {P Q H : Prop} (hs : H) (h : Q) (e : H → P = Q := by intro hs; simp only[bJ,↓Xn,↓Xo,↓Xg,↓Xd,↓Xe,↓Xf,Tryz.VΓ,Tryz.Γs,Xp,Xi,Nat.reduceAdd,Nat.reduceSub,Nat.reduceLT,Nat.reduceLeDiff,reduceIte,reduceCtorEq,Nat.reduceEqDiff,implies_true,forall_const,bI,di,beq_self_eq_true,bne_self_eq_false,Int.reduceBEq,Int.reduceBNe,Int.reduceLT,Int.reduceLE,_root_.List.length_cons,_root_.List.length_nil,Nat.reduceAdd,_root_.Int.cast_ofNat_Int,decide_true,decide_false,_root_.Bool.true_eq_false,_root_.Bool.false_eq_true,Int.reduceToNat,_root_.Nat.zero_mul,hs] <;> rfl) : P := (e hs).symm ▸ h
theorem gL0 {P Q : Prop} (h : Q) (e : P = Q := by simp only[bJ,↓Xn,↓Xo,↓Xg,↓Xd,↓Xe,↓Xf,Tryz.VΓ,Tryz.Γs,Xp,Xi,Nat.reduceAdd,Nat.reduceSub,Nat.reduceLT,Nat.reduceLeDiff,reduceIte,reduceCtorEq,Nat.reduceEqDiff,implies_true,forall_const,bI,di,beq_self_eq_true,bne_self_eq_false,Int.reduceBEq,Int.reduceBNe,Int.reduceLT,Int.reduceLE,_root_.List.length_cons,_root_.List.length_nil,Nat.reduceAdd,_root_.Int.cast_ofNat_Int,decide_true,decide_false,_root_.Bool.true_eq_false,_root_.Bool.false_eq_true,Int.reduceToNat,_root_.Nat.zero_mul] <;> rfl) : P := e.symm ▸ h
theorem outs1 {n:Nat}{b:List aq}(hn:n=b.length)(X:aq):Ih [(n,0,0)] (b++[X]) b:=by
 subst hn;refine Ee (fun j hj=>?_) QB;have h1:=hj _ List.mem_cons_self;simp only at h1;rcases zTf j b.length with h|h
 ·rw[zSS h]
 ·rw[zTd QC,zTd h]
theorem outs2 {n m:Nat}{b:List aq}(hn:n=b.length)(hm:m=b.length+1)(X Y:aq):Ih [(n,0,0),(m,0,0)] (b++[X,Y]) b:=by
 subst hn hm;refine Ee (fun j hj=>?_) QB;have h1:=hj (b.length,0,0) QB;have h2:=hj (b.length+1,0,0) QB;simp only at h1 h2;rcases zTf j b.length with h|h
 ·rw[zSS h]
 ·rw[zTd QC,zTd h]
theorem aX {l1:List aq}{n:Nat}(hn:l1.length=n)(l:List aq)(k:Nat):(l1++l)[n+k]? = l[k]? := by
 subst hn;exact aY _ _ _
theorem aQ {l1:List aq}{i:Nat}(hi:i<l1.length)(l:List aq)(X:aq):(l1++l).set i X=l1.set i X++l:=List.set_append_left _ _ hi
theorem bV {l1:List aq}{i:Nat}(hi:i<l1.length)(X:aq)(l:List aq):(l1.set i X++l)[i]? = some X:=by
 rw[zSS (by simpa using hi),zSX hi]
theorem aw {l1:List aq}{i j:Nat}{r:aq}(h:l1[j]? = some r)(hn:i≠j)(X:aq):(l1.set i X)[j]? = some r:=by
 rw[zSZ hn];exact h
theorem wx {n:Nat}{b:List aq}(l:List aq)(hn:n=b.length+l.length)(X:aq):Ih [(n,0,0)] (b++(l++[X])) (b++l):=by
 rw[← zS8];exact outs1 (by simpa using hn) X
theorem kB {n m:Nat}{b:List aq}(l:List aq)(hn:n=b.length+l.length)(hm:m=b.length+l.length+1)(X Y:aq):Ih [(n,0,0),(m,0,0)] (b++(l++[X,Y])) (b++l):=by
 rw[← zS8];exact outs2 (by simpa using hn) (by simpa using hm) X Y
theorem lT {V:Cx}{E:Fin}{n f:Nat}{ops:Array Oper}{k:List Item}{σ:St}{t:OT}(J:St→Prop)(cn:OT.BA ops [] t=true)(h:∀ (E':Fin)(k':List Item),eH V n E' f (.kt ops [] t::.cut J::k') σ)(h2:∀ σ',J σ'→eH V n E f k σ'):I4 V n E f ops k σ (.all t) :=
 uD J cn (h E k) h2
end Vc
namespace Go.Proofs.YtnmlimehgifadaaGreatDoor
open Go Vc Go.RowKit Wf
theorem lX (s:Bytes):PC QH 140 [.str s] (.agg (tv ⟨5,s,.ai,.ai⟩)):=by
 refine aU 3000 func140 rfl ntmps140 results140 call140 QB (by simp[flat,flat.ah]) (by simp[flat,flat.ah,tv]) ?_;unfold tv;exact bw True.intro
def qs (m:Nat)(x:Tv):Prop:=Vc.within m x.xk=true∧Vc.within m x.xi=true∧one x.xk=true∧one x.xi=true
mutual
theorem nZ {m n:Nat}(h:m≤n):∀ {x:SV},Vc.within m x=true→Vc.within n x=true:=fun {x} hx=>by
 cases x <;> simp only[Vc.within,decide_eq_true_eq]at hx ⊢
 ·omega
 ·omega
 ·omega
 ·exact lF h hx
 ·exact lF h hx
 ·exact lF h hx
 ·exact lF h hx
 ·exact nZ h hx
theorem lF {m n:Nat}(h:m≤n):∀ {l:List SV},within.av m l=true→within.av n l=true:=fun {l} hx=>by
 cases l with
 | nil=>rfl
 | cons x r =>
   simp only[within.av,Bool.and_eq_true]at hx ⊢;exact⟨nZ h hx.1,lF h hx.2⟩
end
theorem qs.up {m n:Nat}(h:m≤n){x:Tv}(hx:qs m x):qs n x:=⟨nZ h hx.1,nZ h hx.2.1,hx.2.2⟩
theorem qs.w {m:Nat}{x:Tv}(hx:qs m x):within.av m (tv x)=true:=by
 simp[within,within.av,tv,hx.1,hx.2.1]
theorem qx {m:Nat}:∀ (a b:List SV),within.av m (a++b)=(within.av m a&&within.av m b)
 | [],b=>by simp[within.av]
 | x::a,b=>by simp[within.av,qx a b,Bool.and_assoc]
theorem qs.all {m:Nat}{L:List Tv}(h:∀ x∈L,qs m x):within.av m (L.flatMap tv)=true:=by
 induction L with
 | nil=>rfl
 | cons x r ih =>
   rw[zTi,qx,(h x QB).w,ih (fun y hy=>h y (by simp[hy]))];rfl
theorem Rs.one {b:List aq}{x:SV}{L:List Bytes}(h:Rs b x L):Vc.one x=true:=by
 rcases h with⟨rfl,-⟩|⟨j,rfl,h2⟩ <;> rfl
theorem Ri.one {b:List aq}{x:SV}{L:List Tv}(h:Ri b x L):Vc.one x=true:=by
 rcases h with⟨rfl,-⟩|⟨j,rfl,h2⟩ <;> rfl
theorem Tr.oc {b:List aq}:∀ {d:Nat}{v:Tv},Tr b d v→qs b.length v
 | 0,_,h=>h.elim
 | _+1,_,⟨_,_,_,_,h3,h4,_⟩=>⟨h3.within,h4.within,h3.one,h4.one⟩
theorem NL (m:Nat)(L:List Bytes):within.av m (L.map SV.str)=true:=by
 induction L with
 | nil=>rfl
 | cons x r ih=>simp[within.av,within,ih]
def Ob (b:List aq)(d n:Nat)(v:Tv):Prop:=v.k=7∧v.t=[]∧∃ (K:List Bytes) (L:List Tv),Rs b v.xk K∧Ri b v.xi L∧K.length=L.length∧K.length≤n∧(∀ s∈K,s.length≤20000)∧∀ x∈L,Tr b d x
theorem Ob.ro {a b:List aq}(k:Ro a b){d n:Nat}{v:Tv}:Ob a d n v→Ob b d n v
 | ⟨h1,h2,K,L,h3,h4,h5,h6,h7,h8⟩=>⟨h1,h2,K,L,h3.ro k,h4.ro k,h5,h6,h7,fun x hx=>(h8 x hx).ro k⟩
theorem Ob.tr {b:List aq}{d n:Nat}{v:Tv}(hn:n≤16):Ob b d n v→Tr b (d+1) v
 | ⟨h1,h2,K,L,h3,h4,h5,h6,h7,h8⟩=>⟨by rw[h2];simp,.inr (.inr (.inr h1)),K,L,h3,h4,QA,QA,h7,fun _=>h5,fun h=>absurd h1 h,h8⟩
theorem Ob.zero (b:List aq)(d n:Nat):Ob b d n ⟨7,[],.ai,.ai⟩:=⟨rfl,rfl,[],[],.inl ⟨rfl,rfl⟩,.inl ⟨rfl,rfl⟩,rfl,QB,QB,QB⟩
theorem Ob.up {b:List aq}{d n m:Nat}{v:Tv}(hm:n≤m):Ob b d n v→Ob b d m v
 | ⟨h1,h2,K,L,h3,h4,h5,h6,h7,h8⟩=>⟨h1,h2,K,L,h3,h4,h5,QA,h7,h8⟩
theorem Ob.within {b:List aq}{d n:Nat}{v:Tv}:Ob b d n v→Vc.within b.length (.agg (tv v))=true
 | ⟨_,_,_,_,h3,h4,_⟩=>by simp[Vc.within,Vc.within.av,tv,h3.within,h4.within]
def Ie (bs:List aq)(v x:Tv)(K:List Bytes)(L:List Tv)(key:Bytes)(r:SV)(b:List aq):Prop:=∃ (q1 q2:Nat) (m1 m2:Bool),Kp bs b∧bs.length≤q1∧bs.length≤q2∧b[q1]? = some (.own ((K++[key]).map SV.str) 9 1 (K++[key]).length m1)∧b[q2]? = some (.own ((L++[x]).flatMap tv) 139 4 (L++[x]).length m2)∧r=.agg (tv ⟨v.k,v.t,.o q1 (K++[key]).length,.o q2 (L++[x]).length⟩)
theorem Ie.pick {bs:List aq}{v x:Tv}{K:List Bytes}{L:List Tv}{key:Bytes}(hx:qs bs.length x)(hLw:∀ y∈L,qs bs.length y){r:SV}{b:List aq}(h:Ie bs v x K L key r b) :
 ∃ (ρ:Nat→Nat) (Xs:List aq) (r2:SV),Kp bs b∧(∀ k,k<bs.length→ρ k=k)∧(∀ q X,Xs[q]? = some X→Kept bs b ρ (bs.length+Xs.length) (bs.length+q) X)∧r=Nb ρ r2∧within (bs.length+Xs.length) r2=true∧(r2=.agg (tv ⟨v.k,v.t,.o bs.length (K++[key]).length,.o (bs.length+1) (L++[x]).length⟩)∧bs++Xs=bs++[.own ((K++[key]).map SV.str) 9 1 (K++[key]).length false,.own ((L++[x]).flatMap tv) 139 4 (L++[x]).length false]):=by
 obtain⟨q1,q2,m1,m2,bm,h1,h2,h3,h4,rfl⟩:=h;have hρ:∀ k,k<bs.length→(fun i=>if i=bs.length then q1 else if i=bs.length+1 then q2 else i) k=k:=fun k hk=>by
  show (if k=bs.length then q1 else if k=bs.length+1 then q2 else k)=k
  rw[if_neg QA,if_neg QA]
 have w1:within.av bs.length ((K++[key]).map SV.str)=true:=NL _ _;have w2:within.av bs.length ((L++[x]).flatMap tv)=true:=by
  rw[zS9,qx,qs.all hLw];simpa[zTi] using hx.w
 refine⟨fun i=>if i=bs.length then q1 else if i=bs.length+1 then q2 else i,[.own ((K++[key]).map SV.str) 9 1 (K++[key]).length false,.own ((L++[x]).flatMap tv) 139 4 (L++[x]).length false],_,bm,hρ,?_,?_,?_,rfl,rfl⟩
 ·rintro q X hq
  match q,hq with
  | 0,hq =>
    cases hq
    refine .inr ⟨_,_,_,_,m1,rfl,?_,?_,NL _ _⟩
    ·simpa using h1
    ·rw[fW hρ _ w1];simpa using h3
  | 1,hq =>
    cases hq
    refine .inr ⟨_,_,_,_,m2,rfl,?_,?_,?_⟩
    ·simpa using h2
    ·rw[fW hρ _ w2];simpa using h4
    ·refine qs.all (fun y hy=>?_)
     rcases zTb.1 hy with hy|hy
     ·exact(hLw y hy).up QB
     ·obtain rfl:=zS1.1 hy
      exact hx.up QB
 ·simp[Nb,qK,tv]
 ·simp[within,within.av,tv]
theorem qH {bs:List aq}{v x:Tv}{K:List Bytes}{L:List Tv}(hk:Rs bs v.xk K)(hi:Ri bs v.xi L)(hK:K.length≤1000)(hL:L.length≤1000)(key:Bytes)(hx:qs bs.length x)(hLw:∀ y∈L,qs bs.length y) :
 SC QH 137 [.agg (tv v),.str key,.agg (tv x)] bs (fun r b=>r=.agg (tv ⟨v.k,v.t,.o bs.length (K++[key]).length,.o (bs.length+1) (L++[x]).length⟩)∧b=bs++[.own ((K++[key]).map SV.str) 9 1 (K++[key]).length false,.own ((L++[x]).flatMap tv) 139 4 (L++[x]).length false]):=by
 obtain⟨k,t,xk,xi⟩:=v;have jE:=hk.within;have gQ:=hi.within;simp only at hk hi jE gQ;obtain⟨G2,Ng,hx3,Mj⟩:=hx;have qZ:(one x.xk&&one x.xi)=true:=by rw[hx3,Mj];rfl
 refine SC.pick (SC.mono (R:=Ie bs ⟨k,t,xk,xi⟩ x K L key) ?_ ?_);rotate_left
 ·exact fun r b h=>h.pick ⟨G2,Ng,hx3,Mj⟩ hLw
 refine bp 3000 func137 rfl ntmps137 results137 call137 QB (af bs.length _ (by simp[within,within.av,tv,jE,gQ,G2,Ng])) ?_;have sJ:(K.map SV.str).length=K.length:=zTg ..;have Iu:=oI L;unfold tv;rcases hk with⟨rfl,rfl⟩|⟨jk,rfl,hk⟩ <;> rcases hi with⟨rfl,rfl⟩|⟨ji,rfl,hi⟩
 ·refine gA qZ ?_
  refine⟨QA,⟨by unfold maxLen;omega,QA⟩,QA,⟨by unfold maxLen;omega,QA⟩,?_,?_⟩
  ·(refine bt (fun n=>n - bs.length) ?_;simp only[zS3,zS5,cz,dW,zS0,zS7,if_true];exact ao QE)
  ·refine⟨bs.length+4,bs.length+6,true,true,(Kp.refl bs).app _,QA,QA,?_,?_,by simp[tv]⟩
   ·rw[aY];simp
   ·rw[aY];simp[tv]
 ·have hj:ji - bs.length=0:=by have:=(zSQ.1 hi).1;omega
  refine gA (zSP qZ (ad hi)) ?_;refine⟨QA,⟨by unfold maxLen;omega,QA⟩,QA,⟨by unfold maxLen;omega,QA⟩,?_,?_⟩
  ·(refine bt (fun n=>n - bs.length) ?_;simp only[zS3,zS5,cz,dW,zS0,zS7,hj];exact ao QE)
  ·refine⟨bs.length+4,bs.length+6,true,true,(Kp.refl bs).app _,QA,QA,?_,?_,by simp[tv]⟩
   ·rw[aY];simp
   ·rw[aY];simp[tv]
 ·have fU:jk<bs.length:=(zSQ.1 hk).1
  have n0:∀ q,(bs.length+q=jk)=False:=fun q=>eq_false QA
  have n2:(bs.length=jk)=False:=eq_false QA;refine gA (zSP qZ (ad hk)) ?_;refine⟨QA,⟨by unfold maxLen;omega,QA⟩,QA,⟨by unfold maxLen;omega,QA⟩,?_,?_⟩
  ·refine bt (fun n=>if n=jk then 20 else n - bs.length) ?_
   simp only[zS3,zS5,cz,dW,zS0,zS7,n0,n2,eq_self,if_true,if_false];exact ao QE
  ·refine⟨bs.length+4,bs.length+6,true,true,(Kp.refl bs).app _,QA,QA,?_,?_,by simp[tv]⟩
   ·rw[aY];simp
   ·rw[aY];simp[tv]
 ·have hj:ji<bs.length:=(zSQ.1 hi).1
  have fU:jk<bs.length:=(zSQ.1 hk).1;have bF:(ji=jk)=False:=eq_false (by rintro rfl;rw[hi]at hk;simp at hk);have n0:∀ q,(bs.length+q=jk)=False:=fun q=>eq_false QA
  have n1:∀ q,(bs.length+q=ji)=False:=fun q=>eq_false QA
  have n2:(bs.length=jk)=False:=eq_false QA;have n3:(bs.length=ji)=False:=eq_false QA;refine gA (zSP qZ (zSP (ad hi) (ad hk))) ?_;refine⟨QA,⟨by unfold maxLen;omega,QA⟩,QA,⟨by unfold maxLen;omega,QA⟩,?_,?_⟩
  ·refine bt (fun n=>if n=jk then 20 else if n=ji then 21 else n - bs.length) ?_
   simp only[zS3,zS5,cz,dW,zS0,zS7,n0,n1,n2,n3,bF,eq_self,if_true,if_false];exact ao QE
  ·refine⟨bs.length+4,bs.length+6,true,true,(Kp.refl bs).app _,QA,QA,?_,?_,by simp[tv]⟩
   ·rw[aY];simp
   ·rw[aY];simp[tv]
theorem Tr.one {b:List aq}:∀ {d:Nat}{v:Tv},Tr b d v→qs b.length v:=Tr.oc
theorem yz {bs:List aq}{v x:Tv}{d n:Nat}(hv:Ob bs d n v)(hn:n≤900)(key:Bytes)(hk:key.length≤20000)(hx:Tr bs d x):∃ v' A B,Ob (bs++[A,B]) d (n+1) v'∧SC QH 137 [.agg (tv v),.str key,.agg (tv x)] bs (fun r b=>r=.agg (tv v')∧b=bs++[A,B]):=by
 obtain⟨h1,h2,K,L,h3,h4,h5,h6,h7,h8⟩:=hv;have hr:Ro bs (bs++[.own ((K++[key]).map SV.str) 9 1 (K++[key]).length false,.own ((L++[x]).flatMap tv) 139 4 (L++[x]).length false]):=(Ro.refl bs).app _;refine⟨_,_,_,?_,qH h3 h4 QA QA key hx.oc (fun y hy=>(h8 y hy).oc)⟩;refine⟨h1,h2,K++[key],L++[x],.inr ⟨_,rfl,aM _ _⟩,.inr ⟨_,rfl,aY _ _ 1⟩,by simp[h5],QC,fun s hs=>?_,fun y hy=>?_⟩
 ·rcases zTb.1 hs with hs|hs
  ·exact h7 s hs
  ·rw[zS1.1 hs];exact hk
 ·rcases zTb.1 hy with hy|hy
  ·exact(h8 y hy).ro hr
  ·rw[zS1.1 hy];exact hx.ro hr
theorem wS {bs b:List aq}{r:SV}(hk:Kp bs b)(hr:within bs.length r=true)(n:Nat){P:SV→List aq→Prop}(hP:P r (bs++List.replicate n .gone)) :
 ∃ (ρ:Nat→Nat) (Xs:List aq) (r2:SV),Kp bs b∧(∀ k,k<bs.length→ρ k=k)∧(∀ q X,Xs[q]? = some X→Kept bs b ρ (bs.length+Xs.length) (bs.length+q) X)∧r=Nb ρ r2∧within (bs.length+Xs.length) r2=true∧P r2 (bs++Xs) :=
 ⟨id,List.replicate n .gone,r,hk,fun _ _=>rfl,fun q X h=>.inl (by
  have:=(zSQ.1 h)
  obtain⟨h1,h2⟩:=this;rw[List.getElem_replicate]at h2;exact h2.symm),(tl (fun _ _=>rfl) _ hr).symm,nZ QA hr,hP⟩
theorem yA {bs:List aq}{v:Tv}{d n:Nat}(hv:Ob bs (d+1) n v)(hn:n≤900)(key:Bytes)(hk:key.length≤20000)(s:Bytes)(hs:s.length≤20000):∃ v' A B,Ob (bs++[A,B]) (d+1) (n+1) v'∧SC QH 136 [.agg (tv v),.str key,.str s] bs (fun r b=>r=.agg (tv v')∧b=bs++[A,B]):=by
 have hw:=hv.within;have hw':=hw;have ld:(one v.xk&&one v.xi)=true:=by
  obtain⟨_,_,_,_,h3,h4,_⟩:=hv;rw[h3.one,h4.one];rfl
 simp only[within,within.av,tv,Bool.and_true,Bool.true_and,Bool.and_eq_true]at hw';by_cases kN:s=[]
 ·refine⟨v,.gone,.gone,(hv.ro ((Ro.refl bs).app _)).up QA,SC.pick (SC.mono (R:=fun r b=>Kp bs b∧r=.agg (tv v)) ?_ ?_)⟩
  ·have hb:(s==[])=true:=by simp[kN]
   refine bp 3000 func136 rfl ntmps136 results136 call136 QB (af bs.length _ (by simp[within,within.av,tv,hw'])) ?_;unfold tv;refine gA (zSP hb ld) ?_;exact(Kp.refl bs).app _
  ·rintro r b ⟨h1,rfl⟩
   exact wS (P:=fun r b=>r=.agg (tv v)∧b=bs++[.gone,.gone]) h1 hw 2 ⟨rfl,rfl⟩
 ·obtain⟨h1,h2,K,L,h3,h4,h5,h6,h7,h8⟩:=hv
  have ht:=Tr.text bs d s hs;have hr:Ro bs (bs++[.own ((K++[key]).map SV.str) 9 1 (K++[key]).length false,.own ((L++[(⟨5,s,.ai,.ai⟩:Tv)]).flatMap tv) 139 4 (L++[(⟨5,s,.ai,.ai⟩:Tv)]).length false]):=(Ro.refl bs).app _;refine⟨⟨v.k,v.t,.o bs.length (K++[key]).length,.o (bs.length+1) (L++[(⟨5,s,.ai,.ai⟩:Tv)]).length⟩,.own ((K++[key]).map SV.str) 9 1 (K++[key]).length false,.own ((L++[(⟨5,s,.ai,.ai⟩:Tv)]).flatMap tv) 139 4 (L++[(⟨5,s,.ai,.ai⟩:Tv)]).length false,⟨h1,h2,K++[key],L++[(⟨5,s,.ai,.ai⟩:Tv)],.inr ⟨_,rfl,aM _ _⟩,.inr ⟨_,rfl,aY _ _ 1⟩,by simp[h5],QC,fun s hs=>?_,fun y hy=>?_⟩,SC.pick (SC.mono (R:=Ie bs v (⟨5,s,.ai,.ai⟩:Tv) K L key) ?_ (fun r b h=>h.pick ht.oc (fun y hy=>(h8 y hy).oc)))⟩
  ·rcases zTb.1 hs with hs|hs
   ·exact h7 s hs
   ·rw[zS1.1 hs];exact hk
  ·rcases zTb.1 hy with hy|hy
   ·exact(h8 y hy).ro hr
   ·rw[zS1.1 hy];exact Tr.text _ d s hs
  have hb:(s==[])=false:=by simp[kN]
  have p1:=lX s;have s1:=fun A B=>qH (bs:=bs++[A,B]) (h3.ro ((Ro.refl bs).app _)) (h4.ro ((Ro.refl bs).app _)) QA QA key (x:=(⟨5,s,.ai,.ai⟩:Tv)) (ht.oc.up QB) (fun y hy=>(h8 y hy).oc.up QB)
  refine bp 3000 func136 rfl ntmps136 results136 call136 QB (af bs.length _ (by simp[within,within.av,tv,hw'])) ?_;unfold tv at p1 s1 ⊢;refine gA (zSP hb ld) ?_
  (refine aW (p1) ?_;refine dY ?_)
  refine bE [(bs.length+2,0,0),(bs.length+3,0,0)] (s1 _ _) ?_ ?_
  ·exact outs2 QB QB _ _
  refine dY ?_;refine⟨?_,bs.length+2,bs.length+3,false,false,(Kp.refl bs).app _,QA,QA,?_,?_,by simp[tv]⟩
  ·(refine bt (fun n=>n - bs.length) ?_;simp only[zS3,zS5,cz,dW,zS0,zS7,if_true];exact ao QE)
  ·rw[aY];simp
  ·rw[aY];simp;rfl
theorem rN {bs:List aq}{v x:Tv}{d n:Nat}(hv:Ob bs d n v)(hn:n≤900)(key:Bytes)(hk:key.length≤20000)(hx:Tr bs d x):∃ v' A B,Ob (bs++[A,B]) d (n+1) v'∧SC QH 189 [.agg (tv v),.str key,.agg (tv x)] bs (fun r b=>r=.agg (tv v')∧b=bs++[A,B]):=by
 have hw:=hv.within;simp only[within,within.av,tv,Bool.and_true,Bool.true_and,Bool.and_eq_true]at hw;obtain⟨h1,h2,K,L,h3,h4,h5,h6,h7,h8⟩:=hv;have hr:Ro bs (bs++[.own ((K++[key]).map SV.str) 9 1 (K++[key]).length false,.own ((L++[x]).flatMap tv) 139 4 (L++[x]).length false]):=(Ro.refl bs).app _;have hxi:=hx.oc;refine⟨⟨v.k,v.t,.o bs.length (K++[key]).length,.o (bs.length+1) (L++[x]).length⟩,.own ((K++[key]).map SV.str) 9 1 (K++[key]).length false,.own ((L++[x]).flatMap tv) 139 4 (L++[x]).length false,⟨h1,h2,K++[key],L++[x],.inr ⟨_,rfl,aM _ _⟩,.inr ⟨_,rfl,aY _ _ 1⟩,by simp[h5],QC,fun s hs=>?_,fun y hy=>?_⟩,SC.pick (SC.mono (R:=Ie bs v x K L key) ?_ (fun r b h=>h.pick hxi (fun y hy=>(h8 y hy).oc)))⟩
 ·rcases zTb.1 hs with hs|hs
  ·exact h7 s hs
  ·rw[zS1.1 hs];exact hk
 ·rcases zTb.1 hy with hy|hy
  ·exact(h8 y hy).ro hr
  ·rw[zS1.1 hy];exact hx.ro hr
 have s1:=fun X=>qH (bs:=bs++X) (h3.ro ((Ro.refl bs).app _)) (h4.ro ((Ro.refl bs).app _)) QA QA key (hxi.up QB) (fun y hy=>(h8 y hy).oc.up QB)
 obtain⟨x1,x2,x3,x4⟩:=hxi;refine bp 3000 func189 rfl ntmps189 results189 call189 QB (af bs.length _ (by simp[within,within.av,tv,hw,x1,x2])) ?_;unfold tv at s1 ⊢;refine dY ?_;refine ae (s1 _) ?_;rintro r b ⟨rfl,rfl⟩;refine dY ?_;refine⟨bs.length+3,bs.length+4,false,false,(Kp.refl bs).app _,QA,QA,?_,?_,by simp[tv]⟩
 ·rw[aY];simp
 ·rw[aY];simp;rfl
theorem oR {bs:List aq}{v:Tv}(hv:qs bs.length v)(key:Bytes):SC QH 139 [.agg (tv v),.str key,.ai] bs (fun r b=>r=.agg (tv v)∧b=bs):=by
 obtain⟨h1,h2,h3,h4⟩:=hv;have ld:(one v.xk&&one v.xi)=true:=by rw[h3,h4];rfl
 refine SC.pick (SC.mono (R:=fun r b=>Kp bs b∧r=.agg (tv v)) ?_ ?_)
 ·refine bp 3000 func139 rfl ntmps139 results139 call139 QB (af bs.length _ (by simp[within,within.av,tv,h1,h2])) ?_
  unfold tv;refine gA ld ?_;exact(Kp.refl bs).app _
 ·rintro r b ⟨hk,rfl⟩
  exact wS (P:=fun r b=>r=.agg (tv v)∧b=bs) hk (by simp[within,within.av,tv,h1,h2]) 0 ⟨rfl,QB⟩
def txt (s:Bytes):Tv:=⟨5,s,.ai,.ai⟩
def ArrR (bs:List aq)(L:List Bytes)(r:SV)(b:List aq):Prop:=∃ y,Kp bs b∧r=.agg (tv ⟨6,[],.ai,y⟩)∧((y=.ai∧L=[])∨∃ q m,0<L.length∧y=.o q L.length∧bs.length≤q∧b[q]? = some (.own ((L.map txt).flatMap tv) 139 4 L.length m))
theorem NB {L:List Bytes}{k:Nat}(h:k<L.length):((L.take (k+1)).map txt).flatMap tv=((L.take k).map txt).flatMap tv++[.int .i64 5,.str L[k],.ai,.ai]:=by
 rw[List.take_succ_eq_append_getElem h,List.map_append,zS9];rfl
theorem Kj {bs:List aq}{x:SV}{L:List Bytes}(hx:Rs bs x L)(hL:L.length≤1000):SC QH 138 [x] bs (ArrR bs L):=by
 have Aa:=hx.within;have p1:=lX;refine bp 3000 func138 rfl ntmps138 results138 call138 QB (af bs.length _ (by simp[within,within.av,Aa])) ?_;unfold tv at p1;rcases hx with⟨rfl,rfl⟩|⟨j,rfl,hj⟩
 ·refine dY ?_
  refine ax (fun σ=>lk 8 σ.t=some (.int .i64 0)∧lk 9 σ.t=some (.int .i64 0)∧lk 2 σ.t=some (.p bs.length 0)∧lk 3 σ.t=some (.p (bs.length+1) 0)∧σ.b=bs++[.cells [.int .i64 0,.str [],.ai,.ai] 139 true,.cells [.int .i64 6,.str [],.ai,.ai] 139 true]) (fun _=>1) ⟨rfl,rfl,rfl,rfl,rfl⟩ ?_;rintro⟨t,b⟩ ⟨h8,h9,h2,h3,hb⟩;simp only at h8 h9 h2 h3 hb;subst hb;refine gA (zSP h8 (zSP h9 (zSP h2 h3))) ?_;exact⟨.ai,(Kp.refl bs).app _,rfl,.inl ⟨rfl,rfl⟩⟩
 ·have e9:=(zSQ.1 hj).1
  refine dY ?_;refine ax (fun σ=>∃ (k:Nat) (y:SV),k≤L.length∧lk 7 σ.t=some (.o j L.length)∧lk 8 σ.t=some (.int .i64 L.length)∧lk 9 σ.t=some (.int .i64 k)∧lk 2 σ.t=some (.p bs.length 0)∧lk 3 σ.t=some (.p (bs.length+1) 0)∧Kp bs σ.b∧σ.b[bs.length]? = some (.cells [.int .i64 0,.str [],.ai,.ai] 139 true)∧σ.b[bs.length+1]? = some (.cells [.int .i64 6,.str [],.ai,y] 139 true) ∧
   ((y=.ai∧k=0)∨∃ q,0<k∧y=.o q k∧bs.length+1<q∧σ.b[q]? = some (.own (((L.take k).map txt).flatMap tv) 139 4 k true))) (fun σ=>L.length - fA 9 σ) ⟨0,.ai,QA,rfl,rfl,rfl,rfl,rfl,(Kp.refl bs).app _,aM _ _,aY _ _ 1,.inl ⟨rfl,rfl⟩⟩ ?_
  rintro⟨t,b⟩ ⟨k,y,hk,h7,h8,h9,h2,h3,bm,dK,eZ,hy⟩;simp only at h7 h8 h9 h2 h3 bm dK eZ hy;rw[ak h9];have tK:=(zSQ.1 eZ).1;have r9:=bm.at hj;by_cases az:k<L.length
  ·have aK:decide ((k:Int)<L.length)=true:=QF
   have BO:(L.map SV.str)[k * 1]? = some (.str L[k]):=by simp[az]
   have eU:∀ (l:List aq) X,(b++l).set (bs.length+1) X=b.set (bs.length+1) X++l:=fun l X=>aQ tK l X
   have hsn:=NB az;rcases hy with⟨rfl,rfl⟩|⟨q,kD,rfl,hq,cM⟩
   ·refine gA (zSP h7 (zSP h8 (zSP h9 (zSP h2 (zSP h3 (zSP r9 (zSP eZ (zSP (ad eZ) (zSP BO (zSP aK eU)))))))))) ?_
    refine⟨QA,QC,?_⟩
    (refine aW (p1 _) ?_;refine gA (zSP h7 (zSP h8 (zSP h9 (zSP h2 (zSP h3 (zSP (ad eZ) eU)))))) ?_)
    have z1:(b.length=bs.length+1)=False:=eq_false QA;have z2:(b.length+1=bs.length+1)=False:=eq_false QA;refine⟨QA,⟨by unfold maxLen;omega,QA⟩,?_,QA,⟨1,.o (b.length+1) 1,QA,rfl,(bm.set QA _).app _,ad (aw dK QA _) _,bV tK _ _,.inr ⟨b.length+1,QA,rfl,QA,?_⟩⟩,?_⟩
    ·refine bt (fun n=>if n=bs.length+1 then 0 else n - b.length+2) ?_
     simp only[zS3,zS5,cz,dW,zS0,zS7,z1,z2,eq_self,if_true,if_false];exact ao QE
    ·rw[aX QB,hsn];rfl
    ·rw[ak (show lk 9 _=some (.int .i64 ((1:Nat):Int)) from rfl)];omega
   ·have jV:=(zSQ.1 cM).1
    have nS:∀ (l:List aq) X,(b++l).set q X=b.set q X++l:=fun l X=>aQ jV l X
    refine gA (zSP h7 (zSP h8 (zSP h9 (zSP h2 (zSP h3 (zSP r9 (zSP eZ (zSP (ad eZ) (zSP (ad cM) (zSP BO (zSP aK (zSP eU nS)))))))))))) ?_;refine⟨QA,QC,?_⟩;have jK:q≠bs.length+1:=QA;have Ad:∀ (l:List aq) Y X,(b.set q Y++l).set (bs.length+1) X=(b.set q Y).set (bs.length+1) X++l:=fun l Y X=>aQ (by simpa using tK) l X
    have jI:=fun Y=>ad (aw eZ jK Y)
    (refine aW (p1 _) ?_;refine gA (zSP h7 (zSP h8 (zSP h9 (zSP h2 (zSP h3 (zSP (ad eZ) (zSP (ad cM) (zSP eU (zSP nS (zSP Ad jI)))))))))) ?_)
    have z1:(b.length=bs.length+1)=False:=eq_false QA;have z2:(b.length+1=bs.length+1)=False:=eq_false QA;have z3:(q=bs.length+1)=False:=eq_false QA;have z4:(b.length=q)=False:=eq_false QA;have z5:(b.length+1=q)=False:=eq_false QA;refine⟨QA,⟨by unfold maxLen;omega,QA⟩,?_,QA,⟨k+1,.o (b.length+1) (k+1),QA,rfl,((bm.set QA _).set QA _).app _,ad (aw (aw dK QA _) QA _) _,bV (by simpa using tK) _ _,.inr ⟨b.length+1,QA,rfl,QA,?_⟩⟩,?_⟩
    ·refine bt (fun n=>if n=bs.length+1 then 0 else if n=q then 1 else n - b.length+2) ?_
     simp only[zS3,zS5,cz,dW,zS0,zS7,z1,z2,z3,z4,z5,eq_self,if_true,if_false];exact ao QE
    ·rw[aX QB,hsn];rfl
    ·rw[ak (show lk 9 _=some (.int .i64 ((k+1:Nat):Int)) from rfl)];omega
  ·have aK:decide ((k:Int)<L.length)=false:=QG
   have hb0l:=(zSQ.1 dK).1;have kN:∀ X,(b.set bs.length X)[bs.length]? = some X:=fun X=>zSX hb0l
   have yi:one y=true:=by rcases hy with⟨rfl,-⟩|⟨q,-,rfl,-⟩ <;> rfl
   obtain rfl:k=L.length:=QA;refine gA (zSP h8 (zSP h9 (zSP h2 (zSP h3 (zSP aK (zSP dK (zSP eZ (zSP kN yi)))))))) ?_;refine⟨y,bm.set (zS6 _) _,rfl,?_⟩;rcases hy with⟨rfl,h0⟩|⟨q,kD,rfl,hq,cM⟩
   ·exact .inl ⟨rfl,List.length_eq_zero_iff.1 h0⟩
   ·rw[List.take_length]at cM
    exact .inr ⟨q,true,kD,rfl,QA,aw cM QA _⟩
theorem vE {bs:List aq}{x:SV}{L:List Bytes}(hx:Rs bs x L)(hL:L.length≤16)(hs:∀ s∈L,s.length≤20000):∃ v' A,Tr (bs++[A]) 2 v'∧SC QH 138 [x] bs (fun r b=>r=.agg (tv v')∧b=bs++[A]):=by
 by_cases h0:L=[]
 ·subst h0
  refine⟨⟨6,[],.ai,.ai⟩,.gone,⟨QB,.inr (.inr (.inl rfl)),[],[],.inl ⟨rfl,rfl⟩,.inl ⟨rfl,rfl⟩,QB,QB,QB,QB,QB,QB⟩,SC.pick ((Kj hx QA).mono ?_)⟩;rintro r b ⟨y,hk,rfl,⟨rfl,-⟩|⟨q,m,h0,-⟩⟩
  ·exact wS (P:=fun r b=>r=.agg (tv ⟨6,[],.ai,.ai⟩)∧b=bs++[.gone]) hk (by simp[within,within.av,tv]) 1 ⟨rfl,rfl⟩
  ·exact absurd h0 QB
 ·refine⟨⟨6,[],.ai,.o bs.length L.length⟩,.own ((L.map txt).flatMap tv) 139 4 L.length false,⟨QB,.inr (.inr (.inl rfl)),[],L.map txt,.inl ⟨rfl,rfl⟩,.inr ⟨bs.length,QB,by rw[aM];simp⟩,QB,by simpa using hL,QB,QB,QB,fun y hy=>?_⟩,SC.pick ((Kj hx QA).mono ?_)⟩
  ·obtain⟨s,h1,rfl⟩:=List.mem_map.1 hy
   exact Tr.text _ 0 s (hs s h1)
  ·rintro r b ⟨y,hk,rfl,⟨-,hn⟩|⟨q,m,h0,rfl,hq,cM⟩⟩
   ·exact absurd hn h0
   ·have hρ:∀ k,k<bs.length→(fun i=>if i=bs.length then q else i) k=k:=fun k hk=>by
     show (if k=bs.length then q else k)=k
     rw[if_neg QA]
    have w2:∀ m,within.av m ((L.map txt).flatMap tv)=true:=fun m=>qs.all (fun y hy=>by
     obtain⟨s,h1,rfl⟩:=List.mem_map.1 hy;exact⟨rfl,rfl,rfl,rfl⟩)
    refine⟨fun i=>if i=bs.length then q else i,[.own ((L.map txt).flatMap tv) 139 4 L.length false],_,hk,hρ,?_,?_,?_,rfl,rfl⟩
    ·rintro p X hp
     match p,hp with
     | 0,hp =>
       cases hp
       refine .inr ⟨_,_,_,_,m,rfl,?_,?_,w2 _⟩
       ·simpa using hq
       ·rw[fW hρ _ (w2 _)];simpa using cM
    ·simp[Nb,qK,tv]
    ·simp[within,within.av,tv]
theorem Ro.cell {a b:List aq}(h:Ro a b){i:Nat}{c:List SV}{T:TypeId}{m:Bool}(hi:b[i]? = some (.cells c T m))(X:aq):Ro a (b.set i X):=h.set (fun c e s n hx=>by rw[hi]at hx;cases hx) X
structure Lk where
 rel:Bytes
 type:Bytes
 JB:Bytes
 lJ:Bytes
def lc (l:Lk):List SV:=[.str l.rel,.str l.type,.str l.JB,.str l.lJ,.ai,.ai]
def LkB (l:Lk):Prop:=l.rel.length≤20000∧l.type.length≤20000∧l.JB.length≤20000∧l.lJ.length≤20000
def Rl (b:List aq)(x:SV)(L:List Lk):Prop:=(x=.ai∧L=[])∨∃ j,x=.o j L.length∧b[j]? = some (.own (L.flatMap lc) 132 6 L.length false)
theorem Rl.within {b:List aq}{x:SV}{L:List Lk}(h:Rl b x L):Vc.within b.length x=true:=by
 rcases h with⟨rfl,-⟩|⟨j,rfl,h2⟩
 ·rfl
 ·have:=(zSQ.1 h2).1
  simp[Vc.within,this]
theorem Rl.one {b:List aq}{x:SV}{L:List Lk}(h:Rl b x L):Vc.one x=true:=by
 rcases h with⟨rfl,-⟩|⟨j,rfl,h2⟩ <;> rfl
theorem lc_at (L:List Lk)(k:Nat)(h:k<L.length):((L.flatMap lc).drop (k * 6)).take 6=lc L[k]:=mQ lc 6 (fun _=>rfl) L k h
theorem lc_len (L:List Lk):(L.flatMap lc).length=L.length * 6:=jq lc 6 (fun _=>rfl) L
theorem Rs.len {b:List aq}{x:SV}{L:List Bytes}(h:Rs b x L)(e:TypeId):zV (.slice e) x=some (.int .i64 L.length):=by
 rcases h with⟨rfl,rfl⟩|⟨j,rfl,-⟩ <;> rfl
theorem Rl.len {b:List aq}{x:SV}{L:List Lk}(h:Rl b x L)(e:TypeId):zV (.slice e) x=some (.int .i64 L.length):=by
 rcases h with⟨rfl,rfl⟩|⟨j,rfl,-⟩ <;> rfl
theorem Ob.one {b:List aq}{d n:Nat}{v:Tv}:Ob b d n v→(Vc.one v.xk&&Vc.one v.xi)=true
 | ⟨_,_,_,_,h3,h4,_⟩=>by rw[h3.one,h4.one];rfl
theorem Ob.oc {b:List aq}{d n:Nat}{v:Tv}:Ob b d n v→qs b.length v
 | ⟨_,_,_,_,h3,h4,_⟩=>⟨h3.within,h4.within,h3.one,h4.one⟩
theorem Ro.grow {b:List aq}(l l2:List aq):Ro (b++l) (b++(l++l2)):=by
 rw[← zS8];exact(Ro.refl _).app _
theorem Ro.pre {b b':List aq}(h:Ro b b')(hl:b'.length=b.length)(l l2:List aq):Ro (b++l) (b'++(l++l2)):=fun j c e s n hj=>by
 rcases zTf j b.length with h1|h1
 ·rw[zSS h1]at hj
  exact ad (h _ _ _ _ _ hj) _
 ·rw[zTc h1]at hj
  rw[zTc QA,hl];exact ad hj _
theorem Ro.list {b:List aq}(l1:List aq)(c:List SV)(T:TypeId)(m:Bool)(X:aq)(l2:List aq):Ro (b++(l1++.cells c T m::l2)) (b++(l1++X::l2)):=fun j c' e s n h=>by
 rw[← zS8]at h ⊢;rcases Nat.lt_trichotomy j (b++l1).length with hj|hj|hj
 ·rw[zSS hj]at h ⊢
  exact h
 ·subst hj
  rw[aM]at h;cases h
 ·obtain⟨q,rfl⟩:∃ q,j=(b++l1).length+(q+1):=⟨j - (b++l1).length - 1,QA⟩
  rw[aY]at h ⊢;exact h
theorem iv {bs:List aq}(s:Bytes)(hs:s.length≤20000){x:SV}{A:List Bytes}(hx:Rs bs x A)(hA:A.length≤16)(KZ:∀ a∈A,a.length≤20000){y:SV}{L:List Lk}(hy:Rl bs y L)(hL:L.length≤16)(hLs:∀ l∈L,LkB l) :
 SC QH 77 [.agg [.str s,x,.ai,y]] bs (fun r b=>∃ v,r=.agg (tv v)∧Kp bs b∧Tr b 4 v):=by
 refine SC.wV ?_;have Aa:=hx.within;have hyw:=hy.within;have qZ:=hx.one;have yi:=hy.one;refine bp 3000 func77 rfl ntmps77 results77 call77 QB (af bs.length _ (by simp[within,within.av,Aa,hyw])) ?_;obtain⟨v1,A1,B1,vI,s1⟩:=yA (bs:=bs++[.cells [.str s,x,.ai,y] 135 true,.cells [.int .i64 0,.str [],.ai,.ai] 139 true]) (v:=⟨7,[],.ai,.ai⟩) (n:=0) (Ob.zero _ (2+1) 0) QA ([115,117,98,106,101,99,116]:List UInt8) QD s hs;unfold tv at s1;refine dY ?_;refine ae s1 ?_;rintro r b ⟨rfl,rfl⟩;have o1:=vI.one;have hlx:=hx.len;have hly:=hy.len;refine gA (zSP qZ (zSP yi (zSP Bool.and_self (zSP o1 (zSP hlx hly))))) ?_;refine⟨fun hc=>?_,fun hc=>?_⟩;obtain⟨v2,C,ht2,s2⟩:=vE (bs:=bs++[.cells [.str s,x,.ai,y] 135 true,.cells [.int .i64 0,.str [],.ai,.ai] 139 true,A1,B1,.cells (tv v1) 139 true]) (hx.ro ((Ro.refl bs).app _)) hA KZ;obtain⟨v,D,E,hv,s3⟩:=yz (vI.ro (b:=bs++[.cells [.str s,x,.ai,y] 135 true,.cells [.int .i64 0,.str [],.ai,.ai] 139 true,A1,B1,.cells (tv v1) 139 true]++[C]) (by
  have:=(Ro.refl (bs++[.cells [.str s,x,.ai,y] 135 true,.cells [.int .i64 0,.str [],.ai,.ai] 139 true,A1,B1])).app [.cells (tv v1) 139 true,C]
  simpa using this)) QA ([97,108,105,97,115,101,115]:List UInt8) QD (x:=v2) (ht2.up)
 unfold tv at s2 s3;simp only[zS8,zS4,zTh]at s2 s3;refine bE [(bs.length+5,0,0)] s2 (wx [_,_,_,_,_] rfl _) ?_;refine dY ?_;refine bE [(bs.length+6,0,0),(bs.length+7,0,0)] s3 (kB [_,_,_,_,_,_] rfl rfl _ _) ?_;have o2:=hv.one;have hv:Ob (bs++[.cells [.str s,x,.ai,y] 135 true,.cells [.int .i64 0,.str [],.ai,.ai] 139 true,A1,B1,.cells (tv v) 139 true,C,D,E]) 3 2 v:=by
  refine hv.ro ?_;have:=Ro.list (b:=bs) [.cells [.str s,x,.ai,y] 135 true,.cells [.int .i64 0,.str [],.ai,.ai] 139 true,A1,B1] (tv v1) 139 true (.cells (tv v) 139 true) [C,D,E]
  simpa using this
 refine gA o2 ?_;refine⟨by(refine bt (fun n=>n - bs.length) ?_;simp only[zS3,zS5,cz,dW,zS0,zS7,if_true];exact ao QE),?_⟩;have It:=hv.oc;have s4:=oR hv.oc ([112,114,111,112,101,114,116,105,101,115]:List UInt8);unfold tv at s4;refine ae s4 ?_;rintro r b ⟨rfl,rfl⟩;refine gA (zSP yi (zSP hly o2)) ?_;rotate_left
 obtain⟨v,hvd⟩:∃ v,v=v1:=⟨_,rfl⟩;subst hvd;have hv:=(vI.up (m:=2) QA).ro (b:=bs++[.cells [.str s,x,.ai,y] 135 true,.cells [.int .i64 0,.str [],.ai,.ai] 139 true,A1,B1,.cells (tv v) 139 true]) (by simpa using(Ro.refl (bs++[.cells [.str s,x,.ai,y] 135 true,.cells [.int .i64 0,.str [],.ai,.ai] 139 true,A1,B1])).app [.cells (tv v) 139 true]);have s4:=oR hv.oc ([112,114,111,112,101,114,116,105,101,115]:List UInt8);have o2:=hv.one;unfold tv at s4;refine ae s4 ?_;rintro r b ⟨rfl,rfl⟩;refine gA (zSP yi (zSP hly o2)) ?_;rotate_left
 all_goals
  refine⟨fun hz=>⟨QA,v,rfl,((Kp.refl bs).app _).iE,((hv.ro (Ro.list (b:=bs) [_] _ _ _ _ _)).ro (gY QB).ro).tr QA⟩,fun hz=>?_⟩;refine ax (fun σ=>∃ (k li:Nat) (y':SV) (Is:List Tv),k≤L.length∧lk 2 σ.t=some (.p (bs.length+1) 0)∧lk 3 σ.t=some (.p (bs.length+4) 0)∧lk 4 σ.t=some (.p li 0)∧lk 32 σ.t=some y∧lk 33 σ.t=some (.int .i64 L.length)∧lk 34 σ.t=some (.int .i64 k)∧Kp bs σ.b∧σ.b[bs.length+1]? = some (.cells [.int .i64 0,.str [],.ai,.ai] 139 true) ∧
   σ.b[bs.length+4]? = some (.cells (tv v) 139 true)∧σ.b[li]? = some (.cells [.int .i64 6,.str [],.ai,y'] 139 true)∧bs.length+4<li∧Ob σ.b 3 2 v∧Is.length=k∧(∀ x∈Is,Tr σ.b 2 x) ∧
   ((y'=.ai∧k=0)∨∃ q,0<k∧y'=.o q k∧li<q∧σ.b[q]? = some (.own (Is.flatMap tv) 139 4 k true))) (fun σ=>L.length - fA 34 σ) ?_ ?_
  ·refine⟨0,_,.ai,[],QA,rfl,rfl,rfl,rfl,rfl,rfl,(Kp.refl bs).app _,aY _ _ 1,aY _ _ 4,aY _ _ _,QA,?_,rfl,QB,.inl ⟨rfl,rfl⟩⟩
   exact hv.ro (by first|exact Ro.grow [_,_,_,_,_] [_] | exact Ro.grow [_,_,_,_,_,_,_,_] [_])
  ·rintro⟨t,b⟩ ⟨k,li,y',Is,hk,h2,h3,h4,mM,mg,nt,bm,eZ,pc,mL,r7,He,HF,EB,hy'⟩
   simp only at h2 h3 h4 mM mg nt bm eZ pc mL He EB hy';rw[ak nt];have tK:=(zSQ.1 eZ).1;have hb4l:=(zSQ.1 pc).1;have yn:=(zSQ.1 mL).1;unfold tv at pc;by_cases az:k<L.length
   ·have aK:decide ((k:Int)<L.length)=true:=QF
    rcases hy with⟨rfl,rfl⟩|⟨j,rfl,hj⟩
    ·exact absurd az QB
    have r9:=bm.at hj;have hu:List.take 6 (List.drop (k * 6) (L.flatMap lc))=[.str L[k].rel,.str L[k].type,.str L[k].JB,.str L[k].lJ,.ai,.ai]:=lc_at L k az;have mI:=lc_len L;obtain⟨m1,m2,m3,m4⟩:=hLs L[k] (zTk az);generalize L[k]=l at hu m1 m2 m3 m4;have p1:=lX l.rel;obtain⟨x1,A2,B2,G2,t1⟩:=yz (bs:=b++[.cells [.str l.rel,.str l.type,.str l.JB,.str l.lJ,.ai,.ai] 132 true]) (Ob.zero _ 1 0) QA ([114,101,108]:List UInt8) QD (Tr.text _ 0 l.rel m1);obtain⟨x2,A3,B3,Ng,t2⟩:=yA (bs:=b++[.cells [.str l.rel,.str l.type,.str l.JB,.str l.lJ,.ai,.ai] 132 true,A2,B2,.cells (tv x1) 139 true]) (d:=0) (G2.ro (by simpa using Ro.grow (b:=b) [.cells [.str l.rel,.str l.type,.str l.JB,.str l.lJ,.ai,.ai] 132 true,A2,B2] [.cells (tv x1) 139 true])) QA ([116,121,112,101]:List UInt8) QD l.type m2;obtain⟨x3,A4,B4,hx3,t3⟩:=yA (d:=0) Ng QA ([104,114,101,102]:List UInt8) QD l.JB m3;obtain⟨x4,A5,B5,Mj,t4⟩:=yA (d:=0) hx3 QA ([116,101,109,112,108,97,116,101]:List UInt8) QD l.lJ m4;have hx5:=Mj;simp only[zS8,zS4,zTh]at t2 t3 t4 Mj;replace Mj:=Mj.ro (Ro.list (b:=b) [_,_,_] (tv x1) 139 true (.cells (tv x4) 139 true) [_,_,_,_,_,_]);unfold tv at p1 t1 t2 t3 t4;have u1:=G2.one;have u4:=Mj.one;refine gA (zSP h2 (zSP h3 (zSP h4 (zSP mM (zSP mg (zSP nt (zSP aK (zSP r9 hu)))))))) ?_;refine⟨QA,QA,?_⟩
    (refine aa (p1) ?_;refine dY ?_)
    refine ae t1 ?_;rintro r b1 ⟨rfl,rfl⟩;refine gA u1 ?_;refine bE [(b.length+4,0,0),(b.length+5,0,0)] t2 (kB [_,_,_,_] rfl rfl _ _) ?_;refine dY ?_;refine bE [(b.length+6,0,0),(b.length+7,0,0)] t3 (kB [_,_,_,_,_,_] rfl rfl _ _) ?_;refine dY ?_;refine bE [(b.length+8,0,0),(b.length+9,0,0)] t4 (kB [_,_,_,_,_,_,_,_] rfl rfl _ _) ?_;refine gA u4 ?_;refine⟨by(refine bt (fun n=>n - List.length b) ?_;simp only[zS3,zS5,cz,dW,zS0,zS7,if_true];exact ao QE),?_⟩;have s5:=oR Mj.oc ([116,105,116,108,101,115]:List UInt8);have s6:=oR Mj.oc ([112,114,111,112,101,114,116,105,101,115]:List UInt8);unfold tv at s5 s6;refine bE [] s5 (fun _ _ _=>rfl) ?_;refine gA u4 ?_;refine bE [] s6 (fun _ _ _=>rfl) ?_;have eU:∀ (l:List aq) X,(b++l).set li X=b.set li X++l:=fun l X=>aQ yn l X
    have hx6:=Mj.tr (n:=4) QA;rcases hy' with⟨rfl,rfl⟩|⟨q,kD,rfl,hq,cM⟩
    ·refine gA (zSP u4 (zSP h2 (zSP h3 (zSP h4 (zSP mM (zSP mg (zSP nt (zSP (ad mL) eU)))))))) ?_
     have tD:=(Ro.refl b).cell mL (.cells [.int .i64 6,.str [],.ai,.o (b.length+11) 1] 139 true);refine⟨by(refine bt (fun n=>n - List.length b) ?_;simp only[zS3,zS5,cz,dW,zS0,zS7,if_true];exact ao QE),QA,⟨by unfold maxLen;omega,QA⟩,QA,⟨1,li,.o (b.length+11) 1,[x4],QA,rfl,rfl,(bm.set QA _).app _,ad (aw eZ QA _) _,ad (aw pc QA _) _,bV yn _ _,r7,He.ro (tD.app _),rfl,?_,.inr ⟨b.length+11,QA,rfl,QA,?_⟩⟩,?_⟩
     ·intro x hx
      obtain rfl:=zS1.1 hx;exact hx6.ro (tD.pre QB [_,_,_,_,_,_,_,_,_,_] [_,_])
     ·rw[aX QB];rfl
     ·rw[ak (k:=.i64) (n:=(1:Int)) rfl];omega
    ·have jV:=(zSQ.1 cM).1
     have nS:∀ (l:List aq) X,(b++l).set q X=b.set q X++l:=fun l X=>aQ jV l X
     have Ad:∀ (l:List aq) Y X,(b.set q Y++l).set li X=(b.set q Y).set li X++l:=fun l Y X=>aQ (by simpa using yn) l X
     have jI:=fun Y=>ad (aw mL (show q≠li by omega) Y)
     refine gA (zSP u4 (zSP h2 (zSP h3 (zSP h4 (zSP mM (zSP mg (zSP nt (zSP (ad mL) (zSP (ad cM) (zSP eU (zSP nS (zSP Ad jI)))))))))))) ?_;have tD:=((Ro.refl b).rW cM .gone).cell (aw mL (show q≠li by omega) .gone) (.cells [.int .i64 6,.str [],.ai,.o (b.length+11) (k+1)] 139 true);have zq:∀ m,(b.length+m=q)=False:=fun m=>eq_false QA
     refine⟨?_,QA,⟨by unfold maxLen;omega,QA⟩,QA,⟨k+1,li,.o (b.length+11) (k+1),Is++[x4],QA,rfl,rfl,((bm.set QA _).set QA _).app _,ad (aw (aw eZ QA _) QA _) _,ad (aw (aw pc QA _) QA _) _,bV (by simpa using yn) _ _,r7,He.ro (tD.app _),by simp[HF],?_,.inr ⟨b.length+11,QA,rfl,QA,?_⟩⟩,?_⟩
     ·(refine bt (fun n=>n - List.length b) ?_;simp only[zS3,zS5,cz,dW,zS0,zS7,if_true];exact ao QE)
     ·intro x hx
      rcases zTb.1 hx with hx|hx
      ·exact(EB x hx).ro (tD.app _)
      ·obtain rfl:=zS1.1 hx
       exact hx6.ro (tD.pre QB [_,_,_,_,_,_,_,_,_,_] [_,_])
     ·rw[aX QB,zS9];rfl
     ·rw[ak (k:=.i64) (n:=(k:Int)+1) rfl];omega
   ·have aK:decide ((k:Int)<L.length)=false:=QG
    have yi:one y'=true:=by rcases hy' with⟨rfl,-⟩|⟨q,-,rfl,-⟩ <;> rfl
    have o3:=He.one;refine gA (zSP h2 (zSP h3 (zSP h4 (zSP mM (zSP mg (zSP nt (zSP aK (zSP pc mL)))))))) ?_;rcases hy' with⟨rfl,rfl⟩|⟨q,kD,rfl,hq,cM⟩
    ·obtain⟨v',A6,B6,hv',s7⟩:=yz He QA ([108,105,110,107,115]:List UInt8) QD (x:=⟨6,[],.ai,.ai⟩) (d:=3) ⟨QB,.inr (.inr (.inl rfl)),[],[],.inl ⟨rfl,rfl⟩,.inl ⟨rfl,rfl⟩,QB,QB,QB,QB,QB,QB⟩
     have u7:=hv'.one;unfold tv at s7;refine ae s7 ?_;rintro r b1 ⟨rfl,rfl⟩;have ra:∀ (l:List aq) X,(b++l).set (bs.length+1) X=b.set (bs.length+1) X++l:=fun l X=>aQ tK l X
     have yl:∀ (l:List aq) X,(b.set (bs.length+1) X++l)[bs.length+1]? = some X:=fun l X=>bV tK X l
     refine gA (zSP h2 (zSP h3 (zSP h4 (zSP ra (zSP yl (zSP (ad eZ) u7)))))) ?_;have nL:=(bm.set (j:=bs.length+1) QA (.cells [.int .i64 v'.k,.str v'.t,v'.xk,v'.xi] 139 true)).app [A6,B6];refine⟨by simpa using nL.1,v',rfl,nL.iE,((hv'.ro (((Ro.refl b).cell eZ _).pre QB [A6,B6] [])).ro (gY (by simpa using nL.1)).ro).tr QA⟩
    ·have jV:=(zSQ.1 cM).1
     have tD:=(Ro.refl b).rW cM (.own (Is.flatMap tv) 139 4 k false);obtain⟨v',A6,B6,hv',s7⟩:=yz (He.ro tD) QA ([108,105,110,107,115]:List UInt8) QD (x:=⟨6,[],.ai,.o q k⟩) (d:=3) ⟨QB,.inr (.inr (.inl rfl)),[],Is,.inl ⟨rfl,rfl⟩,.inr ⟨q,by rw[HF],by rw[zSX jV,HF]⟩,QB,QA,QB,QB,QB,fun x hx=>(EB x hx).ro tD⟩;have u7:=hv'.one;refine ae (mP cM s7) ?_;rintro r b1 ⟨rfl,rfl⟩;have BU:=aw eZ (show q≠bs.length+1 by omega) (.own (Is.flatMap tv) 139 4 k false);have eA:=bm.set (j:=q) QA (.own (Is.flatMap tv) 139 4 k false);have mF:bs.length+1<(b.set q (.own (Is.flatMap tv) 139 4 k false)).length:=by simpa using tK
     generalize b.set q (.own (Is.flatMap tv) 139 4 k false)=b2 at *;have ra:∀ (l:List aq) X,(b2++l).set (bs.length+1) X=b2.set (bs.length+1) X++l:=fun l X=>aQ mF l X
     have yl:∀ (l:List aq) X,(b2.set (bs.length+1) X++l)[bs.length+1]? = some X:=fun l X=>bV mF X l
     simp only[bJ,↓Xn,↓Xo,↓Xg,↓Xd,↓Xe,↓Xf,Tryz.VΓ,Tryz.Γs,Xp,Xi,Nat.reduceAdd,Nat.reduceSub,Nat.reduceLT,Nat.reduceLeDiff,reduceIte,reduceCtorEq,Nat.reduceEqDiff,implies_true,forall_const,bI,di,beq_self_eq_true,bne_self_eq_false,Int.reduceBEq,Int.reduceBNe,Int.reduceLT,Int.reduceLE,h2,h3,h4,ra,yl,ad BU,u7,tv];have nL:=(eA.set (j:=bs.length+1) QA (.cells [.int .i64 v'.k,.str v'.t,v'.xk,v'.xi] 139 true)).app [A6,B6];refine⟨by simpa using nL.1,v',rfl,nL.iE,((hv'.ro (((Ro.refl b2).cell BU _).pre QB [A6,B6] [])).ro (gY (by simpa using nL.1)).ro).tr QA⟩
structure Sv where
 id:Bytes
 xt:SV
 xe:SV
def svc (s:Sv):List SV:=[.str s.id,s.xt,s.xe]
def Qd (b:List aq)(s:Sv):Prop:=s.id.length≤20000∧∃ T E:List Bytes,Rs b s.xt T∧Rs b s.xe E∧T.length≤16∧E.length≤16∧(∀ x∈T,x.length≤20000)∧∀ x∈E,x.length≤20000
def Rv (b:List aq)(x:SV)(S:List Sv):Prop:=(x=.ai∧S=[])∨∃ j,x=.o j S.length∧b[j]? = some (.own (S.flatMap svc) 225 3 S.length false)
theorem Qd.ro {a b:List aq}{s:Sv}(k:Ro a b):Qd a s→Qd b s
 | ⟨h1,T,E,h2,h3,h⟩=>⟨h1,T,E,h2.ro k,h3.ro k,h⟩
theorem Rv.ro {a b:List aq}{x:SV}{L:List Sv}(h:Rv a x L)(k:Ro a b):Rv b x L:=by
 rcases h with h|⟨j,h1,h2⟩
 ·exact .inl h
 ·exact .inr ⟨j,h1,k _ _ _ _ _ h2⟩
theorem Rv.within {b:List aq}{x:SV}{L:List Sv}(h:Rv b x L):Vc.within b.length x=true:=by
 rcases h with⟨rfl,-⟩|⟨j,rfl,h2⟩
 ·rfl
 ·have:=(zSQ.1 h2).1
  simp[Vc.within,this]
theorem Rv.one {b:List aq}{x:SV}{L:List Sv}(h:Rv b x L):Vc.one x=true:=by
 rcases h with⟨rfl,-⟩|⟨j,rfl,h2⟩ <;> rfl
theorem Rv.len {b:List aq}{x:SV}{L:List Sv}(h:Rv b x L)(e:TypeId):zV (.slice e) x=some (.int .i64 L.length):=by
 rcases h with⟨rfl,rfl⟩|⟨j,rfl,-⟩ <;> rfl
theorem svc_at (L:List Sv)(k:Nat)(h:k<L.length):((L.flatMap svc).drop (k * 3)).take 3=svc L[k]:=mQ svc 3 (fun _=>rfl) L k h
theorem svc_len (L:List Sv):(L.flatMap svc).length=L.length * 3:=jq svc 3 (fun _=>rfl) L
theorem D8:PC QH 190 [] (.agg (tv ⟨7,[],.ai,.ai⟩)):=by
 refine aU 3000 func190 rfl ntmps190 results190 call190 QB (by simp[flat,flat.ah]) (by simp[flat,flat.ah,tv]) ?_;unfold tv;exact bw True.intro
theorem Bl {bs:List aq}(s:Bytes)(hs:s.length≤20000){x:SV}{A:List Bytes}(hx:Rs bs x A)(hA:A.length≤16)(KZ:∀ a∈A,a.length≤20000){y:SV}{L:List Sv}(hy:Rv bs y L)(hL:L.length≤16)(hLs:∀ l∈L,Qd bs l) :
 SC QH 123 [.agg [.str s,x,.ai,.ai,y]] bs (fun r b=>∃ v,r=.agg (tv v)∧Kp bs b∧Tr b 5 v):=by
 refine SC.wV ?_;have Aa:=hx.within;have hyw:=hy.within;have qZ:=hx.one;have yi:=hy.one;refine bp 3000 func123 rfl ntmps123 results123 call123 QB (af bs.length _ (by simp[within,within.av,Aa,hyw])) ?_;have p0:=D8;have p1:=lX s;obtain⟨v1,A1,B1,vI,s1⟩:=rN (bs:=bs++[.cells [.str s,x,.ai,.ai,y] 179 true,.cells [.int .i64 0,.str [],.ai,.ai] 139 true]) (Ob.zero _ 4 0) QA ([105,100]:List UInt8) QD (Tr.text _ 3 s hs);unfold tv at p0 p1 s1;simp only[zS8,zS4,zTh]at s1 vI;refine dY ?_
 (refine aW (p0) ?_;refine gA (zSP qZ (zSP yi Bool.and_self)) ?_)
 (refine aW (p1) ?_;refine dY ?_)
 refine bE [(bs.length+2,0,0),(bs.length+3,0,0)] s1 (kB [_,_] rfl rfl _ _) ?_;have o1:=vI.one;have hlx:=hx.len;have hly:=hy.len;refine gA (zSP qZ (zSP yi (zSP Bool.and_self (zSP o1 (zSP hlx hly))))) ?_;refine⟨by(refine bt (fun n=>n - bs.length) ?_;simp only[zS3,zS5,cz,dW,zS0,zS7,if_true];exact ao QE),fun hc=>?_,fun hc=>?_⟩;obtain⟨v2,C,ht2,s2⟩:=vE (bs:=bs++[.cells [.str s,x,.ai,.ai,y] 179 true,.cells [.int .i64 0,.str [],.ai,.ai] 139 true,A1,B1,.cells (tv v1) 139 true]) (hx.ro ((Ro.refl bs).app _)) hA KZ;obtain⟨v,D,E,hv,s3⟩:=rN (vI.ro (b:=bs++[.cells [.str s,x,.ai,.ai,y] 179 true,.cells [.int .i64 0,.str [],.ai,.ai] 139 true,A1,B1,.cells (tv v1) 139 true]++[C]) (by
  have:=Ro.grow (b:=bs) [.cells [.str s,x,.ai,.ai,y] 179 true,.cells [.int .i64 0,.str [],.ai,.ai] 139 true,A1,B1] [.cells (tv v1) 139 true,C]
  simpa using this)) QA ([97,108,115,111,75,110,111,119,110,65,115]:List UInt8) QD (x:=v2) (ht2.le QA)
 unfold tv at s2 s3;simp only[zS8,zS4,zTh]at s2 s3;refine bE [(bs.length+5,0,0)] s2 (wx [_,_,_,_,_] rfl _) ?_;refine dY ?_;refine bE [(bs.length+6,0,0),(bs.length+7,0,0)] s3 (kB [_,_,_,_,_,_] rfl rfl _ _) ?_;have o2:=hv.one;have hv:Ob (bs++[.cells [.str s,x,.ai,.ai,y] 179 true,.cells [.int .i64 0,.str [],.ai,.ai] 139 true,A1,B1,.cells (tv v) 139 true,C,D,E]) 4 2 v:=by
  refine hv.ro ?_;have:=Ro.list (b:=bs) [.cells [.str s,x,.ai,.ai,y] 179 true,.cells [.int .i64 0,.str [],.ai,.ai] 139 true,A1,B1] (tv v1) 139 true (.cells (tv v) 139 true) [C,D,E]
  simpa using this
 refine gA (zSP o2 (zSP yi hly)) ?_;refine⟨by(refine bt (fun n=>n - bs.length) ?_;simp only[zS3,zS5,cz,dW,zS0,zS7,if_true];exact ao QE),?_⟩;rotate_left
 obtain⟨v,hvd⟩:∃ v,v=v1:=⟨_,rfl⟩;subst hvd;have hv:=(vI.up (m:=2) QA).ro (b:=bs++[.cells [.str s,x,.ai,.ai,y] 179 true,.cells [.int .i64 0,.str [],.ai,.ai] 139 true,A1,B1,.cells (tv v) 139 true]) (by simpa using Ro.grow (b:=bs) [.cells [.str s,x,.ai,.ai,y] 179 true,.cells [.int .i64 0,.str [],.ai,.ai] 139 true,A1,B1] [.cells (tv v) 139 true]);have o2:=o1;rotate_left
 all_goals
  refine ax (fun σ=>∃ li,bs.length+4<li∧lk 1 σ.t=some (.p bs.length 0)∧lk 2 σ.t=some (.p (bs.length+1) 0)∧lk 3 σ.t=some (.p (bs.length+4) 0)∧lk 4 σ.t=some (.p li 0)∧lk 35 σ.t=some (.int .i64 0)∧lk 36 σ.t=some (.int .i64 0)∧Kp bs σ.b∧σ.b[bs.length]? = some (.cells [.str s,x,.ai,.ai,y] 179 true)∧σ.b[bs.length+1]? = some (.cells [.int .i64 0,.str [],.ai,.ai] 139 true) ∧
   σ.b[bs.length+4]? = some (.cells (tv v) 139 true)∧σ.b[li]? = some (.cells [.int .i64 6,.str [],.ai,.ai] 139 true)∧Ob σ.b 4 2 v) (fun _=>1) ?_ ?_
  ·exact⟨_,QA,rfl,rfl,rfl,rfl,rfl,rfl,(Kp.refl bs).app _,aM _ _,aY _ _ 1,aY _ _ 4,aY _ _ _,hv.ro (by first|exact Ro.grow [_,_,_,_,_] [_] | exact Ro.grow [_,_,_,_,_,_,_,_] [_])⟩
  ·rintro⟨t,b⟩ ⟨li,r7,h1,h2,h3,h4,h35,JS,bm,dK,eZ,pc,mL,He⟩
   simp only at h1 h2 h3 h4 h35 JS bm dK eZ pc mL He;have yn:=(zSQ.1 mL).1;have eU:=fun X=>aw dK (show li≠bs.length by omega) X
   refine gA (zSP h1 (zSP h2 (zSP h3 (zSP h4 (zSP h35 (zSP JS (zSP mL (zSP eU (zSP hly yi))))))))) ?_;refine ax (fun σ=>∃ (k:Nat) (y':SV) (Is:List Tv),k≤L.length∧lk 2 σ.t=some (.p (bs.length+1) 0)∧lk 3 σ.t=some (.p (bs.length+4) 0)∧lk 4 σ.t=some (.p li 0)∧lk 68 σ.t=some y∧lk 69 σ.t=some (.int .i64 L.length)∧lk 70 σ.t=some (.int .i64 k)∧Kp bs σ.b∧σ.b[bs.length+1]? = some (.cells [.int .i64 0,.str [],.ai,.ai] 139 true) ∧
    σ.b[bs.length+4]? = some (.cells (tv v) 139 true)∧σ.b[li]? = some (.cells [.int .i64 6,.str [],.ai,y'] 139 true)∧Ob σ.b 4 2 v∧Is.length=k∧(∀ x∈Is,Tr σ.b 3 x) ∧
    ((y'=.ai∧k=0)∨∃ q,0<k∧y'=.o q k∧li<q∧σ.b[q]? = some (.own (Is.flatMap tv) 139 4 k true))) (fun σ=>L.length - fA 70 σ) ?_ ?_
   ·exact⟨0,.ai,[],QA,h2,h3,h4,rfl,rfl,rfl,bm.set QA _,aw eZ QA _,aw pc QA _,zSX yn,He.ro ((Ro.refl b).cell mL _),rfl,QB,.inl ⟨rfl,rfl⟩⟩
   ·clear eU h35 JS dK h1 h2 h3 h4 bm eZ pc mL He yn
    clear t b;rintro⟨t,b⟩ ⟨k,y',Is,hk,h2,h3,h4,mM,mg,nt,bm,eZ,pc,mL,He,HF,EB,hy'⟩;simp only at h2 h3 h4 mM mg nt bm eZ pc mL He EB hy';rw[ak nt];have tK:=(zSQ.1 eZ).1;have hb4l:=(zSQ.1 pc).1;have yn:=(zSQ.1 mL).1;unfold tv at pc;by_cases az:k<L.length
    ·have aK:decide ((k:Int)<L.length)=true:=QF
     rcases hy with⟨rfl,rfl⟩|⟨j,rfl,hj⟩
     ·exact absurd az QB
     have r9:=bm.at hj;have hu:List.take 3 (List.drop (k * 3) (L.flatMap svc))=[.str L[k].id,L[k].xt,L[k].xe]:=svc_at L k az;have mI:=svc_len L;obtain⟨m1,T,E',hT,hE,m2,m3,m4,m5⟩:=(hLs L[k] (zTk az)).ro bm.ro;generalize L[k]=l at hu m1 hT hE;have p1:=lX l.id;obtain⟨x1,A2,B2,G2,t1⟩:=rN (bs:=b++[.cells [.str l.id,l.xt,l.xe] 225 true]) (Ob.zero _ 2 0) QA ([105,100]:List UInt8) QD (Tr.text _ 1 l.id m1);obtain⟨x2,C2,Ng,t2⟩:=vE (bs:=b++[.cells [.str l.id,l.xt,l.xe] 225 true]++[A2,B2]) (hT.ro (by simpa using(Ro.refl b).app [.cells [.str l.id,l.xt,l.xe] 225 true,A2,B2])) m2 m4;obtain⟨x3,A3,B3,hx3,t3⟩:=rN (G2.ro ((Ro.refl _).app [C2])) QA ([116,121,112,101]:List UInt8) QD Ng;obtain⟨x4,C4,Mj,t4⟩:=vE (bs:=b++[.cells [.str l.id,l.xt,l.xe] 225 true]++[A2,B2]++[C2]++[A3,B3]) (hE.ro (by simpa using(Ro.refl b).app [.cells [.str l.id,l.xt,l.xe] 225 true,A2,B2,C2,A3,B3])) m3 m5;obtain⟨x5,A5,B5,hx5,t5⟩:=rN (hx3.ro ((Ro.refl _).app [C4])) QA ([115,101,114,118,105,99,101,69,110,100,112,111,105,110,116]:List UInt8) QD Mj;have hx6:=hx5.tr (n:=3) QA;have u5:=hx5.one;have ue:one l.xt=true:=hT.one;have uf:one l.xe=true:=hE.one;simp only[zS8,zS4,zTh]at t1 t2 t3 t4 t5 hx6;unfold tv at p1 t1 t2 t3 t4 t5;have eU:∀ (l:List aq) X,(b++l).set li X=b.set li X++l:=fun l X=>aQ yn l X
     have z0:∀ m,(b.length+m=li)=False:=fun m=>eq_false QA
     have z1:(b.length=li)=False:=eq_false QA;refine gA (zSP h2 (zSP h3 (zSP h4 (zSP mM (zSP mg (zSP nt (zSP aK (zSP r9 (zSP hu (zSP ue (zSP uf Bool.and_self))))))))))) ?_;refine⟨QA,QA,?_⟩;rcases hy' with⟨rfl,rfl⟩|⟨q,kD,rfl,hq,cM⟩
     ·refine gA (zSP h2 (zSP h3 (zSP h4 (zSP (ad mL) eU)))) ?_
      (refine aW (p0) ?_;refine dY ?_)
      (refine aW (p1) ?_;refine dY ?_)
      refine bE [(b.length+1,0,0),(b.length+2,0,0)] t1 (kB [_] rfl rfl _ _) ?_;refine dY ?_;refine bE [(b.length+3,0,0)] t2 (wx [_,_,_] rfl _) ?_;refine dY ?_;refine bE [(b.length+4,0,0),(b.length+5,0,0)] t3 (kB [_,_,_,_] rfl rfl _ _) ?_;refine dY ?_;refine bE [(b.length+6,0,0)] t4 (wx [_,_,_,_,_,_] rfl _) ?_;refine dY ?_;refine bE [(b.length+7,0,0),(b.length+8,0,0)] t5 (kB [_,_,_,_,_,_,_] rfl rfl _ _) ?_;refine gA (zSP h2 (zSP h3 (zSP h4 (zSP mM (zSP mg (zSP nt (zSP (ad mL) (zSP eU u5)))))))) ?_;have tD:=(Ro.refl b).cell mL (.cells [.int .i64 6,.str [],.ai,.o (b.length+10) 1] 139 true);refine⟨QA,⟨by unfold maxLen;omega,QA⟩,?_,QA,⟨1,.o (b.length+10) 1,[x5],QA,rfl,(bm.set QA _).app _,ad (aw eZ QA _) _,ad (aw pc QA _) _,bV yn _ _,He.ro (tD.app _),rfl,?_,.inr ⟨b.length+10,QA,rfl,QA,?_⟩⟩,?_⟩
      ·refine bt (fun n=>if n=li then 100 else n - b.length) ?_
       simp only[zS3,zS5,cz,dW,zS0,zS7,z0,z1,eq_self,if_true,if_false];exact ao QE
      ·intro x hx
       obtain rfl:=zS1.1 hx;exact hx6.ro (tD.pre QB [_,_,_,_,_,_,_,_,_] [_,_])
      ·rw[aX QB];rfl
      ·rw[ak (k:=.i64) (n:=(1:Int)) rfl];omega
     ·have jV:=(zSQ.1 cM).1
      have nS:∀ (l:List aq) X,(b++l).set q X=b.set q X++l:=fun l X=>aQ jV l X
      have Ad:∀ (l:List aq) Y X,(b.set q Y++l).set li X=(b.set q Y).set li X++l:=fun l Y X=>aQ (by simpa using yn) l X
      have jI:=fun Y=>ad (aw mL (show q≠li by omega) Y)
      have z2:∀ m,(b.length+m=q)=False:=fun m=>eq_false QA
      have z3:(b.length=q)=False:=eq_false QA;have z4:(q=li)=False:=eq_false QA;refine gA (zSP h2 (zSP h3 (zSP h4 (zSP (ad mL) eU)))) ?_
      (refine aW (p0) ?_;refine dY ?_)
      (refine aW (p1) ?_;refine dY ?_)
      refine bE [(b.length+1,0,0),(b.length+2,0,0)] t1 (kB [_] rfl rfl _ _) ?_;refine dY ?_;refine bE [(b.length+3,0,0)] t2 (wx [_,_,_] rfl _) ?_;refine dY ?_;refine bE [(b.length+4,0,0),(b.length+5,0,0)] t3 (kB [_,_,_,_] rfl rfl _ _) ?_;refine dY ?_;refine bE [(b.length+6,0,0)] t4 (wx [_,_,_,_,_,_] rfl _) ?_;refine dY ?_;refine bE [(b.length+7,0,0),(b.length+8,0,0)] t5 (kB [_,_,_,_,_,_,_] rfl rfl _ _) ?_;refine gA (zSP h2 (zSP h3 (zSP h4 (zSP mM (zSP mg (zSP nt (zSP (ad mL) (zSP (ad cM) (zSP eU (zSP nS (zSP Ad (zSP jI u5)))))))))))) ?_;have tD:=((Ro.refl b).rW cM .gone).cell (aw mL (show q≠li by omega) .gone) (.cells [.int .i64 6,.str [],.ai,.o (b.length+10) (k+1)] 139 true);refine⟨QA,⟨by unfold maxLen;omega,QA⟩,?_,QA,⟨k+1,.o (b.length+10) (k+1),Is++[x5],QA,rfl,((bm.set QA _).set QA _).app _,ad (aw (aw eZ QA _) QA _) _,ad (aw (aw pc QA _) QA _) _,bV (by simpa using yn) _ _,He.ro (tD.app _),by simp[HF],?_,.inr ⟨b.length+10,QA,rfl,QA,?_⟩⟩,?_⟩
      ·refine bt (fun n=>if n=li then 100 else if n=q then 101 else n - b.length) ?_
       simp only[zS3,zS5,cz,dW,zS0,zS7,z0,z1,z2,z3,z4,eq_self,if_true,if_false];exact ao QE
      ·intro x hx
       rcases zTb.1 hx with hx|hx
       ·exact(EB x hx).ro (tD.app _)
       ·obtain rfl:=zS1.1 hx
        exact hx6.ro (tD.pre QB [_,_,_,_,_,_,_,_,_] [_,_])
      ·rw[aX QB,zS9];rfl
      ·rw[ak (k:=.i64) (n:=(k:Int)+1) rfl];omega
    ·have aK:decide ((k:Int)<L.length)=false:=QG
     have o3:=He.one;rcases hy' with⟨rfl,rfl⟩|⟨q,kD,rfl,hq,cM⟩
     ·have ra:∀ X,(b.set (bs.length+1) X)[bs.length+1]? = some X:=fun X=>zSX tK
      refine gA (zSP h2 (zSP h3 (zSP h4 (zSP mM (zSP mg (zSP nt (zSP aK (zSP pc (zSP mL (zSP eZ (zSP ra o3))))))))))) ?_;have nL:=bm.set (j:=bs.length+1) QA (.cells [.int .i64 v.k,.str v.t,v.xk,v.xi] 139 true);exact⟨by simpa using nL.1,v,rfl,nL.iE,((He.ro ((Ro.refl b).cell eZ _)).ro (gY (by simpa using nL.1)).ro).tr QA⟩
     ·have jV:=(zSQ.1 cM).1
      have cV:decide ((0:Int)<k)=true:=QF;have tD:=(Ro.refl b).rW cM (.own (Is.flatMap tv) 139 4 k false);obtain⟨v',A6,B6,hv',s7⟩:=rN (He.ro tD) QA ([115,101,114,118,105,99,101]:List UInt8) QD (x:=⟨6,[],.ai,.o q k⟩) (d:=4) ⟨QB,.inr (.inr (.inl rfl)),[],Is,.inl ⟨rfl,rfl⟩,.inr ⟨q,by rw[HF],by rw[zSX jV,HF]⟩,QB,QA,QB,QB,QB,fun x hx=>(EB x hx).ro tD⟩;have u7:=hv'.one;refine gA (zSP h2 (zSP h3 (zSP h4 (zSP mM (zSP mg (zSP nt (zSP aK (zSP pc (zSP mL (zSP eZ (zSP o3 cV))))))))))) ?_;refine ae (mP cM s7) ?_;rintro r b1 ⟨rfl,rfl⟩;have BU:=aw eZ (show q≠bs.length+1 by omega) (.own (Is.flatMap tv) 139 4 k false);have hb42:=aw pc (show q≠bs.length+4 by omega) (.own (Is.flatMap tv) 139 4 k false);have eA:=bm.set (j:=q) QA (.own (Is.flatMap tv) 139 4 k false);have mF:bs.length+1<(b.set q (.own (Is.flatMap tv) 139 4 k false)).length:=by simpa using tK
      have Nk:bs.length+4<(b.set q (.own (Is.flatMap tv) 139 4 k false)).length:=by simpa using hb4l
      generalize b.set q (.own (Is.flatMap tv) 139 4 k false)=b2 at *;have ra:∀ (l:List aq) Y X,(b2.set (bs.length+4) Y++l).set (bs.length+1) X=(b2.set (bs.length+4) Y).set (bs.length+1) X++l:=fun l Y X=>aQ (by simpa using mF) l X
      have hset4:∀ (l:List aq) X,(b2++l).set (bs.length+4) X=b2.set (bs.length+4) X++l:=fun l X=>aQ Nk l X
      have yl:∀ (l:List aq) Y X,((b2.set (bs.length+4) Y).set (bs.length+1) X++l)[bs.length+1]? = some X:=fun l Y X=>bV (by simpa using mF) X l
      have E4:∀ (l:List aq) Y,(b2.set (bs.length+4) Y++l)[bs.length+1]? = _:=fun l Y=>ad (aw BU QA Y) l
      have hg4:∀ (l:List aq) X,(b2.set (bs.length+4) X++l)[bs.length+4]? = some X:=fun l X=>bV Nk X l
      simp only[bJ,↓Xn,↓Xo,↓Xg,↓Xd,↓Xe,↓Xf,Tryz.VΓ,Tryz.Γs,Xp,Xi,Nat.reduceAdd,Nat.reduceSub,Nat.reduceLT,Nat.reduceLeDiff,reduceIte,reduceCtorEq,Nat.reduceEqDiff,implies_true,forall_const,bI,di,beq_self_eq_true,bne_self_eq_false,Int.reduceBEq,Int.reduceBNe,Int.reduceLT,Int.reduceLE,h2,h3,h4,ra,hset4,yl,E4,hg4,ad BU,ad hb42,u7,tv];have nL:=((eA.set (j:=bs.length+4) QA (.cells [.int .i64 v'.k,.str v'.t,v'.xk,v'.xi] 139 true)).set (j:=bs.length+1) QA (.cells [.int .i64 v'.k,.str v'.t,v'.xk,v'.xi] 139 true)).app [A6,B6];exact⟨by simpa using nL.1,v',rfl,nL.iE,((hv'.ro ((((Ro.refl b2).cell hb42 _).cell (aw BU QA _) _).pre QB [A6,B6] [])).ro (gY (by simpa using nL.1)).ro).tr QA⟩
theorem fS.iE {i:Nat}{a b:List aq}(h:fS i a b):fS i a (iE a.length b):=⟨by rw[vu];exact h.1,fun k hk hn=>by rw[vt hk h.1];exact h.2 k hk hn⟩
theorem bg.ro {a b:List aq}{i:Nat}{L:List Int}(h:bg a i L)(hi:b[i]? = a[i]?)(hr:Ro a b):bg b i L:=by
 obtain⟨x,hx,hs,hq⟩:=h;refine⟨x,hi.trans hx,?_,hq⟩;rcases hs with h|⟨j,h1,h2,h3⟩
 ·exact .inl h
 ·exact .inr ⟨j,h1,h2,hr _ _ _ _ _ h3⟩
theorem bg.iE {b:List aq}{i lo:Nat}{L:List Int}(h:bg b i L)(hi:i<lo)(hl:lo≤b.length):bg (iE lo b) i L:=h.ro (vt hi hl) (gY hl).ro
theorem FH {bs:List aq}{i:Nat}{L:List Int}(h:bg bs i L)(id:Bytes)(hid:id.length≤10000):SC QH 124 [.p i 0,.str id] bs (fun r b=>∃ S L',Rv b r S∧S.length≤2∧(∀ s∈S,Qd b s)∧bg b i L'∧fS i bs b):=by
 have dJ:i<bs.length:=by obtain⟨x,hi,-⟩:=h;exact(zSQ.1 hi).1
 refine SC.wV ?_;refine bp 3000 func124 rfl ntmps124 results124 call124 QB (af bs.length _ (by simp[within,within.av,dJ])) ?_;refine iC ?_;refine ae (eF h 3 QA) ?_;rintro r b ⟨v,L1,rfl,hv,h,hk⟩;have u9:=hk.1;by_cases hv0:0<v
 ·have e0:decide (0<v)=true:=decide_eq_true hv0
  refine gB e0 ?_;exact⟨u9,[],_,.inl ⟨rfl,rfl⟩,QB,QB,h.iE dJ u9,hk.iE⟩
 have e0:decide (0<v)=false:=decide_eq_false hv0;have s1:=iL (bs:=b++[.own [.str [70]] 9 1 1 true]) (h.app _) [([104,116,116,112,115,58,47,47,97,46,101,120,97,109,112,108,101,47,102,47]:List UInt8),([104,116,116,112,115,58,47,47,98,46,101,120,97,109,112,108,101,47,120,63,121,35,122]:List UInt8),([104,116,116,112,58,47,47,99,46,101,120,97,109,112,108,101,47]:List UInt8),([110,111,116,104,105,110,103]:List UInt8)] (n:=4) (m:=100) rfl QA QD rfl;simp only[zS8,zS4,zTh,zSU,zSW,zSY,Nat.zero_add,zS3,zS5]at s1;refine gA e0 ?_;refine⟨QA,QA,QA,ae s1 ?_⟩;rintro r b2 ⟨s,L2,rfl,hs,h2,bS⟩;have vf:=bS.1;simp only[zSU,zSW,zSY]at vf;have hF:=bS.at (aM b _) QA;have nL:=(hk.app _).trans bS;refine dY ?_;refine⟨QA,QA,QA,QA,QA,QA,?_⟩;have qv:=nL.1;have rs:∀ (B:List aq) (j:Nat) (x:Bytes),bs.length≤j→B[j]? = some (.own [.str x] 9 1 1 true)→Rs (iE bs.length B) (.o j 1) [x]:=fun B j x hl hj=>.inr ⟨j,rfl,by rw[ka hl hj];rfl⟩
 refine⟨[⟨id++[35,102,105,108,101,115],.o b.length 1,.o b2.length 1⟩,⟨id++[35,107],.o (b2.length+1) 1,.o (b2.length+2) 1⟩],L2,.inr ⟨b2.length+3,rfl,?_⟩,QB,?_,(h2.app _).iE dJ QC,(nL.app _).iE⟩
 ·rw[ka QA (aY b2 _ 3)]
  rfl
 ·intro x hx
  simp only[List.mem_cons,List.not_mem_nil,or_false]at hx;rcases hx with rfl|rfl
  ·refine⟨QC,[[70]],[s],rs _ _ _ QA (ad hF _),rs _ _ _ QA (aM b2 _),QB,QB,QB,fun y hy=>?_⟩
   rw[zS1.1 hy];omega
  ·exact⟨QC,[[75]],[[104,116,116,112,115,58,47,47,100,46,101,120,97,109,112,108,101]],rs _ _ _ QA (aY b2 _ 1),rs _ _ _ QA (aY b2 _ 2),QB,QB,QB,QB⟩
def rG (a:jD):Prop:=a.host.length≤10000∧a.target.length≤10001∧a.raw.length≤3000000∧-9223372036854775808≤a.port∧a.port≤9223372036854775807∧0≤a.fail∧a.fail≤10∧a.since=0∧a.Lq=0
def Small (u:bN):Prop:=u.host.length+u.path.length+u.query.length+u.fragment.length≤10000∧-9223372036854775808≤u.port∧u.port≤9223372036854775807
theorem Small.fair {u:bN}(h:Small u):Fair u:=⟨by have:=h.1;omega,h.2⟩
theorem Small.Nu {u:bN}(h:Small u){raw:Bytes}(hr:raw.length≤3000000):rG (dB u raw):=by
 obtain⟨h1,h2,h3⟩:=h;refine⟨by simp only[dB];omega,?_,hr,h2,h3,by simp[dB],by simp[dB],rfl,rfl⟩;simp only[dB,bK];split
 ·simp;omega
 ·omega
theorem bg.oO {b:List aq}{i:Nat}{L:List Int}(h:bg b i L){k:Nat}{c:List SV}{T:TypeId}{m:Bool}(hk:b[k]? = some (.cells c T m))(hn:k≠i)(X:aq):bg (b.set k X) i L:=h.ro (zSZ hn) ((Ro.refl b).cell hk X)
theorem lV {st:Nat}(jg:st≤1000000000)(fs:List (Bytes × Bytes))(body:Bytes)(hb:body.length≤1000000000):(eJ st fs body false).length≤cF fs+4 * fs.length+body.length+200:=by
 have h1:=iZ st jg (fs++[(tQ,cf body.length)]);have h2:=cJ 9 body.length QA;rw[gy]at h1;simp only[cF,zSU,zSW,zSY]at h1;have fY:tQ.length=14:=rfl;unfold eJ DQ;simp only[Bool.false_eq_true,if_false,zSU];omega
theorem za {bs:List aq}{i:Nat}{L:List Int}(h:bg bs i L)(u:bN)(hu:Small u):SC QH 71 [.p i 0,.agg (uc u)] bs (fun r b=>∃ a L',r=.agg (ac a)∧rG a∧bg b i L'∧fS i bs b):=by
 have dJ:i<bs.length:=by obtain⟨x,hi,-⟩:=h;exact(zSQ.1 hi).1
 have jg:∀ v:Int,0≤v→v<5→∃ st:Nat,st≤1000∧([.int .i64 404,.int .i64 410,.int .i64 500,.int .i64 403,.int .i64 204]:List SV)[v.toNat * 1]? = some (.int .i64 st):=fun v h1 h2=>by
  have:v=0∨v=1∨v=2∨v=3∨v=4:=QA
  rcases this with rfl|rfl|rfl|rfl|rfl
  ·exact⟨404,QA,rfl⟩
  ·exact⟨410,QA,rfl⟩
  ·exact⟨500,QA,rfl⟩
  ·exact⟨403,QA,rfl⟩
  ·exact⟨204,QA,rfl⟩
 obtain⟨nB,tF,uZ,jG,tT⟩:=tO (h.app [.cells (uc u) 35 true,.cells (ac ⟨[],0,[],[],0,0,0⟩) 33 true]) 5 QA;have hv:=qW L (n:=5) QA;obtain⟨st,hst1,hst2⟩:=jg _ hv.1 hv.2;generalize jJ L 5=v at tT hv hst2;have p1:=eP u hu.fair (eJ st [] [] false);refine tg (fun n=>if n=1 then .ord [0,2,3,1,4,5,6,7,8,9] else .ord []) 3000 func71 rfl ntmps71 results71 call71 QB (af bs.length _ (by simp[within,within.av,uc,dJ])) ?_;have dK:=jG.at (aM bs _) QA;have eZ:=jG.at (aY bs _ 1) QA;have bm:fS i bs nB:=(fS.of ((Kp.refl bs).app _)).trans jG;have hnl2:bs.length+2≤nB.length:=by have:=jG.1;simp at this;omega
 have p8:=jG.outs tF;simp only[uc,ac,zSU,zSW,zSY,Nat.zero_add]at tT jG tF dK eZ p8;unfold uc;refine dY ?_;refine⟨Gc QE,bE [(i,0,0),(bs.length+2,0,0)] tT p8 ?_⟩;have s1:=fun(B:List aq)=>fj (bs:=B) (x:=.ai) (fs:=[]) (.inl ⟨rfl,rfl,rfl⟩) QD QD st QA [] QB false
 refine gA hst2 ?_;refine⟨QA,hv,QA,?_⟩;refine bE [] (s1 _) (fun _ _ _=>rfl) ?_;refine dY ?_;unfold uc ac at p1
 (refine aW (p1) ?_;refine dY ?_)
 refine⟨?_,ae (eF (uZ.app _) 8 QA) ?_⟩
 ·have hv5:v=0∨v=1∨v=2∨v=3∨v=4:=QA
  have z1:(bs.length=i)=False:=eq_false QA;have z2:(bs.length+2=i)=False:=eq_false QA;have z3:(nB.length=i)=False:=eq_false QA;have z4:(nB.length+1=i)=False:=eq_false QA;have z5:(bs.length+2=bs.length)=False:=eq_false QA;have z6:(nB.length=bs.length)=False:=eq_false QA;have z7:(nB.length+1=bs.length)=False:=eq_false QA;have z8:(bs.length+2=nB.length+1)=False:=eq_false QA;have z9:(nB.length=nB.length+1)=False:=eq_false QA;refine bt (fun n=>if n=i then 0 else if n=bs.length then 1 else if n=nB.length+1 then 3 else 2) ?_;simp only[zS3,zS5,cz,dW,z1,z2,z3,z4,z5,z6,z7,z8,z9,eq_self,if_true,if_false];rcases hv5 with rfl|rfl|rfl|rfl|rfl <;> exact ao QE
 rintro r b ⟨w,L2,rfl,hw,h2,bS⟩;have nL:=(bm.app _).trans bS;have hc5:=bS.at (aY nB _ 1) QA;have hc4:=bS.at (ad eZ _) QA;have hcl5:=(zSQ.1 hc5).1;have hcl4:=(zSQ.1 hc4).1;have jF:=nL.1;have s5:∀ X,(b.set (nB.length+1) X)[nB.length+1]? = some X:=fun X=>zSX hcl5
 have s4:∀ X,(b.set (bs.length+1) X)[bs.length+1]? = some X:=fun X=>zSX hcl4
 have s45:∀ X Y,((b.set (nB.length+1) X).set (bs.length+1) Y)[bs.length+1]? = some Y:=fun X Y=>zSX (by simpa using hcl4)
 have t4:=fun X=>aw hc4 (show nB.length+1≠bs.length+1 by omega) X
 have BL:(eJ st [] [] false).length≤3000000:=by
  have:=lV (st:=st) QA [] [] QB
  simp[cF]at this;omega
 have w1:(w==1)=true∨(w==1)=false:=by cases w==1 <;> simp
 have w2:(w==2)=true∨(w==2)=false:=by cases w==2 <;> simp
 have w3:(w==3)=true∨(w==3)=false:=by cases w==3 <;> simp
 rcases w1 with w1|w1
 ·refine gA (zSP w1 (zSP hc5 (zSP hc4 (zSP s5 (zSP s45 t4))))) ?_
  exact⟨⟨u.host,u.port,bK u,_,0,0,0⟩,_,rfl,hu.Nu (raw:=[72,84,84,80,47,49,46,49,32,50,48,48,32,79,75,13,10,99,111,110,116,101,110,116,45,108,101,110,103,116,104,58,32,57,13,10,13,10,97,98,99]) QB,(h2.oO hc5 QA _).oO (t4 _) QA _,(nL.ic QA _).ic QA _⟩
 rcases w2 with w2|w2
 ·refine gA (zSP w1 w2) ?_
  refine ae (eF h2 4 QA) ?_;rintro r b3 ⟨x,L3,rfl,hx,h3,eL⟩;have hkk3:=nL.trans eL;have hc53:=eL.at hc5 QA;have hc43:=eL.at hc4 QA;have hcl53:=(zSQ.1 hc53).1;have hcl43:=(zSQ.1 hc43).1;have s5:∀ X,(b3.set (nB.length+1) X)[nB.length+1]? = some X:=fun X=>zSX hcl53
  have s45:∀ X Y,((b3.set (nB.length+1) X).set (bs.length+1) Y)[bs.length+1]? = some Y:=fun X Y=>zSX (by simpa using hcl43)
  have t4:=fun X=>aw hc43 (show nB.length+1≠bs.length+1 by omega) X
  refine gA (zSP hc53 (zSP hc43 (zSP s5 (zSP s45 t4)))) ?_;have hA:=hu.Nu BL;refine⟨QA,⟨u.host,u.port,bK u,_,1+x,0,0⟩,_,rfl,⟨hA.1,hA.2.1,hA.2.2.1,hA.2.2.2.1,hA.2.2.2.2.1,by simp only;omega,by simp only;omega,rfl,rfl⟩,(h3.oO hc53 QA _).oO (t4 _) QA _,(hkk3.ic QA _).ic QA _⟩
 rcases w3 with w3|w3
 ·refine gA (zSP w1 (zSP w2 (zSP w3 (zSP hc5 (zSP hc4 (zSP s5 (zSP s45 t4))))))) ?_
  exact⟨⟨u.host,u.port,bK u,_,0,0,0⟩,_,rfl,hu.Nu (raw:=[110,111,110,115,101,110,115,101]) QB,(h2.oO hc5 QA _).oO (t4 _) QA _,(nL.ic QA _).ic QA _⟩
 ·refine gA (zSP w1 (zSP w2 (zSP w3 (zSP hc5 (zSP hc4 s4))))) ?_
  exact⟨dB u (eJ st [] [] false),_,rfl,hu.Nu BL,h2.oO hc4 QA _,nL.ic QA _⟩
end Go.Proofs.YtnmlimehgifadaaGreatDoor
