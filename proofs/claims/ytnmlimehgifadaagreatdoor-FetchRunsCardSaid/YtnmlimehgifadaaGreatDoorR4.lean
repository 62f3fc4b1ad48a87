/- R4 -/
import Derived.Deep.Slices
import Derived.Lib.OthersKept
import Derived.Deep.QuietTactic
import Derived.BigQuiet
import Derived.Test.YtnmlimehgifadaaGreatDoorProg
import Derived.Lib.ConvBytes
import Derived.Laws.IdiomStrings
import Derived.Lib.QuietBelow
import Derived.Lib.FrozenHead
import Derived.Test.YtnmlimehgifadaaGreatDoorR3
open List renaming toArray→zRn,getElem?_eq_some_iff→zRq,getElem?_set_ne→zRr,getElem?_append_left→zRt,take_of_length_le→zRw,drop_eq_getElem_cons→zRx,getElem?_eq_getElem→zRy,isPrefixOf_iff_prefix→zRz,getElem?_set_self→zRA,cons_append→zRB,flatMap_cons→zRC,mem_cons_self→zRD,cons→zRE,mem_singleton→zRG,length_eq_zero_iff→zRH,getElem?_append_right→zRL,mem_cons_of_mem→zRN,nil_append→zRQ,mem_append→zRR,append_nil→zRS,getElem_mem→zRT,singleton_append→zRU,take_append_drop→zRV,take_succ_eq_append_getElem→zRX,all_eq_true→zRY,mem_cons→zRZ,length_map→zR0,range→zR1,isPrefixOf→zR3,drop_of_length_le→zR5,contains_iff_mem→zR7,length_cons→zR8,length_take→zR9,map_congr_left→zSa,length_set→zSb
open And renaming intro→zRp
open Nat renaming le_refl→zRu,lt_or_ge→zRJ,ne_of_lt→zRM,ne_of_gt→zRW
open Bool renaming and_eq_true→zRF,eq_iff_iff→zRO
open Option renaming some→zRI,map_eq_some_iff→zR4
open UInt8 renaming toNat_inj→zR2
open Int renaming toNat_natCast→zR6
open Go.Proofs.Tryz
set_option linter.all false
set_option maxHeartbeats 16000000
set_option maxRecDepth 20000
namespace Vc
open Go Go.RowKit Wf
theorem tW.mono {own own':Nat→Prop}{w w':World}(h:tW own w w')(k:∀ b,own b→own' b):tW own' w w' :=
 ⟨h.os,h.tape,h.output,h.size,fun b hb hn=>h.block b hb (fun e=>hn (k b e))⟩
def si (TB TU:TypeId)(l:List UInt8):Rsc where
 holds t fp w:=t.off=0∧∃ (p:Value) (t2:Bt) (f2:Nat→Prop),(p=.pointer none∨p=.pointer (some ⟨t.fy,0,none⟩)) ∧
  (∃ fz,Head w t.fy TB [p,oV t2 l.length] [] fz)∧Holds nX t2 f2 w (.own (l.map eb) TU 1 l.length true)∧¬ f2 t.fy∧∀ k,fp k↔k=t.fy∨f2 k
 stays b fp w w':=by
  rintro⟨h0,p,t2,f2,hp,⟨fz,h1,h2⟩,h3,h4,h5⟩ hk;exact⟨h0,p,t2,f2,hp,⟨fz,(hk _ ((h5 _).2 (.inl rfl))).trans h1,h2⟩,h3.stays (fun k hf=>hk k ((h5 k).2 (.inr hf))),h4,h5⟩
theorem u8_conc (l:List UInt8)(β β':Nat→Bt):(l.map eb).map (aj β)=(l.map eb).map (aj β'):=by
 simp[eb,aj]
theorem G9 {β β':Nat→Bt}{t:Bt}{f:Nat→Prop}{w:World}{l:List UInt8}{TU:TypeId}{n:Nat}{m:Bool}(h:Holds β t f w (.own (l.map eb) TU 1 n m)):Holds β' t f w (.own (l.map eb) TU 1 n m):=by
 simp only[Holds]at h ⊢;rw[u8_conc l β' β];exact h
theorem DJ {b1 b2:Nat→Bt}{t t':Bt}{fq fq':Nat→Prop}{w w':World}{r:aq}(h1:Holds b1 t fq w r)(h2:Holds b2 t fq w r)(h:Holds b1 t' fq' w' r):Holds b2 t' fq' w' r:=by
 cases r with
 | cells c T m =>
   obtain⟨-,⟨r1,f1,d1,rfl⟩,-⟩:=h1;obtain⟨-,⟨r2,f2,d2,rfl⟩,-⟩:=h2;have e:=zU QB d1.wE d2.wE;simp only[Holds]at h ⊢;rw[← e];exact h
 | own c e s n m =>
   rcases h1 with⟨-,-,rfl,-⟩|⟨-,-,-,-,l1,-⟩
   ·simpa[Holds] using h
   ·rcases h2 with⟨-,-,rfl,-⟩|⟨-,-,-,-,l2,-⟩
    ·simpa[Holds] using h
    ·have e:=zU QB l1 l2
     simp only[Holds]at h ⊢;rw[← e];exact h
 | ext R=>exact h
 | gone=>exact h
variable {V:Cx} {f:FuncId} {args:List SV} {bs:List aq} {R:SV→List aq→Prop}
theorem Ki {i:Nat}{r0 r1:aq}(hi:bs[i]? = some r0)(hm:r1.dD=true→r0.dD=true)(hv:∀ (β:Nat→Bt)(fp:Nat→Nat→Prop)(w:World),Holds β (β i) (fp i) w r0→Holds β (β i) (fp i) w r1)(h:SC V f args (bs.set i r1) R):SC V f args bs R:=by
 refine⟨h.1,fun β fp w nU hG hE=>?_⟩;have dJ:i<bs.length:=(zRq.1 hi).1;have old:∀ {j r'},(bs.set i r1)[j]? = some r'→∃ r,bs[j]? = some r∧(r'.dD=true→r.dD=true)∧(j≠i∧r'=r∨j=i∧r'=r1):=fun {j r'} hj=>by
  by_cases oo:j=i
  ·subst oo
   rw[zRA dJ]at hj;obtain rfl:=zRI.inj hj;exact⟨r0,hi,hm,.inr ⟨rfl,rfl⟩⟩
  ·rw[zRr (fun e=>oo e.symm)]at hj
   exact⟨r',hj,id,.inl ⟨oo,rfl⟩⟩
 refine(h.2 β fp w (fun β' hβ=>?_) (fun j r hj hjm k hk=>?_) hE).mono ?_
 ·rw[zSb]at hβ
  have hb:=nU β' hβ;refine⟨fun j r' hj=>?_,fun j r' hj k hk=>?_,fun j l a b hj hl bF jW=>?_⟩
  ·obtain⟨r,hr,-,⟨-,rfl⟩|⟨rfl,rfl⟩⟩:=old hj
   ·exact hb.holds j _ hr
   ·exact hv β' fp w (hb.holds _ _ hi)
  ·obtain⟨r,hr,-⟩:=old hj
   exact hb.lt j r hr k hk
  ·obtain⟨r,hr,e,-⟩:=old hj
   obtain⟨r',hr',e',-⟩:=old hl;exact hb.sep j l r r' hr hr' bF (jW.imp e e')
 ·obtain⟨r,hr,e,-⟩:=old hj
  exact hG j r hr (e hjm) k hk
 ·rintro e w' ⟨r,bs',β₂,fp₂,hR,Bc,hlen,br,nM,mb,kP⟩
  rw[zSb]at Bc hlen;refine⟨r,bs',β₂,fp₂,hR,Bc,hlen,br,nM.mono ?_,fun j r' hj hjm k hk=>?_,fun j r' hj k hk=>?_⟩
  ·rintro k ⟨j,r',hj,hjm,hk⟩
   obtain⟨r,hr,e,-⟩:=old hj;exact⟨j,r,hr,e hjm,hk⟩
  ·rcases mb j r' hj hjm k hk with h1|⟨j2,r2,fU,CS,bS⟩
   ·exact .inl h1
   ·obtain⟨r,hr,e,-⟩:=old fU
    exact .inr ⟨j2,r,hr,e CS,bS⟩
  ·rcases kP j r' hj k hk with h1|⟨j2,r2,fU,bS⟩
   ·exact .inl h1
   ·obtain⟨r,hr,-⟩:=old fU
    exact .inr ⟨j2,r,hr,bS⟩
theorem sc_view {i:Nat}{r0 r1:aq}(hi:bs[i]? = some r0)(hm:r1.dD=r0.dD)(hv:∀ (β:Nat→Bt)(fp:Nat→Nat→Prop)(w:World),Holds β (β i) (fp i) w r0→Holds β (β i) (fp i) w r1)(h:SC V f args (bs.set i r1) R):SC V f args bs R:=Ki hi (fun e=>hm ▸ e) hv h
theorem mP {i:Nat}{c:List SV}{e s n:Nat}{m:Bool}(hi:bs[i]? = some (.own c e s n m))(h:SC V f args (bs.set i (.own c e s n false)) R):SC V f args bs R:=by
 refine Ki hi (fun e=>by cases e) (fun β fp w hh=>?_) h;rcases hh with h0|⟨h1,h2,h3,h4,h5,-,h7⟩
 ·exact .inl h0
 ·exact .inr ⟨h1,h2,h3,h4,h5,QB,h7⟩
def Nv (b b2:List aq):Prop:=b2.length=b.length∧∀ (i:Nat) (r:aq),b2[i]? = some r→b[i]? = some r∨∃ (c:List SV) (e s n:Nat) (m:Bool),b[i]? = some (aq.own c e s n m)∧r=aq.own c e s n false
theorem Nv.refl (b:List aq):Nv b b:=⟨rfl,fun _ _ h=>.inl h⟩
theorem Nv.one {b:List aq}{i:Nat}{c:List SV}{e s n:Nat}{m:Bool}(hi:b[i]? = some (.own c e s n m)):Nv b (b.set i (.own c e s n false)):=⟨QB,fun j r hj=>by
 by_cases oo:j=i
 ·subst oo
  rw[zRA (zRq.1 hi).1]at hj;exact .inr ⟨c,e,s,n,m,hi,(zRI.inj hj).symm⟩
 ·rw[zRr (fun e=>oo e.symm)]at hj
  exact .inl hj⟩
theorem Nv.trans {a b c:List aq}(h:Nv a b)(k:Nv b c):Nv a c:=⟨k.1.trans h.1,fun i r hi=>by
 rcases k.2 i r hi with h1|⟨c,e,s,n,m,h1,rfl⟩
 ·exact h.2 i r h1
 ·rcases h.2 i _ h1 with h2|⟨c',e',s',n',m',h2,h3⟩
  ·exact .inr ⟨c,e,s,n,m,h2,rfl⟩
  ·cases h3
   exact .inr ⟨_,_,_,_,m',h2,rfl⟩⟩
theorem SC.dim (h:SC V f args bs (fun r b=>∃ b2:List aq,Nv b b2∧R r b2)):SC V f args bs R:=by
 refine⟨h.1,fun β fp w nU hG hE=>(h.2 β fp w nU hG hE).mono ?_⟩;rintro e w' ⟨r,bs',β₂,fp₂,⟨b2,hd,hR⟩,Bc,hlen,br,nM,mb,kP⟩;have old:∀ {j r'},b2[j]? = some r'→∃ r,bs'[j]? = some r∧(r'.dD=true→r.dD=true)∧∀ {β t f w},Holds β t f w r→Holds β t f w r':=fun {j r'} hj=>by
  rcases hd.2 j r' hj with h1|⟨c,e,s,n,m,h1,rfl⟩
  ·exact⟨r',h1,id,id⟩
  ·refine⟨_,h1,(fun e=>by cases e),fun hh=>?_⟩
   rcases hh with h0|⟨h1,h2,h3,h4,h5,-,h7⟩
   ·exact .inl h0
   ·exact .inr ⟨h1,h2,h3,h4,h5,QB,h7⟩
 refine⟨r,b2,β₂,fp₂,hR,Bc,by rw[hd.1];exact hlen,fun β' hβ=>?_,nM,fun j r' hj hm k hk=>?_,fun j r' hj k hk=>?_⟩
 ·rw[hd.1]at hβ
  obtain⟨he,hb⟩:=br β' hβ;refine⟨he,⟨fun j r' hj=>?_,fun j r' hj k hk=>?_,fun j l a b hj hl bF jW=>?_⟩⟩
  ·obtain⟨r,hr,-,hv⟩:=old hj
   exact hv (hb.holds j _ hr)
  ·obtain⟨r,hr,-⟩:=old hj
   exact hb.lt j r hr k hk
  ·obtain⟨r,hr,e,-⟩:=old hj
   obtain⟨r',hr',e',-⟩:=old hl;exact hb.sep j l r r' hr hr' bF (jW.imp e e')
 ·obtain⟨r,hr,e,-⟩:=old hj
  exact mb j r hr (e hm) k hk
 ·obtain⟨r,hr,-⟩:=old hj
  exact kP j r hr k hk
theorem NV {i TB TU:Nat}(hi:bs[i]? = some (.cells [.v (.pointer none),.ai] TB true))(h:SC V f args (bs.set i (.ext (si TB TU []))) R):SC V f args bs R:=by
 refine sc_view (r1:=.ext (si TB TU [])) hi rfl (fun β fp w hh=>?_) h;obtain⟨h0,⟨rest,fz,hd,rfl⟩,h3⟩:=hh;refine⟨h0,Value.pointer none,⟨0,0,0⟩,fun _=>False,.inl rfl,⟨fz,?_⟩,holds_nil,not_false,fun k=>(h3 k).trans ⟨.inl,fun h=>h.elim id False.elim⟩⟩;simpa[aj,oV] using hd
theorem sc_open {i TB TU:Nat}{l:List UInt8}(hi:bs[i]? = some (.ext (si TB TU l))){R':SV→List aq→Prop}
 (h:∀ x,(x=.v (.pointer none)∨x=.p i 0)→SC V f args (bs.set i (.cells [x,.o bs.length l.length] TB true)++[.own (l.map eb) TU 1 l.length true]) R')
 (hR:∀ r bs',R' r bs'→∃ x j l',flat r=true∧(x=.v (.pointer none)∨x=.p i 0)∧R r (bs.set i (.ext (si TB TU l')))∧bs'[i]? = some (.cells [x,.o j l'.length] TB true)∧bs'[j]? = some (.own (l'.map eb) TU 1 l'.length true) ∧
   bs.length≤j∧∀ k,k<bs.length→k≠i→bs'[k]? = bs[k]?)
 (qb:within.av bs.length args=true):SC V f args bs R:=by
 have dJ:i<bs.length:=(zRq.1 hi).1;refine⟨(h _ (.inl rfl)).1,fun β fp w nU hG hE=>?_⟩;have dK:=nU β (cP.refl _ _);obtain⟨h0,p,t2,f2,hp,⟨fz,hd⟩,iO,xR,Ho⟩:=dK.holds i _ hi;obtain⟨x,hx,hxc⟩:∃ x:SV,(x=.v (.pointer none)∨x=.p i 0)∧∀ β',cP bs.length β β'→aj β' x=p:=by
  rcases hp with rfl|rfl
  ·exact⟨_,.inl rfl,fun _ _=>rfl⟩
  ·exact⟨_,.inr rfl,fun β' hβ=>by simp only[aj];rw[← hβ i dJ,h0]⟩
 let β₁:=qh β bs.length t2
 let fp₁:Nat→Nat→Prop:=fun j k=>if j=i then k=(β i).fy else if j=bs.length then f2 k else fp j k
 have agr1:∀ {β'},cP (bs.length+1) β₁ β'→cP bs.length β β':=fun {β'} hβ j hj=>by
  rw[← hβ j QA];simp only[β₁,qh];rw[if_neg QA]
 have at1:∀ {β'},cP (bs.length+1) β₁ β'→β' bs.length=t2:=fun {β'} hβ=>by
  rw[← hβ bs.length QA];simp[β₁,qh]
 have old:∀ {j r'},(bs.set i (.cells [x,.o bs.length l.length] TB true)++[.own (l.map eb) TU 1 l.length true])[j]? = some r' →
  (j=i∧r'=.cells [x,.o bs.length l.length] TB true)∨(j=bs.length∧r'=.own (l.map eb) TU 1 l.length true)∨(j<bs.length∧j≠i∧bs[j]? = some r'):=fun {j r'} hj=>by
  have e9:j<bs.length+1:=by
   have:=(zRq.1 hj).1
   simpa using this
  by_cases hjm:j=bs.length
  ·subst hjm
   rw[zRL QB]at hj;simp at hj
   exact .inr (.inl ⟨rfl,hj.symm⟩)
  ·rw[zRt QC]at hj
   by_cases oo:j=i
   ·subst oo
    rw[zRA dJ]at hj;exact .inl ⟨rfl,(zRI.inj hj).symm⟩
   ·rw[zRr (fun e=>oo e.symm)]at hj
    exact .inr (.inr ⟨QA,oo,hj⟩)
 have in1:∀ {j r'},(bs.set i (.cells [x,.o bs.length l.length] TB true)++[.own (l.map eb) TU 1 l.length true])[j]? = some r'→r'.dD=true→∀ k,fp₁ j k→∃ j2 r2,bs[j2]? = some r2∧r2.dD=true∧fp j2 k:=fun {j r'} hj hm k hk=>by
  rcases old hj with⟨rfl,rfl⟩|⟨rfl,rfl⟩|⟨iQ,fU,JI⟩
  ·refine⟨j,_,hi,rfl,(Ho k).2 (.inl ?_)⟩
   simpa[fp₁] using hk
  ·refine⟨i,_,hi,rfl,(Ho k).2 (.inr ?_)⟩
   simpa[fp₁,zRW dJ] using hk
  ·exact⟨j,r',JI,hm,by simpa[fp₁,fU,zRM iQ] using hk⟩
 have inF:∀ {j r'},(bs.set i (.cells [x,.o bs.length l.length] TB true)++[.own (l.map eb) TU 1 l.length true])[j]? = some r'→∀ k,fp₁ j k→∃ j2 r2,bs[j2]? = some r2∧fp j2 k:=fun {j r'} hj k hk=>by
  rcases old hj with⟨rfl,rfl⟩|⟨rfl,rfl⟩|⟨iQ,fU,JI⟩
  ·refine⟨j,_,hi,(Ho k).2 (.inl ?_)⟩
   simpa[fp₁] using hk
  ·refine⟨i,_,hi,(Ho k).2 (.inr ?_)⟩
   simpa[fp₁,zRW dJ] using hk
  ·exact⟨j,r',JI,by simpa[fp₁,fU,zRM iQ] using hk⟩
 have ea:aZ β args=aZ β₁ args:=af bs.length args qb β β₁ (fun j hj=>by simp only[β₁,qh];rw[if_neg QA]);rw[ea];refine((h x hx).2 β₁ fp₁ w (fun β' hβ=>?_) (fun j r hj hm k hk=>?_) hE).mono ?_
 ·have hβq:cP (bs.length+1) β₁ β':=by simpa using hβ
  clear hβ;have hb:=nU β' (agr1 hβq);have mL:β' i=β i:=(agr1 hβq i dJ).symm;refine⟨fun j r' hj=>?_,fun j r' hj k hk=>?_,fun j q a b hj hq bF jW k hk bS=>?_⟩
  ·rcases old hj with⟨rfl,rfl⟩|⟨rfl,rfl⟩|⟨iQ,fU,JI⟩
   ·refine⟨by rw[mL];exact h0,⟨[],fz,?_,rfl⟩,fun k=>by simp[fp₁,mL]⟩
    rw[mL];simpa[hxc β' (agr1 hβq),aj,at1 hβq] using hd
   ·rw[at1 hβq]
    have e:fp₁ bs.length=f2:=by funext k;simp[fp₁,zRW dJ]
    rw[e];exact G9 iO
   ·have e:fp₁ j=fp j:=by funext k;simp[fp₁,fU,zRM iQ]
    rw[e];exact hb.holds j _ JI
  ·rcases old hj with⟨rfl,rfl⟩|⟨rfl,rfl⟩|⟨iQ,fU,JI⟩
   ·exact hb.lt j _ hi k ((Ho k).2 (.inl (by simpa[fp₁] using hk)))
   ·exact hb.lt i _ hi k ((Ho k).2 (.inr (by simpa[fp₁,zRW dJ] using hk)))
   ·exact hb.lt j _ JI k (by simpa[fp₁,fU,zRM iQ] using hk)
  ·rcases old hj with⟨rfl,rfl⟩|⟨rfl,rfl⟩|⟨iQ,fU,JI⟩ <;> rcases old hq with⟨rfl,rfl⟩|⟨rfl,rfl⟩|⟨jK,p7,hq3⟩
   ·exact bF rfl
   ·have e1:k=(β j).fy:=by simpa[fp₁] using hk
    have e2:f2 k:=by simpa[fp₁,zRW dJ] using bS
    exact xR (e1 ▸ e2)
   ·have e1:k=(β j).fy:=by simpa[fp₁] using hk
    have e2:fp q k:=by simpa[fp₁,p7,zRM jK] using bS
    exact hb.sep j q _ _ hi hq3 bF (.inl rfl) k ((Ho k).2 (.inl e1)) e2
   ·have e2:k=(β q).fy:=by simpa[fp₁] using bS
    have e1:f2 k:=by simpa[fp₁,zRW dJ] using hk
    exact xR (e2 ▸ e1)
   ·exact bF rfl
   ·have e1:f2 k:=by simpa[fp₁,zRW dJ] using hk
    have e2:fp q k:=by simpa[fp₁,p7,zRM jK] using bS
    exact hb.sep i q _ _ hi hq3 (fun e=>p7 e.symm) (.inl rfl) k ((Ho k).2 (.inr e1)) e2
   ·have e1:k=(β q).fy:=by simpa[fp₁] using bS
    have e2:fp j k:=by simpa[fp₁,fU,zRM iQ] using hk
    exact hb.sep q j _ _ hi JI (fun e=>bF e.symm) (.inl rfl) k ((Ho k).2 (.inl e1)) e2
   ·have e1:f2 k:=by simpa[fp₁,zRW dJ] using bS
    have e2:fp j k:=by simpa[fp₁,fU,zRM iQ] using hk
    exact hb.sep i j _ _ hi JI (fun e=>fU e.symm) (.inl rfl) k ((Ho k).2 (.inr e1)) e2
   ·exact hb.sep j q _ _ JI hq3 bF jW k (by simpa[fp₁,fU,zRM iQ] using hk) (by simpa[fp₁,p7,zRM jK] using bS)
 ·obtain⟨j2,r2,h1,h2,h3⟩:=in1 hj hm k hk
  exact hG j2 r2 h1 h2 k h3
 ·rintro e w' ⟨r,bs',β₂,fp₂,hR',Bc,hlen,br,nM,mb,kP⟩
  have Bc:cP (bs.length+1) β₁ β₂:=by simpa using Bc
  have hlen:bs.length+1≤bs'.length:=by simpa using hlen
  obtain⟨x',j,l',nT,hx',hRr,mL,r9,hjm,JD⟩:=hR r bs' hR';have e9:j<bs'.length:=(zRq.1 r9).1;have hag2:cP bs.length β β₂:=agr1 Bc;let fp₃:Nat→Nat→Prop:=fun q k=>if q=i then fp₂ i k∨fp₂ j k else fp₂ q k
  have lift:∀ {β'},cP bs.length β₂ β'→∃ β'',cP bs'.length β₂ β''∧cP bs.length β'' β':=fun {β'} hβ =>
   ⟨β₂,cP.refl _ _,hβ⟩
  have old2:∀ {q r'},(bs.set i (.ext (si TB TU l')))[q]? = some r'→(q=i∧r'=.ext (si TB TU l'))∨(q<bs.length∧q≠i∧bs[q]? = some r'∧bs'[q]? = some r'):=fun {q r'} hq=>by
   by_cases KP:q=i
   ·subst KP
    rw[zRA dJ]at hq;exact .inl ⟨rfl,(zRI.inj hq).symm⟩
   ·rw[zRr (fun e=>KP e.symm)]at hq
    have jV:q<bs.length:=(zRq.1 hq).1;exact .inr ⟨jV,KP,hq,(JD q jV KP).trans hq⟩
  refine⟨r,bs.set i (.ext (si TB TU l')),β₂,fp₃,hRr,hag2,QB,fun β' hβ=>?_,nM.mono ?_,fun q r' hq hqm k hk=>?_,fun q r' hq k hk=>?_⟩
  ·rw[zSb]at hβ
   -- the things of the caller are read at any β' that agrees on them
   let β'':Nat→Bt:=fun q=>if q<bs.length then β' q else β₂ q
   have hβ2:cP bs'.length β₂ β'':=fun q hq=>by
    show _=if _ then _ else _
    split
    ·rename_i az;exact hβ q az
    ·rfl
   obtain⟨he,hb⟩:=br β'' hβ2;refine⟨by rw[he,ig r nT β'' β'],?_⟩;have hbi':β'' i=β₂ i:=(hβ2 i QA).symm;have Pr:β' i=β₂ i:=(hβ i dJ).symm;refine⟨fun q r' hq=>?_,fun q r' hq k hk=>?_,fun q s a b hq hs bF jW k hk bS=>?_⟩
   ·rcases old2 hq with⟨rfl,rfl⟩|⟨h1,h2,h3,h4⟩
    ·obtain⟨k0,⟨rest,fz',hd',rfl⟩,k3⟩:=hb.holds _ _ mL
     have hrow':=hb.holds _ _ r9;refine⟨by rw[Pr,← hbi'];exact k0,aj β'' x',β'' j,fp₂ j,?_,⟨fz',?_⟩,G9 hrow',?_,fun k=>?_⟩
     ·rcases hx' with rfl|rfl
      ·exact .inl rfl
      ·right
       simp only[aj];rw[k0,hbi',Pr]
     ·rw[Pr,← hbi']
      simpa[aj] using hd'
     ·intro hc
      have:fp₂ q (β'' q).fy:=(k3 _).2 rfl
      rw[Pr,← hbi']at hc;exact hb.sep q j _ _ mL r9 QA (.inl rfl) _ this hc
     ·show (if _ then _ else _)↔_
      rw[if_pos rfl,k3 k,hbi',Pr]
    ·have e:fp₃ q=fp₂ q:=by funext k;show (if _ then _ else _)=_;rw[if_neg h2]
     rw[e];have e2:β' q=β'' q:=by show _=if _ then _ else _;rw[if_pos h1]
     have:=hb.holds _ _ h4
     rw[e2]
     -- what it holds of cells looks at β'' alone through the things of the caller
     have hA:cP bs.length β β':=fun q hq=>(hag2 q hq).trans (hβ q hq)
     have hA2:cP bs.length β β'':=fun q hq=>(hag2 q hq).trans (hβ2 q QA)
     have u1:=(nU β'' hA2).holds q _ h3;have u2:=(nU β' hA).holds q _ h3;rw[e2]at u2;exact DJ u1 u2 this
   ·rcases old2 hq with⟨rfl,rfl⟩|⟨h1,h2,h3,h4⟩
    ·have hk:fp₂ q k∨fp₂ j k:=by simpa[fp₃] using hk
     rcases hk with hk|hk
     ·exact hb.lt _ _ mL k hk
     ·exact hb.lt _ _ r9 k hk
    ·exact hb.lt _ _ h4 k (by simpa[fp₃,h2] using hk)
   ·rcases old2 hq with⟨rfl,rfl⟩|⟨h1,h2,h3,h4⟩ <;> rcases old2 hs with⟨rfl,rfl⟩|⟨g1,g2,g3,g4⟩
    ·exact bF rfl
    ·have bS:fp₂ s k:=by simpa[fp₃,g2] using bS
     have hk:fp₂ q k∨fp₂ j k:=by simpa[fp₃] using hk
     rcases hk with hk|hk
     ·exact hb.sep _ _ _ _ mL g4 bF (.inl rfl) k hk bS
     ·exact hb.sep _ _ _ _ r9 g4 QA (.inl rfl) k hk bS
    ·have hk:fp₂ q k:=by simpa[fp₃,h2] using hk
     have bS:fp₂ s k∨fp₂ j k:=by simpa[fp₃] using bS
     rcases bS with bS|bS
     ·exact hb.sep _ _ _ _ mL h4 (fun e=>bF e.symm) (.inl rfl) k bS hk
     ·exact hb.sep _ _ _ _ r9 h4 QA (.inl rfl) k bS hk
    ·exact hb.sep _ _ _ _ h4 g4 bF jW k (by simpa[fp₃,h2] using hk) (by simpa[fp₃,g2] using bS)
  ·rintro k ⟨j1,r1,iQ,tU,cV⟩
   exact in1 iQ tU k cV
  ·rcases old2 hq with⟨rfl,rfl⟩|⟨h1,h2,h3,h4⟩
   ·have hk:fp₂ q k∨fp₂ j k:=by simpa[fp₃] using hk
    rcases hk with hk|hk
    ·rcases mb _ _ mL rfl k hk with h1|⟨j1,r1,iQ,tU,cV⟩
     ·exact .inl h1
     ·exact .inr (in1 iQ tU k cV)
    ·rcases mb _ _ r9 rfl k hk with h1|⟨j1,r1,iQ,tU,cV⟩
     ·exact .inl h1
     ·exact .inr (in1 iQ tU k cV)
   ·rcases mb _ _ h4 hqm k (by simpa[fp₃,h2] using hk) with h1|⟨j1,r1,iQ,tU,cV⟩
    ·exact .inl h1
    ·exact .inr (in1 iQ tU k cV)
  ·rcases old2 hq with⟨rfl,rfl⟩|⟨h1,h2,h3,h4⟩
   ·have hk:fp₂ q k∨fp₂ j k:=by simpa[fp₃] using hk
    rcases hk with hk|hk
    ·rcases kP _ _ mL k hk with h1|⟨j1,r1,iQ,cV⟩
     ·exact .inl h1
     ·exact .inr (inF iQ k cV)
    ·rcases kP _ _ r9 k hk with h1|⟨j1,r1,iQ,cV⟩
     ·exact .inl h1
     ·exact .inr (inF iQ k cV)
   ·rcases kP _ _ h4 k (by simpa[fp₃,h2] using hk) with h1|⟨j1,r1,iQ,cV⟩
    ·exact .inl h1
    ·exact .inr (inF iQ k cV)
theorem Co {i:Nat}{r0 r1:aq}{r:SV}(hi:bs[i]? = some r0)(hm:r0.dD=true)(tH:Enters V f)(hr:flat r=true)
 (h:∀ (β:Nat→Bt) (fp:Nat→Nat→Prop) (w:World),V.E w→(∀ β',cP bs.length β β'→Holds β' (β' i) (fp i) w r0)→Calls V.P f (aZ β args).toArray w fun e w'=>e=.returned (aj nX r)∧tW (fp i) w w'∧∃ f1:Nat→Prop,(∀ k,f1 k→fp i k)∧∀ β',cP bs.length β β'→Holds β' (β' i) f1 w' r1) :
 SC V f args bs (fun r' bs'=>r'=r∧bs'=bs.set i r1):=by
 have dJ:i<bs.length:=(zRq.1 hi).1;refine⟨tH,fun β fp w nU hG hE=>?_⟩;refine(h β fp w hE (fun β' hβ=>(nU β' hβ).holds i _ hi)).mono ?_;rintro e w' ⟨rfl,nM,f1,Ix,hh⟩;have old:∀ {j r'},(bs.set i r1)[j]? = some r'→(j=i∧r'=r1)∨(j≠i∧bs[j]? = some r'):=fun {j r'} hj=>by
  by_cases oo:j=i
  ·subst oo
   rw[zRA dJ]at hj;exact .inl ⟨rfl,(zRI.inj hj).symm⟩
  ·rw[zRr (fun e=>oo e.symm)]at hj
   exact .inr ⟨oo,hj⟩
 let fp₂:Nat→Nat→Prop:=fun j k=>if j=i then f1 k else fp j k
 refine⟨r,bs.set i r1,β,fp₂,⟨rfl,rfl⟩,cP.refl _ _,QB,fun β' hβ=>⟨by rw[ig r hr nX β'],?_⟩,nM.mono (fun k hk=>⟨i,_,hi,hm,hk⟩),fun j r' hj hjm k hk=>?_,fun j r' hj k hk=>?_⟩
 ·rw[zSb]at hβ
  have hb:=nU β' hβ;refine⟨fun j r' hj=>?_,fun j r' hj k hk=>?_,fun j l a b hj hl bF jW k hk bS=>?_⟩
  ·rcases old hj with⟨rfl,rfl⟩|⟨h1,h2⟩
   ·have e:fp₂ j=f1:=by funext k;simp[fp₂]
    rw[e];exact hh β' hβ
   ·have e:fp₂ j=fp j:=by funext k;simp[fp₂,h1]
    rw[e];exact(hb.holds j _ h2).stays (fun k hk=>nM.block k (hb.lt j _ h2 k hk) (fun kO=>hb.sep i j _ _ hi h2 (fun e=>h1 e.symm) (.inl hm) k kO hk))
  ·rcases old hj with⟨rfl,rfl⟩|⟨h1,h2⟩
   ·exact Nat.lt_of_lt_of_le (hb.lt _ _ hi k (Ix k (by simpa[fp₂] using hk))) nM.size
   ·exact Nat.lt_of_lt_of_le (hb.lt j _ h2 k (by simpa[fp₂,h1] using hk)) nM.size
  ·rcases old hj with⟨rfl,rfl⟩|⟨h1,h2⟩ <;> rcases old hl with⟨rfl,rfl⟩|⟨g1,g2⟩
   ·exact bF rfl
   ·exact hb.sep _ _ _ _ hi g2 bF (.inl hm) k (Ix k (by simpa[fp₂] using hk)) (by simpa[fp₂,g1] using bS)
   ·exact hb.sep _ _ _ _ hi h2 (fun e=>bF e.symm) (.inl hm) k (Ix k (by simpa[fp₂] using bS)) (by simpa[fp₂,h1] using hk)
   ·exact hb.sep _ _ _ _ h2 g2 bF jW k (by simpa[fp₂,h1] using hk) (by simpa[fp₂,g1] using bS)
 ·rcases old hj with⟨rfl,rfl⟩|⟨h1,h2⟩
  ·exact .inr ⟨_,_,hi,hm,Ix k (by simpa[fp₂] using hk)⟩
  ·exact .inr ⟨j,r',h2,hjm,by simpa[fp₂,h1] using hk⟩
 ·rcases old hj with⟨rfl,rfl⟩|⟨h1,h2⟩
  ·exact .inr ⟨_,_,hi,Ix k (by simpa[fp₂] using hk)⟩
  ·exact .inr ⟨j,r',h2,by simpa[fp₂,h1] using hk⟩
theorem SC.mono {R R':SV→List aq→Prop}(h:SC V f args bs R)(k:∀ r bs',R r bs'→R' r bs'):SC V f args bs R':=by
 refine⟨h.1,fun β fp w nU hG hE=>(h.2 β fp w nU hG hE).mono ?_⟩;rintro e w' ⟨r,bs',β₂,fp₂,hR,h2⟩;exact⟨r,bs',β₂,fp₂,k _ _ hR,h2⟩
theorem aB (b:List aq)(X:aq):(b++[X])[b.length]? = some X:=by simp
theorem ad {b:List aq}{j:Nat}{r:aq}(h:b[j]? = some r)(X:List aq):(b++X)[j]? = some r:=by
 rw[zRt ((zRq.1 h).1)];exact h
def Sl (e s L:Nat)(x:SV)(b:List aq)(c:List SV)(n:Nat):Prop:=(x=.ai∧c=[]∧n=0)∨∃ j,x=.o j n∧L≤j∧b[j]? = some (.own c e s n true)
def Kp (bs b:List aq):Prop:=bs.length≤b.length∧∀ k,k<bs.length→b[k]? = bs[k]?
theorem Kp.refl (bs:List aq):Kp bs bs:=⟨zRu _,fun _ _=>rfl⟩
theorem Kp.trans {a b c:List aq}(h:Kp a b)(k:Kp b c):Kp a c:=⟨Nat.le_trans h.1 k.1,fun i hi=>(k.2 i (Nat.lt_of_lt_of_le hi h.1)).trans (h.2 i hi)⟩
theorem Kp.app {bs b:List aq}(h:Kp bs b)(X:List aq):Kp bs (b++X):=⟨by rw[List.length_append];have:=h.1;omega,fun k hk=>by rw[zRt (by have:=h.1;omega)];exact h.2 k hk⟩
theorem Kp.set {bs b:List aq}(h:Kp bs b){j:Nat}(hj:bs.length≤j)(X:aq):Kp bs (b.set j X):=⟨by rw[zSb];exact h.1,fun k hk=>by rw[zRr QA];exact h.2 k hk⟩
theorem Kp.at {bs b:List aq}(h:Kp bs b){j:Nat}{r:aq}(hj:bs[j]? = some r):b[j]? = some r:=(h.2 j ((zRq.1 hj).1)).trans hj
theorem Sl.app {e s L:Nat}{x:SV}{b:List aq}{c:List SV}{n:Nat}(h:Sl e s L x b c n)(X:List aq):Sl e s L x (b++X) c n:=by
 rcases h with h|⟨j,h1,h2,h3⟩
 ·exact .inl h
 ·exact .inr ⟨j,h1,h2,ad h3 X⟩
theorem fK {α:Type}(b:List α)(X Y:α):(b++[X]).set b.length Y=b++[Y]:=by simp
theorem ug {α:Type}(b:List α)(X Y Z:α):(b++[X]++[Y]).set b.length Z=b++[Z]++[Y]:=by simp
theorem rM {α:Type}(b:List α)(X Y Z W:α):(b++[X]++[Y]++[W]).set b.length Z=b++[Z]++[Y]++[W]:=by simp
theorem vD {α:Type}(b:List α)(X Y:α):(b++[X]++[Y])[b.length]? = some X:=by simp
theorem oA {α:Type}(b:List α)(X Y Z:α):(b++[X]++[Y]++[Z])[b.length]? = some X:=by simp
theorem vC {α:Type}(b:List α)(X Y Z W:α):(b++[X]++[Y]++[Z]++[W])[b.length]? = some X:=by simp
theorem P9 {α:Type}(b:List α)(X Y Z W U:α):(b++[X]++[Y]++[Z]++[W]++[U])[b.length]? = some X:=by simp
def kC:=zRp (zRp (@aB) (zRp (@vD) (@oA))) (zRp (zRp (@vC) (@P9)) (zRp (@fK) (zRp (@ug) (@rM))))
theorem gB {P Q H : Prop} (hs : H) (h : Q) (e : H → P = Q := by intro hs; simp only[bJ,↓Xn,↓Xo,↓Xg,↓Xd,↓Xe,↓Xf,Tryz.VΓ,Tryz.Γs,Xp,Xi,Nat.reduceAdd,Nat.reduceSub,Nat.reduceLT,Nat.reduceLeDiff,reduceIte,reduceCtorEq,Nat.reduceEqDiff,implies_true,forall_const,bI,kC,beq_self_eq_true,bne_self_eq_false,Int.reduceBEq,Int.reduceBNe,Int.reduceLT,Int.reduceLE,hs] <;> rfl) : P := (e hs).symm ▸ h
theorem iC {P Q : Prop} (h : Q) (e : P = Q := by simp only[bJ,↓Xn,↓Xo,↓Xg,↓Xd,↓Xe,↓Xf,Tryz.VΓ,Tryz.Γs,Xp,Xi,Nat.reduceAdd,Nat.reduceSub,Nat.reduceLT,Nat.reduceLeDiff,reduceIte,reduceCtorEq,Nat.reduceEqDiff,implies_true,forall_const,bI,kC,beq_self_eq_true,bne_self_eq_false,Int.reduceBEq,Int.reduceBNe,Int.reduceLT,Int.reduceLE] <;> rfl) : P := e.symm ▸ h
theorem gC {P Q H : Prop} (hs : H) (h : Q) (e : H → P = Q := by intro hs; simp only[bJ,↓Xn,↓Xo,↓Xg,↓Xd,↓Xe,↓Xf,Tryz.VΓ,Tryz.Γs,Xp,Xi,Nat.reduceAdd,Nat.reduceSub,Nat.reduceLT,Nat.reduceLeDiff,reduceIte,reduceCtorEq,Nat.reduceEqDiff,implies_true,forall_const,bI,kC,hs] <;> rfl) : P := (e hs).symm ▸ h
theorem JU {P Q : Prop} (h : Q) (e : P = Q := by simp only[bJ,↓Xn,↓Xo,↓Xg,↓Xd,↓Xe,↓Xf,Tryz.VΓ,Tryz.Γs,Xp,Xi,Nat.reduceAdd,Nat.reduceSub,Nat.reduceLT,Nat.reduceLeDiff,reduceIte,reduceCtorEq,Nat.reduceEqDiff,implies_true,forall_const,bI,kC] <;> rfl) : P := e.symm ▸ h
end Vc
namespace Go.Proofs.YtnmlimehgifadaaGreatDoor
open Go Vc Go.RowKit Wf
open Go.ChangeShapes Go.WideShapes Go.ChangeAt
open Go.WideMaps Go.WideElems
theorem Oz {w:World}{b off:Nat}{xs ys:List Value}(h1:rF w b off xs)(h2:rF w b (off+xs.length) ys):rF w b off (xs++ys):=fun j v hv=>by
 rcases zRJ j xs.length with h|h
 ·rw[zRt h]at hv
  exact h1 j v hv
 ·rw[zRL h]at hv
  have:=h2 (j - xs.length) v hv
  rwa [show off+xs.length+(j - xs.length)=off+j by omega]at this
theorem CJ {ρ:Type}{w:World}{b s:Nat}(vs:ρ→List Value):∀ (L:List ρ)(off:Nat),(∀ r∈L,(vs r).length=s)→(∀ (i:Nat) (r:ρ),L[i]? = some r→rF w b (off+i * s) (vs r))→rF w b off (L.flatMap vs)
 | [],_,_,_=>fun j v hv=>by simp at hv
 | r::L,off,hs,h=>by
   rw[zRC];refine Oz (by simpa using h 0 r rfl) (CJ vs L _ (fun q hq=>hs q (zRN _ hq)) (fun i q hq=>?_));have:=h (i+1) q hq
   rw[hs r zRD];rwa [show off+s+i * s=off+(i+1) * s by rw[Nat.add_mul];omega]
theorem CY {ρ:Type}{s:Nat}(vs:ρ→List SV):∀ (L:List ρ),(∀ r∈L,(vs r).length=s)→(L.flatMap vs).length=L.length * s
 | [],_=>QB
 | r::L,hs=>by
   rw[zRC,List.length_append,hs r zRD,CY vs L (fun q hq=>hs q (zRN _ hq)),zR8,Nat.add_mul];omega
section
variable {H:Type} {enc:TypeId × Value→H} {P:Program} {w:World} {held:Bool}
theorem LY {ρ:Type}(dflt:ρ)(cl:ρ→List SV)(dt:ρ→DataW H)(Q:ρ→Prop)(nT:∀ r,flat.ah (cl r)=true){t e:TypeId}{s:Nat}(ht:P.underlying t=some (.slice e))(hs:P.cellsOf e=s)
 (iO:∀ fuel cs x,DataW.trod enc P w 0 (fun _=>true) held fuel e cs=some x→∃ r,cs=aZ nX (cl r)∧x.1=dt r∧Q r)
 {rch:Reach} {b0:Nat} {v:Value} {n:Nat} {x:DataW H × List MemPlace} (cn:Cell.okWide P w rch b0 t v) (h:DataW.trod enc P w 0 (fun _=>true) held n t [v]=some x) :
 ∃ (b:Bt) (L:List ρ),v=oV b L.length∧L.length≤9223372036854775807∧((x.1=.nil∧L=[])∨∃ sp',x.1=.slice (L.map dt) sp')∧(∀ β,Holds β b (fun k=>k=b.fy∧b.cap≠0) w (.own (L.flatMap cl) e s L.length false))∧(b.cap≠0→b.fy<w.heap.size)∧∀ r∈L,Q r:=by
 obtain⟨a0,len0,cap0,rfl⟩:∃ a len cap,v=.slice a len cap:=by
  simp only[Cell.okWide,ht]at cn;cases v <;> simp_all [Cell.ok]
 have hf:=h;rcases Go.Deep.open_slice ht hf with⟨hv,hx⟩|⟨a,len,cap,m,n,D,Pl,hv,hb,hl,hm,jW,hx,Iy⟩
 ·simp only[zRE.injEq,Value.slice.injEq,and_true]at hv
  obtain⟨rfl,rfl,rfl⟩:=hv;exact⟨⟨0,0,0⟩,[],by simp[oV],QB,.inl ⟨by rw[hx],rfl⟩,fun β=>.inl ⟨rfl,rfl,rfl,QB⟩,fun k=>absurd rfl k,fun _ hr=>absurd hr QB⟩
 ·simp only[zRE.injEq,Value.slice.injEq,and_true]at hv
  obtain⟨rfl,rfl,rfl⟩:=hv;have hhas:w.has P rch b0 a e cap0:=by
   simp only[Cell.okWide,ht,Cell.ok]at cn;exact cn.2.2
  obtain⟨-,hspot,row,cells,JA,-⟩:=hhas;obtain⟨fy,off,spot⟩:=a;simp only at hspot JA;subst hspot;have hblk:fy<w.heap.size:=by
   rcases zRJ fy w.heap.size with h' | h'
   ·exact h'
   ·unfold World.shape? at JA
    simp[Array.getElem?_eq_none h']at JA
  have hmc:m=cap0:=by rw[jW];simp
  subst hmc;haveI:Inhabited ρ:=⟨dflt⟩
  obtain⟨R,hR⟩:=Go.Deep.choose_lt (α:=ρ) (n:=len0) (p:=fun i r=>(∀ q v,(aZ nX (cl r))[q]? = some v→w.cell? ⟨fy,off+i * s+q,none⟩=some v)∧(cl r).length=s∧D i=dt r∧Q r) (fun i hi=>by
   obtain⟨cs',h1,h2⟩:=Iy i QA;obtain⟨r,rfl,hd,hQ⟩:=iO n cs' _ h2;rw[hs]at h1;obtain⟨-,h3,h4⟩:=World.cells?_some h1;rw[cu,zR0]at h3;refine⟨r,fun q v hv=>?_,h3,hd,hQ⟩;have hq:q<s:=by
    have:=(zRq.1 hv).1
    rwa [cu,zR0,h3]at this
   have:=h4 q hq
   rw[fe,fe]at this;rw[this];exact hv)
  have hlen:((zR1 len0).map R).length=len0:=by simp
  have br:∀ r∈(zR1 len0).map R,(cl r).length=s:=by
   intro r hr;obtain⟨i,hi,rfl⟩:=List.mem_map.1 hr;exact(hR i (List.mem_range.1 hi)).2.1
  have hmx:m≤9223372036854775807:=by unfold maxLen at hm;simpa using hm
  have hlies:∀ β,rF w fy off ((((zR1 len0).map R).flatMap cl).map (aj β)):=fun β=>by
   have e1:(((zR1 len0).map R).flatMap cl).map (aj β)=((zR1 len0).map R).flatMap fun r=>aZ β (cl r):=by
    rw[List.map_flatMap];congr 1
    funext r
    rw[cu]
   rw[e1];refine CJ (s:=s) _ _ _ (fun r hr=>by rw[cu,zR0];exact br r hr) (fun i r hr q v hv=>?_);have hi:i<len0:=by
    have:=(zRq.1 hr).1
    simpa using this
   have KN:R i=r:=by simpa[hi] using hr
   subst KN;rw[eX _ (nT _) β nX]at hv;have:=(hR i hi).1 q v hv
   simpa[Nat.add_assoc] using this
  refine⟨⟨fy,off,m+1⟩,(zR1 len0).map R,by simp[oV],by rw[hlen];omega,.inr ⟨(zR1 (m - len0)).map fun j=>D (len0+j),?_⟩,fun β=>.inr ⟨QB,by simpa using hl,by simpa using hm,CY cl _ br,hlies β,(fun hm=>absurd hm QB),fun k=>QB⟩,fun _=>hblk,fun r hr=>by
   obtain⟨i,hi,rfl⟩:=List.mem_map.1 hr;exact(hR i (List.mem_range.1 hi)).2.2.2⟩
  have hD:(zR1 len0).map D=((zR1 len0).map R).map dt:=by
   rw[List.map_map];exact zSa fun i hi=>(hR i (List.mem_range.1 hi)).2.2.1
  rw[hx,hD]
end
theorem ok_cell {P:Program}{w:World}{r:Reach}{b:Nat}{t e:TypeId}{v:Value}(ht:P.underlying t=some (.slice e))(h:Value.okWide P w r b t v):Cell.okWide P w r b t v:=by
 simpa only[Value.okWide,ht] using h
theorem SC.law {V:Cx}{f:FuncId}{args:List SV}{l:List (Bt × aq)}(h:SC V f args (l.map (·.2)) (fun r _=>r=.bool true)){w:World}(hE:V.E w)
 (hh:∀ x∈l,x.2.dD=false∧(∀ β,Holds β x.1 (fun k=>k=x.1.fy∧x.1.cap≠0) w x.2)∧(x.1.cap≠0→x.1.fy<w.heap.size)) :
 Calls V.P f (aZ (fun i=>((l[i]?).map (·.1)).getD (nX 0)) args).toArray w fun e w'=>e=.returned (.bool true)∧Below w.heap.size w w':=by
 have tE:∀ (i:Nat) (r:aq),(l.map (·.2))[i]? = some r→r.dD=false:=fun i r hi=>by
  rw[List.getElem?_map,zR4]at hi;obtain⟨x,hx,rfl⟩:=hi;exact(hh x (List.mem_of_getElem? hx)).1
 obtain⟨β,hβ0⟩:∃ β:Nat→Bt,β=fun i=>((l[i]?).map (·.1)).getD (nX 0):=⟨_,rfl⟩
 rw[← hβ0];obtain⟨fp,Ho⟩:∃ fp:Nat→Nat→Prop,∀ i k,fp i k↔∃ x,l[i]? = some x∧k=x.1.fy∧x.1.cap≠0:=⟨fun i k=>∃ x,l[i]? = some x∧k=x.1.fy∧x.1.cap≠0,fun _ _=>Iff.rfl⟩;have nU:∀ β',cP (l.map (·.2)).length β β'→Im β' fp w (l.map (·.2)):=fun β' hβ=>by
  refine Im.mk ?_ ?_ ?_
  ·intro i r hi
   rw[List.getElem?_map,zR4]at hi;obtain⟨x,hx,rfl⟩:=hi;have hb:β' i=x.1:=by
    have:=hβ i (by simpa using(zRq.1 hx).1)
    rw[← this,hβ0];simp[hx]
   rw[hb];have h2:=(hh x (List.mem_of_getElem? hx)).2.1 β';have e:fp i=fun k=>k=x.1.fy∧x.1.cap≠0:=by
    funext k
    exact propext ⟨fun h=>by obtain⟨y,hy,h1⟩:=(Ho i k).1 h;rw[hx]at hy;cases hy;exact h1,fun h=>(Ho i k).2 ⟨x,hx,h⟩⟩
   rw[e];exact h2
  ·intro i r hi k hk
   obtain⟨x,hx,rfl,hc⟩:=(Ho i k).1 hk;exact(hh x (List.mem_of_getElem? hx)).2.2 hc
  ·intro i j r r' hi hj _ hm
   rw[tE i r hi,tE j r' hj]at hm;simp at hm
 refine(h.2 β fp w nU ?_ hE).mono ?_
 ·intro i r hi hm
  rw[tE i r hi]at hm;cases hm
 ·rintro e w' ⟨r,bs',β₂,fp₂,rfl,Bc,hle,br,nM,-⟩
  refine⟨by have:=(br β₂ (cP.refl _ _)).1;simpa[aj] using this,?_⟩;refine(nM.mono (own':=fun _=>False) ?_).below;rintro k ⟨i,r,hi,hm,-⟩;rw[tE i r hi]at hm;cases hm
open Go.RowKit Wf
attribute [local go_sem] fN eY get_list
theorem HM (r:Int)(h1:128≤r)(h4:Lib.validRune r=true):∃ el:Bytes,Utf8.encode r=⟨zRn el⟩∧2≤el.length∧el.length≤4∧∀ h:el.length - 1<el.length,128≤el[el.length - 1].toNat:=by
 have hv:Utf8.valid r=true:=by
  unfold Lib.validRune at h4;have:=of_decide_eq_true h4
  unfold Utf8.valid;simp
  omega
 obtain⟨n,rfl⟩:=Int.eq_ofNat_of_zero_le (show 0≤r by omega);have hn:128≤n:=QA;have key:∀ m:Nat,128≤(UInt8.ofNat (0x80+m % 64)).toNat:=by
  intro m;rw[UInt8.toNat_ofNat'];omega
 unfold Utf8.encode;rw[if_pos hv];simp only[zR6];rw[if_neg (show ¬ n<128 by omega)];split
 ·exact⟨_,rfl,QB,QB,fun _=>key _⟩
 ·split
  ·exact⟨_,rfl,QB,QB,fun _=>key _⟩
  ·exact⟨_,rfl,QB,QB,fun _=>key _⟩
theorem En (l:Bytes)(c:UInt8)(h:∀ b∈l,b≠c):Lib.indexByte l c=-1:=by
 induction l with
 | nil=>rfl
 | cons b l ih =>
   have h1:=h b QB;have h2:=ih fun x hx=>h x (by simp[hx])
   simp[Lib.indexByte,h1,h2]
set_option maxRecDepth 100000 in
theorem BF (l:Bytes)(w:World)(ha:∀ i (h:i<l.length),l[i].toNat<128)(hl:l.length≤1000000) :
 Calls Tryz.prog 247 #[(Value.string ⟨zRn (l)⟩),.int .i32 65533] w fun e w'=>e=.returned (.int .i64 (-1))∧Below w.heap.size w w':=by
 go_enter func247,ntmps247
 have Ha:=hid ha;clear ha;go_wp2_with fail
 go_loopw [] (fun wr=>∃ i:Nat,i≤l.length∧wr=w.iter ⟨zRn l⟩ i) (fun wr=>l.length - wr.iterPos w.heap.size)
 case atStart=>exact⟨0,QA,rfl⟩
 case round =>
  obtain⟨i,hi,rfl⟩:=hrel;by_cases az:i<l.length
  ·have hnx:=fun ty=>run_next_ascii (P:=Tryz.prog) w ⟨zRn l⟩ i ty az (Ha.out i az)
   have hb:=Ha.out i az;have hx:((l[i].toNat:Int)==65533)=false:=beq_eq_false_iff_ne.2 QA;simp only[get_list]at hnx;go_wp2_with fail
   go_roundw
   case rel=>exact⟨i+1,QA,rfl⟩
   case measure=>simp;omega
  ·have hnx:=run_next_end (P:=Tryz.prog) w ⟨zRn l⟩ i
   have lZ:l.length≤i:=QA;go_wp2_with fail
   go_ret
   exact⟨rfl,(Below.refl _ _).alloc (zRu _) _⟩
set_option maxRecDepth 100000 in
theorem BG (l:Bytes)(r:Int)(w:World)(h1:128≤r)(h2:r≤2147483647)(h3:(r==65533)=false)(h4:Lib.validRune r=false) :
 Calls Tryz.prog 247 #[(Value.string ⟨zRn (l)⟩),.int .i32 r] w fun e w'=>e=.returned (.int .i64 (-1))∧Below w.heap.size w w':=by
 have h5:=hid h4;go_enter func247,ntmps247
 go_wp2_with (go_at_call 278;refine(Tryz.utf8_ValidRune _ _).mono ?_;rintro e w' ⟨rfl,rfl⟩)
 go_ret
 exact⟨rfl,Below.refl _ _⟩
set_option maxRecDepth 100000 in
theorem zY (l:Bytes)(r:Int)(w:World)(ha:∀ i (h:i<l.length),l[i].toNat<128)(hl:l.length≤1000000)(h1:128≤r)(h2:r≤2147483647)(h3:(r==65533)=false)(h4:Lib.validRune r=true) :
 Calls Tryz.prog 247 #[(Value.string ⟨zRn (l)⟩),.int .i32 r] w fun e w'=>e=.returned (.int .i64 (-1))∧Below w.heap.size w w':=by
 have Ha:=hid ha;clear ha;go_enter func247,ntmps247
 go_wp2_with (go_at_call 278;refine(Tryz.utf8_ValidRune _ _).mono ?_;rintro e w' ⟨rfl,rfl⟩)
 go_step3
 go_wp2_with fail
 obtain⟨el,Iy,he1,he2,Pe⟩:=HM r h1 h4;have He3:=hid Pe;clear Pe;rw[Iy];have hx:wrap64 ((ByteArray.size ⟨zRn el⟩:Int) - 1)=((el.length - 1:Nat):Int):=by
  have:ByteArray.size ⟨zRn el⟩=el.length:=rfl
  rw[this,IntWalk.wrap64_in _ ⟨QA,QA⟩];omega
 rw[hx];clear Iy hx h1 h2 h3 h4;refine wp_loop_once ?_;by_cases az:el.length - 1<l.length
 ·have hle:el.length - 1<el.length:=QA
  have hbt:=Ha.out _ az;have hc:=He3.out QA;have bF:((l[el.length - 1].toNat:Int) != (el[el.length - 1].toNat:Int))=true:=by rw[bne_iff_ne];omega
  have tE:=En (l.drop (el.length - 1+1)) el[el.length - 1] (fun b hb hx=>by
   obtain⟨j,hj,rfl⟩:=List.mem_iff_getElem.1 hb;rw[List.getElem_drop]at hx;have h1:=Ha.out (el.length - 1+1+j) (by simp at hj;omega);rw[hx]at h1;omega)
  have Hno:=hid tE;clear tE;go_wp2_with fail
  go_step3
  go_wp2_with fail
  go_quiet (fail)
  go_wp2_with fail
  have hb:Below w'.heap.size w' (w'.drewN nq):=below_drewN (Below.refl _ _) _;generalize w'.drewN nq=w2 at hb ⊢;have uY:IntKind.i64.wrap (((el.length - 1:Nat):Int)+1)=((el.length - 1:Nat):Int)+1:=IntWalk.i64_in _ QA;have fI:(0:Int)≤((el.length - 1:Nat):Int)+1:=QA;have CO:(((el.length - 1:Nat):Int)+1).toNat=el.length - 1+1:=QA;have hs4:((el.length - 1:Nat):Int)+1≤(l.length:Int):=QA;go_quiet ((go_at_call 209;refine Calls.quiet_of_same (Tryz.strings_IndexByte _ _ _)))
  clear uY fI CO hs4;rw[show ((el[el.length - 1].toNat:Int)).toNat.toUInt8=el[el.length - 1] from by simp,Hno.out];go_wp2_with fail
  rw[Exit.noGoto_ret];go_wp2_with fail
  rw[Exit.noGoto_ret];go_ret
  exact⟨rfl,below_drewN hb _⟩
 ·go_wp2_with fail
  rw[Exit.noGoto_ret];go_ret
  exact⟨rfl,Below.refl _ _⟩
theorem Jn (s:ByteArray)(set:Bytes)(i k:Nat)(hn:Lib.NoAny s.data.toList set i)(eU:∀ j (h:j<set.length),set[j].toNat<128)(hh:∀ j,i≤j→j<i+k→∀ h:j<s.size,128≤s[j].toNat):Lib.NoAny s.data.toList set (i+k):=by
 intro j b hj hb;by_cases oo:j<i
 ·exact hn j b oo hb
 ·obtain⟨hjs,rfl⟩:=zRq.1 hb
  have hs:j<s.size:=by rw[Lib.size_eq];exact hjs
  have h1:128≤(s.data.toList[j]).toNat:=hh j QA hj hs;rw[Bool.eq_false_iff];intro hc;have o8:=zR7.1 hc;obtain⟨q,hq,he⟩:=List.mem_iff_getElem.1 o8;have h2:=eU q hq;rw[he]at h2;omega
theorem PB (s:ByteArray)(j:Nat)(h:j<s.size):(s.get! j).toNat=s[j].toNat:=by
 have:=get_at s j h
 rw[Nat.add_zero]at this;rw[this]
theorem lC (s:ByteArray)(j:Nat)(h:(decide (j<s.size)&&(s.get! j).toNat / 64==2)=true):j<s.size∧∀ h:j<s.size,128≤s[j].toNat:=by
 simp only[zRF,decide_eq_true_eq,beq_iff_eq]at h;refine⟨h.1,fun hj=>?_⟩;have:=h.2
 rw[PB s j hj]at this;omega
def Span (s:ByteArray)(i:Nat)(p:Nat × Nat):Prop:=i+p.2≤s.size∧∀ j,i≤j→j<i+p.2→∀ h:j<s.size,128≤s[j].toNat
theorem HT (s:ByteArray)(i:Nat)(h:i<s.size)(hx:128≤s[i].toNat):Span s i (Utf8.decode s i):=by
 have one:∀ e,Span s i (e,1):=fun e=>⟨by dsimp only;omega,fun j h1 h2 h3=>by
  dsimp only at h2
  obtain rfl:j=i:=QA;exact hx⟩
 unfold Utf8.decode;dsimp only
 split
 ·exact one _
 split
 ·rename_i hc
  simp only[zRF]at hc;have c1:=lC s (i+1) (by simpa using hc.2);split
  ·refine⟨by dsimp only;omega,fun j h1 h2 h3=>?_⟩
   dsimp only at h2
   rcases zRJ j (i+1) with h' | h'
   ·exact(one 0).2 j h1 h' h3
   ·obtain rfl:j=i+1:=QA
    exact c1.2 h3
  ·exact one _
 ·split
  ·rename_i hc
   simp only[zRF]at hc;have c1:=lC s (i+1) (by simpa using hc.1.2);have c2:=lC s (i+2) (by simpa using hc.2);split
   ·refine⟨by dsimp only;omega,fun j h1 h2 h3=>?_⟩
    dsimp only at h2
    rcases zRJ j (i+1) with h' | h'
    ·exact(one 0).2 j h1 h' h3
    ·rcases zRJ j (i+2) with h'' | h''
     ·obtain rfl:j=i+1:=QA
      exact c1.2 h3
     ·obtain rfl:j=i+2:=QA
      exact c2.2 h3
   ·exact one _
  ·split
   ·rename_i hc
    simp only[zRF]at hc;have c1:=lC s (i+1) (by simpa using hc.1.1.2);have c2:=lC s (i+2) (by simpa using hc.1.2);have c3:=lC s (i+3) (by simpa using hc.2);split
    ·refine⟨by dsimp only;omega,fun j h1 h2 h3=>?_⟩
     dsimp only at h2
     rcases zRJ j (i+1) with h' | h'
     ·exact(one 0).2 j h1 h' h3
     ·rcases zRJ j (i+2) with h'' | h''
      ·obtain rfl:j=i+1:=QA
       exact c1.2 h3
      ·rcases zRJ j (i+3) with h4|h4
       ·obtain rfl:j=i+2:=QA
        exact c2.2 h3
       ·obtain rfl:j=i+3:=QA
        exact c3.2 h3
    ·exact one _
   ·exact one _
theorem BH (l:Bytes)(r:Int)(w:World)(ha:∀ i (h:i<l.length),l[i].toNat<128)(hl:l.length≤1000000)(h1:128≤r)(h2:r≤2147483647) :
 Calls Tryz.prog 247 #[(Value.string ⟨zRn (l)⟩),.int .i32 r] w fun e w'=>e=.returned (.int .i64 (-1))∧Below w.heap.size w w':=by
 by_cases h3:r=65533
 ·subst h3
  exact BF l w ha hl
 ·cases h4:Lib.validRune r
  ·exact BG l r w h1 h2 (beq_eq_false_iff_ne.2 h3) h4
  ·exact zY l r w ha hl h1 h2 (beq_eq_false_iff_ne.2 h3) h4
theorem zX {w:World}{k:Nat}{s:ByteArray}{p:Nat}(h:w.heap[k]? = some (.stringIter s p)):w.iterPos k=p:=by unfold World.iterPos;rw[h]
set_option maxRecDepth 100000 in
theorem zZ (s l:Bytes)(w:World)(ha:∀ i (h:i<l.length),l[i].toNat<128)(hl:l.length≤1000000)(h2:2≤l.length)(h8:s.length≤8) :
 Calls Tryz.prog 206 #[(Value.string ⟨zRn (s)⟩),(Value.string ⟨zRn (l)⟩)] w fun e w'=>e=.returned (.int .i64 (Lib.indexAny s l))∧Below w.heap.size w w':=by
 have Ha:=hid ha;clear ha;have hemp:l.isEmpty=false:=by cases l <;> simp at h2 ⊢
 have uZ:((l.length:Int)==1)=false:=beq_eq_false_iff_ne.2 QA;have h8z:decide ((8:Int)<(s.length:Int))=false:=QG;go_enter func206,ntmps206
 go_wp2_with (go_at_call 248;refine(Tryz.strings_shouldUseASCIISet _ _).mono ?_;rintro e w' ⟨rfl,hw⟩;rw[hw,h8z])
 go_loopw [] (fun wr=>∃ i:Nat,i≤s.length∧wr.heap[w.heap.size]? = some (.stringIter ⟨zRn s⟩ i)∧Below w.heap.size w wr∧Lib.NoAny s l i) (fun wr=>s.length - wr.iterPos w.heap.size)
 case atStart=>exact⟨0,QA,World.iter_heap _ _ _,(Below.refl _ _).alloc (zRu _) _,Lib.NoAny.zero _ _⟩
 case round =>
  obtain⟨i,hi,hit,jF,tE⟩:=hrel;have Hit:=hid hit;have Hbl:=hid jF;have Hno:=hid tE;clear hit jF tE;have rb:wr.iterPos w.heap.size=i:=by unfold World.iterPos;rw[Hit.out]
  have Hpos:=hid rb;clear rb;have Eu:w.heap.size<wr.heap.size:=(Array.getElem?_eq_some_iff.1 Hit.out).1;by_cases az:i<s.length
  ·by_cases hx:s[i].toNat<128
   ·have hnx:=fun ty=>Lib.run_next_ascii_at (P:=Tryz.prog) wr w.heap.size ⟨zRn s⟩ i ty Hit.out az hx
    simp only[get_list]at hnx;have Mw:=Lib.contains_iff_indexByte l s[i];have kQ:((s[i].toNat:Int)).toNat.toUInt8=s[i]:=by simp
    cases xS:l.contains s[i]
    ·rw[xS]at Mw
     have Et:¬ ((0:Int)≤Lib.indexByte l s[i]):=of_decide_eq_false Mw.symm;clear Mw;go_wp2_with (go_at_call 247;refine(Tryz.strings_IndexRune_ascii _ _ _ QA QA).mono ?_;rintro e w' ⟨rfl,hw⟩;rw[hw,kQ])
     have hk:=Lib.iterAt_heap wr w.heap.size ⟨zRn s⟩ i (i+1) Hit.out;have o6:(⟨zRn s⟩:ByteArray).data.toList[i]? = some s[i]:=zRy az;refine⟨⟨i+1,QA,hk,Lib.below_iterAt Hbl.out (zRu _) _ _,Hno.out.succ o6 xS⟩,?_⟩;rw[zX hk,Hpos.out];omega
    ·rw[xS]at Mw
     have sL:((0:Int)≤Lib.indexByte l s[i]):=of_decide_eq_true Mw.symm;clear Mw;go_wp2_with (go_at_call 247;refine(Tryz.strings_IndexRune_ascii _ _ _ QA QA).mono ?_;rintro e w' ⟨rfl,hw⟩;rw[hw,kQ])
     have o6:s[i]? = some s[i]:=zRy az;go_ret
     exact⟨yw (by rw[Lib.indexAny_hit Hno.out o6 xS]),Lib.below_iterAt Hbl.out (zRu _) _ _⟩
   ·have hnx:=fun ty=>Lib.run_next_any_at (P:=Tryz.prog) wr w.heap.size ⟨zRn s⟩ i ty Hit.out az
    have hd:=decode_high ⟨zRn s⟩ i az (by simp only[get_list];omega);have vK:=decode_le ⟨zRn s⟩ i;go_wp2_with (go_at_call 247;refine(BH l _ _ Ha.out hl QA QA).mono ?_;rintro e w' ⟨rfl,hw⟩)
    have q8:=HT ⟨zRn s⟩ i az (by simp only[get_list];omega);have hk:=Lib.iterAt_heap wr w.heap.size ⟨zRn s⟩ i (i+(Utf8.decode ⟨zRn s⟩ i).2) Hit.out;have bS:=(hw.block w.heap.size (by rw[Lib.iterAt_size];exact Eu)).trans hk;have hle:i+(Utf8.decode ⟨zRn s⟩ i).2≤s.length:=q8.1;refine⟨⟨_,hle,bS,(Lib.below_iterAt Hbl.out (zRu _) _ _).trans (hw.mono (by rw[Lib.iterAt_size];omega)),Jn ⟨zRn s⟩ l i _ Hno.out Ha.out q8.2⟩,?_⟩;rw[zX bS,Hpos.out];omega
  ·have hnx:=fun ty=>Lib.run_next_end_at (P:=Tryz.prog) wr w.heap.size ⟨zRn s⟩ i ty Hit.out az
   go_wp2_with fail
   go_ret
   exact⟨yw (by rw[Lib.indexAny_none (by rw[show s.length=i by omega];exact Hno.out)]),Hbl.out⟩
theorem strings_IndexAny (s l:Bytes)(w:World)(ha:∀ i (h:i<l.length),l[i].toNat<128)(hl:l.length≤1000000)(h2:2≤l.length)(hs:s.length<4294967281) :
 Calls Tryz.prog 206 #[(Value.string ⟨zRn (s)⟩),(Value.string ⟨zRn (l)⟩)] w fun e w'=>e=.returned (.int .i64 (Lib.indexAny s l))∧Below w.heap.size w w':=by
 rcases zRJ 8 s.length with h8|h8
 ·refine(Tryz.strings_IndexAny_long (fun _=>QE) ⟨zRn s⟩ ⟨zRn l⟩ w h2 h8 hs (show l.length<4294967281 by omega) (fun j b hb=>?_)).mono ?_
  ·obtain⟨hj,rfl⟩:=zRq.1 hb
   exact ha j hj
  ·rintro e w' ⟨rfl,rfl⟩
   exact⟨rfl,((Below.refl _ _).alloc (zRu _) _).alloc QB _⟩
 ·exact zZ s l w ha hl h2 h8
open Go.RowKit Wf
attribute [local go_sem] fN eY get_list
theorem ct (c:UInt8)(w:World):Calls Tryz.prog 252 #[.int .u8 c.toNat] w fun e w'=>e=.returned (.bool (isDigit c))∧w=w':=by
 go_enter func252,ntmps252
 go_wp2
 all_goals
  go_ret
  refine⟨bB ?_,rfl⟩;have hb:=Jk c;have hc:=c.toNat_lt;rw[zRO];simp[isDigit];try omega
theorem dM (c:UInt8)(w:World):Calls Tryz.prog 251 #[.int .u8 c.toNat] w fun e w'=>e=.returned (.bool (isAlpha c))∧w=w':=by
 go_enter func251,ntmps251
 go_wp2
 all_goals
  go_ret
  refine⟨bB ?_,rfl⟩;have hb:=Jk c;have hc:=c.toNat_lt;rw[zRO];simp[isAlpha];try omega
theorem eT (c:UInt8)(w:World):Calls Tryz.prog 255 #[.int .u8 c.toNat] w fun e w'=>e=.returned (.bool (aR c))∧w=w':=by
 go_enter func255,ntmps255
 go_wp2
 all_goals
  go_ret
  refine⟨bB ?_,rfl⟩;have hb:=Jk c;have hc:=c.toNat_lt;rw[zRO];simp[aR];try omega
theorem eN (c:UInt8)(w:World):Calls Tryz.prog 148 #[.int .u8 c.toNat] w fun e w'=>e=.returned (.bool (isDigit c))∧w=w':=by
 go_enter func148,ntmps148
 go_wp2
 all_goals
  go_ret
  refine⟨bB ?_,rfl⟩;have hb:=Jk c;have hc:=c.toNat_lt;rw[zRO];simp[isDigit];try omega
theorem j5 (c:UInt8)(w:World):Calls Tryz.prog 147 #[.int .u8 c.toNat] w fun e w'=>e=.returned (.bool (isAlpha c))∧w=w':=by
 go_enter func147,ntmps147
 go_wp2
 all_goals
  go_ret
  refine⟨bB ?_,rfl⟩;have hb:=Jk c;have hc:=c.toNat_lt;rw[zRO];simp[isAlpha];try omega
theorem F6 (c:UInt8)(w:World):Calls Tryz.prog 151 #[.int .u8 c.toNat] w fun e w'=>e=.returned (.bool (aR c))∧w=w':=by
 go_enter func151,ntmps151
 go_wp2
 all_goals
  go_ret
  refine⟨bB ?_,rfl⟩;have hb:=Jk c;have hc:=c.toNat_lt;rw[zRO];simp[aR];try omega
open Go.RowKit Wf
def u8V (b:UInt8):Value:=.int .u8 b.toNat
def jO (w:World)(b:Nat)(l:Bytes):Prop:=∃ (rest:List Value) (T:TypeId) (fz:Nat × Nat),w.heap[b]? = some (.cells (l.map u8V++rest).toArray T fz)∧(l.length≤fz.1∨fz.2≤fz.1)
theorem jO.cell {w:World}{b:Nat}{l:Bytes}(h:jO w b l){k:Nat}(hk:k<l.length):w.cell? ⟨b,k,none⟩=some (.int .u8 l[k].toNat):=by
 obtain⟨rest,T,fz,hb,_⟩:=h;rw[Lib.cell_of_heap hb k];simp[zRt,hk,u8V]
theorem jO.frozen {w:World}{b:Nat}{l:Bytes}(h:jO w b l){k:Nat}(hk:k<l.length):w.frozen? ⟨b,k,none⟩=false:=by
 obtain⟨rest,T,fz,hb,hf⟩:=h;simp only[World.frozen?,hb];simp
 omega
theorem jO.set {w:World}{b:Nat}{l:Bytes}(h:jO w b l){k:Nat}(hk:k<l.length)(x:UInt8):jO (w.setCell ⟨b,k,none⟩ (.int .u8 x.toNat)) b (l.set k x):=by
 obtain⟨rest,T,fz,hb,hf⟩:=h;refine⟨rest,T,fz,?_,by simpa using hf⟩;rw[heap_set hb];congr 2
 simp[List.set_append_left,hk,List.map_set,u8V]
theorem jO.lt {w:World}{b:Nat}{l:Bytes}(h:jO w b l):b<w.heap.size:=by
 obtain⟨rest,T,fz,hb,_⟩:=h;exact cW hb
theorem jO.back {w:World}{b:Nat}{l:Bytes}(h:jO w b l)(cap:Nat) :
 (convert 22 9 (.slice (some ⟨b,0,none⟩) l.length cap)).run Tryz.prog w=.ok (Value.string ⟨zRn (l)⟩) w:=by
 refine run_convert_bytes_back w _ _ 5 ⟨b,0,none⟩ cap l underlying22 underlying5 underlying9 (fun j hj=>?_);have:(⟨b,0,none⟩:Addr).add j=⟨b,j,none⟩:=by
  unfold Addr.add;split
  ·subst j;rfl
  ·simp
 rw[this];exact h.cell hj
theorem Ia (b o j:Nat):(⟨b,o,none⟩:Addr).add j=⟨b,o+j,none⟩:=by
 unfold Addr.add;split
 ·subst j;rfl
 ·rfl
theorem jO.backAt {w:World}{b a:Nat}{y l:Bytes}(h:jO w b (y++l))(hy:y.length=a)(cap:Nat) :
 (convert 22 9 (.slice (some ⟨b,a,none⟩) l.length cap)).run Tryz.prog w=.ok (Value.string ⟨zRn (l)⟩) w:=by
 refine run_convert_bytes_back w _ _ 5 ⟨b,a,none⟩ cap l underlying22 underlying5 underlying9 (fun j hj=>?_);rw[Ia];subst hy;have h1:=h.cell (k:=y.length+j) QC;have h2:(y++l)[y.length+j]'QC=l[j]:=by rw[List.getElem_append_right (Nat.le_add_right _ _)];simp
 rw[h2]at h1;exact h1
theorem AJ (w:World)(s:Bytes):∃ (w1:World) (cap:Nat),(convert 9 22 (Value.string ⟨zRn (s)⟩)).run Tryz.prog w=.ok (.slice (some ⟨w.heap.size,0,none⟩) s.length cap) w1∧jO w1 w.heap.size s∧Below w.heap.size w w1:=by
 refine⟨_,_,Lib.run_convert_string_bytes w _ _ 5 ⟨zRn s⟩ underlying9 underlying22 underlying5,?_,?_⟩
 ·refine⟨(Array.replicate (grownCap w s.length 0 5 - s.length) (Value.int .u8 0)).toList,5,((Lib.bytesCells w 5 ⟨zRn s⟩).size,(Lib.bytesCells w 5 ⟨zRn s⟩).size+1),?_,?_⟩
  ·rw[Lib.bytesWorld_at_new]
   congr 2
   apply Array.ext'
   simp[Lib.bytesCells];rfl
  ·left
   simp[Lib.bytesCells]
 ·exact⟨by simp[Lib.bytesWorld,World.freeze];rfl,rfl,rfl,by rw[Lib.bytesWorld_size];omega,fun k hk=>Lib.bytesWorld_at_old _ _ _ k hk⟩
open Go.RowKit Wf
attribute [local go_sem] fN eY get_list
theorem rE (s:Bytes)(w:World)(hs:s.length≤9223372036854775807) :
 Calls Tryz.prog 175 #[(Value.string ⟨zRn (s)⟩)] w fun e w'=>e=.returned (Value.string ⟨zRn (lower s)⟩)∧Below w.heap.size w w':=by
 obtain⟨w1,cap,Pg,iO,jE⟩:=AJ w s;have Hrow:=hid iO;have Hw1:=hid jE;clear iO jE;go_enter func175,ntmps175
 go_wp2_with fail
 go_loopw [10] (fun i wr=>∃ k:Nat,k≤s.length∧i=.int .i64 k∧jO wr w.heap.size (jy k s)∧Below w.heap.size w wr) (fun i _=>s.length - (intOf i).toNat)
 case atStart=>exact⟨0,QA,rfl,by rw[zQ];exact Hrow.out,Hw1.out⟩
 case round =>
  obtain⟨k,hk,rfl,iO,hw⟩:=hrel;have Hrow:=hid iO;have Hw:=hid hw;clear Pg iO hw;by_cases az:k<s.length
  ·have Iu:=kZ k s
   have jc:=Hrow.out.cell (k:=k) QA;have hfz:=Hrow.out.frozen (k:=k) QA;rw[CH az]at jc;clear Iu;by_cases Ar:65≤s[k].toNat∧s[k].toNat≤90
   ·obtain⟨HB,mK⟩:=Ar
    have jg:=Hrow.out.set (k:=k) (by rw[kZ];exact az) (dA s[k]);rw[CG az,zP HB mK]at jg;have Hst:=hid jg;clear jg;go_wp2_with fail
    go_roundw
    case rel=>exact⟨k+1,QA,by go_num,Hst.out,Hw.out.setCell (p:=⟨w.heap.size,k,none⟩) (zRu _) _⟩
    case measure=>simp[intOf];omega
   ·have Hn:=hid (zR az (CF Ar))
    have hor:s[k].toNat<65∨90<s[k].toNat:=QA;rcases hor with h|h
    all_goals
     go_wp2_with fail
     go_roundw
     case rel=>exact⟨k+1,QA,by go_num,Hn.out ▸ Hrow.out,Hw.out⟩
     case measure=>simp[intOf];omega
  ·have hl:k=s.length:=QA
   have Ae:=Hrow.out;rw[hl,CI]at Ae;have kQ:=Ae.back cap;rw[show (lower s).length=s.length by simp[lower]]at kQ;clear hl Ae;go_wp2_with fail
   go_ret
   exact⟨rfl,Hw.out⟩
theorem qM (s:Bytes)(w:World)(hs:s.length≤9223372036854775807) :
 Calls Tryz.prog 60 #[(Value.string ⟨zRn (s)⟩)] w fun e w'=>e=.returned (Value.string ⟨zRn (lower s)⟩)∧Below w.heap.size w w':=by
 obtain⟨w1,cap,Pg,iO,jE⟩:=AJ w s;have Hrow:=hid iO;have Hw1:=hid jE;clear iO jE;go_enter func60,ntmps60
 go_wp2_with fail
 go_loopw [9] (fun i wr=>∃ k:Nat,k≤s.length∧i=.int .i64 k∧jO wr w.heap.size (jy k s)∧Below w.heap.size w wr) (fun i _=>s.length - (intOf i).toNat)
 case atStart=>exact⟨0,QA,rfl,by rw[zQ];exact Hrow.out,Hw1.out⟩
 case round =>
  obtain⟨k,hk,rfl,iO,hw⟩:=hrel;have Hrow:=hid iO;have Hw:=hid hw;clear Pg iO hw;by_cases az:k<s.length
  ·have Iu:=kZ k s
   have jc:=Hrow.out.cell (k:=k) QA;have hfz:=Hrow.out.frozen (k:=k) QA;rw[CH az]at jc;clear Iu;by_cases Ar:65≤s[k].toNat∧s[k].toNat≤90
   ·obtain⟨HB,mK⟩:=Ar
    have jg:=Hrow.out.set (k:=k) (by rw[kZ];exact az) (dA s[k]);rw[CG az,zP HB mK]at jg;have Hst:=hid jg;clear jg;go_wp2_with fail
    go_roundw
    case rel=>exact⟨k+1,QA,by go_num,Hst.out,Hw.out.setCell (p:=⟨w.heap.size,k,none⟩) (zRu _) _⟩
    case measure=>simp[intOf];omega
   ·have Hn:=hid (zR az (CF Ar))
    have hor:s[k].toNat<65∨90<s[k].toNat:=QA;rcases hor with h|h
    all_goals
     go_wp2_with fail
     go_roundw
     case rel=>exact⟨k+1,QA,by go_num,Hn.out ▸ Hrow.out,Hw.out⟩
     case measure=>simp[intOf];omega
  ·have hl:k=s.length:=QA
   have Ae:=Hrow.out;rw[hl,CI]at Ae;have kQ:=Ae.back cap;rw[show (lower s).length=s.length by simp[lower]]at kQ;clear hl Ae;go_wp2_with fail
   go_ret
   exact⟨rfl,Hw.out⟩
theorem H8 (s:Bytes)(w:World)(hs:s.length≤9223372036854775807) :
 Calls Tryz.prog 269 #[(Value.string ⟨zRn (s)⟩),.func (.func 252) #[] #[]] w fun e w'=>e=.returned (.bool (s.all isDigit))∧w=w':=by
 go_enter func269,ntmps269
 go_wp2_with fail
 go_loop [8] (fun i=>∃ k:Nat,k≤s.length∧i=.int .i64 k∧(s.take k).all isDigit=true) (fun i=>s.length - (intOf i).toNat)
 case atStart=>exact⟨0,QA,rfl,rfl⟩
 case round =>
  obtain⟨k,hk,rfl,br⟩:=hrel;have Hall:=hid br;clear br;by_cases az:k<s.length
  ·cases hc:isDigit s[k]
   ·have Ha:=hid (cX az hc)
    go_wp2_with (go_at_call 252;refine(ct _ _).mono ?_;rintro e w' ⟨rfl,rfl⟩)
    go_ret
    exact⟨bB Ha.out.symm,rfl⟩
   ·go_wp2_with (go_at_call 252;refine(ct _ _).mono ?_;rintro e w' ⟨rfl,rfl⟩)
    go_round
    case rel=>exact⟨k+1,QA,by go_num,bq az Hall.out hc⟩
    case measure=>simp[intOf];omega
  ·have br:=Hall.out
   rw[zRw QA]at br;have Ha:=hid br;clear br Hall;go_wp2_with fail
   go_ret
   exact⟨bB Ha.out.symm,rfl⟩
theorem ik (s:Bytes)(w:World)(hs:s.length≤9223372036854775807) :
 Calls Tryz.prog 235 #[(Value.string ⟨zRn (s)⟩)] w fun e w'=>e=.returned (.bool (bj s))∧w=w':=by
 cases hn:s.isEmpty
 all_goals
  have Hd:=hid (show bj s=(!s.isEmpty&&s.all isDigit) from rfl);rw[hn]at Hd;go_enter func235,ntmps235
  go_wp2_with (go_at_call 269;refine(H8 _ _ hs).mono ?_;rintro e w' ⟨rfl,rfl⟩)
  go_ret
  exact⟨bB (by rw[Hd.out];simp),rfl⟩
theorem DO (s:Bytes)(w:World)(hs:s.length≤9223372036854775807) :
 Calls Tryz.prog 203 #[(Value.string ⟨zRn (s)⟩)] w fun e w'=>e=.returned (.bool (bj s))∧w=w':=by
 go_enter func203,ntmps203
 go_wp2_with fail
 go_loop [3] (fun i=>∃ k:Nat,k≤s.length∧i=.int .i64 k∧(s.take k).all isDigit=true) (fun i=>s.length - (intOf i).toNat)
 case atStart=>exact⟨0,QA,rfl,rfl⟩
 case round =>
  obtain⟨k,hk,rfl,br⟩:=hrel;have Hall:=hid br;clear br;by_cases az:k<s.length
  ·cases hc:isDigit s[k]
   ·have Ha:=hid (cX az hc)
    go_wp2_with (go_at_call 148;refine(eN _ _).mono ?_;rintro e w' ⟨rfl,rfl⟩)
    go_ret
    exact⟨bB (by unfold bj;rw[Ha.out];simp),rfl⟩
   ·go_wp2_with (go_at_call 148;refine(eN _ _).mono ?_;rintro e w' ⟨rfl,rfl⟩)
    go_round
    case rel=>exact⟨k+1,QA,by go_num,bq az Hall.out hc⟩
    case measure=>simp[intOf];omega
  ·have br:=Hall.out
   rw[zRw QA]at br;have Ha:=hid br;clear br Hall;go_wp2_with fail
   go_ret
   exact⟨bB (by unfold bj;rw[Ha.out];simp),rfl⟩
theorem F7 (c:UInt8)(s:Bytes)(w:World)(hs:s.length≤9223372036854775807) :
 Calls Tryz.prog 84 #[.int .u8 c.toNat,(Value.string ⟨zRn (s)⟩)] w fun e w'=>e=.returned (.bool (has s c))∧w=w':=by
 go_enter func84,ntmps84
 go_wp2_with fail
 go_loop [5] (fun i=>∃ k:Nat,k≤s.length∧i=.int .i64 k∧has (s.take k) c=false) (fun i=>s.length - (intOf i).toNat)
 case atStart=>exact⟨0,QA,rfl,rfl⟩
 case round =>
  obtain⟨k,hk,rfl,br⟩:=hrel;have Hall:=hid br;clear br;by_cases az:k<s.length
  ·by_cases hc:s[k]=c
   ·have hx:((s[k].toNat:Int)==(c.toNat:Int))=true:=by simp[hc]
    have Ha:=hid (show has s c=true by unfold has;rw[zR7];exact hc ▸ zRT az);go_wp2_with fail
    go_ret
    exact⟨bB Ha.out.symm,rfl⟩
   ·have hx:((s[k].toNat:Int)==(c.toNat:Int))=false:=by
     rw[beq_eq_false_iff_ne];intro h;exact hc (zR2.1 QA)
    go_wp2_with fail
    go_round
    case rel=>exact⟨k+1,QA,by go_num,by
     have:=Hall.out
     unfold has at this ⊢;rw[zRX az,List.contains_eq_any_beq,List.any_append,← List.contains_eq_any_beq,this];simp
     exact fun h=>hc h.symm⟩
    case measure=>simp[intOf];omega
  ·have br:=Hall.out
   rw[zRw QA]at br;have Ha:=hid br;clear br Hall;go_wp2_with fail
   go_ret
   exact⟨bB Ha.out.symm,rfl⟩
theorem iW (s t:Bytes)(w:World)(hs:s.length≤9223372036854775807)(ht:t.length≤9223372036854775807) :
 Calls Tryz.prog 34 #[(Value.string ⟨zRn (s)⟩),(Value.string ⟨zRn (t)⟩)] w fun e w'=>e=.returned (.int .i64 (pre (has t ·) s))∧w=w':=by
 have hle:=cO (has t ·) s;go_enter func34,ntmps34
 go_wp2_with fail
 go_loop [5] (fun i=>∃ k:Nat,k≤pre (has t ·) s∧i=.int .i64 k) (fun i=>s.length - (intOf i).toNat)
 case atStart=>exact⟨0,QA,rfl⟩
 case round =>
  obtain⟨k,hk,rfl⟩:=hrel;by_cases az:k<pre (has t ·) s
  ·have hc:=ju az QA
   go_wp2_with (go_at_call 84;refine(F7 _ _ _ ht).mono ?_;rintro e w' ⟨rfl,rfl⟩)
   go_round
   case rel=>exact⟨k+1,QA,by go_num⟩
   case measure=>simp[intOf];omega
  ·obtain rfl:k=pre (has t ·) s:=QA
   clear hk az;by_cases kE:pre (has t ·) s<s.length
   ·have hc:=iM kE
    go_wp2_with (go_at_call 84;refine(F7 _ _ _ ht).mono ?_;rintro e w' ⟨rfl,rfl⟩)
    go_ret
    exact⟨rfl,rfl⟩
   ·have he:=hid (show pre (has t ·) s=s.length by omega)
    go_wp2_with fail
    go_ret
    exact⟨yw (by rw[he.out]),rfl⟩
open Go Vc Go.RowKit Wf
theorem below_draws {w w':World}(h:∃ n,w'=w.drewN n):Below w.heap.size w w':=by
 obtain⟨n,rfl⟩:=h;exact below_drewN (Below.refl _ _) _
theorem cG {w w':World}(h:w=w'):Below w.heap.size w w':=by subst h;exact Below.refl _ _
theorem iX (l:Bytes)(c:UInt8):PC QH 209 [.str l,.int .u8 c.toNat] (.int .i64 (Lib.indexByte l c)) :=
 ⟨call209,by simp[flat,flat.ah],by simp[flat,flat.ah],fun w hE=>(eM l c w).mono fun _ _ ⟨h,k⟩=>⟨h,cG k⟩⟩
theorem kf (l p:Bytes):PC QH 115 [.str l,.str p] (.bool (Lib.hasPrefix l p)) :=
 ⟨call115,by simp[flat,flat.ah],by simp[flat,flat.ah],fun w hE=>(FW l p w).mono fun _ _ ⟨h,k⟩=>⟨h,cG k⟩⟩
theorem mY (l p:Bytes):PC QH 208 [.str l,.str p] (.eh [.str (Lib.trimPrefix l p),.bool (Lib.hasPrefix l p)]) :=
 ⟨call208,by simp[flat,flat.ah],by simp[flat,flat.ah],fun w hE=>(FY l p w).mono fun _ _ ⟨h,k⟩=>⟨h,cG k⟩⟩
theorem uL (l p:Bytes):PC QH 213 [.str l,.str p] (.str (Lib.trimPrefix l p)) :=
 ⟨call213,by simp[flat,flat.ah],by simp[flat,flat.ah],fun w hE=>(DF l p w).mono fun _ _ ⟨h,k⟩=>⟨h,cG k⟩⟩
theorem Ky (l:Bytes)(c:UInt8)(hl:l.length<4294967281):PC QH 172 [.str l,.str [c]] (.eh [.str (aL c l).1,.str (aL c l).2.1,.bool (aL c l).2.2]) :=
 ⟨call172,by simp[flat,flat.ah],by simp[flat,flat.ah],fun w hE=>(Kk l c w hE hl).mono fun _ _ ⟨h,k⟩=>⟨h,below_draws k⟩⟩
theorem Ji (s l:Bytes)(ha:∀ i (h:i<l.length),l[i].toNat<128)(hl:l.length≤1000000)(h2:2≤l.length)(hs:s.length<4294967281) :
 PC QH 206 [.str s,.str l] (.int .i64 (Lib.indexAny s l)) :=
 ⟨call206,by simp[flat,flat.ah],by simp[flat,flat.ah],fun w hE=>strings_IndexAny s l w ha hl h2 hs⟩
def uW (s:Bytes)(c:UInt8):Int:=Lib.lastIndexByte ⟨zRn s⟩ c.toNat
theorem OF (s:Bytes)(c:UInt8):uW s c=((s.reverse.dropWhile (· != c)).length:Int) - 1:=by
 have h:∀ k,k≤s.length→Lib.lastIdx ⟨zRn s⟩ c.toNat k=(((s.take k).reverse.dropWhile (· != c)).length:Int) - 1:=by
  intro k;induction k with
  | zero=>intro _;simp[Lib.lastIdx]
  | succ k ih =>
    intro hk;have hk':k<s.length:=QA;have e:(⟨zRn s⟩:ByteArray).data[k]! = s[k]:=by simp[hk']
    rw[zRX hk',List.reverse_append,List.reverse_singleton,zRU,Lib.lastIdx,e];by_cases hc:s[k]=c
    ·rw[if_pos (by rw[hc]),List.dropWhile_cons_of_neg (by simp[hc])]
     simp
     omega
    ·rw[if_neg (fun h=>hc (zR2.1 (by exact_mod_cast h))),List.dropWhile_cons_of_pos (by simp[hc]),ih QA]
 have:=h s.length (zRu _)
 rw[List.take_length]at this;exact this
theorem iI (s:Bytes)(c:UInt8)(hs:s.length<4611686018427387904):PC QH 214 [.str s,.int .u8 c.toNat] (.int .i64 (uW s c)) :=
 ⟨call214,by simp[flat,flat.ah],by simp[flat,flat.ah],fun w hE=>(Tryz.strings_LastIndexByte ⟨zRn s⟩ c.toNat hs w).mono fun _ _ ⟨h,k⟩=>⟨h,cG k.symm⟩⟩
theorem nj {p q:Bytes}(h:Lib.hasPrefix p q=false):¬ (q.isPrefixOf p=true):=by unfold Lib.hasPrefix at h;simp[h]
theorem fP {p q:Bytes}(h:Lib.hasPrefix p q=true):q.length≤p.length:=(zRz.1 h).length_le
theorem ua (s p:Bytes):(Lib.trimPrefix s p).length≤s.length:=by
 unfold Lib.trimPrefix;split <;> simp
theorem dG {s:Bytes}{k:Nat}(hk:k<s.length)(c:UInt8){n:Int}(hn:n=c.toNat):(((s.getD k 0).toNat:Int)==n)=(s[k]==c):=by
 subst hn;rw[show s.getD k 0=s[k] by simp[List.getD,hk],zRO];simp only[beq_iff_eq];exact⟨fun h=>zR2.1 (by exact_mod_cast h),fun h=>by rw[h]⟩
theorem jT (l:Bytes):(l.map eb).all Vc.one=true:=by simp[eb,Vc.one]
def fA (i:Nat)(σ:St):Nat:=match lk i σ.t with
 | some (.int _ n)=>n.toNat
 | _=>0
theorem ak {i:Nat}{σ:St}{k:IntKind}{n:Int}(h:lk i σ.t=some (.int k n)):fA i σ=n.toNat:=by simp[fA,h]
def uc (u:bN):List SV:=[.str u.host,.int .i64 u.port,.str u.path,.str u.query,.str u.fragment,.bool u.aJ,.bool u.a8]
def fc (f:Bytes × Bytes):List SV:=[.str f.1,.str f.2]
theorem mQ {ρ:Type}(cl:ρ→List SV)(s:Nat)(hs:∀ r,(cl r).length=s):∀ (L:List ρ)(k:Nat)(h:k<L.length),((L.flatMap cl).drop (k * s)).take s=cl L[k]
 | [],k,h=>by simp at h
 | r::L,0,_=>by
   have:=hs r
   simp[List.take_append,zRw (Nat.le_of_eq this),this]
 | r::L,k+1,h=>by
   have h1:=hs r;have h2:((r::L).flatMap cl).drop ((k+1) * s)=(L.flatMap cl).drop (k * s):=by
    rw[zRC,List.drop_append,zR5 (by rw[Nat.add_mul];omega),zRQ,show (k+1) * s - (cl r).length=k * s by rw[Nat.add_mul];omega]
   rw[h2];simpa using mQ cl s hs L k (by simpa using h)
theorem jq {ρ:Type}(cl:ρ→List SV)(s:Nat)(hs:∀ r,(cl r).length=s):∀ (L:List ρ),(L.flatMap cl).length=L.length * s
 | []=>QB
 | r::L=>by rw[zRC,List.length_append,hs r,jq cl s hs L,zR8,Nat.add_mul];omega
theorem cY {V:Cx}{f:FuncId}{args:List SV}{bs:List aq}{x:SV}(hx:flat x=true)(h:SC V f args bs (fun r b=>r=x∧Kp bs b)):SC V f args bs (fun r b=>r=x∧b=bs):=by
 refine⟨h.1,fun β fp w nU hG hE=>(h.2 β fp w nU hG hE).mono ?_⟩;rintro e w' ⟨r,bs',β₂,fp₂,⟨rfl,hlen,bm⟩,Bc,-,br,nM,mb,kP⟩;have old:∀ {i r},bs[i]? = some r→bs'[i]? = some r:=fun {i r} hi=>(bm i (zRq.1 hi).1).trans hi
 refine⟨r,bs,β₂,fp₂,⟨rfl,rfl⟩,Bc,zRu _,fun β' hβ=>?_,nM,fun i r' hi=>mb i r' (old hi),fun i r' hi=>kP i r' (old hi)⟩;have hc:∀ i,i<bs.length→(if i<bs.length then β' i else β₂ i)=β' i:=fun i hi=>if_pos hi
 have hall2:=br (fun i=>if i<bs.length then β' i else β₂ i) (fun i _=>by
  by_cases hi:i<bs.length
  ·exact(hβ i hi).trans (hc i hi).symm
  ·exact(if_neg hi).symm)
 have eZ:=nU (fun i=>if i<bs.length then β' i else β₂ i) (fun i hi=>((Bc i hi).trans (hβ i hi)).trans (hc i hi).symm);have qv:=nU β' (fun i hi=>(Bc i hi).trans (hβ i hi));obtain⟨he,hbx2⟩:=hall2;refine⟨by rw[he,ig _ hx _ β'],⟨fun i r hi=>?_,fun i r hi=>hbx2.lt i r (old hi),fun i j r r' hi hj=>hbx2.sep i j r r' (old hi) (old hj)⟩⟩;have h1:=eZ.holds i r hi;have h2:=qv.holds i r hi;have h3:=hbx2.holds i r (old hi);have e:=hc i (zRq.1 hi).1;simp only[e]at h1 h3;exact DJ h1 h2 h3
theorem od {V:Cx}{f:FuncId}{args:List SV}{bs:List aq}{x:SV}(hen:Vc.Enters V f)(fx:flat x=true)(h:∀ β fp w,Im β fp w bs→Calls V.P f (aZ β args).toArray w fun e w'=>e=.returned (aj β x)∧Below w.heap.size w w'):SC V f args bs (fun r b=>r=x∧b=bs):=by
 refine⟨hen,fun β fp w nU hG hE=>(h β fp w (nU β (cP.refl _ _))).mono ?_⟩;rintro e w' ⟨he,hb⟩;have dK:=nU β (cP.refl _ _);refine⟨x,bs,β,fp,⟨rfl,rfl⟩,cP.refl _ _,zRu _,fun β' hβ=>⟨by rw[he,ig x fx β β'],⟨fun i r hi=>((nU β' hβ).holds i r hi).stays (fun k hk=>hb.block k (dK.lt i r hi k hk)),fun i r hi k hk=>Nat.lt_of_lt_of_le (dK.lt i r hi k hk) hb.size,dK.sep⟩⟩,tW.kg hb,fun i r hi hm k hk=>.inr ⟨i,r,hi,hm,hk⟩,fun i r hi k hk=>.inr ⟨i,r,hi,hk⟩⟩
theorem sc_Join {bs:List aq}{j:Nat}{L:List Bytes}{m:Bool}(hj:bs[j]? = some (.own (L.map SV.str) 9 1 L.length m))(h0:0<L.length)(hn:L.length≤140737488355328)(sep:Bytes)(hlen:(Lib.join L sep).length≤140737488355328) :
 SC QH 227 [.o j L.length,.str sep] bs (fun r b=>r=.str (Lib.join L sep)∧b=bs):=by
 refine od call227 (by simp[flat]) (fun β fp w hb=>?_);have hh:=hb.holds j _ hj;rcases hh with⟨-,h,-,-⟩|⟨h1,h2,h3,h4,h5,-,h7⟩
 ·omega
 have e1:(L.map fun l=>(⟨⟨l⟩⟩:ByteArray)).map (fun x=>x.data.toList)=L:=by rw[List.map_map];exact(zSa (fun _ _=>rfl)).trans (List.map_id L)
 have hc:=Tryz.strings_Join (β j).fy (β j).off ((β j).cap - 1) (L.map fun l=>(⟨⟨l⟩⟩:ByteArray)) ⟨⟨sep⟩⟩ w (fun i x hi=>by
  have:=h5 i (.string x) (by
   rw[List.getElem?_map]at hi;obtain⟨l,hl,rfl⟩:=zR4.1 hi;simp[hl,aj])
  exact this) (hb.lt j _ hj _ ((h7 _).2 rfl)) (by simpa using hn) (by simpa using h2) (by rw[e1];exact hlen)
 rw[e1,zR0]at hc;have e2:(aZ β [.o j L.length,.str sep]).toArray=#[.slice (some ⟨(β j).fy,(β j).off,none⟩) L.length ((β j).cap - 1),.string ⟨⟨sep⟩⟩]:=by simp[aZ,aj,oV,h1]
 rw[e2];exact hc.mono fun e w' h=>by simpa[aj] using h
theorem NY {bs:List aq}(sep:Bytes):SC QH 227 [.ai,.str sep] bs (fun r b=>r=.str []∧b=bs):=by
 refine od call227 (by simp[flat]) (fun β fp w hb=>?_);have hc:=Tryz.strings_Join_none none 0 ⟨⟨sep⟩⟩ w;exact hc.mono fun e w' h=>⟨by simpa[aj] using h.1,cG h.2.symm⟩
theorem NX {bs:List aq}{j:Nat}{L:List Bytes}{m:Bool}(hj:bs[j]? = some (.own (L.map SV.str) 9 1 L.length m))(hn:L.length≤140737488355328)(sep:Bytes)(hlen:(Lib.join L sep).length≤140737488355328) :
 SC QH 227 [.o j L.length,.str sep] bs (fun r b=>r=.str (Lib.join L sep)∧b=bs):=by
 by_cases h0:0<L.length
 ·exact sc_Join hj h0 hn sep hlen
 ·obtain rfl:L=[]:=zRH.1 QA
  refine od call227 (by simp[flat]) (fun β fp w hb=>?_);have e2:∃ a c,(aZ β [.o j ([]:List Bytes).length,.str sep]).toArray=#[.slice a 0 c,.string ⟨⟨sep⟩⟩]:=by
   by_cases h:(β j).cap=0
   ·exact⟨none,0,by simp[aZ,aj,oV,h]⟩
   ·exact⟨some ⟨(β j).fy,(β j).off,none⟩,(β j).cap - 1,by simp[aZ,aj,oV,h]⟩
  obtain⟨a,c,e2⟩:=e2;rw[e2];exact(Tryz.strings_Join_none a c ⟨⟨sep⟩⟩ w).mono fun e w' h=>⟨by simpa[aj,Lib.join] using h.1,cG h.2.symm⟩
end Go.Proofs.YtnmlimehgifadaaGreatDoor
namespace Wf
open Go Go.RowKit
theorem gj (c:UInt8):dA (dA c)=dA c∧yG (dA c)=yG c∧isDigit (dA c)=isDigit c∧(dA c==45)=(c==45)∧(dA c==46)=(c==46)∧(dA c==58)=(c==58)∧(isDigit c=true→dA c=c):=by
 have h:=du (p:=fun c=>decide (dA (dA c)=dA c∧yG (dA c)=yG c∧isDigit (dA c)=isDigit c∧(dA c==45)=(c==45)∧(dA c==46)=(c==46)∧(dA c==58)=(c==58)∧(isDigit c=true→dA c=c))) (by decide +kernel) c;exact of_decide_eq_true h
theorem GA (s:Bytes):lower (lower s)=lower s:=by
 unfold lower;rw[List.map_map];apply zSa;intro c _;exact(gj c).1
theorem gh (s:Bytes):(lower s).length=s.length:=by unfold lower;simp
theorem j8 (s:Bytes):(lower s).isEmpty=s.isEmpty:=by unfold lower;cases s <;> rfl
theorem wC {p:UInt8→Bool}(hp:∀ c,p (dA c)=p c)(s:Bytes):(lower s).all p=s.all p:=by
 unfold lower;rw[List.all_map];congr 1;funext c;exact hp c
theorem Ek {s:Bytes}(h:s.all isDigit=true):lower s=s:=by
 unfold lower;rw[zRY]at h
 conv=>rhs;rw[← List.map_id s]
 apply zSa;intro c hc;exact(gj c).2.2.2.2.2.2 (h c hc)
theorem sI (s:Bytes):bW (lower s)=bW s:=by
 unfold bW;rw[j8,gh,wC (fun c=>(gj c).2.1)];have h1:((lower s).head?==some 45)=(s.head?==some 45):=by
  unfold lower;rw[List.head?_map];cases s.head? with
  | none=>rfl
  | some c=>simpa using(gj c).2.2.2.1
 have h2:((lower s).getLast?==some 45)=(s.getLast?==some 45):=by
  unfold lower;rw[List.getLast?_map];cases s.getLast? with
  | none=>rfl
  | some c=>simpa using(gj c).2.2.2.1
 rw[h1,h2]
theorem ru (s:Bytes):bj (lower s)=bj s:=by
 unfold bj;rw[j8,wC (fun c=>(gj c).2.2.1)]
theorem ud (s:Bytes):aD 46 (lower s)=(aD 46 s).map lower:=by
 induction s with
 | nil=>rfl
 | cons x r ih =>
   have hx:=(gj x).2.2.2.2.1;rw[show lower (x::r)=dA x::lower r from rfl,aD,aD,hx,ih];cases x==46
   ·simp only[Bool.false_eq_true,if_false]
    cases aD 46 r <;> rfl
   ·rfl
theorem yh (m:Nat)(s:Bytes):aV m (lower s)=aV m s:=by
 cases h:s.all isDigit
 ·have hd:bj s=false:=by unfold bj;simp[h]
  have hl:(lower s).all isDigit=false:=by rw[wC (fun c=>(gj c).2.2.1),h]
  unfold aV aF;rw[ru,hd,hl,h,j8];simp
 ·rw[Ek h]
theorem BB (s:Bytes):gM (lower s)=gM s:=by unfold gM;rw[yh]
theorem Jt (s:Bytes):ipv4 (lower s)=ipv4 s:=by
 unfold ipv4;rw[ud,zR0,List.all_map];congr 2;funext x;exact BB x
theorem Gy (l:List Bytes):pZ (l.map lower)=pZ l:=by
 induction l with
 | nil=>rfl
 | cons x r ih =>
   cases r with
   | nil=>simp only[List.map,pZ,sI,ru]
   | cons y r=>simp only[List.map_cons,pZ,sI]at ih ⊢;rw[ih]
theorem Ei (s:Bytes):gg (lower s)=gg s:=by unfold gg;rw[ud,Gy]
theorem l6 {s x:Bytes}(h:cp s=(x,0)):x=lower s∧x.length≤253∧cp x=(x,0):=by
 unfold cp at h;cases h1:s.isEmpty
 ·rw[h1]at h
  by_cases h2:253<s.length
  ·simp[h2]at h
  ·cases h3:(!ipv4 s&&!gg s)
   ·simp[h2,h3]at h
    subst h;refine⟨rfl,by rw[gh];omega,?_⟩;unfold cp;rw[j8,gh,Jt,Ei,h1,h3,GA];simp[h2]
   ·simp[h2,h3]at h
 ·rw[h1]at h;simp at h
theorem LO (s:Bytes):pre (·==58) (lower s)=pre (·==58) s:=by
 induction s with
 | nil=>rfl
 | cons x r ih =>
   rw[show lower (x::r)=dA x::lower r from rfl,bY,bY,ih,(gj x).2.2.2.2.2.1]
theorem F9 (p:UInt8→Bool)(s:Bytes):pre p (s.take (pre p s))=(s.take (pre p s)).length:=by
 induction s with
 | nil=>rfl
 | cons x r ih =>
   rw[bY];cases hx:p x
   ·simp[bY,hx]
    have:=ih;simp at this;omega
   ·rfl
theorem P4 (c:UInt8)(s:Bytes):pre (·==c) (aL c s).1=(aL c s).1.length:=by
 unfold aL;by_cases h:pre (·==c) s<s.length
 ·rw[if_pos h];exact F9 _ s
 ·rw[if_neg h];have:=cO (·==c) s;show pre (·==c) s=s.length;omega
theorem gH {c:UInt8}{s:Bytes}(h:pre (·==c) s=s.length):aL c s=(s,[],false):=by
 unfold aL;rw[if_neg QA]
theorem DT {p:UInt8→Bool}{x:Bytes}(h:pre p x=x.length)(c:UInt8)(r:Bytes)(hc:p c=true):pre p (x++c::r)=x.length:=by
 induction x with
 | nil=>simp[bY,hc]
 | cons y x ih =>
   rw[bY]at h;cases hy:p y
   ·rw[hy]at h;simp at h
    simp[bY,hy,ih h]
   ·rw[hy]at h;simp at h
theorem je {c:UInt8}{x:Bytes}(h:pre (·==c) x=x.length)(r:Bytes):aL c (x++c::r)=(x,r,true):=by
 unfold aL;rw[DT h c r QB,if_pos QB];simp
theorem An {n:Nat}(h:n<10):bo (ry n)=n∧isDigit (ry n)=true∧(ry n=48→n=0):=by
 have h:=(by decide +kernel:∀ n,n<10→bo (ry n)=n∧isDigit (ry n)=true∧(ry n=48→n=0)) n h;exact h
theorem L7 {b m:Nat}(r:Bytes):∀ (l:Bytes){a v:Nat},dw b m a l=(v,0)→dw b m a (l++r)=dw b m v r:=by
 intro l;induction l with
 | nil=>intro a v h;simp[dw]at h;rw[h];rfl
 | cons c l ih =>
   intro a v h;rw[dw]at h;rw[zRB,dw];by_cases hm:m<a * b+bo c
   ·rw[if_pos hm]at h;simp at h
   ·rw[if_neg hm]at h
    rw[if_neg hm];exact ih h
theorem C9 (m:Nat):∀ (k n:Nat),n≤k→n≤m→dw 10 m 0 (cf n)=(n,0)∧(cf n).all isDigit=true∧(0<n→(cf n).head? ≠ some 48):=by
 intro k;induction k with
 | zero =>
   intro n h _;obtain rfl:n=0:=QA;rw[fE QA];exact⟨by simp[dw,ry,bo],by decide,fun h=>QA⟩
 | succ k ih =>
   intro n h hm;by_cases hn:n<10
   ·rw[fE hn]
    obtain⟨h1,h2,h3⟩:=An hn;refine⟨?_,by simp[h2],?_⟩
    ·rw[dw,h1,if_neg QA,dw];simp
    ·intro h0 he;simp at he;exact absurd (h3 he) QA
   ·rw[jA hn]
    obtain⟨h1,h2,h3⟩:=ih (n / 10) QA QA;obtain⟨g1,g2,g3⟩:=An (show n % 10<10 by omega);refine⟨?_,by rw[List.all_append,h2];simp[g2],?_⟩
    ·rw[L7 _ _ h1,dw,g1,if_neg QA,dw]
     congr 1;omega
    ·intro _
     have:=AH (n / 10)
     rw[List.head?_append];have h3:=h3 QA;cases hd:(cf (n / 10)).head? with
     | none=>rw[List.head?_eq_none_iff]at hd;rw[hd]at this;simp at this
     | some c=>rw[hd]at h3;simpa using h3
theorem LP {n:Nat}(h0:0<n)(h:n≤65535):kK (cf n)=((n:Int),0):=by
 obtain⟨h1,h2,h3⟩:=C9 65535 n n QA h;have hp:=AH n;have bF:(cf n).isEmpty=false:=by cases hd:cf n <;> simp[hd]at hp ⊢
 have hs:aV 65535 (cf n)=(n,0):=by
  unfold aV aF;rw[if_neg (fun hh=>h3 h0 hh.2.2),bF,h2,h1];rfl
 unfold kK;rw[hs];have:¬ n=0:=QA
 simp[this]
theorem Of {s:Bytes}{p:Int}(h:kK s=(p,0)):0<p∧p≤65535:=by
 have hle:=kX 65535 s;unfold kK at h;split at h
 ·simp at h
 ·rename_i hc
  simp at h
  subst h;omega
theorem cS {s x:Bytes}{p:Int}(h:aN s=((x,p),0)):aN (bu x p)=((x,p),0)∧cp x=(x,0)∧p≠443∧x.length≤253∧0≤p∧p≤65535:=by
 have hf:=P4 58 s;unfold aN at h;generalize aL 58 s=C at hf h;obtain⟨first,rest,colon⟩:=C;simp only at hf h;generalize hH:cp first=H at h
 obtain⟨y,e⟩:=H;by_cases he:e=0
 ·subst he
  obtain⟨hy,hlen,kQ⟩:=l6 hH;have hpy:pre (·==58) y=y.length:=by rw[hy,LO,gh];exact hf
  have plain:aN (bu y 0)=((y,0),0):=by
   unfold bu aN;rw[if_pos rfl,gH hpy,kQ];rfl
  cases colon
  ·unfold db at h
   simp at h
   obtain⟨rfl,rfl⟩:=h;exact⟨plain,kQ,QA,hlen,QA,QA⟩
  ·generalize hP:kK rest=P at h
   obtain⟨q,f⟩:=P;unfold db at h;by_cases JL:f=0
   ·subst JL
    simp at h
    obtain⟨rfl,h⟩:=h;obtain⟨q0,q1⟩:=Of hP;by_cases qm:q=443
    ·rw[if_pos qm]at h
     subst h;exact⟨plain,kQ,QA,hlen,QA,QA⟩
    ·rw[if_neg qm]at h
     subst h;refine⟨?_,kQ,qm,hlen,QA,q1⟩;obtain⟨n,rfl⟩:∃ n:Nat,q=n:=⟨q.toNat,QA⟩;unfold bu aN;rw[if_neg QA,if_neg QA];have e:y++[58]++cf (n:Int).natAbs=y++58::cf n:=by simp
     rw[e,je hpy];simp only[kQ,LP (show 0<n by omega) (show n≤65535 by omega)];unfold db;simp[qm]
   ·simp[JL]at h
 ·unfold db at h
  simp[he]at h
open Go Go.RowKit
theorem uncut (c:UInt8)(s:Bytes):s=(aL c s).1++(if (aL c s).2.2 then [c]++(aL c s).2.1 else []):=by
 unfold aL;split
 ·rename_i h
  have h2:=iM (p:=(·==c)) h;simp only[if_true];have:s.drop (pre (·==c) s)=c::s.drop (pre (·==c) s+1):=by
   rw[zRx h];simp only[beq_iff_eq]at h2;rw[h2]
  rw[zRU,← this,zRV]
 ·simp
theorem Fi (c:UInt8)(s:Bytes)(h:(aL c s).2.2=false):(aL c s).2.1=[]:=by
 unfold aL at h ⊢;split
 ·rename_i h2;rw[if_pos h2]at h;simp at h
 ·rfl
def iq (l:List Bytes):Bytes:=l.flatMap (47::·)
def pg (s:Bytes):Prop:=(47:UInt8) ∉ s∧s≠[46]∧s≠[46,46]
theorem oC (x:Bytes)(l:List Bytes):iq (x::l)=47::(x++iq l):=rfl
theorem Ib (l:List Bytes)(x:Bytes):iq (l++[x])=iq l++47::x:=by
 unfold iq;simp
theorem M9 (l:List Bytes):iq l=[]∨∃ r,iq l=47::r:=by
 cases l with
 | nil=>exact .inl rfl
 | cons x l=>exact .inr ⟨_,rfl⟩
theorem mS {x:Bytes}(h:(47:UInt8) ∉ x)(l:List Bytes):pre (·==47) (x++iq l)=x.length:=by
 induction x with
 | nil =>
   rcases M9 l with e|⟨r,e⟩
   ·simp[e,pre_nil]
   ·simp[e,bY]
 | cons c x ih =>
   simp only[zRZ,not_or]at h;rw[zRB,bY,if_neg (by simp;exact fun e=>h.1 e.symm),ih h.2];rfl
theorem FC (l:List Bytes)(x:Bytes)(h:(47:UInt8) ∉ x):ep (iq (l++[x]))=iq l:=by
 rw[Ib];unfold ep;rw[List.reverse_append,List.reverse_cons,List.append_assoc];have:(x.reverse++([47]++(iq l).reverse)).dropWhile (· != 47)=[47]++(iq l).reverse:=by
  rw[List.dropWhile_append_of_pos]
  ·simp
  ·intro c hc
   simp only[List.mem_reverse]at hc;simp
   rintro rfl;exact h hc
 rw[this];simp
theorem J0:∀ (f:Nat)(p:Bytes)(l:List Bytes),p.length≤f→(p=[]∨∃ r,p=47::r)→(p=[]→l≠[])→(∀ x∈l,pg x)→∃ l',fR f p (iq l)=iq l'∧l'≠[]∧∀ x∈l',pg x:=by
 intro f;induction f with
 | zero =>
   intro p l hp _ hn hg;have:p=[]:=zRH.1 QA
   exact⟨l,rfl,hn this,hg⟩
 | succ f ih =>
   intro p l hp hs hn hg;rw[fR];rcases hs with rfl|⟨r,rfl⟩
   ·exact⟨l,by rw[if_pos rfl],hn rfl,hg⟩
   ·rw[if_neg QB]
    have hsh:∃ l2,ep (iq l)=iq l2∧∀ x∈l2,pg x:=by
     rcases List.eq_nil_or_concat l with rfl|⟨l2,x,rfl⟩
     ·exact⟨[],rfl,QB⟩
     ·refine⟨l2,?_,fun y hy=>hg y (by simp[hy])⟩
      have:=hg x QB
      simpa using FC l2 x this.1
    obtain⟨l2,mF,E4⟩:=hsh;unfold dF;rw[if_neg (by simp[zR3]),if_neg (by simp[zR3])];by_cases c1:[47,46,47].isPrefixOf (47::r)
    ·rw[if_pos c1]
     obtain⟨q,hq⟩:=zRz.1 c1;simp only[zRB,zRQ,zRE.injEq,true_and]at hq;subst hq;exact ih _ l (by simp at hp ⊢;omega) (.inr ⟨q,rfl⟩) QB hg
    rw[if_neg c1];by_cases c2:(47::r)=[47,46]
    ·rw[if_pos c2]
     rw[c2]at hp;exact ih _ l (by simp at hp ⊢;omega) (.inr ⟨[],rfl⟩) QB hg
    rw[if_neg c2];by_cases c3:[47,46,46,47].isPrefixOf (47::r)
    ·rw[if_pos c3]
     obtain⟨q,hq⟩:=zRz.1 c3;simp only[zRB,zRQ,zRE.injEq,true_and]at hq;subst hq;simp only[mF];exact ih _ l2 (by simp at hp ⊢;omega) (.inr ⟨q,rfl⟩) QB E4
    rw[if_neg c3];by_cases c4:(47::r)=[47,46,46]
    ·rw[if_pos c4]
     rw[c4]at hp;simp only[mF];exact ih _ l2 (by simp at hp ⊢;omega) (.inr ⟨[],rfl⟩) QB E4
    rw[if_neg c4,if_neg QB];simp only[List.drop_succ_cons,List.drop_zero];have OV:pg (r.take (pre (·==47) r)):=by
     refine⟨fun hm=>?_,fun e=>?_,fun e=>?_⟩
     ·obtain⟨k,hk,bS⟩:=List.getElem_of_mem hm
      rw[zR9]at hk;have:=ju (p:=(·==47)) (l:=r) (k:=k) QA QA
      rw[List.getElem_take]at bS;simp[bS]at this
     ·have hp1:=congrArg List.length e
      simp only[zR9,zR8,List.length_nil]at hp1;have hr:=zRV (pre (·==47) r) r;rw[e]at hr;cases hd:r.drop (pre (·==47) r) with
      | nil=>rw[hd]at hr;exact c2 (by rw[← hr];rfl)
      | cons y t =>
        have az:pre (·==47) r<r.length:=by
         apply Nat.lt_of_not_le;intro h;rw[zR5 h]at hd;cases hd
        have:=iM (p:=(·==47)) az
        rw[zRx az]at hd;simp only[zRE.injEq]at hd;rw[hd.1]at this;simp only[beq_iff_eq]at this;subst this;rw[zRx az,hd.1]at hr;exact c1 (by rw[← hr];simp[zR3])
     ·have hp1:=congrArg List.length e
      simp only[zR9,zR8,List.length_nil]at hp1;have hr:=zRV (pre (·==47) r) r;rw[e]at hr;cases hd:r.drop (pre (·==47) r) with
      | nil=>rw[hd]at hr;exact c4 (by rw[← hr];rfl)
      | cons y t =>
        have az:pre (·==47) r<r.length:=by
         apply Nat.lt_of_not_le;intro h;rw[zR5 h]at hd;cases hd
        have:=iM (p:=(·==47)) az
        rw[zRx az]at hd;simp only[zRE.injEq]at hd;rw[hd.1]at this;simp only[beq_iff_eq]at this;subst this;rw[zRx az,hd.1]at hr;exact c3 (by rw[← hr];simp[zR3])
    have e1:(47::r).drop (1+pre (·==47) r)=r.drop (pre (·==47) r):=by rw[Nat.add_comm];rfl
    have e2:(47::r).take (1+pre (·==47) r)=47::r.take (pre (·==47) r):=by rw[Nat.add_comm];rfl
    rw[e1,e2,← Ib];refine ih _ _ (by simp at hp ⊢;omega) ?_ QB (fun x hx=>?_)
    ·by_cases az:pre (·==47) r<r.length
     ·right
      have:=iM (p:=(·==47)) az
      simp only[beq_iff_eq]at this;exact⟨_,by rw[zRx az,this]⟩
     ·left
      exact zR5 QA
    ·simp only[zRR,zRG]at hx
     rcases hx with hx|rfl
     ·exact hg x hx
     ·exact OV
theorem qL (r:Bytes):∃ l,aS (47::r)=iq l∧l≠[]∧∀ x∈l,pg x :=
 J0 _ _ [] (zRu _) (.inr ⟨r,rfl⟩) QB QB
theorem rr:∀ (l:List Bytes)(f:Nat)(out:Bytes),(iq l).length≤f→(∀ x∈l,pg x)→fR f (iq l) out=out++iq l
 | [],f,out,_,_=>by cases f <;> simp[iq,fR]
 | x::l,f,out,hf,hg=>by
   rw[oC]at hf ⊢;obtain⟨f,rfl⟩:∃ k,f=k+1:=⟨f - 1,by simp at hf;omega⟩;rw[fR,if_neg QB];obtain⟨h1,h2,h3⟩:=hg x QB;have fD:=mS h1 l;have seg:∀ (y:Bytes),(47:UInt8) ∉ y→y≠x→¬ (47::(y++[47])).isPrefixOf (47::(x++iq l))=true:=fun y hy bF hp=>by
    obtain⟨q,hq⟩:=zRz.1 hp;simp only[zRB,List.append_assoc,zRE.injEq,true_and]at hq;have hpy:=mS hy [q];have e:y++iq [q]=x++iq l:=by rw[← hq];simp[iq]
    rw[e,fD]at hpy;have:=List.append_inj_left e hpy.symm
    exact bF this
   have seg2:∀ (y:Bytes),(47:UInt8) ∉ y→y≠x→(47::(x++iq l))≠47::y:=fun y hy bF he=>by
    simp only[zRE.injEq,true_and]at he;have hpy:pre (·==47) y=y.length:=by simpa[iq] using mS hy []
    rw[← he,fD,List.length_append]at hpy;have h0:iq l=[]:=zRH.1 QA;rw[h0,zRS]at he;exact bF he.symm
   have hd:dF (47::(x++iq l)) out=(iq l,out++47::x):=by
    unfold dF;rw[if_neg (by simp[zR3]),if_neg (by simp[zR3]),if_neg (show ¬ ([47,46,47]:Bytes).isPrefixOf _=true from seg [46] QD (fun e=>h2 e.symm)),if_neg (seg2 [46] QD (fun e=>h2 e.symm)),if_neg (show ¬ ([47,46,46,47]:Bytes).isPrefixOf _=true from seg [46,46] QD (fun e=>h3 e.symm)),if_neg (seg2 [46,46] QD (fun e=>h3 e.symm)),if_neg QB];simp only[List.drop_succ_cons,List.drop_zero,fD];rw[Nat.add_comm];simp
   rw[hd];rw[rr l f _ (by simp at hf;omega) (fun y hy=>hg y (by simp[hy]))];simp
theorem v8 (r:Bytes):aS (aS (47::r))=aS (47::r):=by
 obtain⟨l,h1,h2,h3⟩:=qL r;rw[h1];unfold aS;rw[rr l _ _ (zRu _) h3];rfl
theorem yX:∀ (l:List Bytes),l≠[]→(∀ x∈l,(47:UInt8) ∉ x)→aD 47 (iq l)=[]::l
 | [],h,_=>absurd rfl h
 | x::l,_,hg=>by
   rw[oC];have hx:=hg x QB;rw[aD,if_pos QB];congr 1
   have fD:=mS hx l;cases l with
   | nil =>
     simp only[iq,List.flatMap_nil,zRS]at fD ⊢;rw[dC QA]
   | cons y l =>
     rw[dO (by rw[fD];simp[oC]),fD];have ih:=yX (y::l) QB (fun z hz=>hg z (by simp[hz]));rw[oC,aD,if_pos QB]at ih;simp only[zRE.injEq,true_and]at ih;rw[oC];simp[ih]
theorem AP (r:Bytes):(∃ q,aS (47::r)=47::q)∧∀ x∈aD 47 (aS (47::r)),x≠[46]∧x≠[46,46]:=by
 obtain⟨l,h1,h2,h3⟩:=qL r;rw[h1];constructor
 ·cases l with
  | nil=>exact absurd rfl h2
  | cons x l=>exact⟨_,rfl⟩
 ·rw[yX l h2 (fun x hx=>(h3 x hx).1)]
  intro x hx;simp only[zRZ]at hx;rcases hx with rfl|hx
  ·simp
  ·exact(h3 x hx).2
open Go Go.RowKit
def Can (also s:Bytes):Prop:=∃ l:List PU,s=l.flatMap PU.str∧∀ x∈l,P7 also x
theorem ke (also:Bytes):Can also []:=⟨[],rfl,QB⟩
theorem pI {also a b:Bytes}(ha:Can also a)(hb:Can also b):Can also (a++b):=by
 obtain⟨l,rfl,h1⟩:=ha;obtain⟨m,rfl,h2⟩:=hb;exact⟨l++m,QB,fun x hx=>by
  rcases zRR.1 hx with h|h
  ·exact h1 x h
  ·exact h2 x h⟩
theorem vA {also:Bytes}{c:UInt8}(h:fG also c=true)(hc:c≠37):Can also [c]:=⟨[.lit c],rfl,fun x hx=>by
 obtain rfl:=zRG.1 hx;exact⟨h,hc⟩⟩
theorem can_esc (also:Bytes){c:UInt8}(h:iu c=false):Can also (nP c):=⟨[.hex (jH (c.toNat / 16)) (jH (c.toNat % 16))],rfl,fun x hx=>by
 obtain rfl:=zRG.1 hx;have hn:=c.toNat_lt;have hv:=lq c;exact⟨by rw[hv];exact h,by rw[hv],by rw[hv],iB _ QA,iB _ QA⟩⟩
theorem H0 {also:Bytes}{c:UInt8}{r:Bytes}(hc:c≠37)(h:Can also (c::r)):fG also c=true∧Can also r:=by
 obtain⟨l,e,h1⟩:=h;cases l with
 | nil=>simp at e
 | cons x l =>
   have hx:=h1 x zRD;rw[zRC]at e;cases x with
   | lit d =>
     simp only[PU.str,zRU,zRE.injEq]at e;obtain⟨rfl,rfl⟩:=e;exact⟨hx.1,l,rfl,fun y hy=>h1 y (zRN _ hy)⟩
   | hex a b =>
     simp only[PU.str,zRB,zRQ,zRE.injEq]at e;exact absurd e.1 hc
   | bad=>exact hx.elim
theorem wZ {also:Bytes}{c:UInt8}(hc:c≠37)(hx:aR c=false):∀ (l:List PU)(a b:Bytes),(∀ x∈l,P7 also x)→a++c::b=l.flatMap PU.str→Can also a∧Can also (c::b)
 | [],a,b,_,e=>by simp at e
 | .lit d::l,[],b,h,e=>⟨ke _,_,e,h⟩
 | .lit d::l,y::a,b,h,e=>by
   rw[zRC]at e;simp only[PU.str,zRU,zRB,zRE.injEq]at e;obtain⟨rfl,e⟩:=e;obtain⟨h1,h2⟩:=wZ hc hx l a b (fun y hy=>h y (zRN _ hy)) e;have hy:=h _ zRD;exact⟨pI (a:=[y]) (vA hy.1 hy.2) h1,h2⟩
 | .hex u v::l,[],b,h,e=>by
   rw[zRC]at e;simp only[PU.str,zRQ,zRB,zRE.injEq]at e;exact absurd e.1 hc
 | .hex u v::l,[x],b,h,e=>by
   rw[zRC]at e;simp only[PU.str,zRQ,zRB,zRE.injEq]at e;have:=(h _ zRD).2.2.2.1
   rw[← e.2.1,hx]at this;cases this
 | .hex u v::l,[x,y],b,h,e=>by
   rw[zRC]at e;simp only[PU.str,zRQ,zRB,zRE.injEq]at e;have:=(h _ zRD).2.2.2.2
   rw[← e.2.2.1,hx]at this;cases this
 | .hex u v::l,x::y::z::a,b,h,e=>by
   rw[zRC]at e;simp only[PU.str,zRQ,zRB,zRE.injEq]at e;obtain⟨rfl,rfl,rfl,e⟩:=e;obtain⟨h1,h2⟩:=wZ hc hx l a b (fun y hy=>h y (zRN _ hy)) e;refine⟨pI (a:=[37,y,z]) ⟨[.hex y z],rfl,fun x hx=>?_⟩ h1,h2⟩;obtain rfl:=zRG.1 hx;exact h _ zRD
 | .bad::l,a,b,h,e=>(h _ zRD).elim
theorem Can.split {also a b:Bytes}{c:UInt8}(hc:c≠37)(hx:aR c=false)(h:Can also (a++c::b)):Can also a∧Can also (c::b):=by
 obtain⟨l,e,h1⟩:=h;exact wZ hc hx l a b h1 e
theorem w9 {also s:Bytes}(h:Can also s):∀ c∈s,fG also c=true∨c=37∨aR c=true:=by
 obtain⟨l,rfl,h1⟩:=h;intro c hc;obtain⟨x,hx,hcx⟩:=List.mem_flatMap.1 hc;have hk:=h1 x hx;cases x with
 | lit d =>
   obtain rfl:=zRG.1 hcx;exact .inl hk.1
 | hex a b =>
   simp only[PU.str,zRZ,List.not_mem_nil,or_false]at hcx;rcases hcx with rfl|rfl|rfl
   ·exact .inr (.inl rfl)
   ·exact .inr (.inr hk.2.2.2.1)
   ·exact .inr (.inr hk.2.2.2.2)
 | bad=>exact hk.elim
theorem vB {also s:Bytes}(h:Can also s)(hl:s.length≤16384):bM also s=(s,0):=by
 obtain⟨l,rfl,h1⟩:=h;unfold bM;rw[if_neg QA,rJ also l h1,wA also l h1]
theorem uR {also s:Bytes}(h:(bM also s).2=0):Can also (bM also s).1:=by
 unfold bM at h ⊢;split at h
 ·simp at h
 ·rename_i hs
  rw[if_neg hs];obtain⟨l',e,h1,-,-⟩:=qU also (aI s) (xj s) h;exact⟨l',e,h1⟩
theorem can_cut {also s:Bytes}(n:Nat)(hd:s.drop n=[]∨∃ r,s.drop n=47::r)(h:Can also s):Can also (s.take n)∧Can also (s.drop n):=by
 rcases hd with hd|⟨r,hd⟩
 ·rw[hd]
  have e:s.take n=s:=zRw (by simpa using hd);rw[e];exact⟨h,ke _⟩
 ·rw[hd]
  have e:s=s.take n++47::r:=by rw[← hd,zRV]
  rw[e]at h;exact h.split QD QD
theorem HN (s:Bytes):s.drop (pre (·==47) s)=[]∨∃ r,s.drop (pre (·==47) s)=47::r:=by
 by_cases h:pre (·==47) s<s.length
 ·right
  have:=iM h
  simp only[beq_iff_eq]at this;exact⟨s.drop (pre (·==47) s+1),by rw[zRx h,this]⟩
 ·left;simp;omega
theorem Bf (s:Bytes):ep s=[]∨∃ r,s=ep s++47::r:=by
 unfold ep;have key:∀ t:Bytes,t.dropWhile (· != 47)=[]∨∃ a b,t=a++47::b∧t.dropWhile (· != 47)=47::b:=by
  intro t;induction t with
  | nil=>left;rfl
  | cons x t ih =>
    by_cases hx:x=47
    ·subst hx
     right;exact⟨[],t,rfl,QB⟩
    ·rw[List.dropWhile_cons_of_pos (by simp[hx])]
     rcases ih with ih|⟨a,b,h1,h2⟩
     ·left;exact ih
     ·right;exact⟨x::a,b,by rw[h1];rfl,h2⟩
 rcases key s.reverse with h|⟨a,b,h1,h2⟩
 ·left;rw[h];rfl
 ·right
  rw[h2];refine⟨a.reverse,?_⟩;have:=congrArg List.reverse h1
  rw[List.reverse_reverse]at this;rw[this];simp
theorem x7 {also s:Bytes}(h:Can also s):Can also (ep s):=by
 rcases Bf s with e|⟨r,e⟩
 ·rw[e];exact ke _
 ·rw[e]at h;exact(h.split QD QD).1
theorem H3 {also p o:Bytes}(MN:fG also 47=true)(hp:Can also p)(ho:Can also o):Can also (dF p o).1∧Can also (dF p o).2:=by
 have c47:Can also [47]:=vA MN QD;have drop1:∀ {c:UInt8} {r:Bytes},c≠37→Can also (c::r)→Can also r:=fun hc h=>(H0 hc h).2
 unfold dF;split
 ·rename_i h
  obtain⟨r,rfl⟩:=zRz.1 h;exact⟨drop1 QD (drop1 QD (drop1 QD hp)),ho⟩
 split
 ·rename_i h
  obtain⟨r,rfl⟩:=zRz.1 h;exact⟨drop1 QD (drop1 QD hp),ho⟩
 split
 ·rename_i h
  obtain⟨r,rfl⟩:=zRz.1 h;exact⟨drop1 QD (drop1 QD hp),ho⟩
 split
 ·exact⟨c47,ho⟩
 split
 ·rename_i h
  obtain⟨r,rfl⟩:=zRz.1 h;exact⟨drop1 QD (drop1 QD (drop1 QD hp)),x7 ho⟩
 split
 ·exact⟨c47,x7 ho⟩
 split
 ·exact⟨ke _,ho⟩
 ·have hd:p.drop (1+pre (·==47) (p.drop 1))=[]∨∃ r,p.drop (1+pre (·==47) (p.drop 1))=47::r:=by
   rw[← List.drop_drop];exact HN _
  obtain⟨h1,h2⟩:=can_cut _ hd hp;exact⟨h2,pI ho h1⟩
theorem AR {also:Bytes}(MN:fG also 47=true):∀ (f:Nat)(p o:Bytes),Can also p→Can also o→Can also (fR f p o)
 | 0,_,_,_,ho=>ho
 | f+1,p,o,hp,ho=>by
   rw[fR];split
   ·exact ho
   ·obtain⟨h1,h2⟩:=H3 MN hp ho
    exact AR MN f _ _ h1 h2
theorem AQ {also p:Bytes}(MN:fG also 47=true)(hp:Can also p):Can also (aS p):=AR MN _ _ _ hp (ke _)
theorem zN (d:UInt8):∀ (n:Nat)(s:Bytes),s.length≤n→∀ c∈s,c=d∨∃ x∈aD d s,c∈x
 | 0,s,h,c,hc=>by
   obtain rfl:=zRH.1 (Nat.le_zero.1 h);simp at hc
 | n+1,s,h,c,hc=>by
   by_cases hp:pre (·==d) s<s.length
   ·rw[dO hp]
    have e:s=s.take (pre (·==d) s)++d::s.drop (pre (·==d) s+1):=by
     have:=iM hp
     simp only[beq_iff_eq]at this
     conv=>lhs;rw[← zRV (pre (·==d) s) s,zRx hp,this]
    rw[e]at hc;rcases zRR.1 hc with h1|h1
    ·exact .inr ⟨_,zRD,h1⟩
    ·rcases zRZ.1 h1 with h2|h2
     ·exact .inl h2
     ·rcases zN d n _ QC c h2 with h3|⟨x,h3,h4⟩
      ·exact .inl h3
      ·exact .inr ⟨x,zRN _ h3,h4⟩
   ·rw[dC hp]
    exact .inr ⟨s,zRG.2 rfl,hc⟩
theorem Eg {s:Bytes}(h:gM s=true):s.all isDigit=true:=by
 unfold gM aV at h;split at h
 ·simp at h
 ·have:=(og 255 s).1 (.inl (by simpa using h))
  unfold bj at this;simp only[zRF]at this;exact this.2
theorem CD:∀ (l:List Bytes),pZ l=true→∀ x∈l,bW x=true
 | [],_,x,h=>by simp at h
 | [y],h,x,hx=>by
   simp only[pZ,zRF]at h;obtain rfl:=zRG.1 hx;exact h.1
 | y::z::r,h,x,hx=>by
   simp only[pZ,zRF]at h;rcases zRZ.1 hx with rfl|hx
   ·exact h.1
   ·exact CD (z::r) h.2 x hx
theorem nk {s x:Bytes}(h:cp s=(x,0)):∀ c∈x,yG c=true∨c=46:=by
 have hx:=(l6 h).2.2;clear h;unfold cp at hx;split at hx
 ·simp at hx
 split at hx
 ·simp at hx
 split at hx
 ·simp at hx
 ·rename_i h3
  intro c hc;rcases zN 46 _ x (zRu _) c hc with h4|⟨y,h4,h5⟩
  ·exact .inr h4
  ·left
   cases hi:ipv4 x
   ·have hn:gg x=true:=by simpa[hi] using h3
    have:=CD _ hn y h4
    unfold bW at this;simp only[zRF]at this;exact zRY.1 this.2 c h5
   ·unfold ipv4 at hi
    simp only[zRF]at hi;have:=Eg (zRY.1 hi.2 y h4)
    have:=zRY.1 this c h5
    unfold yG;rw[this];simp
theorem xZ (n:Nat):∀ c∈cf n,isDigit c=true:=fun c hc=>zRY.1 ((C9 n n n (zRu _) (zRu _)).2.1) c hc
theorem Ah {s x:Bytes}{p:Int}(h:aN s=((x,p),0)):∀ c∈bu x p,yG c=true∨c=46∨c=58:=by
 obtain⟨-,h1,-,-,h2,-⟩:=cS h;have hb:=nk h1;unfold bu;split
 ·intro c hc;exact(hb c hc).imp id .inl
 split
 ·omega
 ·intro c hc
  rcases zRR.1 hc with hc|hc
  ·rcases zRR.1 hc with hc|hc
   ·exact(hb c hc).imp id .inl
   ·exact .inr (.inr (zRG.1 hc))
  ·left;unfold yG;rw[xZ _ c hc];simp
theorem fk {c:UInt8}{l:Bytes}(h:c ∉ l):pre (·==c) l=l.length:=by
 induction l with
 | nil=>rfl
 | cons x l ih =>
   simp only[zRZ,not_or]at h;rw[bY,if_neg (by simpa using fun e=>h.1 e.symm),ih h.2];rfl
open Go Go.RowKit
theorem IS (u:Uri)(h1:u.scheme=dX)(h2:u.bU=true)(h3:u.bc=true)(ha:∀ c∈u.authority,c≠47∧c≠63∧c≠35)(hp:∃ r,u.path=47::r)(hpb:∀ c∈u.path,c≠63∧c≠35)(hq:(35:UInt8) ∉ u.query)(hq0:u.aJ=false→u.query=[])(JL:u.a8=false→u.fragment=[])(hl:(fg u).length≤16384) :
 aP (fg u)=(u,0):=by
 obtain⟨sc,au,pa,qu,fr,b1,b2,b3,b4⟩:=u;simp only at h1 h2 h3 ha hp hpb hq hq0 JL;subst h1 h2 h3;have c1:aL 35 (fg ⟨dX,au,pa,qu,fr,true,true,b3,b4⟩)=(dX++[58]++([47,47]++au)++pa++(if b3 then [63]++qu else []),fr,b4):=by
  have hn:(35:UInt8) ∉ dX++[58]++([47,47]++au)++pa++(if b3 then [63]++qu else []):=by
   simp only[zRR,not_or];refine⟨⟨⟨⟨by decide,by decide⟩,by decide,fun h=>(ha _ h).2.2 rfl⟩,fun h=>(hpb _ h).2 rfl⟩,?_⟩;split
   ·simp only[zRR,not_or];exact⟨by decide,hq⟩
   ·simp
  cases b4
  ·have:fg ⟨dX,au,pa,qu,fr,true,true,b3,false⟩=dX++[58]++([47,47]++au)++pa++(if b3 then [63]++qu else []):=by simp[fg]
   rw[this,gH (fk hn),JL rfl]
  ·have:fg ⟨dX,au,pa,qu,fr,true,true,b3,true⟩=(dX++[58]++([47,47]++au)++pa++(if b3 then [63]++qu else []))++35::fr:=by simp[fg]
   rw[this,je (fk hn)]
 have c2:aL 63 (dX++[58]++([47,47]++au)++pa++(if b3 then [63]++qu else []))=(dX++[58]++([47,47]++au)++pa,qu,b3):=by
  have hn:(63:UInt8) ∉ dX++[58]++([47,47]++au)++pa:=by
   simp only[zRR,not_or];exact⟨⟨⟨by decide,by decide⟩,by decide,fun h=>(ha _ h).2.1 rfl⟩,fun h=>(hpb _ h).1 rfl⟩
  cases b3
  ·rw[if_neg QB,zRS,gH (fk hn),hq0 rfl]
  ·rw[if_pos rfl,zRU,je (fk hn)]
 unfold aP;rw[if_neg QA,c1];simp only;rw[c2];simp only;obtain⟨r,rfl⟩:=hp;have e:dX++[58]++([47,47]++au)++47::r=104::116::116::112::115::58::47::47::(au++47::r):=by simp[dX]
 have p5:pre ay (104::116::116::112::115::58::47::47::(au++47::r))=5:=by
  simp only[bY];rw[if_neg QD,if_neg QD,if_neg QD,if_neg QD,if_neg QD,if_pos QD]
 have pa:pre (·==47) (au++47::r)=au.length:=DT (fk (fun h=>(ha _ h).1 rfl)) 47 r QD;rw[e];unfold aT;rw[p5];simp only[List.drop_succ_cons,List.drop_zero,List.take_succ_cons,List.take_zero,List.head?_cons,if_true,aG,pa,List.take_left,List.drop_left];rw[if_pos QD];rfl
def yO (u:bN):Uri:=⟨dX,bu u.host u.port,u.path,u.query,u.fragment,true,true,u.aJ,u.a8⟩
theorem tY (u:bN):bh u=fg (yO u):=by
 unfold bh fg yO bK;cases u.aJ <;> simp[dX]
structure fT (u:bN):Prop where
 host:aN (bu u.host u.port)=((u.host,u.port),0)
 path:Can dP u.path
 Fz:∃ r,u.path=47::r
 dots:aS u.path=u.path
 query:Can dE u.query
 frag:Can dE u.fragment
 noq:u.aJ=false→u.query=[]
 nof:u.a8=false→u.fragment=[]
 len:(bh u).length≤4096
theorem KQ {x:Bytes}{p:Int}(h:aN (bu x p)=((x,p),0)):∀ c∈bu x p,c≠47∧c≠63∧c≠35∧c≠64:=by
 intro c hc;have h1:=Ah h c hc;have:=du (p:=fun c=>!(yG c||c==46||c==58)||(c != 47&&c != 63&&c != 35&&c != 64)) (by decide +kernel) c
 have h2:(yG c||c==46||c==58)=true:=by rcases h1 with h|rfl|rfl <;> simp[*]
 rw[h2]at this;simpa[and_assoc] using this
theorem path_no {s:Bytes}(h:Can dP s):∀ c∈s,c≠63∧c≠35:=by
 intro c hc;have h1:=w9 h c hc;have:=du (p:=fun c=>!(fG dP c||c==37||aR c)||(c != 63&&c != 35)) (by decide +kernel) c
 have h2:(fG dP c||c==37||aR c)=true:=by rcases h1 with h|rfl|h <;> simp[*]
 rw[h2]at this;simpa using this
theorem Oe {s:Bytes}(h:Can dE s):(35:UInt8) ∉ s:=by
 intro hc;have:=w9 h _ hc
 revert this;decide
theorem fT.split {u:bN}(h:fT u):aP (bh u)=(yO u,0):=by
 rw[tY];refine IS (yO u) rfl rfl rfl (fun c hc=>?_) h.Fz (path_no h.path) (Oe h.query) h.noq h.nof (by rw[← tY];have:=h.len;omega);have:=KQ h.host c hc
 exact⟨this.1,this.2.1,this.2.2.1⟩
theorem iV (u:bN):u.path.length≤(bh u).length∧(u.aJ=true→u.query.length≤(bh u).length)∧(u.a8=true→u.fragment.length≤(bh u).length):=by
 unfold bh bK;refine⟨?_,fun h=>?_,fun h=>?_⟩
 ·split <;> split <;> (simp;omega)
 ·rw[if_pos h];split <;> (simp;omega)
 ·rw[if_pos h];split <;> (simp;omega)
theorem fT.parse {u:bN}(h:fT u):bz (bh u)=(u,0):=by
 obtain⟨l1,l2,l3⟩:=iV u;have hl:=h.len;have n1:=vB h.path QA;have n2:bM dE u.query=(u.query,0):=by
  cases hq:u.aJ
  ·rw[h.noq hq];rfl
  ·exact vB h.query (by have:=l2 hq;omega)
 have n3:bM dE u.fragment=(u.fragment,0):=by
  cases hq:u.a8
  ·rw[h.nof hq];rfl
  ·exact vB h.frag (by have:=l3 hq;omega)
 unfold bz;rw[if_neg QA,h.split];simp only[ne_eq,not_true,if_false];unfold xh yO;simp only;rw[if_neg (by simp[show lower dX=dX by decide]),if_neg QB,if_neg (fun k=>(KQ h.host _ k).2.2.2 rfl)];unfold n9;simp only;rw[h.host,n1,n2,n3];simp only[ne_eq,not_true,if_false];unfold oF;simp only;obtain⟨r,hr⟩:=h.Fz;have e:(if aS u.path=[] then [47] else aS u.path)=u.path:=by
  rw[h.dots,hr,if_neg QB]
 rw[e,if_neg (by show ¬ 4096<(bh u).length;omega)]
theorem IA (h:Bytes × Int)(p q f:Bytes)(hq hf:Bool)(k:(oF h p q f hq hf).2≠0):(oF h p q f hq hf).1=bN.none:=by
 unfold oF at k ⊢;generalize (if aS p=[] then [47] else aS p)=d at k ⊢;split
 ·rfl
 ·rename_i eB
  rw[if_neg eB]at k;exact absurd rfl k
theorem Lo {h:Bytes × Int}{p q f:Bytes}{hq hf:Bool}{u:bN}(k:oF h p q f hq hf=(u,0)):u=⟨h.1,h.2,if aS p=[] then [47] else aS p,q,f,hq,hf⟩∧(bh u).length≤4096:=by
 unfold oF at k;generalize (if aS p=[] then [47] else aS p)=d at k ⊢;split at k
 ·simp at k
 ·obtain rfl:=(Prod.mk.inj k).1
  exact⟨rfl,QA⟩
theorem De (s:Bytes)(h:(bz s).2≠0):(bz s).1=bN.none:=by
 unfold bz at h ⊢;split
 ·rfl
 rename_i h1
 rw[if_neg h1]at h;split
 ·rfl
 rename_i h2
 rw[if_neg h2]at h;unfold xh at h ⊢;split
 ·rfl
 rename_i h3
 rw[if_neg h3]at h;split
 ·rfl
 rename_i h4
 rw[if_neg h4]at h;split
 ·rfl
 rename_i h5
 rw[if_neg h5]at h;unfold n9 at h ⊢;split
 ·rfl
 rename_i h6
 rw[if_neg h6]at h;split
 ·rfl
 rename_i h7
 rw[if_neg h7]at h;split
 ·rfl
 rename_i h8
 rw[if_neg h8]at h;split
 ·rfl
 rename_i h9
 rw[if_neg h9]at h;exact IA _ _ _ _ _ _ h
theorem zi:aS [47]=[47]:=by decide
theorem Lw (s:Bytes)(h:(aP s).2=0):((aP s).1.aJ=false→(aP s).1.query=[])∧((aP s).1.a8=false→(aP s).1.fragment=[])∧((aP s).1.bc=true→(aP s).1.path=[]∨∃ r,(aP s).1.path=47::r):=by
 unfold aP at h ⊢;split
 ·rename_i h1;rw[if_pos h1]at h;simp at h
 rename_i h1
 rw[if_neg h1]at h;have q1:=Fi 63 (aL 35 s).1;have q2:=Fi 35 s;have ha:∀ t:Bytes,(aG t).2.1=true→(aG t).2.2=[]∨∃ r,(aG t).2.2=47::r:=by
  intro t;unfold aG;split
  ·intro _;exact HN _
  ·intro h;simp at h
 unfold aT at h ⊢;split
 ·rename_i h2
  rw[if_pos h2]at h;split
  ·exact⟨q1,q2,ha _⟩
  ·rename_i h3;rw[if_neg h3]at h;simp at h
 ·exact⟨q1,q2,ha _⟩
theorem jC {s:Bytes}{u:bN}(h:bz s=(u,0)):fT u:=by
 unfold bz at h;split at h
 ·simp at h
 split at h
 ·rename_i h1 h2;exact absurd (Prod.mk.inj h).2 h2
 rename_i h1 h2
 have h2:(aP s).2=0:=by simpa using h2
 obtain⟨q1,q2,q3⟩:=Lw s h2;generalize (aP s).1=r at h q1 q2 q3;unfold xh at h;split at h
 ·simp at h
 split at h
 ·simp at h
 split at h
 ·simp at h
 rename_i h3 h4 h5
 have Pt:=q3 (by simpa using h4);unfold n9 at h;split at h
 ·rename_i h6;exact absurd (Prod.mk.inj h).2 h6
 split at h
 ·rename_i h6;exact absurd (Prod.mk.inj h).2 h6
 split at h
 ·rename_i h6;exact absurd (Prod.mk.inj h).2 h6
 split at h
 ·rename_i h6;exact absurd (Prod.mk.inj h).2 h6
 rename_i e1 e2 e3 e4
 obtain⟨h,hlen⟩:=Lo h;have hp:=uR (also:=dP) (s:=r.path) (by simpa using e2);have hq:=uR (also:=dE) (s:=r.query) (by simpa using e3);have hf:=uR (also:=dE) (s:=r.fragment) (by simpa using e4);have hd:aS (bM dP r.path).1=[]∨∃ q,aS (bM dP r.path).1=47::q∧aS (47::q)=47::q:=by
  have hh:(bM dP r.path).1=[]∨∃ q,(bM dP r.path).1=47::q:=by
   rcases Pt with h|⟨q,h⟩
   ·left;rw[h];rfl
   ·right
    have e2':(bM dP r.path).2=0:=by simpa using e2
    rw[h]at e2' ⊢;unfold bM at e2' ⊢;split
    ·rename_i hx;rw[if_pos hx]at e2';simp at e2'
    rename_i hx
    rw[if_neg hx,eC QD,cg,if_pos QD]at e2';rw[eC QD,cg,if_pos QD];unfold comb at e2' ⊢;split
    ·exact⟨_,rfl⟩
    ·rename_i hy;rw[if_neg hy]at e2';exact absurd e2' hy
  rcases hh with h|⟨q,h⟩
  ·left;rw[h];rfl
  ·right
   rw[h];obtain⟨⟨q',hq'⟩,-⟩:=AP q;exact⟨q',hq',by have:=v8 q;rw[hq']at this;exact this⟩
 have hhp:aN r.authority=(((aN r.authority).1.1,(aN r.authority).1.2),0):=by
  have:(aN r.authority).2=0:=by simpa using e1
  rw[← this]
 subst h;refine⟨(cS hhp).1,?_,?_,?_,hq,hf,fun k=>by simp only at k ⊢;rw[q1 k];rfl,fun k=>by simp only at k ⊢;rw[q2 k];rfl,QA⟩
 ·simp only
  rcases hd with hd|⟨q,hd,-⟩
  ·rw[if_pos hd];exact vA QD QD
  ·rw[if_neg (by rw[hd];simp)];exact AQ QD hp
 ·simp only
  rcases hd with hd|⟨q,hd,-⟩
  ·rw[if_pos hd];exact⟨_,rfl⟩
  ·rw[if_neg (by rw[hd];simp)];exact⟨_,hd⟩
 ·simp only
  rcases hd with hd|⟨q,hd,vK⟩
  ·rw[if_pos hd];exact zi
  ·rw[if_neg (by rw[hd];simp),hd];exact vK
def bN.bare (u:bN):bN:={ u with fragment:=[],a8:=false }
theorem fT.bare {u:bN}(h:fT u):fT u.bare :=
 ⟨h.host,h.path,h.Fz,h.dots,h.query,ke _,h.noq,fun _=>rfl,by
  have:=h.len
  unfold bh at this ⊢;unfold bN.bare bK at *;simp at this ⊢
  omega⟩
theorem fT.valid {u:bN}(h:fT u):bX u=true:=by unfold bX;rw[h.parse];simp
theorem rH {u:bN}(h:bX u=true):fT u:=jC (of_decide_eq_true h)
open Go Go.RowKit
def bn (fs:List (Bytes × Bytes))(name:Bytes):List Bytes:=(fs.filter fun f=>lower f.1==lower name).map (·.2)
def uV:Bytes:=[108,111,99,97,116,105,111,110]
def fZ (n:Int):Bool:=n==301||n==302||n==303||n==307||n==308
def jt (r:bN × Int)(seen:List bN):bN × Int :=
 if r.2=253 then(bN.none,253) else if r.2≠0 then(bN.none,252) else if r.1.bare∈seen then(bN.none,251) else(r.1.bare,0)
def iG (u:bN)(l:List Bytes)(seen:List bN):bN × Int :=
 if l.length≠1 then(bN.none,252) else jt (cC u (l.head?.getD [])) seen
def bT (u:bN)(fs:List (Bytes × Bytes))(seen:List bN)(dj:Int):bN × Int :=
 if 5≤dj then(bN.none,250) else iG u (bn fs uV) seen
theorem Ex (fs:List (Bytes × Bytes))(f:Bytes × Bytes)(name:Bytes):bn (fs++[f]) name=bn fs name++if lower f.1=lower name then [f.2] else []:=by
 unfold bn;rw[List.filter_append,List.map_append];congr 1
 by_cases h:lower f.1=lower name
 ·simp[h]
 ·simp[h]
theorem ve {fs:List (Bytes × Bytes)}{k:Nat}(h:k<fs.length)(name:Bytes):bn (fs.take (k+1)) name=bn (fs.take k) name++if lower fs[k].1=lower name then [fs[k].2] else []:=by
 rw[zRX h,Ex]
theorem gW (fs:List (Bytes × Bytes))(name:Bytes):(bn fs name).length≤fs.length:=by
 unfold bn;rw[zR0];exact List.length_filter_le _ _
theorem DP {u v:bN}{fs:List (Bytes × Bytes)}{seen:List bN}{dj:Int}(h:bT u fs seen dj=(v,0)):dj<5∧bX v=true∧v.a8=false∧v ∉ seen:=by
 unfold bT iG jt at h;split at h
 ·simp at h
 rename_i h1
 split at h
 ·simp at h
 split at h
 ·simp at h
 split at h
 ·simp at h
 rename_i h4
 split at h
 ·simp at h
 rename_i h5
 simp only[Prod.mk.injEq,and_true]at h;subst h;have h4:=Decidable.not_not.1 h4;refine⟨QA,?_,rfl,h5⟩;refine fT.valid (fT.bare ?_);generalize hr:cC u _=r at h4 ⊢;obtain⟨r,e⟩:=r;simp only at h4;subst h4;unfold cC at hr;split at hr
 ·simp at hr
 split at hr
 ·rename_i k;exact absurd (Prod.mk.inj hr).2 k
 split at hr
 ·simp at hr
 exact jC hr
end Wf
namespace Go.Proofs.YtnmlimehgifadaaGreatDoor
open Go.RowKit Wf
attribute [local go_sem] fN eY get_list
theorem uN (c:UInt8)(w:World)(h:aR c=true):Calls Tryz.prog 285 #[.int .u8 c.toNat] w fun e w'=>e=.returned (.int .u64 (bo c))∧w=w':=by
 cases hd:isDigit c
 all_goals
  go_enter func285,ntmps285
  go_wp2_with (go_at_call 252;refine(ct _ _).mono ?_;rintro e w' ⟨rfl,rfl⟩)
  go_ret
  refine⟨yw ?_,rfl⟩;have hb:=Jk c;simp[aR,isDigit]at h hd;unfold bo;split <;> (try split) <;> omega
theorem zG (s:Bytes)(m:Nat)(w:World)(hs:s.length≤9223372036854775807)(hm:m≤4611686018427387904) :
 Calls Tryz.prog 270 #[(Value.string ⟨zRn (s)⟩),.int .u64 16,.int .u64 m,.func (.func 255) #[] #[]] w fun e w'=>e=.returned (.tuple #[.int .u64 (aF aR 16 m s).1,.int .i64 (aF aR 16 m s).2])∧w=w':=by
 cases bF:s.isEmpty
 ·go_enter func270,ntmps270
  go_wp2_with fail
  go_loop [18] (fun i=>∃ k:Nat,k≤s.length∧i=.int .i64 k∧(s.take k).all aR=true) (fun i=>s.length - (intOf i).toNat)
  case atStart=>exact⟨0,QA,rfl,rfl⟩
  case round =>
   obtain⟨k,hk,rfl,br⟩:=hrel;have Hall:=hid br;clear br;by_cases az:k<s.length
   ·cases hc:aR s[k]
    ·go_wp2_with (go_at_call 255;refine(eT _ _).mono ?_;rintro e w' ⟨rfl,rfl⟩)
     go_ret2
     exact⟨kz (by simp[aF,bF,cX az hc]),rfl⟩
    ·go_wp2_with (go_at_call 255;refine(eT _ _).mono ?_;rintro e w' ⟨rfl,rfl⟩)
     go_round
     case rel=>exact⟨k+1,QA,by go_num,bq az Hall.out hc⟩
     case measure=>simp[intOf];omega
   ·have br:s.all aR=true:=by have:=Hall.out;rwa [zRw QA]at this
    clear Hall;have Hall:=hid br;clear br;go_wp2_with fail
    go_loop [11,30] (fun n i=>∃ k a:Nat,k≤s.length∧i=.int .i64 k∧a≤m∧n=.int .u64 a∧dw 16 m a (s.drop k)=dw 16 m 0 s) (fun _ i=>s.length - (intOf i).toNat)
    case atStart=>exact⟨0,0,QA,rfl,QA,rfl,rfl⟩
    case round =>
     obtain⟨j,a,hj,rfl,ha,rfl,heq⟩:=hrel;have Heq:=hid heq;clear heq;by_cases p9:j<s.length
     ·have hv:=iY (show aR s[j]=true by have:=pO Hall.out p9;first|exact this | (simp[isDigit,aR]at this ⊢;omega))
      go_wp2_with (go_at_call 285;refine(uN _ _ (by have:=pO Hall.out p9;first|exact this | (simp[isDigit,aR]at this ⊢;omega))).mono ?_;rintro e w' ⟨rfl,rfl⟩)
      all_goals first
       | (go_ret2;exact⟨kz (jx bF Hall.out Heq.out p9 QA),rfl⟩)
       | (go_round
          case rel=>exact⟨j+1,a * 16+bo s[j],QA,by go_num,QA,by go_num,ix Heq.out p9 QA⟩
          case measure=>simp[intOf];omega)
     ·go_wp2_with fail
      go_ret2
      exact⟨kz (iy bF Hall.out Heq.out p9),rfl⟩
 ·go_enter func270,ntmps270
  go_wp2_with fail
  go_ret2
  exact⟨kz (by simp[aF,bF]),rfl⟩
theorem zH (s:Bytes)(m:Nat)(w:World)(hs:s.length≤9223372036854775807)(hm:m≤4611686018427387904) :
 Calls Tryz.prog 270 #[(Value.string ⟨zRn (s)⟩),.int .u64 10,.int .u64 m,.func (.func 252) #[] #[]] w fun e w'=>e=.returned (.tuple #[.int .u64 (aF isDigit 10 m s).1,.int .i64 (aF isDigit 10 m s).2])∧w=w':=by
 cases bF:s.isEmpty
 ·go_enter func270,ntmps270
  go_wp2_with fail
  go_loop [18] (fun i=>∃ k:Nat,k≤s.length∧i=.int .i64 k∧(s.take k).all isDigit=true) (fun i=>s.length - (intOf i).toNat)
  case atStart=>exact⟨0,QA,rfl,rfl⟩
  case round =>
   obtain⟨k,hk,rfl,br⟩:=hrel;have Hall:=hid br;clear br;by_cases az:k<s.length
   ·cases hc:isDigit s[k]
    ·go_wp2_with (go_at_call 252;refine(ct _ _).mono ?_;rintro e w' ⟨rfl,rfl⟩)
     go_ret2
     exact⟨kz (by simp[aF,bF,cX az hc]),rfl⟩
    ·go_wp2_with (go_at_call 252;refine(ct _ _).mono ?_;rintro e w' ⟨rfl,rfl⟩)
     go_round
     case rel=>exact⟨k+1,QA,by go_num,bq az Hall.out hc⟩
     case measure=>simp[intOf];omega
   ·have br:s.all isDigit=true:=by have:=Hall.out;rwa [zRw QA]at this
    clear Hall;have Hall:=hid br;clear br;go_wp2_with fail
    go_loop [11,30] (fun n i=>∃ k a:Nat,k≤s.length∧i=.int .i64 k∧a≤m∧n=.int .u64 a∧dw 10 m a (s.drop k)=dw 10 m 0 s) (fun _ i=>s.length - (intOf i).toNat)
    case atStart=>exact⟨0,0,QA,rfl,QA,rfl,rfl⟩
    case round =>
     obtain⟨j,a,hj,rfl,ha,rfl,heq⟩:=hrel;have Heq:=hid heq;clear heq;by_cases p9:j<s.length
     ·have hv:=iY (show aR s[j]=true by have:=pO Hall.out p9;first|exact this | (simp[isDigit,aR]at this ⊢;omega))
      go_wp2_with (go_at_call 285;refine(uN _ _ (by have:=pO Hall.out p9;first|exact this | (simp[isDigit,aR]at this ⊢;omega))).mono ?_;rintro e w' ⟨rfl,rfl⟩)
      all_goals first
       | (go_ret2;exact⟨kz (jx bF Hall.out Heq.out p9 QA),rfl⟩)
       | (go_round
          case rel=>exact⟨j+1,a * 10+bo s[j],QA,by go_num,QA,by go_num,ix Heq.out p9 QA⟩
          case measure=>simp[intOf];omega)
     ·go_wp2_with fail
      go_ret2
      exact⟨kz (iy bF Hall.out Heq.out p9),rfl⟩
 ·go_enter func270,ntmps270
  go_wp2_with fail
  go_ret2
  exact⟨kz (by simp[aF,bF]),rfl⟩
theorem Jm (s:Bytes)(m:Nat)(w:World)(hs:s.length≤9223372036854775807)(hm:m≤4611686018427387904) :
 Calls Tryz.prog 266 #[(Value.string ⟨zRn (s)⟩),.int .u64 m] w fun e w'=>e=.returned (.tuple #[.int .u64 (aF aR 16 m s).1,.int .i64 (aF aR 16 m s).2])∧w=w':=by
 go_enter func266,ntmps266
 go_wp2_with (go_at_call 270;refine(zG _ _ _ hs hm).mono ?_;rintro e w' ⟨rfl,rfl⟩)
 go_ret2
 exact⟨rfl,rfl⟩
theorem uO (s:Bytes)(w:World)(hs:s.length≤9223372036854775807) :
 Calls Tryz.prog 266 #[(Value.string ⟨zRn (s)⟩),.int .u64 4611686018427387904] w fun e w'=>e=.returned (.tuple #[.int .u64 (aF aR 16 4611686018427387904 s).1,.int .i64 (aF aR 16 4611686018427387904 s).2])∧w=w' :=
 Jm s 4611686018427387904 w hs (zRu _)
theorem kW (s:Bytes)(m:Nat)(w:World)(hs:s.length≤9223372036854775807)(hm:m≤4611686018427387904) :
 Calls Tryz.prog 236 #[(Value.string ⟨zRn (s)⟩),.int .u64 m] w fun e w'=>e=.returned (.tuple #[.int .u64 (aF isDigit 10 m s).1,.int .i64 (aF isDigit 10 m s).2])∧w=w':=by
 go_enter func236,ntmps236
 go_wp2_with (go_at_call 270;refine(zH _ _ _ hs hm).mono ?_;rintro e w' ⟨rfl,rfl⟩)
 go_ret2
 exact⟨rfl,rfl⟩
theorem j7 (s:Bytes)(m:Nat)(w:World)(hs:s.length≤9223372036854775807)(hm:m≤4611686018427387904) :
 Calls Tryz.prog 223 #[(Value.string ⟨zRn (s)⟩),.int .u64 m] w fun e w'=>e=.returned (.tuple #[.int .u64 (aV m s).1,.int .i64 (aV m s).2])∧w=w':=by
 by_cases hd:bj s=true
 ·by_cases h1:1<s.length
  ·by_cases h0:s[0]=48
   ·have Hq:=hid (show aV m s=(0,6) from if_pos ⟨hd,h1,by rw[ou QA,h0]⟩)
    have hx:((s[0].toNat:Int)==48)=true:=by simp[h0]
    clear h0;go_enter func223,ntmps223
    go_wp2_with (go_at_call 235;refine(ik _ _ hs).mono ?_;rintro e w' ⟨rfl,rfl⟩)
    go_ret2
    rw[Hq.out];exact⟨rfl,rfl⟩
   ·have Hq:=hid (show aV m s=aF isDigit 10 m s from if_neg (by rintro⟨_,_,h⟩;rw[ou QA]at h;exact h0 (by simpa using h)))
    have hx:((s[0].toNat:Int)==48)=false:=Fj h0;clear h0;go_enter func223,ntmps223
    go_wp2_with (first
     | (go_at_call 235;refine(ik _ _ hs).mono ?_;rintro e w' ⟨rfl,rfl⟩)
     | (go_at_call 236;refine(kW _ _ _ hs hm).mono ?_;rintro e w' ⟨rfl,rfl⟩))
    go_ret2
    rw[Hq.out];exact⟨rfl,rfl⟩
  ·have Hq:=hid (show aV m s=aF isDigit 10 m s from if_neg (by rintro⟨_,h,_⟩;exact h1 h))
   go_enter func223,ntmps223
   go_wp2_with (first
    | (go_at_call 235;refine(ik _ _ hs).mono ?_;rintro e w' ⟨rfl,rfl⟩)
    | (go_at_call 236;refine(kW _ _ _ hs hm).mono ?_;rintro e w' ⟨rfl,rfl⟩))
   go_ret2
   rw[Hq.out];exact⟨rfl,rfl⟩
 ·have Hq:=hid (show aV m s=aF isDigit 10 m s from if_neg (by rintro⟨h,_,_⟩;exact hd h))
  have vK:bj s=false:=by simpa using hd
  clear hd;go_enter func223,ntmps223
  go_wp2_with (first
   | (go_at_call 235;refine(ik _ _ hs).mono ?_;rintro e w' ⟨rfl,rfl⟩)
   | (go_at_call 236;refine(kW _ _ _ hs hm).mono ?_;rintro e w' ⟨rfl,rfl⟩))
  go_ret2
  rw[Hq.out];exact⟨rfl,rfl⟩
theorem Bs (s:Bytes)(m:Nat)(w:World)(hs:s.length≤9223372036854775807)(hm:m≤4611686018427387904) :
 Calls Tryz.prog 204 #[(Value.string ⟨zRn (s)⟩),.int .u64 10,.int .u64 m] w fun e w'=>e=.returned (.tuple #[.int .u64 (aF isDigit 10 m s).1,.int .i64 (aF isDigit 10 m s).2])∧w=w':=by
 cases bF:s.isEmpty
 ·go_enter func204,ntmps204
  go_wp2_with fail
  go_loop [8] (fun i=>∃ k:Nat,k≤s.length∧i=.int .i64 k∧(s.take k).all isDigit=true) (fun i=>s.length - (intOf i).toNat)
  case atStart=>exact⟨0,QA,rfl,rfl⟩
  case round =>
   obtain⟨k,hk,rfl,br⟩:=hrel;have Hall:=hid br;clear br;by_cases az:k<s.length
   ·cases hc:isDigit s[k]
    ·have Ha:=hid (cX az hc)
     go_wp2_with (go_at_call 148;refine(eN _ _).mono ?_;rintro e w' ⟨rfl,rfl⟩)
     go_ret2
     exact⟨kz (by simp[aF,bF,Ha.out]),rfl⟩
    ·go_wp2_with (go_at_call 148;refine(eN _ _).mono ?_;rintro e w' ⟨rfl,rfl⟩)
     go_round
     case rel=>exact⟨k+1,QA,by go_num,bq az Hall.out hc⟩
     case measure=>simp[intOf];omega
   ·have br:s.all isDigit=true:=by have:=Hall.out;rwa [zRw QA]at this
    clear Hall;have Hall:=hid br;clear br;go_wp2_with fail
    go_loop [9,10] (fun n i=>∃ k a:Nat,k≤s.length∧i=.int .i64 k∧a≤m∧n=.int .u64 a∧dw 10 m a (s.drop k)=dw 10 m 0 s) (fun _ i=>s.length - (intOf i).toNat)
    case atStart=>exact⟨0,0,QA,rfl,QA,rfl,rfl⟩
    case round =>
     obtain⟨j,a,hj,rfl,ha,rfl,heq⟩:=hrel;have Heq:=hid heq;clear heq;by_cases p9:j<s.length
     ·have hdg:=pO Hall.out p9
      simp[isDigit]at hdg;obtain⟨vL,vK⟩:=hdg;have Hv:=hid (show (bo s[j]:Int)=s[j].toNat - 48 by unfold bo;rw[if_pos vK];omega);go_wp2_with fail
      all_goals
       have hu:=NA ((m:Int) - (s[j].toNat - 48)) QA QA;have hv:=Hv.out;first
       | (go_ret2;exact⟨kz (jx bF Hall.out Heq.out p9 QA),rfl⟩)
       | (go_round
          case rel=>exact⟨j+1,a * 10+bo s[j],QA,by go_num,QA,congrArg (Value.int .u64) QA,ix Heq.out p9 QA⟩
          case measure=>simp[intOf];omega)
     ·go_wp2_with fail
      go_ret2
      exact⟨kz (iy bF Hall.out Heq.out p9),rfl⟩
 ·go_enter func204,ntmps204
  go_wp2_with fail
  go_ret2
  exact⟨kz (by simp[aF,bF]),rfl⟩
theorem oT (s:Bytes)(m:Nat)(w:World)(hs:s.length≤9223372036854775807)(hm:m≤4611686018427387904) :
 Calls Tryz.prog 150 #[(Value.string ⟨zRn (s)⟩),.int .u64 m] w fun e w'=>e=.returned (.tuple #[.int .u64 (aV m s).1,.int .i64 (aV m s).2])∧w=w':=by
 have hq:aV m s=if bj s=true∧1<s.length∧s.head? = some 48 then(0,6) else aF isDigit 10 m s:=rfl
 have he:=og m s;have hc:=Bs s m w hs hm;generalize aF isDigit 10 m s=np at hq he hc;obtain⟨n,e⟩:=np;simp only at hq he hc;have Hc:=hid hc;clear hc;by_cases hd:bj s=true
 ·rw[hd]at he
  simp only[iff_true]at he;have hg:(e==0||e==4)=true:=by simp;omega
  by_cases h1:1<s.length
  ·by_cases h0:s[0]=48
   ·rw[if_pos ⟨hd,h1,by rw[ou QA,h0]⟩]at hq
    have Hq:=hid hq;have hx:((s[0].toNat:Int)==48)=true:=by simp[h0]
    clear h0 hq;rcases he with rfl|rfl
    all_goals
     go_enter func150,ntmps150
     go_wp2_with fail
     refine Hc.out.mono ?_;rintro e w' ⟨rfl,rfl⟩;go_wp2_with fail
     go_ret2
     rw[Hq.out];exact⟨rfl,rfl⟩
   ·rw[if_neg (by rintro⟨_,_,h⟩;rw[ou QA]at h;exact h0 (by simpa using h))]at hq
    have Hq:=hid hq;have hx:((s[0].toNat:Int)==48)=false:=Fj h0;clear h0 hq;rcases he with rfl|rfl
    all_goals
     go_enter func150,ntmps150
     go_wp2_with fail
     refine Hc.out.mono ?_;rintro e w' ⟨rfl,rfl⟩;go_wp2_with fail
     go_ret2
     rw[Hq.out];exact⟨rfl,rfl⟩
  ·rw[if_neg (by rintro⟨_,h,_⟩;exact h1 h)]at hq
   have Hq:=hid hq;clear hq;rcases he with rfl|rfl
   all_goals
    go_enter func150,ntmps150
    go_wp2_with fail
    refine Hc.out.mono ?_;rintro e w' ⟨rfl,rfl⟩;go_wp2_with fail
    go_ret2
    rw[Hq.out];exact⟨rfl,rfl⟩
 ·rw[if_neg (by rintro⟨h,_,_⟩;exact hd h)]at hq
  have vK:bj s=false:=by simpa using hd
  rw[vK]at he;have h1:(e==0)=false:=by simp;intro h;simp[h]at he
  have h2:(e==4)=false:=by simp;intro h;simp[h]at he
  have Hq:=hid hq;clear hd he hq;go_enter func150,ntmps150
  go_wp2_with fail
  refine Hc.out.mono ?_;rintro e w' ⟨rfl,rfl⟩;go_wp2_with fail
  go_ret2
  rw[Hq.out];exact⟨rfl,rfl⟩
open Go.RowKit Wf
attribute [local go_sem] fN eY get_list
theorem zW (s:Bytes)(h1:s.isEmpty=false)(h2:s.length≤63)(h3:¬ s[0]? = some 45)(h4:¬ s[s.length - 1]? = some 45):bW s=s.all yG:=by
 unfold bW;rw[List.getLast?_eq_getElem?,List.head?_eq_getElem?];simp[h1,h2,h3,h4]
theorem Ag (s:Bytes)(w:World)(hs:s.length≤9223372036854775807) :
 Calls Tryz.prog 271 #[(Value.string ⟨zRn (s)⟩)] w fun e w'=>e=.returned (.bool (bW s))∧w=w':=by
 cases h1:s.isEmpty
 ·by_cases h2:63<s.length
  ·have Hq:=hid (show bW s=false by unfold bW;simp;omega)
   go_enter func271,ntmps271
   go_wp2_with fail
   go_ret
   exact⟨bB Hq.out.symm,rfl⟩
  ·have hl:0<s.length:=by cases s <;> simp at h1 ⊢
   by_cases h3:s[0]=45
   ·have Hq:=hid (show bW s=false by unfold bW;rw[ou hl,h3];simp)
    have hx:((s[0].toNat:Int)==45)=true:=by simp[h3]
    clear h3;go_enter func271,ntmps271
    go_wp2_with fail
    go_ret
    exact⟨bB Hq.out.symm,rfl⟩
   ·have hx:((s[0].toNat:Int)==45)=false:=Fj h3
    by_cases h4:s[s.length - 1]=45
    ·have Hq:=hid (show bW s=false by
      unfold bW;rw[List.getLast?_eq_getElem?,zRy QA,h4];simp)
     have hy:((s[s.length - 1].toNat:Int)==45)=true:=by simp[h4]
     clear h4 h3;go_enter func271,ntmps271
     go_wp2_with fail
     go_ret
     exact⟨bB Hq.out.symm,rfl⟩
    ·have hy:((s[s.length - 1].toNat:Int)==45)=false:=Fj h4
     have Hq:=hid (zW s h1 QA (by rw[zRy hl];simpa using h3) (by rw[zRy QA];simpa using h4));have Ey:decide (63<(s.length:Int))=false:=QG;clear h3 h4;go_enter func271,ntmps271
     go_wp2_with fail
     go_loop [26] (fun i=>∃ k:Nat,k≤s.length∧i=.int .i64 k∧(s.take k).all yG=true) (fun i=>s.length - (intOf i).toNat)
     case atStart=>exact⟨0,QA,rfl,rfl⟩
     case round=>(
      obtain⟨k,hk,rfl,br⟩:=hrel;have Hall:=hid br;clear br;by_cases az:k<s.length
      ·cases hc:yG s[k]
       ·have Ha:=hid (cX az hc)
        have hc':=hc;unfold yG at hc';simp only[Bool.or_eq_false_iff]at hc';obtain⟨⟨c1,c2⟩,c3⟩:=hc';have c4:((s[k].toNat:Int) != 45)=true:=by
         have:s[k]≠45:=by simpa using c3
         rw[bne_iff_ne];intro h;exact this (zR2.1 QC)
        clear c3 hc;go_wp2_with (first
         | (go_at_call 251;refine(dM _ _).mono ?_;rintro e w' ⟨rfl,rfl⟩)
         | (go_at_call 252;refine(ct _ _).mono ?_;rintro e w' ⟨rfl,rfl⟩))
        go_ret
        exact⟨bB (by rw[Hq.out,Ha.out]),rfl⟩
       ·have Hc:=hid (bq az Hall.out hc)
        unfold yG at hc;simp only[Bool.or_eq_true,beq_iff_eq]at hc;rcases hc with(hc|hc) | hc
        ·go_wp2_with (first
         | (go_at_call 251;refine(dM _ _).mono ?_;rintro e w' ⟨rfl,rfl⟩)
         | (go_at_call 252;refine(ct _ _).mono ?_;rintro e w' ⟨rfl,rfl⟩))
         go_round
         case rel=>exact⟨k+1,QA,by go_num,Hc.out⟩
         case measure=>simp[intOf];omega
        ·cases hca:isAlpha s[k]
         all_goals
          go_wp2_with (first
           | (go_at_call 251;refine(dM _ _).mono ?_;rintro e w' ⟨rfl,rfl⟩)
           | (go_at_call 252;refine(ct _ _).mono ?_;rintro e w' ⟨rfl,rfl⟩))
          go_round
          case rel=>exact⟨k+1,QA,by go_num,Hc.out⟩
          case measure=>simp[intOf];omega
        ·have c4:((s[k].toNat:Int) != 45)=false:=by simp[hc]
         clear hc;cases hca:isAlpha s[k] <;> cases E6:isDigit s[k]
         all_goals
          go_wp2_with (first
           | (go_at_call 251;refine(dM _ _).mono ?_;rintro e w' ⟨rfl,rfl⟩)
           | (go_at_call 252;refine(ct _ _).mono ?_;rintro e w' ⟨rfl,rfl⟩))
          go_round
          case rel=>exact⟨k+1,QA,by go_num,Hc.out⟩
          case measure=>simp[intOf];omega
      ·have br:=Hall.out
       rw[zRw QA]at br;have Ha:=hid br;clear br Hall;go_wp2_with fail
       go_ret
       exact⟨bB (by rw[Hq.out,Ha.out]),rfl⟩)
 ·have Hq:=hid (show bW s=false by unfold bW;simp[h1])
  go_enter func271,ntmps271
  go_wp2_with fail
  go_ret
  exact⟨bB Hq.out.symm,rfl⟩
theorem CP (s:Bytes)(w:World)(hE:Env w)(hs:s.length<4294967281) :
 Calls Tryz.prog 240 #[(Value.string ⟨zRn (s)⟩)] w fun e w'=>e=.returned (.bool (gg s))∧Below w.heap.size w w':=by
 go_enter func240,ntmps240
 go_wp2_with fail
 go_loopw [0] (fun v wr=>∃ r:Bytes,v=(Value.string ⟨zRn (r)⟩)∧r.length≤s.length∧Below w.heap.size w wr∧gg r=gg s) (fun v _=>lR v)
 case atStart=>exact⟨s,rfl,QA,Below.refl _ _,rfl⟩
 case round =>
  obtain⟨r,rfl,hr,hw,heq⟩:=hrel;have Hw:=hid hw;have HE:=hid (hE.below hw);have Heq:=hid heq;clear hw heq;by_cases hp:pre (·==46) r<r.length
  ·have hcut:=hid (show aL 46 r=(r.take (pre (·==46) r),r.drop (pre (·==46) r+1),true) from if_pos hp)
   have tF:gg r=(bW (r.take (pre (·==46) r))&&gg (r.drop (pre (·==46) r+1))):=by
    unfold gg;rw[dO hp];have:=rL 46 (r.drop (pre (·==46) r+1))
    cases q8:aD 46 (r.drop (pre (·==46) r+1)) with
    | nil=>exact absurd q8 this
    | cons y l=>rfl
   cases hl:bW (r.take (pre (·==46) r))
   all_goals
    rw[hl]at tF;have Hnl:=hid (tF.symm.trans Heq.out);clear tF;go_wp2_with fail
    refine(Kk r 46 wr HE.out QA).mono ?_;rintro e w2 ⟨rfl,n,gQ⟩;rw[hcut.out];have Hw2:Hid (Below w.heap.size w w2):=hid (by rw[gQ];exact below_drewN Hw.out _);clear gQ;go_wp2_with (go_at_call 271;refine(Ag _ _ QC).mono ?_;rintro e w' ⟨rfl,rfl⟩)
   ·go_ret
    exact⟨bB Hnl.out,Hw2.out⟩
   ·go_roundw
    case rel=>exact⟨_,rfl,QC,Hw2.out,Hnl.out⟩
    case measure=>simp[sLen_mk];omega
  ·have hcut:=hid (show aL 46 r=(r,[],false) from if_neg hp)
   have tF:gg r=(bW r&&!bj r):=by unfold gg;rw[dC hp];rfl
   have Hnl:=hid (tF.symm.trans Heq.out);clear tF;cases hl:bW r
   all_goals
    rw[hl]at Hnl;go_wp2_with fail
    refine(Kk r 46 wr HE.out QA).mono ?_;rintro e w2 ⟨rfl,n,gQ⟩;rw[hcut.out];have Hw2:Hid (Below w.heap.size w w2):=hid (by rw[gQ];exact below_drewN Hw.out _);clear gQ;go_wp2_with (first
     | (go_at_call 271;refine(Ag _ _ QA).mono ?_;rintro e w' ⟨rfl,rfl⟩)
     | (go_at_call 235;refine(ik _ _ QA).mono ?_;rintro e w' ⟨rfl,rfl⟩))
    go_ret
    exact⟨bB (by have:=Hnl.out;simpa using this),Hw2.out⟩
theorem re (s:Bytes)(w:World)(hE:Env w)(hs:s.length<4294967281) :
 Calls Tryz.prog 239 #[(Value.string ⟨zRn (s)⟩)] w fun e w'=>e=.returned (.bool (ipv4 s))∧Below w.heap.size w w':=by
 have hq:ipv4 s=((aD 46 s).length==4&&(aD 46 s).all gM):=rfl;have q8:=s_Split s 46 w hE hs;have hlen:∀ x∈aD 46 s,x.length≤s.length:=iK 46 s;generalize aD 46 s=parts at hq q8 hlen;have Hq:=hid hq;have Hsp:=hid q8;have Hlen:=hid hlen;clear hq q8 hlen;by_cases h4:parts.length=4
 ·have hx:((parts.length:Int) != 4)=false:=by simp[h4]
  go_enter func239,ntmps239
  go_wp2_with fail
  refine Hsp.out.mono ?_;rintro e w1 ⟨rfl,jE⟩;have Hrow:Hid (EW w1 w.heap.size parts):=hid (by rw[jE];have:=EW.alloc w parts [] 9;simpa using this);have Hw1:Hid (Below w.heap.size w w1):=hid (by rw[jE];exact(Below.refl _ _).alloc (zRu _) _);clear jE;go_wp2_with fail
  go_loop [15] (fun i=>∃ k:Nat,k≤4∧i=.int .i64 k∧(parts.take k).all gM=true) (fun i=>4 - (intOf i).toNat)
  case atStart=>exact⟨0,QA,rfl,rfl⟩
  case round =>
   obtain⟨k,hk,rfl,br⟩:=hrel;have Hall:=hid br;clear br;by_cases az:k<4
   ·have u9:k<parts.length:=QA
    have jc:=Hrow.out k u9;have BN:=Hlen.out parts[k] (zRT u9);have Mr:gM parts[k]=((aV 255 parts[k]).2==0):=rfl;cases hc:gM parts[k]
    ·have Ha:=hid (cX u9 hc)
     have hn:((aV 255 parts[k]).2 != 0)=true:=by rw[hc]at Mr;simp only[bne];rw[← Mr];rfl
     clear Mr;go_wp2_with (go_at_call 223;refine(j7 _ 255 _ QA QA).mono ?_;rintro e w' ⟨rfl,rfl⟩)
     go_ret
     exact⟨bB (by rw[Hq.out,Ha.out];simp),Hw1.out⟩
    ·have Hn:=hid (bq u9 Hall.out hc)
     have hn:((aV 255 parts[k]).2 != 0)=false:=by rw[hc]at Mr;simp only[bne];rw[← Mr];rfl
     clear Mr;go_wp2_with (go_at_call 223;refine(j7 _ 255 _ QA QA).mono ?_;rintro e w' ⟨rfl,rfl⟩)
     go_round
     case rel=>exact⟨k+1,QA,by go_num,Hn.out⟩
     case measure=>simp[intOf];omega
   ·have br:=Hall.out
    rw[zRw QA]at br;have Ha:=hid br;clear br Hall;go_wp2_with fail
    go_ret
    exact⟨bB (by rw[Hq.out,Ha.out,h4];rfl),Hw1.out⟩
 ·have hx:((parts.length:Int) != 4)=true:=by simp;omega
  go_enter func239,ntmps239
  go_wp2_with fail
  refine Hsp.out.mono ?_;rintro e w1 ⟨rfl,jE⟩;have Hw1:Hid (Below w.heap.size w w1):=hid (by rw[jE];exact(Below.refl _ _).alloc (zRu _) _);clear jE;go_wp2_with fail
  go_ret
  exact⟨bB (by rw[Hq.out];simp[h4]),Hw1.out⟩
theorem Mo (s:Bytes)(w:World)(hE:Env w)(hs:s.length<4294967281) :
 Calls Tryz.prog 183 #[(Value.string ⟨zRn (s)⟩)] w fun e w'=>e=.returned (.tuple #[(Value.string ⟨zRn ((cp s).1)⟩),.int .i64 (cp s).2])∧Below w.heap.size w w':=by
 cases h1:s.isEmpty
 ·by_cases h2:253<s.length
  ·have Hq:=hid (show cp s=([],5) by unfold cp;simp[h1,h2])
   go_enter func183,ntmps183
   go_wp2_with fail
   go_ret2
   rw[Hq.out];exact⟨rfl,Below.refl _ _⟩
  ·cases h3:ipv4 s
   ·cases h4:gg s
    ·have Hq:=hid (show cp s=([],50) by unfold cp;simp[h1,h2,h3,h4])
     go_enter func183,ntmps183
     go_wp2_with (first
      | (go_at_call 239;refine(re _ _ hE hs).mono ?_;rintro e w1 ⟨rfl,jE⟩)
      | (go_at_call 240;refine(CP _ _ (hE.below ‹_›) hs).mono ?_;rintro e w2 ⟨rfl,gQ⟩))
     go_ret2
     rw[Hq.out];exact⟨rfl,cN ‹_› ‹_›⟩
    ·have Hq:=hid (show cp s=(lower s,0) by unfold cp;simp[h1,h2,h3,h4])
     go_enter func183,ntmps183
     go_wp2_with (first
      | (go_at_call 239;refine(re _ _ hE hs).mono ?_;rintro e w1 ⟨rfl,jE⟩)
      | (go_at_call 240;refine(CP _ _ (hE.below jE) hs).mono ?_;rintro e w2 ⟨rfl,gQ⟩)
      | (go_at_call 175;refine(rE _ _ QA).mono ?_;rintro e w3 ⟨rfl,Mk⟩))
     go_ret2
     rw[Hq.out];exact⟨rfl,cN (cN jE gQ) Mk⟩
   ·have Hq:=hid (show cp s=(lower s,0) by unfold cp;simp[h1,h2,h3])
    go_enter func183,ntmps183
    go_wp2_with (first
     | (go_at_call 239;refine(re _ _ hE hs).mono ?_;rintro e w1 ⟨rfl,jE⟩)
     | (go_at_call 175;refine(rE _ _ QA).mono ?_;rintro e w3 ⟨rfl,Mk⟩))
    go_ret2
    rw[Hq.out];exact⟨rfl,cN jE Mk⟩
 ·have Hq:=hid (show cp s=([],3) by unfold cp;simp[h1])
  go_enter func183,ntmps183
  go_wp2_with fail
  go_ret2
  rw[Hq.out];exact⟨rfl,Below.refl _ _⟩
open Go.RowKit Go.Sort Wf
attribute [local go_sem] fN eY get_list
theorem Mn (s:Bytes)(w:World)(hs:s.length≤9223372036854775807) :
 Calls Tryz.prog 184 #[(Value.string ⟨zRn (s)⟩)] w fun e w'=>e=.returned (.tuple #[.int .i64 (kK s).1,.int .i64 (kK s).2])∧w=w':=by
 have hle:=kX 65535 s;have hq:kK s=if (aV 65535 s).2≠0∨(aV 65535 s).1=0 then(0,51) else(((aV 65535 s).1:Int),0):=rfl
 have hc:=j7 s 65535 w QA QA;generalize aV 65535 s=np at hle hq hc;obtain⟨n,e⟩:=np;simp only at hle hq hc;have Hc:=hid hc;clear hc;by_cases he:e=0
 ·subst he
  by_cases hn:n=0
  ·rw[if_pos (Or.inr hn)]at hq
   have Hq:=hid hq;have hx:((n:Int)==0)=true:=by simp[hn]
   clear hq hn;go_enter func184,ntmps184
   go_wp2_with fail
   refine Hc.out.mono ?_;rintro e w' ⟨rfl,rfl⟩;go_wp2_with fail
   go_ret2
   rw[Hq.out];exact⟨rfl,rfl⟩
  ·rw[if_neg (by simp[hn])]at hq
   have Hq:=hid hq;have hx:((n:Int)==0)=false:=by simp[hn]
   clear hq hn;go_enter func184,ntmps184
   go_wp2_with fail
   refine Hc.out.mono ?_;rintro e w' ⟨rfl,rfl⟩;go_wp2_with fail
   go_ret2
   rw[Hq.out];exact⟨rfl,rfl⟩
 ·rw[if_pos (Or.inl he)]at hq
  have Hq:=hid hq;have hx:(e != 0)=true:=by simp[he]
  clear hq;go_enter func184,ntmps184
  go_wp2_with fail
  refine Hc.out.mono ?_;rintro e w' ⟨rfl,rfl⟩;go_wp2_with fail
  go_ret2
  rw[Hq.out];exact⟨rfl,rfl⟩
theorem JF (s:Bytes)(w:World)(hE:Env w)(hs:s.length<4294967281) :
 Calls Tryz.prog 113 #[(Value.string ⟨zRn (s)⟩)] w fun e w'=>e=.returned (.tuple #[.agg #[(Value.string ⟨zRn ((aN s).1.1)⟩),.int .i64 (aN s).1.2],.int .i64 (aN s).2])∧Below w.heap.size w w':=by
 have fY:=jB 58 s;have E5:=fun w hE=>Kk s 58 w hE hs
 have hq:aN s=db (cp (aL 58 s).1) (aL 58 s).2.2 (kK (aL 58 s).2.1):=rfl;generalize aL 58 s=C at fY E5 hq;obtain⟨first,rest,colon⟩:=C;simp only at fY E5 hq;have hh:=fun w hE=>Mo first w hE QA
 have hp:=fun w=>Mn rest w QA
 generalize cp first=H at hq hh
 generalize kK rest=P at hq hp;obtain⟨h,e⟩:=H;obtain⟨p,f⟩:=P;simp only at hh hp;have Hct:=hid E5;have Hh:=hid hh;have Hp:=hid hp;clear E5 hh hp fY;have ha:=eK w (.cells #[(Value.string ⟨zRn ([])⟩),.int .i64 0] 24);have JQ:Below w.heap.size w (w.alloc (.cells #[(Value.string ⟨zRn ([])⟩),.int .i64 0] 24)):=(Below.refl _ _).alloc (zRu _) _;generalize OP:w.alloc (.cells #[(Value.string ⟨zRn ([])⟩),.int .i64 0] 24)=wa at ha JQ;have Ha:=hid ha;have Hba:=hid JQ;have Hwa:=hid OP;clear ha JQ OP;by_cases he:e=0
 ·subst he
  cases colon
  ·have Hq:=hid (show aN s=((h,0),0) from hq)
   clear hq;go_enter func113,ntmps113
   go_wp2_with fail
   rw[Hwa.out];refine(Hct.out _ (hE.below Hba.out)).mono ?_;rintro e w1 ⟨rfl,n,jE⟩;have Hw1:Hid (Below w.heap.size w w1):=hid (by rw[jE];exact below_drewN Hba.out _);have Ha1:Hid (w1.heap[w.heap.size]? = some (.cells #[(Value.string ⟨zRn ([])⟩),.int .i64 0] 24 (0,0))):=hid (by rw[jE];exact Ha.out);clear jE;go_wp2_with fail
   refine(Hh.out _ (hE.below Hw1.out)).mono ?_;rintro e w2 ⟨rfl,gQ⟩;have Ha2:=hid ((gQ.block _ (cW Ha1.out)).trans Ha1.out);have Hw2:=hid (cN Hw1.out gQ);clear gQ;have az:=cW Ha2.out;have c0:=Lib.cell_of_heap Ha2.out 0;have c1:=Lib.cell_of_heap Ha2.out 1;have z0:=Lib.frozen_of_heap Ha2.out 0;have z1:=Lib.frozen_of_heap Ha2.out 1;go_wp2_with fail
   refine bodyPost_ret (v:=.tuple #[.agg #[(Value.string ⟨zRn (h)⟩),.int .i64 0],.int .i64 0]) (by simp[results,results113,go_sem,c0,c1,az]) rfl ⟨?_,?_⟩
   ·rw[Hq.out]
   ·repeat (first|exact Hw2.out | (refine Below.setCell (p:=⟨_,_,none⟩) ?_ (by simp <;> omega) _) | (refine Below.alloc ?_ (by simp <;> omega) _) | refine Below.drew ?_)
  ·by_cases hf:f=0
   ·subst hf
    by_cases qm:p=443
    ·have Hq:=hid (show aN s=((h,0),0) by rw[hq];unfold db;simp[qm])
     have hx:(p==443)=true:=by simp[qm]
     clear hq qm;go_enter func113,ntmps113
     go_wp2_with fail
     rw[Hwa.out];refine(Hct.out _ (hE.below Hba.out)).mono ?_;rintro e w1 ⟨rfl,n,jE⟩;have Hw1:Hid (Below w.heap.size w w1):=hid (by rw[jE];exact below_drewN Hba.out _);have Ha1:Hid (w1.heap[w.heap.size]? = some (.cells #[(Value.string ⟨zRn ([])⟩),.int .i64 0] 24 (0,0))):=hid (by rw[jE];exact Ha.out);clear jE;go_wp2_with fail
     refine(Hh.out _ (hE.below Hw1.out)).mono ?_;rintro e w2 ⟨rfl,gQ⟩;have Ha2:=hid ((gQ.block _ (cW Ha1.out)).trans Ha1.out);have Hw2:=hid (cN Hw1.out gQ);clear gQ;have az:=cW Ha2.out;have c0:=Lib.cell_of_heap Ha2.out 0;have c1:=Lib.cell_of_heap Ha2.out 1;have z0:=Lib.frozen_of_heap Ha2.out 0;have z1:=Lib.frozen_of_heap Ha2.out 1;go_wp2_with (go_at_call 184;refine(Hp.out _).mono ?_;rintro e w3 ⟨rfl,rfl⟩)
     refine bodyPost_ret (v:=.tuple #[.agg #[(Value.string ⟨zRn (h)⟩),.int .i64 0],.int .i64 0]) (by simp[results,results113,go_sem,c0,c1,az]) rfl ⟨?_,?_⟩
     ·rw[Hq.out]
     ·repeat (first|exact Hw2.out | (refine Below.setCell (p:=⟨_,_,none⟩) ?_ (by simp <;> omega) _) | (refine Below.alloc ?_ (by simp <;> omega) _) | refine Below.drew ?_)
    ·have Hq:=hid (show aN s=((h,p),0) by rw[hq];unfold db;simp[qm])
     have hx:(p==443)=false:=by simp[qm]
     clear hq qm;go_enter func113,ntmps113
     go_wp2_with fail
     rw[Hwa.out];refine(Hct.out _ (hE.below Hba.out)).mono ?_;rintro e w1 ⟨rfl,n,jE⟩;have Hw1:Hid (Below w.heap.size w w1):=hid (by rw[jE];exact below_drewN Hba.out _);have Ha1:Hid (w1.heap[w.heap.size]? = some (.cells #[(Value.string ⟨zRn ([])⟩),.int .i64 0] 24 (0,0))):=hid (by rw[jE];exact Ha.out);clear jE;go_wp2_with fail
     refine(Hh.out _ (hE.below Hw1.out)).mono ?_;rintro e w2 ⟨rfl,gQ⟩;have Ha2:=hid ((gQ.block _ (cW Ha1.out)).trans Ha1.out);have Hw2:=hid (cN Hw1.out gQ);clear gQ;have az:=cW Ha2.out;have c0:=Lib.cell_of_heap Ha2.out 0;have c1:=Lib.cell_of_heap Ha2.out 1;have z0:=Lib.frozen_of_heap Ha2.out 0;have z1:=Lib.frozen_of_heap Ha2.out 1;go_wp2_with (go_at_call 184;refine(Hp.out _).mono ?_;rintro e w3 ⟨rfl,rfl⟩)
     refine bodyPost_ret (v:=.tuple #[.agg #[(Value.string ⟨zRn (h)⟩),.int .i64 p],.int .i64 0]) (by simp[results,results113,go_sem,c0,c1,az]) rfl ⟨?_,?_⟩
     ·rw[Hq.out]
     ·repeat (first|exact Hw2.out | (refine Below.setCell (p:=⟨_,_,none⟩) ?_ (by simp <;> omega) _) | (refine Below.alloc ?_ (by simp <;> omega) _) | refine Below.drew ?_)
   ·have Hq:=hid (show aN s=(([],0),f) by rw[hq];unfold db;simp[hf])
    have hx:(f != 0)=true:=by simp[hf]
    clear hq hf;go_enter func113,ntmps113
    go_wp2_with fail
    rw[Hwa.out];refine(Hct.out _ (hE.below Hba.out)).mono ?_;rintro e w1 ⟨rfl,n,jE⟩;have Hw1:Hid (Below w.heap.size w w1):=hid (by rw[jE];exact below_drewN Hba.out _);have Ha1:Hid (w1.heap[w.heap.size]? = some (.cells #[(Value.string ⟨zRn ([])⟩),.int .i64 0] 24 (0,0))):=hid (by rw[jE];exact Ha.out);clear jE;go_wp2_with fail
    refine(Hh.out _ (hE.below Hw1.out)).mono ?_;rintro e w2 ⟨rfl,gQ⟩;have Ha2:=hid ((gQ.block _ (cW Ha1.out)).trans Ha1.out);have Hw2:=hid (cN Hw1.out gQ);clear gQ;have az:=cW Ha2.out;have c0:=Lib.cell_of_heap Ha2.out 0;have c1:=Lib.cell_of_heap Ha2.out 1;have z0:=Lib.frozen_of_heap Ha2.out 0;have z1:=Lib.frozen_of_heap Ha2.out 1;go_wp2_with (go_at_call 184;refine(Hp.out _).mono ?_;rintro e w3 ⟨rfl,rfl⟩)
    refine bodyPost_ret (v:=.tuple #[.agg #[(Value.string ⟨zRn ([])⟩),.int .i64 0],.int .i64 f]) (by simp[results,results113,go_sem,c0,c1,az]) rfl ⟨?_,?_⟩
    ·rw[Hq.out]
    ·repeat (first|exact Hw2.out | (refine Below.setCell (p:=⟨_,_,none⟩) ?_ (by simp <;> omega) _) | (refine Below.alloc ?_ (by simp <;> omega) _) | refine Below.drew ?_)
 ·have hx:(e != 0)=true:=by simp[he]
  have Hq:=hid (show aN s=(([],0),e) by rw[hq];unfold db;rw[if_pos he]);clear hq he;go_enter func113,ntmps113
  go_wp2_with fail
  rw[Hwa.out];refine(Hct.out _ (hE.below Hba.out)).mono ?_;rintro e w1 ⟨rfl,n,jE⟩;have Hw1:Hid (Below w.heap.size w w1):=hid (by rw[jE];exact below_drewN Hba.out _);have Ha1:Hid (w1.heap[w.heap.size]? = some (.cells #[(Value.string ⟨zRn ([])⟩),.int .i64 0] 24 (0,0))):=hid (by rw[jE];exact Ha.out);clear jE;go_wp2_with fail
  refine(Hh.out _ (hE.below Hw1.out)).mono ?_;rintro e w2 ⟨rfl,gQ⟩;have Ha2:=hid ((gQ.block _ (cW Ha1.out)).trans Ha1.out);have Hw2:=hid (cN Hw1.out gQ);clear gQ;have az:=cW Ha2.out;have c0:=Lib.cell_of_heap Ha2.out 0;have c1:=Lib.cell_of_heap Ha2.out 1;have z0:=Lib.frozen_of_heap Ha2.out 0;have z1:=Lib.frozen_of_heap Ha2.out 1;go_wp2_with fail
  refine bodyPost_ret (v:=.tuple #[.agg #[(Value.string ⟨zRn ([])⟩),.int .i64 0],.int .i64 e]) (by simp[results,results113,go_sem,c0,c1]) rfl ⟨?_,?_⟩
  ·rw[Hq.out]
  ·repeat (first|exact Hw2.out | (refine Below.setCell (p:=⟨_,_,none⟩) ?_ (by simp <;> omega) _) | (refine Below.alloc ?_ (by simp <;> omega) _) | refine Below.drew ?_)
theorem Lx (B a:Nat)(ha:a≤19)(W:World):(Instr.sliceAt 267 (.pointer (some ⟨B,0,none⟩)) (some (.int .i64 a)) none none).run Tryz.prog W=.ok (.slice (some ⟨B,a,none⟩) (20 - a) (20 - a)) W:=by
 have CW:Tryz.prog.arrayLen 267=20:=by kernel_rfl
 have he:Tryz.prog.elem 267=5:=by kernel_rfl
 have hu:Tryz.prog.underlying 267=some (.array (Tryz.prog.arrayLen 267) (Tryz.prog.elem 267)):=by kernel_rfl
 rw[run_sliceAt_array_l W _ ⟨B,0,none⟩ hu .i64 a QA (by rw[CW];omega),he,CW,sizeOf5];have:¬ (20=a):=QA
 simp[Result.andThen,slicedAt,Ia,this]
theorem sH (n:Nat)(w:World)(hn:n≤18446744073709551615) :
 Calls Tryz.prog 185 #[.int .u64 n] w fun e w'=>e=.returned (Value.string ⟨zRn (cf n)⟩)∧Below w.heap.size w w':=by
 have hlen:(cf n).length≤20:=cJ 19 n QA;go_enter func185,ntmps185
 go_wp2_with fail
 go_loopw [0,4] (fun v i wr=>∃ (k a:Nat) (x ds:Bytes),v=.int .u64 k∧i=.int .i64 a∧k≤18446744073709551615∧a≤19∧jO wr w.heap.size (x++ds)∧x.length=a+1∧ds.length=19 - a∧cf k++ds=cf n∧(cf k).length≤a+1∧Below w.heap.size w wr) (fun v _ _=>(intOf v).toNat)
 case atStart =>
  refine⟨n,19,List.replicate 20 0,[],rfl,rfl,hn,QA,?_,QB,rfl,QB,hlen,(Below.refl _ _).alloc (zRu _) _⟩;exact⟨[],_,(0,0),eK _ _,Or.inr QB⟩
 case round =>
  obtain⟨k,a,x,ds,rfl,rfl,hk,ha,iO,hx,hds,heq,hl,hw⟩:=hrel;obtain⟨y,z,rfl,hy⟩:=snoc_of hx;have e:y++[z]++ds=y++z::ds:=by simp
  rw[e]at iO;obtain⟨cv,jc⟩:∃ q:Int,wr.cell? ⟨w.heap.size,a,none⟩=some (.int .u8 q):=⟨_,iO.cell (k:=a) QC⟩;have hfz:=iO.frozen (k:=a) QC;have Hrow:=hid iO;have Heq:=hid heq;have Hw:=hid hw;have Hy:=hid hy;have Hds:=hid hds;clear iO heq hw hy hds hx e;by_cases eB:k<10
  ·have jg:=Hrow.out.set (k:=a) (by have:=Hy.out;simp;omega) (ry k)
   have eU:(y++z::ds).set a (ry k)=y++(ry k)::ds:=by rw[← Hy.out];exact Kh y z _ ds
   rw[eU,rv eB]at jg;have kQ:=fun cap=>jg.backAt Hy.out cap
   have nr:((ry k)::ds).length=20 - a:=by have:=Hds.out;simp;omega
   rw[nr]at kQ;have Hds2:=hid (show cf n=(ry k)::ds by rw[← Heq.out,fE eB];rfl);have fH:=Lx w.heap.size a ha;clear jg eU nr;go_wp2_with fail
   go_ret
   exact⟨kT Hds2.out.symm,Hw.out.setCell (p:=⟨w.heap.size,a,none⟩) (zRu _) _⟩
  ·have jg:=Hrow.out.set (k:=a) (by have:=Hy.out;simp;omega) (ry (k % 10))
   have eU:(y++z::ds).set a (ry (k % 10))=y++(ry (k % 10))::ds:=by rw[← Hy.out];exact Kh y z _ ds
   rw[eU,rv (show k % 10<10 by omega)]at jg;have Hst:=hid jg;have Heq2:=hid (show cf (k / 10)++(ry (k % 10))::ds=cf n by rw[← Heq.out,jA eB];simp);have mF:=kI eB;have hp2:=AH (k / 10);have Hl2:=hid mF;clear jg eU mF;go_wp2_with fail
   have h1:=Hl2.out;refine⟨⟨k / 10,a - 1,y,_,congrArg (Value.int .u64) QA,congrArg (Value.int .i64) QA,QA,QA,Hst.out,by have:=Hy.out;omega,by have:=Hds.out;simp;omega,Heq2.out,QA,Hw.out.setCell (p:=⟨w.heap.size,a,none⟩) (zRu _) _⟩,?_⟩;simp[intOf];omega
theorem neg_u64 (p:Int)(h:p<0)(h1:-9223372036854775808≤p):IntKind.u64.wrap (-(IntKind.u64.wrap p))=(p.natAbs:Int):=by
 simp only[IntKind.wrap,IntKind.signed,IntKind.bits];simp
 omega
theorem G8 (h:Bytes)(p:Int)(w:World)(hh:h.length≤4611686018427387904)(h1:-9223372036854775808≤p)(h2:p≤9223372036854775807) :
 Calls Tryz.prog 114 #[.agg #[(Value.string ⟨zRn (h)⟩),.int .i64 p]] w fun e w'=>e=.returned (Value.string ⟨zRn (bu h p)⟩)∧Below w.heap.size w w':=by
 have ha:=eK w (.cells #[(Value.string ⟨zRn (h)⟩),.int .i64 p] 24);have JQ:Below w.heap.size w (w.alloc (.cells #[(Value.string ⟨zRn (h)⟩),.int .i64 p] 24)):=(Below.refl _ _).alloc (zRu _) _;generalize OP:w.alloc (.cells #[(Value.string ⟨zRn (h)⟩),.int .i64 p] 24)=wa at ha JQ;have az:=cW ha;have c0:wa.cell? ⟨w.heap.size,0,none⟩=some (Value.string ⟨zRn (h)⟩):=Lib.cell_of_heap ha 0;have c1:wa.cell? ⟨w.heap.size,1,none⟩=some (.int .i64 p):=Lib.cell_of_heap ha 1;have Hba:=hid JQ;have Hwa:=hid OP;clear ha JQ OP;by_cases h0:p=0
 ·subst h0
  have Hq:=hid (show bu h 0=h from if_pos rfl);go_enter func114,ntmps114
  go_wp2_with fail
  rw[Hwa.out];go_wp2_with fail
  go_ret
  exact⟨kT Hq.out.symm,Hba.out⟩
 ·have hx:(p==0)=false:=by simp[h0]
  by_cases Et:p<0
  ·have Hq:=hid (show bu h p=h++[58,45]++cf p.natAbs by unfold bu;rw[if_neg h0,if_pos Et])
   clear h0;go_enter func114,ntmps114
   go_wp2_with fail
   rw[Hwa.out];go_wp2_with fail
   have hd:=cJ 19 p.natAbs QA;have hu:=neg_u64 p Et h1;have n1:¬ 9223372036854775807<h.length+2:=QA;have n2:¬ 9223372036854775807<h.length+2+(cf p.natAbs).length:=QA;have Mm:p.natAbs≤18446744073709551615:=QA;have k0:=cell_regrown c0;have k1:=cell_regrown c1;clear c0 c1 hx;refine wp_region_quiet_below QE QE ?_;repeat (quiet_step ((go_at_call 185;exact Calls.regrown_of (sH _ _ Mm))))
   refine wpQuiet_nil ?_;intro _ hw';obtain⟨⟨dq,osq⟩,hw''⟩:=hw';subst hw'';have cM:=below_regrown wa dq osq;generalize grow (redrawn wa dq) osq=wq at cM ⊢;clear hu n1 n2 k0 k1;go_wp2_with fail
   go_ret
   exact⟨kT (by rw[Hq.out];simp),cN Hba.out cM⟩
  ·have Hq:=hid (show bu h p=h++[58]++cf p.natAbs by unfold bu;rw[if_neg h0,if_neg Et])
   clear h0;go_enter func114,ntmps114
   go_wp2_with fail
   rw[Hwa.out];go_wp2_with fail
   have hd:=cJ 19 p.natAbs QA;have hu:IntKind.u64.wrap p=(p.natAbs:Int):=(u64_in (show 0≤p by omega) h2).trans QA;have n1:¬ 9223372036854775807<h.length+1:=QA;have n2:¬ 9223372036854775807<h.length+1+(cf p.natAbs).length:=QA;have Mm:p.natAbs≤18446744073709551615:=QA;have k0:=cell_regrown c0;have k1:=cell_regrown c1;clear c0 c1 hx;refine wp_region_quiet_below QE QE ?_;repeat (quiet_step ((go_at_call 185;exact Calls.regrown_of (sH _ _ Mm))))
   refine wpQuiet_nil ?_;intro _ hw';obtain⟨⟨dq,osq⟩,hw''⟩:=hw';subst hw'';have cM:=below_regrown wa dq osq;generalize grow (redrawn wa dq) osq=wq at cM ⊢;clear hu n1 n2 k0 k1;go_wp2_with fail
   go_ret
   exact⟨kT (by rw[Hq.out];simp),cN Hba.out cM⟩
end Go.Proofs.YtnmlimehgifadaaGreatDoor
namespace Wf
open Go Go.RowKit
theorem owns_lt {w:World}{base:Nat}{e:TypeId}{size:Nat}{v:Value}{n:Nat}{xs:List Value}(h:w.ownsRow base e size v n xs):∀ k,v.ownBlock=some k→base≤k∧k<w.heap.size :=
 (World.ownsRowF_of h).lt
theorem wp_append_one {P:Program}{ops:Array Oper}{rest:List Oper}{o:Oper}{a:Act}{Q:Exit→Act→World→Prop}{w0:World}(hgd:o.guard=none)(s x:Operand)(t:TypeId)
 (ho:o.op=.call { callee:=.builtin .append,args:=#[s,x],argTypes:=#[t,t] }) (e:TypeId) (z:Value) (bytes:Nat) (ht:P.underlying t=some (.slice e))
 (hinfo:(P.info? e).map (fun i=>(i.zero,i.size,i.bytes))=some (some z,1,bytes)) (hzs:z.cells.size=1)
 (B:Nat) (v:Value) (n:Nat) (xs:List Value) (hs:a.eval s=v) (r6:w0.ownsRow B e 1 v n xs) (u:Value) (T:TypeId)
 (hx:a.eval x=.slice (some ⟨w0.heap.size,0,none⟩) 1 1) (h1:u.oneCell'=true) (yq:n+1≤maxLen) (wM:(n+1) * bytes≤140737488355328) (hB:B≤w0.heap.size)
 (h:∀ v' w',w'.ownsRow B e 1 v' (n+1) (xs++[u])→Below B w0 w'→wpList P ops Q rest (a.put o.dst v') w'):wpList P ops Q (o::rest) a (w0.alloc (.cells #[u] T)):=by
 obtain⟨i,hi,hz0,KJ,hz2⟩:=info_parts hinfo;refine wpList_append_own _ hgd s x t ho B e i z 1 bytes ht hi hz0 KJ hz2 hzs QD v n xs hs (r6.alloc _) ⟨w0.heap.size,0,none⟩ 1 1 [u] hx rfl ?_ ?_ yq wM QC ?_
 ·intro j y hy
  rcases j with _|j
  ·simp at hy;subst hy
   exact Go.Lib.cell_of_heap (eK _ _) 0
  ·simp at hy
 ·intro y hy;simp at hy;subst hy;exact h1
 ·intro v' w' h2 h3 _
  exact h v' w' h2 (((Below.refl B w0).alloc hB _).grown h3 QC (fun k hk=>(owns_lt r6 k hk).1))
theorem zD {w:World}{B:Nat}{e:TypeId}{v:Value}{n:Nat}{xs:List Value}(h:w.ownsRow B e 1 v n xs)(hn:0<n) :
 ∃ g cap,v=.slice (some ⟨g,0,none⟩) n cap∧B≤g∧g<w.heap.size∧n≤cap∧cap≤maxLen∧xs.length=n∧∀ j,j<n→w.cell? ⟨g,j,none⟩=xs[j]? := by
 obtain⟨h1,h2⟩:=h;rcases h2 with⟨_,h0⟩|⟨g,cap,cur,rfl,hg,hh,hc,hm,lZ,ht⟩
 ·omega
 ·refine⟨g,cap,rfl,hg,(Array.getElem?_eq_some_iff.1 hh).1,hc,hm,by simpa using h1,fun j hj=>?_⟩
  have:=World.ownsRow.cellAt (w:=w) (base:=B) (e:=e) (size:=1) (g:=g) (n:=n) (cap:=cap) (xs:=xs) ⟨h1,.inr ⟨g,cap,cur,rfl,hg,hh,hc,hm,lZ,ht⟩⟩ j QA
  exact this
theorem Nz {a b:UInt8}(h:a≠b):((a.toNat:Int) != (b.toNat:Int))=true:=by
 rw[bne_iff_ne];intro e;exact h (zR2.1 QA)
end Wf
namespace Go.Proofs.YtnmlimehgifadaaGreatDoor
open Go.RowKit Go.Sort Wf
attribute [local go_sem] fN eY get_list
def RetStrs (w:World)(l:List Bytes)(e:Ending)(w':World):Prop:=∃ v,e=.returned v∧w'.ownsRow w.heap.size 9 1 v l.length (l.map oL)∧Below w.heap.size w w'
theorem Tryz.KG:(Tryz.prog.info? 9).map (fun i=>(i.zero,i.size,i.bytes))=some (some (Value.string ⟨zRn ([])⟩),1,16):=by kernel_rfl
theorem xA (s:Bytes)(c:UInt8)(w:World)(hs:s.length≤1000000000) :
 Calls Tryz.prog 126 #[(Value.string ⟨zRn (s)⟩),.int .u8 c.toNat] w (RetStrs w (aD c s)):=by
 go_enter func126,ntmps126
 go_wp2_with fail
 go_loopw [5,6,7] (fun v f i wr=>∃ (L:List Bytes) (a k:Nat),f=.int .i64 a∧i=.int .i64 k∧a≤k∧k≤s.length∧k - a≤pre (·==c) (s.drop a)∧wr.ownsRow w.heap.size 9 1 v L.length (L.map oL)∧L.length≤a∧L++aD c (s.drop a)=aD c s∧Below w.heap.size w wr) (fun _ _ i _=>s.length - (intOf i).toNat)
 case atStart=>exact⟨[],0,0,rfl,rfl,QA,QA,QA,World.ownsRow_nil _ _ _ _,QB,rfl,Below.refl _ _⟩
 case round =>
  obtain⟨L,a,k,rfl,rfl,hak,hks,fD,r6,hLa,heq,hw⟩:=hrel;have Hown:=hid r6;have Heq:=hid heq;have Hw:=hid hw;have Hpre:=hid fD;clear r6 heq hw fD;by_cases az:k<s.length
  ·have nr:(s.drop a).length=s.length - a:=by simp
   by_cases hc:s[k]=c
   ·have hx:=u8_eq hc
    have hp:pre (·==c) (s.drop a)=k - a:=by
     have h1:=Hpre.out;rcases zRJ (k - a) (pre (·==c) (s.drop a)) with h|h
     ·have:=ju h QA
      rw[List.getElem_drop]at this;simp only[show a+(k - a)=k by omega]at this;rw[hc]at this;simp at this
     ·omega
    have hh:aD c (s.drop a)=(s.drop a).take (k - a)::aD c (s.drop (k+1)):=by
     have:=dO (c:=c) (s:=s.drop a) QA
     rw[hp,List.drop_drop,show a+(k - a+1)=k+1 by omega]at this;exact this
    have fH:List.drop a (List.take k s)=(s.drop a).take (k - a):=by rw[List.drop_take]
    have Hn:Hid ((L++[List.drop a (List.take k s)])++aD c (s.drop (k+1))=aD c s):=hid (by rw[← Heq.out,hh,fH];simp);clear hc hp hh fH nr;have hwl:=hid (Hw.out.size);go_wp2_with (at_builtin;refine wp_append_one rfl _ _ 76 rfl 9 (Value.string ⟨zRn ([])⟩) 16 underlying76 Tryz.KG rfl w.heap.size _ L.length (L.map oL) rfl Hown.out (oL (List.drop a (List.take k s))) _ rfl rfl (by unfold maxLen;omega) QA hwl.out ?_;intro v' w' hown' hb')
    go_roundw
    case rel=>exact⟨L++[List.drop a (List.take k s)],k+1,k+1,by go_num,by go_num,QA,QA,QA,by simpa using hown',QC,Hn.out,Hw.out.trans hb'⟩
    case measure=>simp[intOf];omega
   ·have hx:=Fj hc
    have Hp:Hid (k+1 - a≤pre (·==c) (s.drop a)):=hid (by
     have h1:=Hpre.out;rcases zRJ (k - a) (pre (·==c) (s.drop a)) with h|h
     ·omega
     ·have hq:pre (·==c) (s.drop a)=k - a:=QA
      have:=iM (p:=(·==c)) (l:=s.drop a) QA
      simp only[hq,List.getElem_drop,show a+(k - a)=k by omega]at this;exact absurd (by simpa using this) hc)
    clear hc nr;go_wp2_with fail
    go_roundw
    case rel=>exact⟨L,a,k+1,rfl,by go_num,QA,QA,Hp.out,Hown.out,QA,Heq.out,Hw.out⟩
    case measure=>simp[intOf];omega
  ·have hm:=dC (c:=c) (s:=s.drop a) (by have:=Hpre.out;simp;omega)
   have Hn:Hid (L++[s.drop a]=aD c s):=hid (by rw[← Heq.out,hm]);clear hm;have hwl:=hid (Hw.out.size);go_wp2_with (at_builtin;refine wp_append_one rfl _ _ 76 rfl 9 (Value.string ⟨zRn ([])⟩) 16 underlying76 Tryz.KG rfl w.heap.size _ L.length (L.map oL) rfl Hown.out (oL (s.drop a)) _ rfl rfl (by unfold maxLen;omega) QA hwl.out ?_;intro v' w' hown' hb')
   go_ret
   exact⟨v',rfl,by rw[← Hn.out];simpa using hown',Hw.out.trans hb'⟩
theorem xz (s:Bytes)(w:World)(hs:s.length≤9223372036854775807) :
 Calls Tryz.prog 202 #[(Value.string ⟨zRn (s)⟩)] w fun e w'=>e=.returned (.bool (bW s))∧w=w':=by
 go_enter func202,ntmps202
 go_wp2_with fail
 go_loop [3] (fun i=>∃ k:Nat,k≤s.length∧i=.int .i64 k∧(s.take k).all yG=true) (fun i=>s.length - (intOf i).toNat)
 case atStart=>exact⟨0,QA,rfl,rfl⟩
 case round =>
  obtain⟨k,hk,rfl,br⟩:=hrel;have Hall:=hid br;clear br;by_cases az:k<s.length
  ·cases hc:yG s[k]
   ·have Ha:=hid (show bW s=false by unfold bW;rw[cX az hc];simp)
    have hc':=hc;unfold yG at hc';simp only[Bool.or_eq_false_iff]at hc';obtain⟨⟨c1,c2⟩,c3⟩:=hc';have c4:((s[k].toNat:Int) != 45)=true:=by
     have:s[k]≠45:=by simpa using c3
     rw[bne_iff_ne];intro h;exact this (zR2.1 QC)
    clear c3 hc;go_wp2_with (first
     | (go_at_call 147;refine(j5 _ _).mono ?_;rintro e w' ⟨rfl,rfl⟩)
     | (go_at_call 148;refine(eN _ _).mono ?_;rintro e w' ⟨rfl,rfl⟩))
    go_ret
    exact⟨bB Ha.out.symm,rfl⟩
   ·have Hc:=hid (bq az Hall.out hc)
    unfold yG at hc;simp only[Bool.or_eq_true,beq_iff_eq]at hc;rcases hc with(hc|hc) | hc
    ·go_wp2_with (first
     | (go_at_call 147;refine(j5 _ _).mono ?_;rintro e w' ⟨rfl,rfl⟩)
     | (go_at_call 148;refine(eN _ _).mono ?_;rintro e w' ⟨rfl,rfl⟩))
     go_round
     case rel=>exact⟨k+1,QA,by go_num,Hc.out⟩
     case measure=>simp[intOf];omega
    ·cases hca:isAlpha s[k]
     all_goals
      go_wp2_with (first
       | (go_at_call 147;refine(j5 _ _).mono ?_;rintro e w' ⟨rfl,rfl⟩)
       | (go_at_call 148;refine(eN _ _).mono ?_;rintro e w' ⟨rfl,rfl⟩))
      go_round
      case rel=>exact⟨k+1,QA,by go_num,Hc.out⟩
      case measure=>simp[intOf];omega
    ·have c4:((s[k].toNat:Int) != 45)=false:=by simp[hc]
     clear hc;cases hca:isAlpha s[k] <;> cases E6:isDigit s[k]
     all_goals
      go_wp2_with (first
       | (go_at_call 147;refine(j5 _ _).mono ?_;rintro e w' ⟨rfl,rfl⟩)
       | (go_at_call 148;refine(eN _ _).mono ?_;rintro e w' ⟨rfl,rfl⟩))
      go_round
      case rel=>exact⟨k+1,QA,by go_num,Hc.out⟩
      case measure=>simp[intOf];omega
  ·have br:=Hall.out
   rw[zRw QA]at br;have Ha:=hid br;clear br Hall;cases h1:s.isEmpty
   ·by_cases h2:63<s.length
    ·have Hq:=hid (show bW s=false by unfold bW;simp;omega)
     go_wp2_with fail
     go_ret
     exact⟨bB Hq.out.symm,rfl⟩
    ·have hl:0<s.length:=by cases s <;> simp at h1 ⊢
     have h2':s.length≤63:=QA;by_cases h3:s[0]=45
     ·have Hq:=hid (show bW s=false by unfold bW;rw[ou hl,h3];simp)
      have hx:((s[0].toNat:Int) != 45)=false:=by simp[h3]
      clear h3;go_wp2_with fail
      go_ret
      exact⟨bB Hq.out.symm,rfl⟩
     ·have hx:((s[0].toNat:Int) != 45)=true:=Nz h3
      by_cases h4:s[s.length - 1]=45
      ·have Hq:=hid (show bW s=false by
        unfold bW;rw[List.getLast?_eq_getElem?,zRy QA,h4];simp)
       have hy:((s[s.length - 1].toNat:Int) != 45)=false:=by simp[h4]
       clear h4 h3;go_wp2_with fail
       go_ret
       exact⟨bB Hq.out.symm,rfl⟩
      ·have hy:((s[s.length - 1].toNat:Int) != 45)=true:=Nz h4
       have Hq:=hid ((zW s h1 QA (by rw[zRy hl];simpa using h3) (by rw[zRy QA];simpa using h4)).trans Ha.out);clear h3 h4;go_wp2_with fail
       go_ret
       exact⟨bB Hq.out.symm,rfl⟩
   ·have Hq:=hid (show bW s=false by unfold bW;simp[h1])
    go_wp2_with fail
    go_ret
    exact⟨bB Hq.out.symm,rfl⟩
theorem kU (s:Bytes)(w:World)(hs:s.length≤1000000000) :
 Calls Tryz.prog 118 #[(Value.string ⟨zRn (s)⟩)] w fun e w'=>e=.returned (.bool (ipv4 s))∧Below w.heap.size w w':=by
 have hq:ipv4 s=((aD 46 s).length==4&&(aD 46 s).all gM):=rfl;have q8:=xA s 46 w hs;have hlen:∀ x∈aD 46 s,x.length≤s.length:=iK 46 s;have bF:=rL 46 s;generalize aD 46 s=parts at hq q8 hlen bF;have rb:=List.length_pos_iff.2 bF;have Hq:=hid hq;have Hsp:=hid q8;have Hlen:=hid hlen;clear hq q8 hlen bF;go_enter func118,ntmps118
 go_wp2_with fail
 refine Hsp.out.mono ?_;rintro e w1 ⟨v,rfl,r6,jE⟩;obtain⟨g,cap,rfl,hg,hgl,Ar,hcm,_,gX⟩:=zD r6 rb;have Hw1:=hid jE;have Hcells:=hid gX;unfold maxLen at hcm;clear jE gX r6;go_wp2_with fail
 go_loop [12] (fun i=>∃ k:Nat,k≤parts.length∧i=.int .i64 k∧(parts.take k).all gM=true) (fun i=>parts.length - (intOf i).toNat)
 case atStart=>exact⟨0,QA,rfl,rfl⟩
 case round =>
  obtain⟨k,hk,rfl,br⟩:=hrel;have Hall:=hid br;clear br;by_cases az:k<parts.length
  ·have jc:w1.cell? ⟨g,k,none⟩=some (Value.string ⟨zRn (parts[k])⟩):=by
    rw[Hcells.out k az];simp[az,oL]
   have BN:=Hlen.out parts[k] (zRT az);have Mr:gM parts[k]=((aV 255 parts[k]).2==0):=rfl;cases hc:gM parts[k]
   ·have Ha:=hid (cX az hc)
    have hn:((aV 255 parts[k]).2 != 0)=true:=by rw[hc]at Mr;simp only[bne];rw[← Mr];rfl
    clear Mr;go_wp2_with (go_at_call 150;refine(oT _ 255 _ QA QA).mono ?_;rintro e w' ⟨rfl,rfl⟩)
    go_ret
    exact⟨bB (by rw[Hq.out,Ha.out];simp),Hw1.out⟩
   ·have Hn:=hid (bq az Hall.out hc)
    have hn:((aV 255 parts[k]).2 != 0)=false:=by rw[hc]at Mr;simp only[bne];rw[← Mr];rfl
    clear Mr;go_wp2_with (go_at_call 150;refine(oT _ 255 _ QA QA).mono ?_;rintro e w' ⟨rfl,rfl⟩)
    go_round
    case rel=>exact⟨k+1,QA,by go_num,Hn.out⟩
    case measure=>simp[intOf];omega
  ·have br:=Hall.out
   rw[zRw QA]at br;have Ha:=hid br;clear br Hall;go_wp2_with fail
   go_ret
   exact⟨bB (by rw[Hq.out,Ha.out,Bool.and_true,zRO];simp;omega),Hw1.out⟩
theorem Ma (l:List Bytes)(h:l≠[]):pZ l=(l.all bW&&!bj (l.getLast h)):=by
 induction l with
 | nil=>exact absurd rfl h
 | cons x l ih =>
   cases l with
   | nil=>simp[pZ]
   | cons y r =>
     rw[pZ,ih QB];simp[Bool.and_assoc]
theorem zk (s:Bytes)(w:World)(hs:s.length≤1000000000) :
 Calls Tryz.prog 149 #[(Value.string ⟨zRn (s)⟩)] w fun e w'=>e=.returned (.bool (gg s))∧Below w.heap.size w w':=by
 have bF:=rL 46 s;have q8:=xA s 46 w hs;have hlen:∀ x∈aD 46 s,x.length≤s.length:=iK 46 s;obtain⟨parts,JC⟩:∃ parts,aD 46 s=parts:=⟨_,rfl⟩;rw[JC]at q8 hlen bF;have rb:=List.length_pos_iff.2 bF;have hq:gg s=(parts.all bW&&!bj (parts[parts.length - 1]'QA)):=by
  unfold gg;rw[JC,Ma _ bF,List.getLast_eq_getElem]
 clear JC;have Hq:=hid hq;have Hsp:=hid q8;have Hlen:=hid hlen;clear hq q8 hlen;go_enter func149,ntmps149
 go_wp2_with fail
 refine Hsp.out.mono ?_;rintro e w1 ⟨v,rfl,r6,jE⟩;obtain⟨g,cap,rfl,hg,hgl,Ar,hcm,_,gX⟩:=zD r6 rb;have Hw1:=hid jE;have Hcells:=hid gX;unfold maxLen at hcm;clear jE gX r6;go_wp2_with fail
 go_loop [10] (fun i=>∃ k:Nat,k≤parts.length∧i=.int .i64 k∧(parts.take k).all bW=true) (fun i=>parts.length - (intOf i).toNat)
 case atStart=>exact⟨0,QA,rfl,rfl⟩
 case round =>
  obtain⟨k,hk,rfl,br⟩:=hrel;have Hall:=hid br;clear br;by_cases az:k<parts.length
  ·have jc:w1.cell? ⟨g,k,none⟩=some (Value.string ⟨zRn (parts[k])⟩):=by
    rw[Hcells.out k az];simp[az,oL]
   have BN:=Hlen.out parts[k] (zRT az);cases hc:bW parts[k]
   ·have Ha:=hid (cX az hc)
    go_wp2_with (go_at_call 202;refine(xz _ _ QA).mono ?_;rintro e w' ⟨rfl,rfl⟩)
    go_ret
    exact⟨bB (by rw[Hq.out,Ha.out];simp),Hw1.out⟩
   ·have Hn:=hid (bq az Hall.out hc)
    go_wp2_with (go_at_call 202;refine(xz _ _ QA).mono ?_;rintro e w' ⟨rfl,rfl⟩)
    go_round
    case rel=>exact⟨k+1,QA,by go_num,Hn.out⟩
    case measure=>simp[intOf];omega
  ·have br:=Hall.out
   rw[zRw QA]at br;have Ha:=hid br;clear br Hall;have jc:w1.cell? ⟨g,parts.length - 1,none⟩=some (Value.string ⟨zRn (parts[parts.length - 1]'QA)⟩):=by
    rw[Hcells.out (parts.length - 1) QA];rw[List.getElem?_map,zRy QA];rfl
   have BN:=Hlen.out (parts[parts.length - 1]'QA) (zRT _);have u3:parts.length - 1<parts.length:=QA;go_wp2_with (go_at_call 203;refine(DO _ _ QA).mono ?_;rintro e w' ⟨rfl,rfl⟩)
   go_ret
   exact⟨bB (by rw[Hq.out,Ha.out,Bool.true_and]),Hw1.out⟩
open Go.RowKit Go.Sort Wf
attribute [local go_sem] fN eY get_list
theorem tm (s:Bytes)(w:World)(hs:s.length≤1000000000) :
 Calls Tryz.prog 85 #[(Value.string ⟨zRn (s)⟩)] w fun e w'=>e=.returned (.tuple #[(Value.string ⟨zRn ((cp s).1)⟩),.int .i64 (cp s).2])∧Below w.heap.size w w':=by
 cases h1:s.isEmpty
 ·by_cases h2:253<s.length
  ·have Hq:=hid (show cp s=([],5) by unfold cp;simp[h1,h2])
   go_enter func85,ntmps85
   go_wp2_with fail
   go_ret2
   rw[Hq.out];exact⟨rfl,Below.refl _ _⟩
  ·cases h3:ipv4 s
   ·cases h4:gg s
    ·have Hq:=hid (show cp s=([],50) by unfold cp;simp[h1,h2,h3,h4])
     go_enter func85,ntmps85
     go_wp2_with (first
      | (go_at_call 118;refine(kU _ _ hs).mono ?_;rintro e w1 ⟨rfl,jE⟩)
      | (go_at_call 149;refine(zk _ _ hs).mono ?_;rintro e w2 ⟨rfl,gQ⟩))
     go_ret2
     rw[Hq.out];exact⟨rfl,cN ‹_› ‹_›⟩
    ·have Hq:=hid (show cp s=(lower s,0) by unfold cp;simp[h1,h2,h3,h4])
     go_enter func85,ntmps85
     go_wp2_with (first
      | (go_at_call 118;refine(kU _ _ hs).mono ?_;rintro e w1 ⟨rfl,jE⟩)
      | (go_at_call 149;refine(zk _ _ hs).mono ?_;rintro e w2 ⟨rfl,gQ⟩)
      | (go_at_call 60;refine(qM _ _ QA).mono ?_;rintro e w3 ⟨rfl,Mk⟩))
     go_ret2
     rw[Hq.out];exact⟨rfl,cN (cN jE gQ) Mk⟩
   ·have Hq:=hid (show cp s=(lower s,0) by unfold cp;simp[h1,h2,h3])
    go_enter func85,ntmps85
    go_wp2_with (first
     | (go_at_call 118;refine(kU _ _ hs).mono ?_;rintro e w1 ⟨rfl,jE⟩)
     | (go_at_call 60;refine(qM _ _ QA).mono ?_;rintro e w3 ⟨rfl,Mk⟩))
    go_ret2
    rw[Hq.out];exact⟨rfl,cN jE Mk⟩
 ·have Hq:=hid (show cp s=([],3) by unfold cp;simp[h1])
  go_enter func85,ntmps85
  go_wp2_with fail
  go_ret2
  rw[Hq.out];exact⟨rfl,Below.refl _ _⟩
theorem I5 (s:Bytes)(w:World)(hs:s.length≤9223372036854775807) :
 Calls Tryz.prog 86 #[(Value.string ⟨zRn (s)⟩)] w fun e w'=>e=.returned (.tuple #[.int .i64 (kK s).1,.int .i64 (kK s).2])∧w=w':=by
 have hle:=kX 65535 s;have hq:kK s=if (aV 65535 s).2≠0∨(aV 65535 s).1=0 then(0,51) else(((aV 65535 s).1:Int),0):=rfl
 have hc:=oT s 65535 w QA QA;generalize aV 65535 s=np at hle hq hc;obtain⟨n,e⟩:=np;simp only at hle hq hc;have Hc:=hid hc;clear hc;by_cases he:e=0
 ·subst he
  by_cases hn:n=0
  ·rw[if_pos (Or.inr hn)]at hq
   have Hq:=hid hq;have hx:((n:Int)==0)=true:=by simp[hn]
   clear hq hn;go_enter func86,ntmps86
   go_wp2_with fail
   refine Hc.out.mono ?_;rintro e w' ⟨rfl,rfl⟩;go_wp2_with fail
   go_ret2
   rw[Hq.out];exact⟨rfl,rfl⟩
  ·rw[if_neg (by simp[hn])]at hq
   have Hq:=hid hq;have hx:((n:Int)==0)=false:=by simp[hn]
   clear hq hn;go_enter func86,ntmps86
   go_wp2_with fail
   refine Hc.out.mono ?_;rintro e w' ⟨rfl,rfl⟩;go_wp2_with fail
   go_ret2
   rw[Hq.out];exact⟨rfl,rfl⟩
 ·rw[if_pos (Or.inl he)]at hq
  have Hq:=hid hq;have hx:(e != 0)=true:=by simp[he]
  clear hq;go_enter func86,ntmps86
  go_wp2_with fail
  refine Hc.out.mono ?_;rintro e w' ⟨rfl,rfl⟩;go_wp2_with fail
  go_ret2
  rw[Hq.out];exact⟨rfl,rfl⟩
theorem F5 (s:Bytes)(w:World)(hs:s.length≤1000000000) :
 Calls Tryz.prog 35 #[(Value.string ⟨zRn (s)⟩)] w fun e w'=>e=.returned (.tuple #[.agg #[(Value.string ⟨zRn ((aN s).1.1)⟩),.int .i64 (aN s).1.2],.int .i64 (aN s).2])∧Below w.heap.size w w':=by
 have fD:pre (has [58] ·) s=pre (·==58) s:=by congr 1;funext c;simp[has];exact(Bool.beq_eq_decide_eq _ _).symm
 have hle:=cO (·==58) s;have hq:aN s=db (cp (aL 58 s).1) (aL 58 s).2.2 (kK (aL 58 s).2.1):=rfl;have ha:=eK w (.cells #[(Value.string ⟨zRn ([])⟩),.int .i64 0] 24);have JQ:Below w.heap.size w (w.alloc (.cells #[(Value.string ⟨zRn ([])⟩),.int .i64 0] 24)):=(Below.refl _ _).alloc (zRu _) _;generalize OP:w.alloc (.cells #[(Value.string ⟨zRn ([])⟩),.int .i64 0] 24)=wa at ha JQ;have Ha:=hid ha;have Hba:=hid JQ;have Hwa:=hid OP;have Hpre:=hid fD;clear ha JQ OP fD;by_cases hp:pre (·==58) s<s.length
 ·have hc:aL 58 s=(s.take (pre (·==58) s),s.drop (pre (·==58) s+1),true):=if_pos hp
  rw[hc]at hq;simp only at hq;have hh:=fun w=>tm (s.take (pre (·==58) s)) w QC
  have Ni:=fun w=>I5 (s.drop (pre (·==58) s+1)) w QC
  have u3:(s.take (pre (·==58) s)).length≤s.length:=by rw[zR9];omega
  generalize cp (s.take (pre (·==58) s))=H at hq hh;generalize kK (s.drop (pre (·==58) s+1))=P at hq Ni;obtain⟨h,e⟩:=H;obtain⟨p,f⟩:=P;simp only at hh Ni;have Hh:=hid hh;have Hp:=hid Ni;have hkne:((pre (·==58) s:Int)==(s.length:Int))=false:=beq_eq_false_iff_ne.2 QA;clear hh Ni hc;generalize pre (·==58) s=k at Hh Hp hkne hp hle Hpre u3;by_cases he:e=0
  ·subst he
   by_cases hf:f=0
   ·subst hf
    by_cases qm:p=443
    ·have Hq:=hid (show aN s=((h,0),0) by rw[hq];unfold db;simp[qm])
     have hx:(p==443)=true:=by simp[qm]
     clear hq qm;go_enter func35,ntmps35
     go_wp2_with fail
     rw[Hwa.out];go_wp2_with fail
     refine(iW s [58] _ QA QD).mono ?_;rintro e w1 ⟨rfl,rfl⟩;rw[Hpre.out];go_wp2_with fail
     refine(Hh.out _).mono ?_;rintro e w2 ⟨rfl,gQ⟩;have Ha2:=hid ((gQ.block _ (cW Ha.out)).trans Ha.out);have Hw2:=hid (cN Hba.out gQ);clear gQ;have az:=cW Ha2.out;have c0:=Lib.cell_of_heap Ha2.out 0;have c1:=Lib.cell_of_heap Ha2.out 1;have z0:=Lib.frozen_of_heap Ha2.out 0;have z1:=Lib.frozen_of_heap Ha2.out 1;go_wp2_with fail
     go_wp2_with (go_at_call 86;refine(Hp.out _).mono ?_;rintro e w3 ⟨rfl,rfl⟩)
     refine bodyPost_ret (v:=.tuple #[.agg #[(Value.string ⟨zRn (h)⟩),.int .i64 0],.int .i64 0]) (by simp[results,results35,go_sem,c0,c1]) rfl ⟨?_,?_⟩
     ·rw[Hq.out]
     ·repeat (first|exact Hw2.out | (refine Below.setCell (p:=⟨_,_,none⟩) ?_ (by simp <;> omega) _) | (refine Below.alloc ?_ (by simp <;> omega) _) | refine Below.drew ?_)
    ·have Hq:=hid (show aN s=((h,p),0) by rw[hq];unfold db;simp[qm])
     have hx:(p==443)=false:=by simp[qm]
     clear hq qm;go_enter func35,ntmps35
     go_wp2_with fail
     rw[Hwa.out];go_wp2_with fail
     refine(iW s [58] _ QA QD).mono ?_;rintro e w1 ⟨rfl,rfl⟩;rw[Hpre.out];go_wp2_with fail
     refine(Hh.out _).mono ?_;rintro e w2 ⟨rfl,gQ⟩;have Ha2:=hid ((gQ.block _ (cW Ha.out)).trans Ha.out);have Hw2:=hid (cN Hba.out gQ);clear gQ;have az:=cW Ha2.out;have c0:=Lib.cell_of_heap Ha2.out 0;have c1:=Lib.cell_of_heap Ha2.out 1;have z0:=Lib.frozen_of_heap Ha2.out 0;have z1:=Lib.frozen_of_heap Ha2.out 1;go_wp2_with fail
     go_wp2_with (go_at_call 86;refine(Hp.out _).mono ?_;rintro e w3 ⟨rfl,rfl⟩)
     refine bodyPost_ret (v:=.tuple #[.agg #[(Value.string ⟨zRn (h)⟩),.int .i64 p],.int .i64 0]) (by simp[results,results35,go_sem,c0,c1]) rfl ⟨?_,?_⟩
     ·rw[Hq.out]
     ·repeat (first|exact Hw2.out | (refine Below.setCell (p:=⟨_,_,none⟩) ?_ (by simp <;> omega) _) | (refine Below.alloc ?_ (by simp <;> omega) _) | refine Below.drew ?_)
   ·have Hq:=hid (show aN s=(([],0),f) by rw[hq];unfold db;simp[hf])
    have hx:(f != 0)=true:=by simp[hf]
    clear hq hf;go_enter func35,ntmps35
    go_wp2_with fail
    rw[Hwa.out];go_wp2_with fail
    refine(iW s [58] _ QA QD).mono ?_;rintro e w1 ⟨rfl,rfl⟩;rw[Hpre.out];go_wp2_with fail
    refine(Hh.out _).mono ?_;rintro e w2 ⟨rfl,gQ⟩;have Ha2:=hid ((gQ.block _ (cW Ha.out)).trans Ha.out);have Hw2:=hid (cN Hba.out gQ);clear gQ;have az:=cW Ha2.out;have c0:=Lib.cell_of_heap Ha2.out 0;have c1:=Lib.cell_of_heap Ha2.out 1;have z0:=Lib.frozen_of_heap Ha2.out 0;have z1:=Lib.frozen_of_heap Ha2.out 1;go_wp2_with fail
    go_wp2_with (go_at_call 86;refine(Hp.out _).mono ?_;rintro e w3 ⟨rfl,rfl⟩)
    refine bodyPost_ret (v:=.tuple #[.agg #[(Value.string ⟨zRn ([])⟩),.int .i64 0],.int .i64 f]) (by simp[results,results35,go_sem,c0,c1]) rfl ⟨?_,?_⟩
    ·rw[Hq.out]
    ·repeat (first|exact Hw2.out | (refine Below.setCell (p:=⟨_,_,none⟩) ?_ (by simp <;> omega) _) | (refine Below.alloc ?_ (by simp <;> omega) _) | refine Below.drew ?_)
  ·have hx:(e != 0)=true:=by simp[he]
   have Hq:=hid (show aN s=(([],0),e) by rw[hq];unfold db;rw[if_pos he]);clear hq he;go_enter func35,ntmps35
   go_wp2_with fail
   rw[Hwa.out];go_wp2_with fail
   refine(iW s [58] _ QA QD).mono ?_;rintro e w1 ⟨rfl,rfl⟩;rw[Hpre.out];go_wp2_with fail
   refine(Hh.out _).mono ?_;rintro e w2 ⟨rfl,gQ⟩;have Ha2:=hid ((gQ.block _ (cW Ha.out)).trans Ha.out);have Hw2:=hid (cN Hba.out gQ);clear gQ;have az:=cW Ha2.out;have c0:=Lib.cell_of_heap Ha2.out 0;have c1:=Lib.cell_of_heap Ha2.out 1;have z0:=Lib.frozen_of_heap Ha2.out 0;have z1:=Lib.frozen_of_heap Ha2.out 1;go_wp2_with fail
   refine bodyPost_ret (v:=.tuple #[.agg #[(Value.string ⟨zRn ([])⟩),.int .i64 0],.int .i64 e]) (by simp[results,results35,go_sem,c0,c1]) rfl ⟨?_,?_⟩
   ·rw[Hq.out]
   ·repeat (first|exact Hw2.out | (refine Below.setCell (p:=⟨_,_,none⟩) ?_ (by simp <;> omega) _) | (refine Below.alloc ?_ (by simp <;> omega) _) | refine Below.drew ?_)
 ·have hc:aL 58 s=(s,[],false):=if_neg hp
  have hk:pre (·==58) s=s.length:=QA;rw[hc]at hq;simp only at hq;have hh:=fun w=>tm s w hs
  generalize cp s=H at hq hh;obtain⟨h,e⟩:=H;simp only at hh;have Hh:=hid hh;have Hpre:=hid (Hpre.out.trans hk);clear hh hk hc;by_cases he:e=0
  ·subst he
   have Hq:=hid (show aN s=((h,0),0) from hq);clear hq;go_enter func35,ntmps35
   go_wp2_with fail
   rw[Hwa.out];go_wp2_with fail
   refine(iW s [58] _ QA QD).mono ?_;rintro e w1 ⟨rfl,rfl⟩;rw[Hpre.out];go_wp2_with fail
   refine(Hh.out _).mono ?_;rintro e w2 ⟨rfl,gQ⟩;have Ha2:=hid ((gQ.block _ (cW Ha.out)).trans Ha.out);have Hw2:=hid (cN Hba.out gQ);clear gQ;have az:=cW Ha2.out;have c0:=Lib.cell_of_heap Ha2.out 0;have c1:=Lib.cell_of_heap Ha2.out 1;have z0:=Lib.frozen_of_heap Ha2.out 0;have z1:=Lib.frozen_of_heap Ha2.out 1;go_wp2_with fail
   refine bodyPost_ret (v:=.tuple #[.agg #[(Value.string ⟨zRn (h)⟩),.int .i64 0],.int .i64 0]) (by simp[results,results35,go_sem,c0,c1]) rfl ⟨?_,?_⟩
   ·rw[Hq.out]
   ·repeat (first|exact Hw2.out | (refine Below.setCell (p:=⟨_,_,none⟩) ?_ (by simp <;> omega) _) | (refine Below.alloc ?_ (by simp <;> omega) _) | refine Below.drew ?_)
  ·have hx:(e != 0)=true:=by simp[he]
   have Hq:=hid (show aN s=(([],0),e) by rw[hq];unfold db;rw[if_pos he]);clear hq he;go_enter func35,ntmps35
   go_wp2_with fail
   rw[Hwa.out];go_wp2_with fail
   refine(iW s [58] _ QA QD).mono ?_;rintro e w1 ⟨rfl,rfl⟩;rw[Hpre.out];go_wp2_with fail
   refine(Hh.out _).mono ?_;rintro e w2 ⟨rfl,gQ⟩;have Ha2:=hid ((gQ.block _ (cW Ha.out)).trans Ha.out);have Hw2:=hid (cN Hba.out gQ);clear gQ;have az:=cW Ha2.out;have c0:=Lib.cell_of_heap Ha2.out 0;have c1:=Lib.cell_of_heap Ha2.out 1;have z0:=Lib.frozen_of_heap Ha2.out 0;have z1:=Lib.frozen_of_heap Ha2.out 1;go_wp2_with fail
   refine bodyPost_ret (v:=.tuple #[.agg #[(Value.string ⟨zRn ([])⟩),.int .i64 0],.int .i64 e]) (by simp[results,results35,go_sem,c0,c1]) rfl ⟨?_,?_⟩
   ·rw[Hq.out]
   ·repeat (first|exact Hw2.out | (refine Below.setCell (p:=⟨_,_,none⟩) ?_ (by simp <;> omega) _) | (refine Below.alloc ?_ (by simp <;> omega) _) | refine Below.drew ?_)
theorem uE (n:Nat)(w:World)(hn:n≤18446744073709551615) :
 Calls Tryz.prog 205 #[.int .u64 n] w fun e w'=>e=.returned (Value.string ⟨zRn (cf n)⟩)∧Below w.heap.size w w':=by
 have hlen:(cf n).length≤20:=cJ 19 n QA;go_enter func205,ntmps205
 go_wp2_with fail
 go_loopw [0,3] (fun v o wr=>∃ (k:Nat) (ds:Bytes),v=.int .u64 k∧o=(Value.string ⟨zRn (ds)⟩)∧k≤18446744073709551615∧(cf k).length+ds.length≤20∧cf k++ds=cf n∧Below w.heap.size w wr) (fun v _ _=>(intOf v).toNat)
 case atStart=>exact⟨n,[],rfl,rfl,hn,by simpa using hlen,QB,Below.refl _ _⟩
 case round =>
  obtain⟨k,ds,rfl,rfl,hk,hl,heq,hw⟩:=hrel;have iO:∀ T,jO (wr.alloc (.cells #[.int .u8 (48+(k:Int) % 10)] T)) wr.heap.size [ry (k % 10)]:=fun T =>
   ⟨[],T,(0,0),by rw[eK];simp only[List.map_cons,List.map_nil,zRS,u8V,rv (show k % 10<10 by omega)];rfl,Or.inr QB⟩
  have kQ:=fun T=>(iO T).back 1
  simp only[zR8,List.length_nil,Nat.zero_add]at kQ;have Heq:=hid heq;have Hw:=hid hw;clear heq hw iO;by_cases eB:k<10
  ·have hz:((k:Int) / 10==0)=true:=by simp;omega
   have hm:k % 10=k:=QA;have Hn:=hid (show cf n=ry (k % 10)::ds by rw[← Heq.out,fE eB,hm];rfl);have Iu:ds.length≤20:=QA;clear hm;go_wp2_with fail
   go_ret
   refine⟨kT (by rw[Hn.out]),?_⟩;exact Hw.out.alloc Hw.out.size _
  ·have hz:((k:Int) / 10==0)=false:=by simp;omega
   have Hn:=hid (show cf (k / 10)++ry (k % 10)::ds=cf n by rw[← Heq.out,jA eB];simp);have mF:=kI eB;have Hl2:=hid mF;have Iu:ds.length≤20:=QA;clear mF;go_wp2_with fail
   have h1:=Hl2.out;refine⟨⟨k / 10,ry (k % 10)::ds,congrArg (Value.int .u64) QA,rfl,QA,QC,Hn.out,Hw.out.alloc Hw.out.size _⟩,?_⟩;simp[intOf];omega
theorem nG (p:Int)(w:World)(h1:-9223372036854775808≤p)(h2:p≤9223372036854775807) :
 Calls Tryz.prog 153 #[.int .i64 p] w fun e w'=>e=.returned (Value.string ⟨zRn ((if p<0 then [45] else [])++cf p.natAbs)⟩)∧Below w.heap.size w w':=by
 have hd:=cJ 19 p.natAbs QA;by_cases Et:p<0
 ·rw[if_pos Et]
  have hp:-(p+1)+1=(p.natAbs:Int):=QA;have hnn:p.natAbs≤18446744073709551615:=QA;go_enter func153,ntmps153
  go_wp2_with fail
  clear hp;go_wp2_with (go_at_call 205;refine(uE _ _ hnn).mono ?_;rintro e w1 ⟨rfl,jE⟩)
  go_ret
  exact⟨rfl,jE⟩
 ·rw[if_neg Et]
  obtain⟨n,rfl⟩:=Int.eq_ofNat_of_zero_le (show 0≤p by omega);go_enter func153,ntmps153
  go_wp2_with (go_at_call 205;refine(uE _ _ QA).mono ?_;rintro e w1 ⟨rfl,jE⟩)
  go_ret
  exact⟨rfl,jE⟩
theorem DN (h:Bytes)(p:Int)(w:World)(hh:h.length≤4611686018427387904)(h1:-9223372036854775808≤p)(h2:p≤9223372036854775807) :
 Calls Tryz.prog 91 #[.agg #[(Value.string ⟨zRn (h)⟩),.int .i64 p]] w fun e w'=>e=.returned (Value.string ⟨zRn (bu h p)⟩)∧Below w.heap.size w w':=by
 have ha:=eK w (.cells #[(Value.string ⟨zRn (h)⟩),.int .i64 p] 24);have JQ:Below w.heap.size w (w.alloc (.cells #[(Value.string ⟨zRn (h)⟩),.int .i64 p] 24)):=(Below.refl _ _).alloc (zRu _) _;generalize OP:w.alloc (.cells #[(Value.string ⟨zRn (h)⟩),.int .i64 p] 24)=wa at ha JQ;have az:=cW ha;have c0:wa.cell? ⟨w.heap.size,0,none⟩=some (Value.string ⟨zRn (h)⟩):=Lib.cell_of_heap ha 0;have c1:wa.cell? ⟨w.heap.size,1,none⟩=some (.int .i64 p):=Lib.cell_of_heap ha 1;have Hba:=hid JQ;have Hwa:=hid OP;clear ha JQ OP;by_cases h0:p=0
 ·subst h0
  have Hq:=hid (show bu h 0=h from if_pos rfl);go_enter func91,ntmps91
  go_wp2_with fail
  rw[Hwa.out];go_wp2_with fail
  go_ret
  exact⟨kT Hq.out.symm,Hba.out⟩
 ·have hx:(p==0)=false:=by simp[h0]
  have hq:bu h p=h++58::((if p<0 then [45] else [])++cf p.natAbs):=by
   unfold bu;rw[if_neg h0];split <;> simp
  have hd:=cJ 19 p.natAbs QA;have nr:((if p<0 then [45] else [])++cf p.natAbs).length≤21:=by split <;> simp <;> omega
  have hdc:=fun w=>nG p w h1 h2
  generalize (if p<0 then [45] else [])++cf p.natAbs=ds at hq nr hdc;have Hq:=hid hq;have Hdc:=hid hdc;clear h0 hq hdc hd;go_enter func91,ntmps91
  go_wp2_with fail
  rw[Hwa.out];go_wp2_with fail
  have n1:¬ 9223372036854775807<h.length+1:=QA;have n2:¬ 9223372036854775807<h.length+1+ds.length:=QA;have k0:=cell_regrown c0;have k1:=cell_regrown c1;clear c0 c1 hx;refine wp_region_quiet_below QE QE ?_;repeat (quiet_step ((go_at_call 153;exact Calls.regrown_of (Hdc.out _))))
  refine wpQuiet_nil ?_;intro _ hw';obtain⟨⟨dq,osq⟩,hw''⟩:=hw';subst hw'';have cM:=below_regrown wa dq osq;generalize grow (redrawn wa dq) osq=wq at cM ⊢;clear n1 n2 k0 k1;go_wp2_with fail
  go_ret
  exact⟨kT Hq.out.symm,cN Hba.out cM⟩
open Go Vc Go.RowKit Wf
theorem Eb (s:Bytes)(hs:s.length<4294967281):PC QH 113 [.str s] (.eh [.agg [.str (aN s).1.1,.int .i64 (aN s).1.2],.int .i64 (aN s).2]) :=
 ⟨call113,by simp[flat,flat.ah],by simp[flat,flat.ah],fun w hE=>(JF s w hE hs).mono fun _ _ ⟨h,k⟩=>⟨h,k⟩⟩
theorem By (h:Bytes)(p:Int)(hh:h.length≤4611686018427387904)(h1:-9223372036854775808≤p)(h2:p≤9223372036854775807):PC QH 114 [.agg [.str h,.int .i64 p]] (.str (bu h p)) :=
 ⟨call114,by simp[flat,flat.ah],by simp[flat,flat.ah],fun w hE=>(G8 h p w hh h1 h2).mono fun _ _ ⟨h,k⟩=>⟨h,k⟩⟩
theorem Cz (s:Bytes)(hs:s.length≤1000000000):PC QH 85 [.str s] (.eh [.str (cp s).1,.int .i64 (cp s).2]) :=
 ⟨call85,by simp[flat,flat.ah],by simp[flat,flat.ah],fun w hE=>(tm s w hs).mono fun _ _ ⟨h,k⟩=>⟨h,k⟩⟩
theorem zu (s:Bytes)(hs:s.length≤1000000000):PC QH 35 [.str s] (.eh [.agg [.str (aN s).1.1,.int .i64 (aN s).1.2],.int .i64 (aN s).2]) :=
 ⟨call35,by simp[flat,flat.ah],by simp[flat,flat.ah],fun w hE=>(F5 s w hs).mono fun _ _ ⟨h,k⟩=>⟨h,k⟩⟩
theorem Gl (h:Bytes)(p:Int)(hh:h.length≤4611686018427387904)(h1:-9223372036854775808≤p)(h2:p≤9223372036854775807):PC QH 91 [.agg [.str h,.int .i64 p]] (.str (bu h p)) :=
 ⟨call91,by simp[flat,flat.ah],by simp[flat,flat.ah],fun w hE=>(DN h p w hh h1 h2).mono fun _ _ ⟨h,k⟩=>⟨h,k⟩⟩
theorem yx (s:Bytes)(hs:s.length≤9223372036854775807):PC QH 175 [.str s] (.str (lower s)) :=
 ⟨call175,by simp[flat,flat.ah],by simp[flat,flat.ah],fun w hE=>(rE s w hs).mono fun _ _ ⟨h,k⟩=>⟨h,k⟩⟩
theorem gU (s:Bytes)(hs:s.length≤9223372036854775807):PC QH 60 [.str s] (.str (lower s)) :=
 ⟨call60,by simp[flat,flat.ah],by simp[flat,flat.ah],fun w hE=>(qM s w hs).mono fun _ _ ⟨h,k⟩=>⟨h,k⟩⟩
theorem Ed (s t:Bytes)(hs:s.length≤9223372036854775807)(ht:t.length≤9223372036854775807):PC QH 155 [.str s,.str t] (.bool (lower s==lower t)):=by
 refine aU 3000 func155 rfl ntmps155 results155 call155 QB (by simp[flat,flat.ah]) (by simp[flat,flat.ah]) ?_;refine bw ?_
 (refine aa (yx s hs) ?_;refine bw ?_)
 (refine aa (yx t ht) ?_;exact bw True.intro)
theorem iN (s t:Bytes)(hs:s.length≤9223372036854775807)(ht:t.length≤9223372036854775807):PC QH 33 [.str s,.str t] (.bool (lower s==lower t)):=by
 refine aU 3000 func33 rfl ntmps33 results33 call33 QB (by simp[flat,flat.ah]) (by simp[flat,flat.ah]) ?_;refine bw ?_
 (refine aa (gU s hs) ?_;refine bw ?_)
 (refine aa (gU t ht) ?_;exact bw True.intro)
theorem K6 (L:List (Bytes × Bytes))(k:Nat)(h:k<L.length):((L.flatMap fc).drop (k * 2)).take 2=fc L[k]:=mQ fc 2 (fun _=>rfl) L k h
theorem Aw (L:List (Bytes × Bytes)):(L.flatMap fc).length=L.length * 2:=jq fc 2 (fun _=>rfl) L
theorem Av (fs:List (Bytes × Bytes)):(fs.flatMap fc).all Vc.one=true:=by
 rw[zRY];intro x hx;obtain⟨f,-,hf⟩:=List.mem_flatMap.1 hx;simp only[fc,zRZ,List.not_mem_nil,or_false]at hf;rcases hf with rfl|rfl <;> rfl
theorem qI {bs:List aq}{j:Nat}{fs:List (Bytes × Bytes)}{m:Bool}(hj:bs[j]? = some (.own (fs.flatMap fc) 100 2 fs.length m))(hn:fs.length≤1000000)(hl:∀ f∈fs,f.1.length≤9223372036854775807)(name:Bytes)(Ai:name.length≤9223372036854775807)(a c:Int) :
 SC QH 110 [.agg [.int .i64 a,.int .i64 c,.o j fs.length],.str name] bs (fun r b=>Kp bs b∧Sl 9 1 bs.length r b ((bn fs name).map .str) (bn fs name).length):=by
 have e9:j<bs.length:=(zRq.1 hj).1;refine bp 3000 func110 rfl ntmps110 results110 call110 QB (af bs.length _ (by simp[within,within.av,e9])) ?_;refine JU ?_;have hp:=ad hj [.cells [.int .i64 a,.int .i64 c,.o j fs.length] 48 true];refine ax (fun σ=>∃ (k:Nat) (x:SV),k≤fs.length∧lk 1 σ.t=some (.str name)∧lk 5 σ.t=some x∧lk 9 σ.t=some (.o j fs.length)∧lk 10 σ.t=some (.int .i64 fs.length)∧lk 11 σ.t=some (.int .i64 k)∧σ.b[j]? = some (.own (fs.flatMap fc) 100 2 fs.length m) ∧
  Kp bs σ.b∧Sl 9 1 bs.length x σ.b ((bn (fs.take k) name).map .str) (bn (fs.take k) name).length) (fun σ=>fs.length - fA 11 σ) ⟨0,.ai,QA,rfl,rfl,rfl,rfl,rfl,hp,(Kp.refl _).app _,.inl ⟨rfl,rfl,rfl⟩⟩ ?_
 rintro⟨t,b⟩ ⟨k,x,hk,h1,h5,h9,eB,fM,hb,bm,fH⟩;simp only at h1 h5 h9 eB fM hb bm fH;rw[ak fM];by_cases az:k<fs.length
 ·have hu:=K6 fs k az
  have mI:=Aw fs;have hx:=ve az name;have Iu:=gW (fs.take k) name;rw[zR9]at Iu;have he:=Ed fs[k].1 name (hl _ (zRT az)) Ai;unfold fc at hb hu mI;rcases fH with⟨rfl,kn,kj⟩|⟨i,rfl,hLi,hi⟩
  ·refine gC (zRp h1 (zRp h5 (zRp h9 (zRp eB (zRp fM (zRp hb (zRp hu (zRp mI zR6)))))))) ?_
   refine⟨fun _=>⟨⟨QA,QA⟩,QA,?_⟩,fun h=>absurd h QC⟩;have eZ:=fun X=>ad hb [X]
   have qv:=fun X Y=>ad (eZ X) [Y]
   have ME:=fun X Y Z=>ad (qv X Y) [Z]
   (refine aa (he) ?_;refine gC (zRp h1 (zRp h5 (zRp h9 (zRp eB (zRp fM (zRp hb (zRp eZ (zRp qv ME)))))))) ?_)
   refine⟨fun hq=>⟨QA,⟨by unfold maxLen;omega,QA⟩,⟨QA,QA⟩,⟨k+1,_,QA,rfl,rfl,rfl,((bm.app _).app _).app _,.inr ⟨(b++[aq.cells [.str fs[k].1,.str fs[k].2] 100 true]++[aq.own [.str fs[k].2] 9 1 1 true]).length,?_,?_,?_⟩⟩,?_⟩,fun hq=>⟨⟨QA,QA⟩,⟨k+1,_,QA,rfl,rfl,rfl,bm.app _,.inl ⟨rfl,?_,?_⟩⟩,?_⟩⟩
   ·rw[hx,if_pos (by simpa using hq),zRH.1 kj];rfl
   ·have:=bm.1;simp;omega
   ·rw[hx,if_pos (by simpa using hq),zRH.1 kj,aB];rfl
   ·rw[ak (k:=.i64) (n:=(k:Int)+1) rfl];omega
   ·rw[hx,if_neg (by simpa using hq),zRS];exact kn
   ·rw[hx,if_neg (by simpa using hq),zRS];exact kj
   ·rw[ak (k:=.i64) (n:=(k:Int)+1) rfl];omega
  ·refine gC (zRp h1 (zRp h5 (zRp h9 (zRp eB (zRp fM (zRp hb (zRp hu (zRp mI zR6)))))))) ?_
   refine⟨fun _=>⟨⟨QA,QA⟩,QA,?_⟩,fun h=>absurd h QC⟩;have Nn:=fun X=>ad hi [X]
   have Iw:=fun X Y=>ad (Nn X) [Y]
   have eZ:=fun X=>ad hb [X]
   (refine aa (he) ?_;refine gC (zRp h1 (zRp h5 (zRp h9 (zRp eB (zRp fM (zRp hb (zRp hi (zRp Nn Iw)))))))) ?_)
   have hK:=fun X=>((((bm.app [.cells [.str fs[k].1,.str fs[k].2] 100 true]).app [.own [.str fs[k].2] 9 1 1 true]).set hLi .gone).app [X])
   refine⟨fun hq=>⟨QA,⟨by unfold maxLen;omega,QA⟩,⟨QA,QA⟩,⟨k+1,_,QA,rfl,rfl,(hK _).at hj,hK _,.inr ⟨(b++[aq.cells [.str fs[k].1,.str fs[k].2] 100 true]++[aq.own [.str fs[k].2] 9 1 1 true]).length,?_,?_,?_⟩⟩,?_⟩,fun hq=>⟨⟨QA,QA⟩,⟨k+1,_,QA,rfl,rfl,(bm.app _).at hj,bm.app _,.inr ⟨i,?_,hLi,?_⟩⟩,?_⟩⟩
   ·rw[hx,if_pos (by simpa using hq)];simp
   ·have:=bm.1;simp;omega
   ·rw[hx,if_pos (by simpa using hq),List.map_append,zRL QB];simp
   ·rw[ak (k:=.i64) (n:=(k:Int)+1) rfl];omega
   ·rw[hx,if_neg (by simpa using hq),zRS]
   ·rw[hx,if_neg (by simpa using hq),zRS];exact Nn _
   ·rw[ak (k:=.i64) (n:=(k:Int)+1) rfl];omega
 ·have hU:k=fs.length:=QA
  subst hU;rw[List.take_length]at fH;refine gN (zRp h1 (zRp h5 (zRp h9 (zRp eB (zRp fM hb))))) ?_;exact⟨fun h=>absurd h QB,fun _=>⟨bm,fH⟩⟩
theorem LW (c:UInt8):PC QH 251 [.int .u8 c.toNat] (.bool (isAlpha c)) :=
 ⟨call251,by simp[flat,flat.ah],by simp[flat,flat.ah],fun w _=>(dM c w).mono fun _ _ ⟨h,k⟩=>⟨h,cG k⟩⟩
theorem CB (c:UInt8):PC QH 252 [.int .u8 c.toNat] (.bool (isDigit c)) :=
 ⟨call252,by simp[flat,flat.ah],by simp[flat,flat.ah],fun w _=>(ct c w).mono fun _ _ ⟨h,k⟩=>⟨h,cG k⟩⟩
theorem Kx (c:UInt8):PC QH 255 [.int .u8 c.toNat] (.bool (aR c)) :=
 ⟨call255,by simp[flat,flat.ah],by simp[flat,flat.ah],fun w _=>(eT c w).mono fun _ _ ⟨h,k⟩=>⟨h,cG k⟩⟩
theorem KH (set:Bytes)(c:UInt8):decide (0≤Lib.indexByte set c)=set.contains c:=by
 rw[eR];by_cases h:pre (·==c) set<set.length
 ·rw[if_pos h]
  have:=iM (p:=(·==c)) h
  simp only[beq_iff_eq]at this;simp only[Int.natCast_nonneg,decide_true];symm
  rw[zR7,← this];exact zRT h
 ·rw[if_neg h]
  simp only[show ¬ (0:Int)≤-1 by omega,decide_false];symm
  rw[← Bool.not_eq_true,zR7];intro hm;obtain⟨k,hk,rfl⟩:=List.getElem_of_mem hm;have h2:=cO (·==set[k]) set;have:=ju (p:=(·==set[k])) (l:=set) (k:=k) QA hk
  simp at this
theorem Kv (c:UInt8)(set:Bytes):PC QH 258 [.int .u8 c.toNat,.str set] (.bool (set.contains c)):=by
 refine aU 3000 func258 rfl ntmps258 results258 call258 QB (by simp[flat,flat.ah]) (by simp[flat,flat.ah]) ?_;refine bw ?_
 (refine aa (iX set c) ?_;refine bw ?_)
 rw[KH]
theorem Kw (c:UInt8):PC QH 257 [.int .u8 c.toNat] (.bool (isAlpha c||isDigit c)):=by
 refine aU 3000 func257 rfl ntmps257 results257 call257 QB (by simp[flat,flat.ah]) (by simp[flat,flat.ah]) ?_;refine bw ?_
 (refine aa (LW c) ?_;refine bw ?_)
 refine⟨fun h=>?_,fun h=>by rw[h];rfl⟩
 (refine aa (CB c) ?_;refine bw ?_)
 rw[h];rfl
theorem qS (c:UInt8):PC QH 211 [.int .u8 c.toNat] (.bool (iu c)):=by
 refine aU 3000 func211 rfl ntmps211 results211 call211 QB (by simp[flat,flat.ah]) (by simp[flat,flat.ah]) ?_;refine bw ?_
 (refine aa (Kw c) ?_;refine bw ?_)
 refine⟨fun h=>?_,fun h=>by unfold iu;rw[h];rfl⟩
 (refine aa (Kv c [45,46,95,126]) ?_;refine bw ?_)
 unfold iu;rw[h];rfl
theorem dig_low (c:UInt8)(h:isDigit c=true):IntKind.u8.wrap ((c.toNat:Int) - 48)=bo c:=by
 have:=du (p:=fun c=>!isDigit c||decide (IntKind.u8.wrap ((c.toNat:Int) - 48)=bo c)) (by decide +kernel) c
 simpa[h] using this
theorem P0 (c:UInt8)(h:aR c=true)(h2:isDigit c=false):IntKind.u8.wrap (IntKind.u8.wrap (sg .or .u8 (c.toNat:Int) 32 - 97)+10)=bo c:=by
 have:=du (p:=fun c=>!aR c||isDigit c||decide (IntKind.u8.wrap (IntKind.u8.wrap (sg .or .u8 (c.toNat:Int) 32 - 97)+10)=bo c)) (by decide +kernel) c
 simpa[h,h2] using this
theorem Ku (c:UInt8)(hc:aR c=true):PC QH 256 [.int .u8 c.toNat] (.int .u8 (bo c)):=by
 refine aU 3000 func256 rfl ntmps256 results256 call256 QB (by simp[flat,flat.ah]) (by simp[flat,flat.ah]) ?_;refine bw ?_
 (refine aa (CB c) ?_;refine bw ?_)
 refine⟨fun h=>?_,fun h=>?_⟩
 ·rw[dig_low c h]
 ·rw[P0 c hc h]
theorem IC (a b:UInt8)(ha:aR a=true)(hb:aR b=true):sg .or .u8 (NR .shl .u8 (bo a) 4) (bo b)=((unhex a b).toNat:Int):=by
 have h1:=iY ha;have h2:=iY hb;have:∀ x,x<16→∀ y,y<16→sg .or .u8 (NR .shl .u8 (x:Nat) 4) (y:Nat)=(((x * 16+y).toUInt8).toNat:Int):=by decide +kernel
 exact this _ QA _ QA
def nw (s:Bytes)(i:Nat):Option UInt8:=(ez (s.drop (i+1))).map fun x=>unhex x.1 x.2.1
theorem vd (s:Bytes)(i:Nat):ez (s.drop (i+1))=if i+2<s.length then(if aR (s.getD (i+1) 0)&&aR (s.getD (i+2) 0) then some (s.getD (i+1) 0,s.getD (i+2) 0,s.drop (i+3)) else none) else none:=by
 by_cases h:i+2<s.length
 ·rw[if_pos h,zRx (by omega:i+1<s.length),zRx (by omega:i+1+1<s.length)]
  simp only[ez,List.getD_eq_getElem?_getD];simp[show i+1<s.length by omega,h]
 ·rw[if_neg h]
  have hl:(s.drop (i+1)).length≤1:=by simp;omega
  match hm:s.drop (i+1),hl with
  | [],_=>rfl
  | [_],_=>rfl
theorem LU (s:Bytes)(i:Nat)(hi:i<s.length)(hs:s.length≤9223372036854775807):PC QH 210 [.str s,.int .i64 i] (.eh [.int .u8 (((nw s i).getD 0).toNat:Int),.bool (nw s i).isSome]):=by
 refine aU 3000 func210 rfl ntmps210 results210 call210 QB (by simp[flat,flat.ah]) (by simp[flat,flat.ah]) ?_;refine bw ?_;unfold nw;rw[vd];refine⟨⟨QA,QA⟩,fun hl=>?_,fun hl=>?_⟩
 ·have hl:i+2<s.length:=(by simp at hl;omega)
  rw[if_pos hl];refine⟨⟨QA,QA⟩,⟨QA,QA⟩,?_⟩
  (refine aa (Kx _) ?_;refine bw ?_)
  refine⟨fun ha=>⟨⟨QA,QA⟩,⟨QA,QA⟩,?_⟩,fun ha=>?_⟩
  ·have ha:aR (s.getD (i+1) 0)=true:=by simpa using ha
   (refine aa (Kx _) ?_;refine bw ?_)
   refine⟨fun hb=>?_,fun hb=>⟨⟨QA,QA⟩,⟨QA,QA⟩,?_⟩⟩
   ·have hb:aR (s.getD (i+2) 0)=false:=by simpa using hb
    rw[ha,hb];rfl
   ·have hb:aR (s.getD (i+2) 0)=true:=by simpa using hb
    (refine aW (Ku _ ha) ?_;refine bw ?_)
    refine⟨QA,⟨QA,QA⟩,⟨QA,QA⟩,?_⟩
    (refine aW (Ku _ hb) ?_;refine bw ?_)
    refine⟨(ao QE),?_⟩;rw[IC _ _ ha hb,ha,hb];rfl
  ·have ha:aR (s.getD (i+1) 0)=false:=by simpa using ha
   rw[ha];rfl
 ·have hl:¬ i+2<s.length:=(by simp at hl;omega)
  rw[if_neg hl];rfl
theorem shr4 (c:UInt8):NR .shr .u8 (c.toNat:Int) 4=((c.toNat / 16:Nat):Int):=by
 have:=du (p:=fun c=>decide (NR .shr .u8 (c.toNat:Int) 4=((c.toNat / 16:Nat):Int))) (by decide +kernel) c
 simpa using this
theorem and15 (c:UInt8):sg .and .u8 (c.toNat:Int) 15=((c.toNat % 16:Nat):Int):=by
 have:=du (p:=fun c=>decide (sg .and .u8 (c.toNat:Int) 15=((c.toNat % 16:Nat):Int))) (by decide +kernel) c
 simpa using this
theorem yK:∀ n,n<16→([48,49,50,51,52,53,54,55,56,57,65,66,67,68,69,70]:Bytes).getD n 0=jH n:=by decide
theorem C6 (c:UInt8):(nP c).map eb=[.int .u8 37,.int .u8 ((jH (c.toNat / 16)).toNat:Int),.int .u8 ((jH (c.toNat % 16)).toNat:Int)]:=rfl
structure Cc (bs:List aq) (i L:Nat) (x:SV) (l:Bytes):Prop where
 box:bs[i]? = some (.cells [x] 243 true)
 sl:Sl 5 1 L x bs (l.map eb) l.length
 lt:i<L
theorem Cc.ne {bs:List aq}{i L j n:Nat}{l:Bytes}(h:Cc bs i L (.o j n) l):i≠j:=by
 rcases h.sl with⟨h1,-⟩|⟨j',h1,h2,-⟩
 ·cases h1
 ·cases h1;have:=h.lt;omega
theorem LD {bs:List aq}{i L:Nat}{x:SV}{l:Bytes}(h:Cc bs i L x l)(hL:L≤bs.length)(hl:l.length≤1000000)(c:UInt8) :
 SC QH 212 [.p i 0,.int .u8 c.toNat] bs (fun r b=>r=.eh []∧∃ x',Cc b i L x' (l++nP c)∧bs.length≤b.length∧∀ k,k<L→k≠i→b[k]? = bs[k]?):=by
 have dJ:i<bs.length:=(zRq.1 h.box).1;have hc:=c.toNat_lt;have d1:=yK (c.toNat / 16) QA;have d2:=yK (c.toNat % 16) QA;have s1:=shr4 c;have s2:=and15 c;have o9:=h.box;have ec:=C6 c;refine bp 3000 func212 rfl ntmps212 results212 call212 QB (af bs.length _ (by simp[within,within.av,dJ])) ?_;rcases h.sl with⟨rfl,kn,kj⟩|⟨j,rfl,mG,hj⟩
 ·obtain rfl:l=[]:=by simpa using kn
  have ho:∀ X,(bs++[X])[i]? = some (.cells [.ai] 243 true):=fun X=>ad o9 [X]
  have p8:∀ X Y,(bs++[X]++[Y])[i]? = some (.cells [.ai] 243 true):=fun X Y=>ad (ho X) [Y]
  refine gN (zRp o9 (zRp s1 (zRp s2 (zRp zR6 (zRp d1 (zRp d2 (zRp @aB (zRp ho p8)))))))) ?_;rw[← ec];have n1:¬ bs.length=i:=QA;have n2:∀ X,¬ (bs++[X]).length=i:=fun X=>QC
  refine⟨QA,⟨QA,QA⟩,⟨QA,QA⟩,QA,⟨by unfold maxLen;omega,QA⟩,?_,_,⟨zRA QC,.inr ⟨_,rfl,QC,?_⟩,h.lt⟩,QB,fun k hk kO=>?_⟩
  ·exact(by
   refine bt (fun n=>if n=i then 0 else 1) ?_;simp only[List.map_cons,List.map_nil,cz,dW,reduceIte,n1,n2];exact ao QE)
  ·rw[zRr (fun e=>n2 _ e.symm),aB];rfl
  ·rw[zRr (fun e=>kO e.symm),zRt QC,zRt QA]
 ·have Hj:=h.ne
  have e9:j<bs.length:=(zRq.1 hj).1;have ho:∀ X,(bs++[X])[j]? = some (.own (l.map eb) 5 1 l.length true):=fun X=>ad hj [X]
  have p8:∀ X Y,((bs++[X]).set j .gone++[Y])[i]? = some (.cells [.o j l.length] 243 true):=fun X Y=>by
   rw[zRt QC,zRr Hj.symm];exact ad o9 [X]
  refine gN (zRp o9 (zRp s1 (zRp s2 (zRp zR6 (zRp d1 (zRp d2 (zRp @aB (zRp ho p8)))))))) ?_;rw[← ec,← List.map_append];have n1:¬ bs.length=i:=QA;have n2:∀ X,¬ (bs++[X]).length=i:=fun X=>QC
  have n3:¬ j=i:=fun e=>Hj e.symm
  refine⟨QA,⟨QA,QA⟩,⟨QA,QA⟩,QA,⟨by unfold maxLen;omega,QA⟩,?_,_,⟨zRA QC,.inr ⟨(bs++[aq.own ((nP c).map eb) 5 1 3 true]).length,by simp[nP],QC,?_⟩,h.lt⟩,QC,fun k hk kO=>?_⟩
  ·exact(by
   refine bt (fun n=>if n=i then 0 else 1) ?_;simp only[List.map_cons,List.map_nil,cz,dW,reduceIte,n1,n2,n3];exact ao QE)
  ·rw[zRr (fun e=>n2 _ e.symm),zRL QB];simp[nP]
  ·rw[zRr (fun e=>kO e.symm),zRt QC,zRr QA,zRt QA]
theorem Dh {bs:List aq}{i L:Nat}{x:SV}{l:Bytes}(h:Cc bs i L x l)(hL:L≤bs.length)(c:UInt8)(hx:x=.ai):Cc ((bs++[aq.own [eb c] 5 1 1 true]++[aq.own [eb c] 5 1 1 true]).set i (aq.cells [.o (bs++[aq.own [eb c] 5 1 1 true]).length 1] 243 true)) i L (.o (bs++[aq.own [eb c] 5 1 1 true]).length 1) (l++[c]):=by
 have dJ:i<bs.length:=(zRq.1 h.box).1;have hl:l=[]:=by
  rcases h.sl with⟨-,h1,-⟩|⟨j,h1,-,-⟩
  ·simpa using h1
  ·rw[hx]at h1;cases h1
 subst hl;have n2:∀ X,¬ (bs++[X]).length=i:=fun X=>QC
 refine⟨zRA QC,.inr ⟨_,rfl,QC,?_⟩,h.lt⟩;rw[zRr (fun e=>n2 _ e.symm),aB];rfl
theorem yQ {bs:List aq}{i L j:Nat}{l:Bytes}(h:Cc bs i L (.o j l.length) l)(hL:L≤bs.length)(c:UInt8)(mG:L≤j):Cc (((bs++[aq.own [eb c] 5 1 1 true]).set j .gone++[aq.own (l.map eb++[eb c]) 5 1 (l.length+1) true]).set i (aq.cells [.o (bs++[aq.own [eb c] 5 1 1 true]).length (l.length+1)] 243 true)) i L (.o (bs++[aq.own [eb c] 5 1 1 true]).length (l.length+1)) (l++[c]):=by
 have dJ:i<bs.length:=(zRq.1 h.box).1;refine⟨zRA QC,.inr ⟨(bs++[aq.own [eb c] 5 1 1 true]).length,QB,QC,?_⟩,h.lt⟩;rw[zRr QC,zRL QB];simp
def NoI (also s:Bytes)(σ:St):Prop:=∃ (i:Nat) (x:SV) (d:Bytes),lk 0 σ.t=some (.str s)∧lk 1 σ.t=some (.str also)∧lk 6 σ.t=some (.p 0 0)∧lk 7 σ.t=some (.int .i64 i)∧i≤s.length∧d.length≤3 * i∧1≤σ.b.length∧Cc σ.b 0 1 x d∧comb d (cg also (aI (s.drop i)))=cg also (aI s)
def NoM (s:Bytes)(σ:St):Nat:=match lk 7 σ.t with
 | some (.int _ k)=>s.length - k.toNat
 | _=>0
theorem EX {s:Bytes}{σ:St}{k:Nat}(h:lk 7 σ.t=some (.int .i64 k)):NoM s σ=s.length - k:=by simp[NoM,h]
theorem zI {also s:Bytes}{t:List (Nat × SV)}{b:List aq}{i i':Nat}{x:SV}{d:Bytes}(h0:lk 0 t=some (.str s))(h1:lk 1 t=some (.str also))(h6:lk 6 t=some (.p 0 0))(h7:lk 7 t=some (.int .i64 i'))(h:i'≤s.length∧d.length≤3 * i')(hb:1≤b.length)(ht:Cc b 0 1 x d)
 (hn:comb d (cg also (aI (s.drop i')))=cg also (aI s)) (az:i<i'):NoI also s ⟨t,b⟩∧NoM s ⟨t,b⟩<s.length - i :=
 ⟨⟨i',x,d,h0,h1,h6,h7,h.1,h.2,hb,ht,hn⟩,by rw[EX h7];omega⟩
theorem sV {s:Bytes}{i:Nat}(hi:i<s.length):aI (s.drop i)=if s[i]=37 then(match nw s i with
 | some _=>(match ez (s.drop (i+1)) with
   | some (a,b,_)=>.hex a b::aI (s.drop (i+3))
   | none=>[.bad])
 | none=>[.bad]) else .lit s[i]::aI (s.drop (i+1)):=by
 rw[zRx hi];by_cases h:s[i]=37
 ·rw[if_pos h,h]
  unfold nw;cases hp:ez (s.drop (i+1)) with
  | none=>simp only[Option.map_none];exact vO hp
  | some x =>
    obtain⟨a,b,r⟩:=x;obtain⟨h1,h2,h3⟩:=ey hp;simp only[Option.map_some];rw[h1,hZ h2 h3];congr 2
    have:=congrArg (List.drop 2) h1
    rw[List.drop_drop]at this;exact this.symm
 ·rw[if_neg h,eC h]
theorem qR (s also:Bytes)(ha:also.length≤1000):PC QH 157 [.str s,.str also] (.eh [.str (bM also s).1,.int .i64 (bM also s).2]):=by
 refine aU 3000 func157 rfl ntmps157 results157 call157 QB (by simp[flat,flat.ah]) (by simp[flat,flat.ah]) ?_;refine bw ?_;unfold bM;refine⟨fun hl=>?_,fun hl=>?_⟩
 ·have hl:16384<s.length:=(by simp at hl;omega)
  rw[if_pos hl]
 have hl:s.length≤16384:=(by simp at hl;omega);rw[if_neg QA];refine ax (NoI also s) (NoM s) ⟨0,.ai,[],rfl,rfl,rfl,rfl,QA,QB,QB,⟨rfl,.inl ⟨rfl,rfl,rfl⟩,QA⟩,AL _ (CC also _)⟩ ?_;rintro⟨t,b⟩ ⟨i,x,d,h0,h1,h6,h7,hi,hd,jF,ht,hn⟩;simp only at h0 h1 h6 h7 jF ht;rw[EX h7];have o9:=ht.box;by_cases az:i<s.length
 ·have hu:=sV az
  have hg:s.getD i 0=s[i]:=by simp[List.getD,az]
  refine gN (zRp h0 (zRp h1 (zRp h6 h7))) ?_;refine⟨fun _=>⟨⟨QA,QA⟩,fun hc=>?_,fun hc=>?_⟩,fun h=>absurd h QC⟩
  ·rw[dG (n:=37) az 37 rfl]at hc
   rw[if_pos (by simpa using hc)]at hu;have pe:=LU s i az QA;cases he:nw s i with
   | none =>
     rw[he]at pe hu;simp only at hu;rw[hu]at hn;have om:cg also (aI s)=([],2):=by rw[← hn];rfl
     rw[om]
     (refine aa pe ?_;simp only[bJ,↓Xn,↓Xo,↓Xg,↓Xd,↓Xe,↓Xf,Tryz.VΓ,Tryz.Γs,Xp,Xi,Nat.reduceAdd,Nat.reduceSub,Nat.reduceLT,Nat.reduceLeDiff,reduceIte,reduceCtorEq,Nat.reduceEqDiff,implies_true,forall_const,bI,h0,h1,h6,h7,Option.isSome_none])
   | some v =>
     rw[he]at pe hu;have hx:=he;unfold nw at hx;obtain⟨⟨a,bb,r⟩,hp,hv⟩:=zR4.1 hx;simp only at hv;rw[hp]at hu;simp only at hu;have hi3:i+3≤s.length:=by
      obtain⟨h1,-,-⟩:=ey hp;have:=congrArg List.length h1
      simp at this
      omega
     have jG:comb (d++qV v) (cg also (aI (s.drop (i+2+1))))=cg also (aI s):=by
      rw[← hn,hu,cg,lE,hv]
     simp only[Option.getD_some,Option.isSome_some]at pe
     (refine aa pe ?_;refine gN (zRp h0 (zRp h1 (zRp h6 h7))) ?_)
     refine⟨⟨QA,QA⟩,?_⟩
     (refine aa (qS v) ?_;refine gN (zRp h0 (zRp h1 (zRp h6 h7))) ?_)
     refine⟨fun hq=>?_,fun hq=>?_⟩
     ·have tT:comb (d++[v]) (cg also (aI (s.drop (i+2+1))))=cg also (aI s):=by
       rw[← jG];unfold qV;rw[if_pos hq]
      (rcases ht.sl with⟨rfl,kn,kj⟩|⟨j,rfl,mG,hj⟩
       ·have ho:∀ X,(b++[X])[0]? = some (.cells [.ai] 243 true):=fun X=>ad o9 [X]
        have p8:∀ X Y,(b++[X]++[Y])[0]? = some (.cells [.ai] 243 true):=fun X Y=>ad (ho X) [Y]
        refine gN (zRp h0 (zRp h1 (zRp h6 (zRp h7 (zRp o9 (zRp @aB (zRp ho p8))))))) ?_;refine⟨QA,⟨by unfold maxLen;omega,QA⟩,⟨QA,QA⟩,zI (i':=i+2+1) (x:=.o (b++[aq.own [eb (v)] 5 1 1 true]).length 1) (d:=d++[v]) h0 h1 h6 (by simp only[lk,reduceIte,zRI.injEq,SV.int.injEq,true_and];omega) ⟨QA,QC⟩ QB (Dh ht jF (v) rfl) (tT) QA⟩
       ·have hlj:d.length=d.length:=rfl
        have ho:∀ X,(b++[X])[j]? = some (.own (d.map eb) 5 1 d.length true):=fun X=>ad hj [X]
        have p8:∀ X Y,((b++[X]).set j .gone++[Y])[0]? = some (.cells [.o j d.length] 243 true):=fun X Y=>by
         rw[zRt QB,zRr QA];exact ad o9 [X]
        refine gN (zRp h0 (zRp h1 (zRp h6 (zRp h7 (zRp o9 (zRp @aB (zRp ho p8))))))) ?_;refine⟨QA,⟨by unfold maxLen;omega,QA⟩,⟨QA,QA⟩,zI (i':=i+2+1) (x:=.o (b++[aq.own [eb (v)] 5 1 1 true]).length (d.length+1)) (d:=d++[v]) h0 h1 h6 (by simp only[lk,reduceIte,zRI.injEq,SV.int.injEq,true_and];omega) ⟨QA,QC⟩ QB (yQ ht jF (v) mG) (tT) QA⟩)
     ·have tT:comb (d++nP v) (cg also (aI (s.drop (i+2+1))))=cg also (aI s):=by
       rw[← jG];unfold qV;rw[if_neg (by simp[hq])]
      refine ae (LD ht jF QA v) ?_;rintro r b' ⟨rfl,x',ht',hbl',-⟩;refine gN (zRp h0 (zRp h1 (zRp h6 h7))) ?_;exact⟨⟨QA,QA⟩,zI (i':=i+2+1) (d:=d++nP v) h0 h1 h6 (by simp only[lk,reduceIte,zRI.injEq,SV.int.injEq,true_and];omega) ⟨QA,by simp[nP];omega⟩ QA ht' tT QA⟩
  ·rw[dG (n:=37) az 37 rfl]at hc
   rw[if_neg (by simpa using hc)]at hu;rw[hu,cg]at hn;rw[hg];have jG:fG also s[i]=true→comb (d++[s[i]]) (cg also (aI (s.drop (i+1))))=cg also (aI s):=fun hk=>by
    rw[← hn,if_pos hk,lE]
   (refine aa (qS s[i]) ?_;refine gN (zRp h0 (zRp h1 (zRp h6 (zRp h7 hg)))) ?_)
   refine⟨fun hq=>?_,fun hq=>?_⟩
   ·(refine aa (iX also s[i]) ?_;refine gN (zRp h0 (zRp h1 (zRp h6 (zRp h7 hg)))) ?_)
    rw[KH];refine⟨fun p7=>?_,fun p7=>?_⟩
    ·have hk:fG also s[i]=true:=by unfold fG;rw[p7];simp
     (rcases ht.sl with⟨rfl,kn,kj⟩|⟨j,rfl,mG,hj⟩
      ·have ho:∀ X,(b++[X])[0]? = some (.cells [.ai] 243 true):=fun X=>ad o9 [X]
       have p8:∀ X Y,(b++[X]++[Y])[0]? = some (.cells [.ai] 243 true):=fun X Y=>ad (ho X) [Y]
       refine gN (zRp h0 (zRp h1 (zRp h6 (zRp h7 (zRp o9 (zRp @aB (zRp ho p8))))))) ?_;refine⟨QA,⟨by unfold maxLen;omega,QA⟩,⟨QA,QA⟩,zI (i':=i+1) (x:=.o (b++[aq.own [eb (s[i])] 5 1 1 true]).length 1) (d:=d++[s[i]]) h0 h1 h6 (by simp only[lk,reduceIte,zRI.injEq,SV.int.injEq,true_and];omega) ⟨QA,QC⟩ QB (Dh ht jF (s[i]) rfl) (jG hk) QA⟩
      ·have hlj:d.length=d.length:=rfl
       have ho:∀ X,(b++[X])[j]? = some (.own (d.map eb) 5 1 d.length true):=fun X=>ad hj [X]
       have p8:∀ X Y,((b++[X]).set j .gone++[Y])[0]? = some (.cells [.o j d.length] 243 true):=fun X Y=>by
        rw[zRt QB,zRr QA];exact ad o9 [X]
       refine gN (zRp h0 (zRp h1 (zRp h6 (zRp h7 (zRp o9 (zRp @aB (zRp ho p8))))))) ?_;refine⟨QA,⟨by unfold maxLen;omega,QA⟩,⟨QA,QA⟩,zI (i':=i+1) (x:=.o (b++[aq.own [eb (s[i])] 5 1 1 true]).length (d.length+1)) (d:=d++[s[i]]) h0 h1 h6 (by simp only[lk,reduceIte,zRI.injEq,SV.int.injEq,true_and];omega) ⟨QA,QC⟩ QB (yQ ht jF (s[i]) mG) (jG hk) QA⟩)
    ·have hk:¬ fG also s[i]=true:=by unfold fG;rw[hq,p7];simp
     rw[if_neg hk]at hn;have om:cg also (aI s)=([],1):=by rw[← hn];rfl
     rw[om]
   ·have hk:fG also s[i]=true:=by unfold fG;rw[hq];simp
    (rcases ht.sl with⟨rfl,kn,kj⟩|⟨j,rfl,mG,hj⟩
     ·have ho:∀ X,(b++[X])[0]? = some (.cells [.ai] 243 true):=fun X=>ad o9 [X]
      have p8:∀ X Y,(b++[X]++[Y])[0]? = some (.cells [.ai] 243 true):=fun X Y=>ad (ho X) [Y]
      refine gN (zRp h0 (zRp h1 (zRp h6 (zRp h7 (zRp o9 (zRp @aB (zRp ho p8))))))) ?_;refine⟨QA,⟨by unfold maxLen;omega,QA⟩,⟨QA,QA⟩,zI (i':=i+1) (x:=.o (b++[aq.own [eb (s[i])] 5 1 1 true]).length 1) (d:=d++[s[i]]) h0 h1 h6 (by simp only[lk,reduceIte,zRI.injEq,SV.int.injEq,true_and];omega) ⟨QA,QC⟩ QB (Dh ht jF (s[i]) rfl) (jG hk) QA⟩
     ·have hlj:d.length=d.length:=rfl
      have ho:∀ X,(b++[X])[j]? = some (.own (d.map eb) 5 1 d.length true):=fun X=>ad hj [X]
      have p8:∀ X Y,((b++[X]).set j .gone++[Y])[0]? = some (.cells [.o j d.length] 243 true):=fun X Y=>by
       rw[zRt QB,zRr QA];exact ad o9 [X]
      refine gN (zRp h0 (zRp h1 (zRp h6 (zRp h7 (zRp o9 (zRp @aB (zRp ho p8))))))) ?_;refine⟨QA,⟨by unfold maxLen;omega,QA⟩,⟨QA,QA⟩,zI (i':=i+1) (x:=.o (b++[aq.own [eb (s[i])] 5 1 1 true]).length (d.length+1)) (d:=d++[s[i]]) h0 h1 h6 (by simp only[lk,reduceIte,zRI.injEq,SV.int.injEq,true_and];omega) ⟨QA,QC⟩ QB (yQ ht jF (s[i]) mG) (jG hk) QA⟩)
 ·have hU:i=s.length:=QA
  subst hU;rw[List.drop_length,gE]at hn;have om:cg also (aI s)=(d,0):=by rw[← hn];simp[cg,comb]
  rw[om];rcases ht.sl with⟨rfl,kn,kj⟩|⟨j,rfl,mG,hj⟩
  ·obtain rfl:d=[]:=by simpa using kn
   refine gN (zRp h0 (zRp h1 (zRp h6 (zRp h7 o9)))) ?_;exact fun h=>(by simp at h)
  ·refine gN (zRp h0 (zRp h1 (zRp h6 (zRp h7 (zRp o9 hj))))) ?_
   refine⟨fun h=>absurd h QB,fun _=>⟨gw d,?_⟩⟩;rw[lH]
end Go.Proofs.YtnmlimehgifadaaGreatDoor
