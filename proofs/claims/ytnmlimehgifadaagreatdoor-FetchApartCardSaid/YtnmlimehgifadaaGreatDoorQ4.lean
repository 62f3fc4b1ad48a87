/- Texts of this claim, laid together: VcB, SlRows, IdxAny, Ascii, Bytes, Ascii2, Lib, Comm, PlainQ, RedirP, Number, Host, Host2, Own, RefHost, RefHost2, HostPC, ValsW, Pct. -/
import Derived.Deep.Slices
import Derived.Lib.OthersKept
import Derived.Deep.QuietTactic
import Derived.BigQuiet
import Derived.Test.YtnmlimehgifadaaGreatDoorProg
import Derived.Lib.ConvBytes
import Derived.Laws.IdiomStrings
import Derived.Lib.QuietBelow
import Derived.Lib.FrozenHead
import Derived.Test.YtnmlimehgifadaaGreatDoorQ3
open List renaming toArray → zQo, getElem?_eq_some_iff → zQq, getElem?_set_ne → zQr, getElem?_append_left → zQs, take_of_length_le → zQu, drop_eq_getElem_cons → zQv, getElem?_eq_getElem → zQw, isPrefixOf_iff_prefix → zQx, getElem?_set_self → zQy, cons_append → zQz, flatMap_cons → zQA, mem_cons_self → zQB, mem_append → zQC, cons → zQD, mem_singleton → zQF, length_eq_zero_iff → zQG, getElem?_append_right → zQJ, mem_cons_of_mem → zQL, nil_append → zQN, append_nil → zQO, mem_cons → zQP, getElem_mem → zQQ, singleton_append → zQR, take_append_drop → zQS, take_succ_eq_append_getElem → zQU, all_eq_true → zQV, length_map → zQW, range → zQX, isPrefixOf → zQZ, drop_of_length_le → zQ1, contains_iff_mem → zQ3, length_cons → zQ4, length_take → zQ5, map_congr_left → zQ6, length_set → zQ7
open And renaming intro → zQp
open Nat renaming le_refl → zQt, lt_or_ge → zQI, ne_of_lt → zQK, ne_of_gt → zQT
open Bool renaming and_eq_true → zQE, eq_iff_iff → zQM
open Option renaming some → zQH, map_eq_some_iff → zQ0
open UInt8 renaming toNat_inj → zQY
open Int renaming toNat_natCast → zQ2
set_option linter.all false
set_option maxHeartbeats 16000000
set_option maxRecDepth 20000
namespace Vc
open Go Go.RowKit Wf
theorem tz.mono {own own':Nat→Prop}{w w':World}(h:tz own w w')(k:∀ b,own b→own' b):tz own' w w' :=
 ⟨h.os,h.tape,h.output,h.size,fun b hb hn=>h.block b hb (fun e=>hn (k b e))⟩
def rO (TB TU:TypeId)(l:List UInt8):Rsc where
 holds t fp w:=t.off=0∧∃ (p:Value) (t2:Bt) (f2:Nat→Prop),(p=.pointer none∨p=.pointer (some ⟨t.fh,0,none⟩)) ∧
  (∃ fz,Head w t.fh TB [p,oV t2 l.length] [] fz)∧Holds me t2 f2 w (.own (l.map dW) TU 1 l.length true)∧¬ f2 t.fh∧∀ k,fp k↔k=t.fh∨f2 k
 stays b fp w w':=by
  rintro⟨h0,p,t2,f2,hp,⟨fz,h1,h2⟩,h3,h4,h5⟩ hk
  exact⟨h0,p,t2,f2,hp,⟨fz,(hk _ ((h5 _).2 (.inl rfl))).trans h1,h2⟩,h3.stays (fun k hf=>hk k ((h5 k).2 (.inr hf))),h4,h5⟩
theorem u8_conc (l:List UInt8)(β β':Nat→Bt):(l.map dW).map (ak β)=(l.map dW).map (ak β'):=by
 simp[dW,ak]
theorem Gg {β β':Nat→Bt}{t:Bt}{f:Nat→Prop}{w:World}{l:List UInt8}{TU:TypeId}{n:Nat}{m:Bool}(h:Holds β t f w (.own (l.map dW) TU 1 n m)):Holds β' t f w (.own (l.map dW) TU 1 n m):=by
 simp only[Holds]at h ⊢
 rw[u8_conc l β' β]
 exact h
theorem Db {b1 b2:Nat→Bt}{t t':Bt}{fq fq':Nat→Prop}{w w':World}{r:av}(h1:Holds b1 t fq w r)(h2:Holds b2 t fq w r)(h:Holds b1 t' fq' w' r):Holds b2 t' fq' w' r:=by
 cases r with
 | cells c T m =>
   obtain⟨-,⟨r1,f1,d1,rfl⟩,-⟩:=h1
   obtain⟨-,⟨r2,f2,d2,rfl⟩,-⟩:=h2
   have e:=zv (by simp) d1.vM d2.vM
   simp only[Holds]at h ⊢
   rw[← e];exact h
 | own c e s n m =>
   rcases h1 with⟨-,-,rfl,-⟩|⟨-,-,-,-,l1,-⟩
   ·simpa[Holds] using h
   ·rcases h2 with⟨-,-,rfl,-⟩|⟨-,-,-,-,l2,-⟩
    ·simpa[Holds] using h
    ·have e:=zv (by simp) l1 l2
     simp only[Holds]at h ⊢
     rw[← e];exact h
 | ext R=>exact h
 | gone=>exact h
variable {V:Cx} {f:FuncId} {args:List SV} {bs:List av} {R:SV→List av→Prop}
theorem Jd {i:Nat}{r0 r1:av}(hi:bs[i]? = some r0)(hm:r1.dg=true→r0.dg=true)(hv:∀ (β:Nat→Bt)(fp:Nat→Nat→Prop)(w:World),Holds β (β i) (fp i) w r0→Holds β (β i) (fp i) w r1)(h:SC V f args (bs.set i r1) R):SC V f args bs R:=by
 refine⟨h.1,fun β fp w nD hG hE=>?_⟩
 have dF:i<bs.length:=(zQq.1 hi).1
 have old:∀ {j r'},(bs.set i r1)[j]? = some r'→∃ r,bs[j]? = some r∧(r'.dg=true→r.dg=true)∧(j≠i∧r'=r∨j=i∧r'=r1):=fun {j r'} hj=>by
  by_cases nR:j=i
  ·subst nR
   rw[zQy dF]at hj
   obtain rfl:=zQH.inj hj
   exact⟨r0,hi,hm,.inr ⟨rfl,rfl⟩⟩
  ·rw[zQr (fun e=>nR e.symm)]at hj
   exact⟨r',hj,id,.inl ⟨nR,rfl⟩⟩
 refine(h.2 β fp w (fun β' hβ=>?_) (fun j r hj hjm k hk=>?_) hE).mono ?_
 ·rw[zQ7]at hβ
  have hb:=nD β' hβ
  refine⟨fun j r' hj=>?_,fun j r' hj k hk=>?_,fun j l a b hj hl bK jJ=>?_⟩
  ·obtain⟨r,hr,-,⟨-,rfl⟩|⟨rfl,rfl⟩⟩:=old hj
   ·exact hb.holds j _ hr
   ·exact hv β' fp w (hb.holds _ _ hi)
  ·obtain⟨r,hr,-⟩:=old hj
   exact hb.lt j r hr k hk
  ·obtain⟨r,hr,e,-⟩:=old hj
   obtain⟨r',hr',e',-⟩:=old hl
   exact hb.sep j l r r' hr hr' bK (jJ.imp e e')
 ·obtain⟨r,hr,e,-⟩:=old hj
  exact hG j r hr (e hjm) k hk
 ·rintro e w' ⟨r,bs',β₂,fp₂,hR,AH,hlen,bp,kK,j0,jx⟩
  rw[zQ7]at AH hlen
  refine⟨r,bs',β₂,fp₂,hR,AH,hlen,bp,kK.mono ?_,fun j r' hj hjm k hk=>?_,fun j r' hj k hk=>?_⟩
  ·rintro k ⟨j,r',hj,hjm,hk⟩
   obtain⟨r,hr,e,-⟩:=old hj
   exact⟨j,r,hr,e hjm,hk⟩
  ·rcases j0 j r' hj hjm k hk with h1|⟨j2,r2,gm,hm2,bJ⟩
   ·exact .inl h1
   ·obtain⟨r,hr,e,-⟩:=old gm
    exact .inr ⟨j2,r,hr,e hm2,bJ⟩
  ·rcases jx j r' hj k hk with h1|⟨j2,r2,gm,bJ⟩
   ·exact .inl h1
   ·obtain⟨r,hr,-⟩:=old gm
    exact .inr ⟨j2,r,hr,bJ⟩
theorem sc_view {i:Nat}{r0 r1:av}(hi:bs[i]? = some r0)(hm:r1.dg=r0.dg)(hv:∀ (β:Nat→Bt)(fp:Nat→Nat→Prop)(w:World),Holds β (β i) (fp i) w r0→Holds β (β i) (fp i) w r1)(h:SC V f args (bs.set i r1) R):SC V f args bs R:=Jd hi (fun e=>hm ▸ e) hv h
theorem mz {i:Nat}{c:List SV}{e s n:Nat}{m:Bool}(hi:bs[i]? = some (.own c e s n m))(h:SC V f args (bs.set i (.own c e s n false)) R):SC V f args bs R:=by
 refine Jd hi (fun e=>by cases e) (fun β fp w hh=>?_) h
 rcases hh with h0|⟨h1,h2,h3,h4,h5,-,h7⟩
 ·exact .inl h0
 ·exact .inr ⟨h1,h2,h3,h4,h5,(by simp),h7⟩
def Mo (b b2:List av):Prop:=b2.length=b.length∧∀ (i:Nat) (r:av),b2[i]? = some r→b[i]? = some r∨∃ (c:List SV) (e s n:Nat) (m:Bool),b[i]? = some (av.own c e s n m)∧r=av.own c e s n false
theorem Mo.refl (b:List av):Mo b b:=⟨rfl,fun _ _ h=>.inl h⟩
theorem Mo.one {b:List av}{i:Nat}{c:List SV}{e s n:Nat}{m:Bool}(hi:b[i]? = some (.own c e s n m)):Mo b (b.set i (.own c e s n false)):=⟨by simp,fun j r hj=>by
 by_cases nR:j=i
 ·subst nR
  rw[zQy (zQq.1 hi).1]at hj
  exact .inr ⟨c,e,s,n,m,hi,(zQH.inj hj).symm⟩
 ·rw[zQr (fun e=>nR e.symm)]at hj
  exact .inl hj⟩
theorem Mo.trans {a b c:List av}(h:Mo a b)(k:Mo b c):Mo a c:=⟨k.1.trans h.1,fun i r hi=>by
 rcases k.2 i r hi with h1|⟨c,e,s,n,m,h1,rfl⟩
 ·exact h.2 i r h1
 ·rcases h.2 i _ h1 with h2|⟨c',e',s',n',m',h2,h3⟩
  ·exact .inr ⟨c,e,s,n,m,h2,rfl⟩
  ·cases h3
   exact .inr ⟨_,_,_,_,m',h2,rfl⟩⟩
theorem SC.dim (h:SC V f args bs (fun r b=>∃ b2:List av,Mo b b2∧R r b2)):SC V f args bs R:=by
 refine⟨h.1,fun β fp w nD hG hE=>(h.2 β fp w nD hG hE).mono ?_⟩
 rintro e w' ⟨r,bs',β₂,fp₂,⟨b2,hd,hR⟩,AH,hlen,bp,kK,j0,jx⟩
 have old:∀ {j r'},b2[j]? = some r'→∃ r,bs'[j]? = some r∧(r'.dg=true→r.dg=true)∧∀ {β t f w},Holds β t f w r→Holds β t f w r':=fun {j r'} hj=>by
  rcases hd.2 j r' hj with h1|⟨c,e,s,n,m,h1,rfl⟩
  ·exact⟨r',h1,id,id⟩
  ·refine⟨_,h1,(fun e=>by cases e),fun hh=>?_⟩
   rcases hh with h0|⟨h1,h2,h3,h4,h5,-,h7⟩
   ·exact .inl h0
   ·exact .inr ⟨h1,h2,h3,h4,h5,(by simp),h7⟩
 refine⟨r,b2,β₂,fp₂,hR,AH,by rw[hd.1];exact hlen,fun β' hβ=>?_,kK,fun j r' hj hm k hk=>?_,fun j r' hj k hk=>?_⟩
 ·rw[hd.1]at hβ
  obtain⟨he,hb⟩:=bp β' hβ
  refine⟨he,⟨fun j r' hj=>?_,fun j r' hj k hk=>?_,fun j l a b hj hl bK jJ=>?_⟩⟩
  ·obtain⟨r,hr,-,hv⟩:=old hj
   exact hv (hb.holds j _ hr)
  ·obtain⟨r,hr,-⟩:=old hj
   exact hb.lt j r hr k hk
  ·obtain⟨r,hr,e,-⟩:=old hj
   obtain⟨r',hr',e',-⟩:=old hl
   exact hb.sep j l r r' hr hr' bK (jJ.imp e e')
 ·obtain⟨r,hr,e,-⟩:=old hj
  exact j0 j r hr (e hm) k hk
 ·obtain⟨r,hr,-⟩:=old hj
  exact jx j r hr k hk
theorem MM {i TB TU:Nat}(hi:bs[i]? = some (.cells [.v (.pointer none),.aj] TB true))(h:SC V f args (bs.set i (.ext (rO TB TU []))) R):SC V f args bs R:=by
 refine sc_view (r1:=.ext (rO TB TU [])) hi rfl (fun β fp w hh=>?_) h
 obtain⟨h0,⟨rest,fz,hd,rfl⟩,h3⟩:=hh
 refine⟨h0,Value.pointer none,⟨0,0,0⟩,fun _=>False,.inl rfl,⟨fz,?_⟩,holds_nil,not_false,fun k=>(h3 k).trans ⟨.inl,fun h=>h.elim id False.elim⟩⟩
 simpa[ak,oV] using hd
theorem sc_open {i TB TU:Nat}{l:List UInt8}(hi:bs[i]? = some (.ext (rO TB TU l))){R':SV→List av→Prop}
 (h:∀ x,(x=.v (.pointer none)∨x=.p i 0)→SC V f args (bs.set i (.cells [x,.o bs.length l.length] TB true)++[.own (l.map dW) TU 1 l.length true]) R')
 (hR:∀ r bs',R' r bs'→∃ x j l',flat r=true∧(x=.v (.pointer none)∨x=.p i 0)∧R r (bs.set i (.ext (rO TB TU l')))∧bs'[i]? = some (.cells [x,.o j l'.length] TB true)∧bs'[j]? = some (.own (l'.map dW) TU 1 l'.length true) ∧
   bs.length≤j∧∀ k,k<bs.length→k≠i→bs'[k]? = bs[k]?)
 (pc:within.ax bs.length args=true):SC V f args bs R:=by
 have dF:i<bs.length:=(zQq.1 hi).1
 refine⟨(h _ (.inl rfl)).1,fun β fp w nD hG hE=>?_⟩
 have dL:=nD β (cN.refl _ _)
 obtain⟨h0,p,t2,f2,hp,⟨fz,hd⟩,eK,zP,Gn⟩:=dL.holds i _ hi
 obtain⟨x,hx,hxc⟩:∃ x:SV,(x=.v (.pointer none)∨x=.p i 0)∧∀ β',cN bs.length β β'→ak β' x=p:=by
  rcases hp with rfl|rfl
  ·exact⟨_,.inl rfl,fun _ _=>rfl⟩
  ·exact⟨_,.inr rfl,fun β' hβ=>by simp only[ak];rw[← hβ i dF,h0]⟩
 let β₁:=re β bs.length t2
 let fp₁:Nat→Nat→Prop:=fun j k=>if j=i then k=(β i).fh else if j=bs.length then f2 k else fp j k
 have agr1:∀ {β'},cN (bs.length+1) β₁ β'→cN bs.length β β':=fun {β'} hβ j hj=>by
  rw[← hβ j (by omega)];simp only[β₁,re];rw[if_neg (by omega)]
 have at1:∀ {β'},cN (bs.length+1) β₁ β'→β' bs.length=t2:=fun {β'} hβ=>by
  rw[← hβ bs.length (by omega)];simp[β₁,re]
 have old:∀ {j r'},(bs.set i (.cells [x,.o bs.length l.length] TB true)++[.own (l.map dW) TU 1 l.length true])[j]? = some r' →
  (j=i∧r'=.cells [x,.o bs.length l.length] TB true)∨(j=bs.length∧r'=.own (l.map dW) TU 1 l.length true)∨(j<bs.length∧j≠i∧bs[j]? = some r'):=fun {j r'} hj=>by
  have gw:j<bs.length+1:=by
   have:=(zQq.1 hj).1
   simpa using this
  by_cases hjm:j=bs.length
  ·subst hjm
   rw[zQJ (by simp)]at hj
   simp at hj
   exact .inr (.inl ⟨rfl,hj.symm⟩)
  ·rw[zQs (by simp;omega)]at hj
   by_cases nR:j=i
   ·subst nR
    rw[zQy dF]at hj
    exact .inl ⟨rfl,(zQH.inj hj).symm⟩
   ·rw[zQr (fun e=>nR e.symm)]at hj
    exact .inr (.inr ⟨by omega,nR,hj⟩)
 have in1:∀ {j r'},(bs.set i (.cells [x,.o bs.length l.length] TB true)++[.own (l.map dW) TU 1 l.length true])[j]? = some r'→r'.dg=true→∀ k,fp₁ j k→∃ j2 r2,bs[j2]? = some r2∧r2.dg=true∧fp j2 k:=fun {j r'} hj hm k hk=>by
  rcases old hj with⟨rfl,rfl⟩|⟨rfl,rfl⟩|⟨jl,gm,JJ⟩
  ·refine⟨j,_,hi,rfl,(Gn k).2 (.inl ?_)⟩
   simpa[fp₁] using hk
  ·refine⟨i,_,hi,rfl,(Gn k).2 (.inr ?_)⟩
   simpa[fp₁,zQT dF] using hk
  ·exact⟨j,r',JJ,hm,by simpa[fp₁,gm,zQK jl] using hk⟩
 have inF:∀ {j r'},(bs.set i (.cells [x,.o bs.length l.length] TB true)++[.own (l.map dW) TU 1 l.length true])[j]? = some r'→∀ k,fp₁ j k→∃ j2 r2,bs[j2]? = some r2∧fp j2 k:=fun {j r'} hj k hk=>by
  rcases old hj with⟨rfl,rfl⟩|⟨rfl,rfl⟩|⟨jl,gm,JJ⟩
  ·refine⟨j,_,hi,(Gn k).2 (.inl ?_)⟩
   simpa[fp₁] using hk
  ·refine⟨i,_,hi,(Gn k).2 (.inr ?_)⟩
   simpa[fp₁,zQT dF] using hk
  ·exact⟨j,r',JJ,by simpa[fp₁,gm,zQK jl] using hk⟩
 have ea:a8 β args=a8 β₁ args:=ah bs.length args pc β β₁ (fun j hj=>by simp only[β₁,re];rw[if_neg (by omega)])
 rw[ea]
 refine((h x hx).2 β₁ fp₁ w (fun β' hβ=>?_) (fun j r hj hm k hk=>?_) hE).mono ?_
 ·have hβq:cN (bs.length+1) β₁ β':=by simpa using hβ
  clear hβ
  have hb:=nD β' (agr1 hβq)
  have ml:β' i=β i:=(agr1 hβq i dF).symm
  refine⟨fun j r' hj=>?_,fun j r' hj k hk=>?_,fun j q a b hj hq bK jJ k hk bJ=>?_⟩
  ·rcases old hj with⟨rfl,rfl⟩|⟨rfl,rfl⟩|⟨jl,gm,JJ⟩
   ·refine⟨by rw[ml];exact h0,⟨[],fz,?_,rfl⟩,fun k=>by simp[fp₁,ml]⟩
    rw[ml]
    simpa[hxc β' (agr1 hβq),ak,at1 hβq] using hd
   ·rw[at1 hβq]
    have e:fp₁ bs.length=f2:=by funext k;simp[fp₁,zQT dF]
    rw[e]
    exact Gg eK
   ·have e:fp₁ j=fp j:=by funext k;simp[fp₁,gm,zQK jl]
    rw[e]
    exact hb.holds j _ JJ
  ·rcases old hj with⟨rfl,rfl⟩|⟨rfl,rfl⟩|⟨jl,gm,JJ⟩
   ·exact hb.lt j _ hi k ((Gn k).2 (.inl (by simpa[fp₁] using hk)))
   ·exact hb.lt i _ hi k ((Gn k).2 (.inr (by simpa[fp₁,zQT dF] using hk)))
   ·exact hb.lt j _ JJ k (by simpa[fp₁,gm,zQK jl] using hk)
  ·rcases old hj with⟨rfl,rfl⟩|⟨rfl,rfl⟩|⟨jl,gm,JJ⟩ <;> rcases old hq with⟨rfl,rfl⟩|⟨rfl,rfl⟩|⟨jS,nC,hq3⟩
   ·exact bK rfl
   ·have e1:k=(β j).fh:=by simpa[fp₁] using hk
    have e2:f2 k:=by simpa[fp₁,zQT dF] using bJ
    exact zP (e1 ▸ e2)
   ·have e1:k=(β j).fh:=by simpa[fp₁] using hk
    have e2:fp q k:=by simpa[fp₁,nC,zQK jS] using bJ
    exact hb.sep j q _ _ hi hq3 bK (.inl rfl) k ((Gn k).2 (.inl e1)) e2
   ·have e2:k=(β q).fh:=by simpa[fp₁] using bJ
    have e1:f2 k:=by simpa[fp₁,zQT dF] using hk
    exact zP (e2 ▸ e1)
   ·exact bK rfl
   ·have e1:f2 k:=by simpa[fp₁,zQT dF] using hk
    have e2:fp q k:=by simpa[fp₁,nC,zQK jS] using bJ
    exact hb.sep i q _ _ hi hq3 (fun e=>nC e.symm) (.inl rfl) k ((Gn k).2 (.inr e1)) e2
   ·have e1:k=(β q).fh:=by simpa[fp₁] using bJ
    have e2:fp j k:=by simpa[fp₁,gm,zQK jl] using hk
    exact hb.sep q j _ _ hi JJ (fun e=>bK e.symm) (.inl rfl) k ((Gn k).2 (.inl e1)) e2
   ·have e1:f2 k:=by simpa[fp₁,zQT dF] using bJ
    have e2:fp j k:=by simpa[fp₁,gm,zQK jl] using hk
    exact hb.sep i j _ _ hi JJ (fun e=>gm e.symm) (.inl rfl) k ((Gn k).2 (.inr e1)) e2
   ·exact hb.sep j q _ _ JJ hq3 bK jJ k (by simpa[fp₁,gm,zQK jl] using hk) (by simpa[fp₁,nC,zQK jS] using bJ)
 ·obtain⟨j2,r2,h1,h2,h3⟩:=in1 hj hm k hk
  exact hG j2 r2 h1 h2 k h3
 ·rintro e w' ⟨r,bs',β₂,fp₂,hR',AH,hlen,bp,kK,j0,jx⟩
  have AH:cN (bs.length+1) β₁ β₂:=by simpa using AH
  have hlen:bs.length+1≤bs'.length:=by simpa using hlen
  obtain⟨x',j,l',l8,hx',hRr,ml,pN,hjm,hoth⟩:=hR r bs' hR'
  have gw:j<bs'.length:=(zQq.1 pN).1
  have hag2:cN bs.length β β₂:=agr1 AH
  let fp₃:Nat→Nat→Prop:=fun q k=>if q=i then fp₂ i k∨fp₂ j k else fp₂ q k
  have lift:∀ {β'},cN bs.length β₂ β'→∃ β'',cN bs'.length β₂ β''∧cN bs.length β'' β':=fun {β'} hβ =>
   ⟨β₂,cN.refl _ _,hβ⟩
  have old2:∀ {q r'},(bs.set i (.ext (rO TB TU l')))[q]? = some r'→(q=i∧r'=.ext (rO TB TU l'))∨(q<bs.length∧q≠i∧bs[q]? = some r'∧bs'[q]? = some r'):=fun {q r'} hq=>by
   by_cases JF:q=i
   ·subst JF
    rw[zQy dF]at hq
    exact .inl ⟨rfl,(zQH.inj hq).symm⟩
   ·rw[zQr (fun e=>JF e.symm)]at hq
    have kf:q<bs.length:=(zQq.1 hq).1
    exact .inr ⟨kf,JF,hq,(hoth q kf JF).trans hq⟩
  refine⟨r,bs.set i (.ext (rO TB TU l')),β₂,fp₃,hRr,hag2,by simp,fun β' hβ=>?_,kK.mono ?_,fun q r' hq hqm k hk=>?_,fun q r' hq k hk=>?_⟩
  ·rw[zQ7]at hβ
   -- the things of the caller are read at any β' that agrees on them
   let β'':Nat→Bt:=fun q=>if q<bs.length then β' q else β₂ q
   have hβ2:cN bs'.length β₂ β'':=fun q hq=>by
    show _=if _ then _ else _
    split
    ·rename_i aA;exact hβ q aA
    ·rfl
   obtain⟨he,hb⟩:=bp β'' hβ2
   refine⟨by rw[he,gV r l8 β'' β'],?_⟩
   have hbi':β'' i=β₂ i:=(hβ2 i (by omega)).symm
   have Oi:β' i=β₂ i:=(hβ i dF).symm
   refine⟨fun q r' hq=>?_,fun q r' hq k hk=>?_,fun q s a b hq hs bK jJ k hk bJ=>?_⟩
   ·rcases old2 hq with⟨rfl,rfl⟩|⟨h1,h2,h3,h4⟩
    ·obtain⟨k0,⟨rest,fz',hd',rfl⟩,k3⟩:=hb.holds _ _ ml
     have hrow':=hb.holds _ _ pN
     refine⟨by rw[Oi,← hbi'];exact k0,ak β'' x',β'' j,fp₂ j,?_,⟨fz',?_⟩,Gg hrow',?_,fun k=>?_⟩
     ·rcases hx' with rfl|rfl
      ·exact .inl rfl
      ·right
       simp only[ak]
       rw[k0,hbi',Oi]
     ·rw[Oi,← hbi']
      simpa[ak] using hd'
     ·intro hc
      have:fp₂ q (β'' q).fh:=(k3 _).2 rfl
      rw[Oi,← hbi']at hc
      exact hb.sep q j _ _ ml pN (by omega) (.inl rfl) _ this hc
     ·show (if _ then _ else _)↔_
      rw[if_pos rfl,k3 k,hbi',Oi]
    ·have e:fp₃ q=fp₂ q:=by funext k;show (if _ then _ else _)=_;rw[if_neg h2]
     rw[e]
     have e2:β' q=β'' q:=by show _=if _ then _ else _;rw[if_pos h1]
     have:=hb.holds _ _ h4
     rw[e2]
     -- what it holds of cells looks at β'' alone through the things of the caller
     have hA:cN bs.length β β':=fun q hq=>(hag2 q hq).trans (hβ q hq)
     have hA2:cN bs.length β β'':=fun q hq=>(hag2 q hq).trans (hβ2 q (by omega))
     have u1:=(nD β'' hA2).holds q _ h3
     have u2:=(nD β' hA).holds q _ h3
     rw[e2]at u2
     exact Db u1 u2 this
   ·rcases old2 hq with⟨rfl,rfl⟩|⟨h1,h2,h3,h4⟩
    ·have hk:fp₂ q k∨fp₂ j k:=by simpa[fp₃] using hk
     rcases hk with hk|hk
     ·exact hb.lt _ _ ml k hk
     ·exact hb.lt _ _ pN k hk
    ·exact hb.lt _ _ h4 k (by simpa[fp₃,h2] using hk)
   ·rcases old2 hq with⟨rfl,rfl⟩|⟨h1,h2,h3,h4⟩ <;> rcases old2 hs with⟨rfl,rfl⟩|⟨g1,g2,g3,g4⟩
    ·exact bK rfl
    ·have bJ:fp₂ s k:=by simpa[fp₃,g2] using bJ
     have hk:fp₂ q k∨fp₂ j k:=by simpa[fp₃] using hk
     rcases hk with hk|hk
     ·exact hb.sep _ _ _ _ ml g4 bK (.inl rfl) k hk bJ
     ·exact hb.sep _ _ _ _ pN g4 (by omega) (.inl rfl) k hk bJ
    ·have hk:fp₂ q k:=by simpa[fp₃,h2] using hk
     have bJ:fp₂ s k∨fp₂ j k:=by simpa[fp₃] using bJ
     rcases bJ with bJ|bJ
     ·exact hb.sep _ _ _ _ ml h4 (fun e=>bK e.symm) (.inl rfl) k bJ hk
     ·exact hb.sep _ _ _ _ pN h4 (by omega) (.inl rfl) k bJ hk
    ·exact hb.sep _ _ _ _ h4 g4 bK jJ k (by simpa[fp₃,h2] using hk) (by simpa[fp₃,g2] using bJ)
  ·rintro k ⟨j1,r1,jl,x7,cP⟩
   exact in1 jl x7 k cP
  ·rcases old2 hq with⟨rfl,rfl⟩|⟨h1,h2,h3,h4⟩
   ·have hk:fp₂ q k∨fp₂ j k:=by simpa[fp₃] using hk
    rcases hk with hk|hk
    ·rcases j0 _ _ ml rfl k hk with h1|⟨j1,r1,jl,x7,cP⟩
     ·exact .inl h1
     ·exact .inr (in1 jl x7 k cP)
    ·rcases j0 _ _ pN rfl k hk with h1|⟨j1,r1,jl,x7,cP⟩
     ·exact .inl h1
     ·exact .inr (in1 jl x7 k cP)
   ·rcases j0 _ _ h4 hqm k (by simpa[fp₃,h2] using hk) with h1|⟨j1,r1,jl,x7,cP⟩
    ·exact .inl h1
    ·exact .inr (in1 jl x7 k cP)
  ·rcases old2 hq with⟨rfl,rfl⟩|⟨h1,h2,h3,h4⟩
   ·have hk:fp₂ q k∨fp₂ j k:=by simpa[fp₃] using hk
    rcases hk with hk|hk
    ·rcases jx _ _ ml k hk with h1|⟨j1,r1,jl,cP⟩
     ·exact .inl h1
     ·exact .inr (inF jl k cP)
    ·rcases jx _ _ pN k hk with h1|⟨j1,r1,jl,cP⟩
     ·exact .inl h1
     ·exact .inr (inF jl k cP)
   ·rcases jx _ _ h4 k (by simpa[fp₃,h2] using hk) with h1|⟨j1,r1,jl,cP⟩
    ·exact .inl h1
    ·exact .inr (inF jl k cP)
theorem BO {i:Nat}{r0 r1:av}{r:SV}(hi:bs[i]? = some r0)(hm:r0.dg=true)(qM:Enters V f)(hr:flat r=true)
 (h:∀ (β:Nat→Bt) (fp:Nat→Nat→Prop) (w:World),V.E w→(∀ β',cN bs.length β β'→Holds β' (β' i) (fp i) w r0)→Calls V.P f (a8 β args).toArray w fun e w'=>e=.returned (ak me r)∧tz (fp i) w w'∧∃ f1:Nat→Prop,(∀ k,f1 k→fp i k)∧∀ β',cN bs.length β β'→Holds β' (β' i) f1 w' r1) :
 SC V f args bs (fun r' bs'=>r'=r∧bs'=bs.set i r1):=by
 have dF:i<bs.length:=(zQq.1 hi).1
 refine⟨qM,fun β fp w nD hG hE=>?_⟩
 refine(h β fp w hE (fun β' hβ=>(nD β' hβ).holds i _ hi)).mono ?_
 rintro e w' ⟨rfl,kK,f1,Gr,hh⟩
 have old:∀ {j r'},(bs.set i r1)[j]? = some r'→(j=i∧r'=r1)∨(j≠i∧bs[j]? = some r'):=fun {j r'} hj=>by
  by_cases nR:j=i
  ·subst nR
   rw[zQy dF]at hj
   exact .inl ⟨rfl,(zQH.inj hj).symm⟩
  ·rw[zQr (fun e=>nR e.symm)]at hj
   exact .inr ⟨nR,hj⟩
 let fp₂:Nat→Nat→Prop:=fun j k=>if j=i then f1 k else fp j k
 refine⟨r,bs.set i r1,β,fp₂,⟨rfl,rfl⟩,cN.refl _ _,by simp,fun β' hβ=>⟨by rw[gV r hr me β'],?_⟩,kK.mono (fun k hk=>⟨i,_,hi,hm,hk⟩),fun j r' hj hjm k hk=>?_,fun j r' hj k hk=>?_⟩
 ·rw[zQ7]at hβ
  have hb:=nD β' hβ
  refine⟨fun j r' hj=>?_,fun j r' hj k hk=>?_,fun j l a b hj hl bK jJ k hk bJ=>?_⟩
  ·rcases old hj with⟨rfl,rfl⟩|⟨h1,h2⟩
   ·have e:fp₂ j=f1:=by funext k;simp[fp₂]
    rw[e];exact hh β' hβ
   ·have e:fp₂ j=fp j:=by funext k;simp[fp₂,h1]
    rw[e]
    exact(hb.holds j _ h2).stays (fun k hk=>kK.block k (hb.lt j _ h2 k hk) (fun kv=>hb.sep i j _ _ hi h2 (fun e=>h1 e.symm) (.inl hm) k kv hk))
  ·rcases old hj with⟨rfl,rfl⟩|⟨h1,h2⟩
   ·exact Nat.lt_of_lt_of_le (hb.lt _ _ hi k (Gr k (by simpa[fp₂] using hk))) kK.size
   ·exact Nat.lt_of_lt_of_le (hb.lt j _ h2 k (by simpa[fp₂,h1] using hk)) kK.size
  ·rcases old hj with⟨rfl,rfl⟩|⟨h1,h2⟩ <;> rcases old hl with⟨rfl,rfl⟩|⟨g1,g2⟩
   ·exact bK rfl
   ·exact hb.sep _ _ _ _ hi g2 bK (.inl hm) k (Gr k (by simpa[fp₂] using hk)) (by simpa[fp₂,g1] using bJ)
   ·exact hb.sep _ _ _ _ hi h2 (fun e=>bK e.symm) (.inl hm) k (Gr k (by simpa[fp₂] using bJ)) (by simpa[fp₂,h1] using hk)
   ·exact hb.sep _ _ _ _ h2 g2 bK jJ k (by simpa[fp₂,h1] using hk) (by simpa[fp₂,g1] using bJ)
 ·rcases old hj with⟨rfl,rfl⟩|⟨h1,h2⟩
  ·exact .inr ⟨_,_,hi,hm,Gr k (by simpa[fp₂] using hk)⟩
  ·exact .inr ⟨j,r',h2,hjm,by simpa[fp₂,h1] using hk⟩
 ·rcases old hj with⟨rfl,rfl⟩|⟨h1,h2⟩
  ·exact .inr ⟨_,_,hi,Gr k (by simpa[fp₂] using hk)⟩
  ·exact .inr ⟨j,r',h2,by simpa[fp₂,h1] using hk⟩
theorem SC.mono {R R':SV→List av→Prop}(h:SC V f args bs R)(k:∀ r bs',R r bs'→R' r bs'):SC V f args bs R':=by
 refine⟨h.1,fun β fp w nD hG hE=>(h.2 β fp w nD hG hE).mono ?_⟩
 rintro e w' ⟨r,bs',β₂,fp₂,hR,h2⟩
 exact⟨r,bs',β₂,fp₂,k _ _ hR,h2⟩
theorem aC (b:List av)(X:av):(b++[X])[b.length]? = some X:=by simp
theorem ad {b:List av}{j:Nat}{r:av}(h:b[j]? = some r)(X:List av):(b++X)[j]? = some r:=by
 rw[zQs ((zQq.1 h).1)];exact h
def Sl (e s L:Nat)(x:SV)(b:List av)(c:List SV)(n:Nat):Prop:=(x=.aj∧c=[]∧n=0)∨∃ j,x=.o j n∧L≤j∧b[j]? = some (.own c e s n true)
def Kp (bs b:List av):Prop:=bs.length≤b.length∧∀ k,k<bs.length→b[k]? = bs[k]?
theorem Kp.refl (bs:List av):Kp bs bs:=⟨zQt _,fun _ _=>rfl⟩
theorem Kp.trans {a b c:List av}(h:Kp a b)(k:Kp b c):Kp a c:=⟨Nat.le_trans h.1 k.1,fun i hi=>(k.2 i (Nat.lt_of_lt_of_le hi h.1)).trans (h.2 i hi)⟩
theorem Kp.app {bs b:List av}(h:Kp bs b)(X:List av):Kp bs (b++X):=⟨by rw[List.length_append];have:=h.1;omega,fun k hk=>by rw[zQs (by have:=h.1;omega)];exact h.2 k hk⟩
theorem Kp.set {bs b:List av}(h:Kp bs b){j:Nat}(hj:bs.length≤j)(X:av):Kp bs (b.set j X):=⟨by rw[zQ7];exact h.1,fun k hk=>by rw[zQr (by omega)];exact h.2 k hk⟩
theorem Kp.at {bs b:List av}(h:Kp bs b){j:Nat}{r:av}(hj:bs[j]? = some r):b[j]? = some r:=(h.2 j ((zQq.1 hj).1)).trans hj
theorem Sl.app {e s L:Nat}{x:SV}{b:List av}{c:List SV}{n:Nat}(h:Sl e s L x b c n)(X:List av):Sl e s L x (b++X) c n:=by
 rcases h with h|⟨j,h1,h2,h3⟩
 ·exact .inl h
 ·exact .inr ⟨j,h1,h2,ad h3 X⟩
theorem fB {α:Type}(b:List α)(X Y:α):(b++[X]).set b.length Y=b++[Y]:=by simp
theorem tG {α:Type}(b:List α)(X Y Z:α):(b++[X]++[Y]).set b.length Z=b++[Z]++[Y]:=by simp
theorem rn {α:Type}(b:List α)(X Y Z W:α):(b++[X]++[Y]++[W]).set b.length Z=b++[Z]++[Y]++[W]:=by simp
theorem uU {α:Type}(b:List α)(X Y:α):(b++[X]++[Y])[b.length]? = some X:=by simp
theorem q7 {α:Type}(b:List α)(X Y Z:α):(b++[X]++[Y]++[Z])[b.length]? = some X:=by simp
theorem uT {α:Type}(b:List α)(X Y Z W:α):(b++[X]++[Y]++[Z]++[W])[b.length]? = some X:=by simp
theorem O7 {α:Type}(b:List α)(X Y Z W U:α):(b++[X]++[Y]++[Z]++[W]++[U])[b.length]? = some X:=by simp
def nO:=zQp (zQp (@aC) (zQp (@uU) (@q7))) (zQp (zQp (@uT) (@O7)) (zQp (@fB) (zQp (@tG) (@rn))))
theorem gB {P Q H : Prop} (hs : H) (h : Q) (e : H → P = Q := by intro hs; simp only [cz, ↓Xn, ↓Xo, ↓Xg, ↓Xd, ↓Xe, ↓Xf, Tryz.VΓ, Tryz.Γs, Xp, Xi, Nat.reduceAdd, Nat.reduceSub, Nat.reduceLT, Nat.reduceLeDiff, reduceIte, reduceCtorEq, Nat.reduceEqDiff, implies_true, forall_const, cw, nO, beq_self_eq_true, bne_self_eq_false, Int.reduceBEq, Int.reduceBNe, Int.reduceLT, Int.reduceLE, hs] <;> rfl) : P := (e hs).symm ▸ h
theorem mc {P Q : Prop} (h : Q) (e : P = Q := by simp only [cz, ↓Xn, ↓Xo, ↓Xg, ↓Xd, ↓Xe, ↓Xf, Tryz.VΓ, Tryz.Γs, Xp, Xi, Nat.reduceAdd, Nat.reduceSub, Nat.reduceLT, Nat.reduceLeDiff, reduceIte, reduceCtorEq, Nat.reduceEqDiff, implies_true, forall_const, cw, nO, beq_self_eq_true, bne_self_eq_false, Int.reduceBEq, Int.reduceBNe, Int.reduceLT, Int.reduceLE] <;> rfl) : P := e.symm ▸ h
theorem gC {P Q H : Prop} (hs : H) (h : Q) (e : H → P = Q := by intro hs; simp only [cz, ↓Xn, ↓Xo, ↓Xg, ↓Xd, ↓Xe, ↓Xf, Tryz.VΓ, Tryz.Γs, Xp, Xi, Nat.reduceAdd, Nat.reduceSub, Nat.reduceLT, Nat.reduceLeDiff, reduceIte, reduceCtorEq, Nat.reduceEqDiff, implies_true, forall_const, cw, nO, hs] <;> rfl) : P := (e hs).symm ▸ h
theorem Ou {P Q : Prop} (h : Q) (e : P = Q := by simp only [cz, ↓Xn, ↓Xo, ↓Xg, ↓Xd, ↓Xe, ↓Xf, Tryz.VΓ, Tryz.Γs, Xp, Xi, Nat.reduceAdd, Nat.reduceSub, Nat.reduceLT, Nat.reduceLeDiff, reduceIte, reduceCtorEq, Nat.reduceEqDiff, implies_true, forall_const, cw, nO] <;> rfl) : P := e.symm ▸ h
end Vc
namespace Go.Proofs.YtnmlimehgifadaaGreatDoor
open Go Vc Go.RowKit Wf
open Go.ChangeShapes Go.WideShapes Go.ChangeAt
open Go.WideMaps Go.WideElems
theorem Nj {w:World}{b off:Nat}{xs ys:List Value}(h1:q9 w b off xs)(h2:q9 w b (off+xs.length) ys):q9 w b off (xs++ys):=fun j v hv=>by
 rcases zQI j xs.length with h|h
 ·rw[zQs h]at hv
  exact h1 j v hv
 ·rw[zQJ h]at hv
  have:=h2 (j - xs.length) v hv
  rwa [show off+xs.length+(j - xs.length)=off+j by omega]at this
theorem Cc {ρ:Type}{w:World}{b s:Nat}(vs:ρ→List Value):∀ (L:List ρ)(off:Nat),(∀ r∈L,(vs r).length=s)→(∀ (i:Nat) (r:ρ),L[i]? = some r→q9 w b (off+i * s) (vs r))→q9 w b off (L.flatMap vs)
 | [],_,_,_=>fun j v hv=>by simp at hv
 | r::L,off,hs,h=>by
   rw[zQA]
   refine Nj (by simpa using h 0 r rfl) (Cc vs L _ (fun q hq=>hs q (zQL _ hq)) (fun i q hq=>?_))
   have:=h (i+1) q hq
   rw[hs r zQB]
   rwa [show off+s+i * s=off+(i+1) * s by rw[Nat.add_mul];omega]
theorem Cq {ρ:Type}{s:Nat}(vs:ρ→List SV):∀ (L:List ρ),(∀ r∈L,(vs r).length=s)→(L.flatMap vs).length=L.length * s
 | [],_=>by simp
 | r::L,hs=>by
   rw[zQA,List.length_append,hs r zQB,Cq vs L (fun q hq=>hs q (zQL _ hq)),zQ4,Nat.add_mul]
   omega
section
variable {H:Type} {enc:TypeId × Value→H} {P:Program} {w:World} {held:Bool}
theorem rq {ρ:Type}(dflt:ρ)(cl:ρ→List SV)(dt:ρ→DataW H)(Q:ρ→Prop)(l8:∀ r,flat.ai (cl r)=true){t e:TypeId}{s:Nat}(ht:P.underlying t=some (.slice e))(hs:P.cellsOf e=s)
 (eK:∀ fuel cs x,DataW.trod enc P w 0 (fun _=>true) held fuel e cs=some x→∃ r,cs=a8 me (cl r)∧x.1=dt r∧Q r)
 {rch:Reach} {b0:Nat} {v:Value} {n:Nat} {x:DataW H × List MemPlace} (da:Cell.okWide P w rch b0 t v) (h:DataW.trod enc P w 0 (fun _=>true) held n t [v]=some x) :
 ∃ (b:Bt) (L:List ρ),v=oV b L.length∧L.length≤9223372036854775807∧((x.1=.nil∧L=[])∨∃ sp',x.1=.slice (L.map dt) sp')∧(∀ β,Holds β b (fun k=>k=b.fh∧b.cap≠0) w (.own (L.flatMap cl) e s L.length false))∧(b.cap≠0→b.fh<w.heap.size)∧∀ r∈L,Q r:=by
 obtain⟨a0,len0,cap0,rfl⟩:∃ a len cap,v=.slice a len cap:=by
  simp only[Cell.okWide,ht]at da
  cases v <;> simp_all [Cell.ok]
 have hf:=h
 rcases Go.Deep.open_slice ht hf with⟨hv,hx⟩|⟨a,len,cap,m,n,D,Pl,hv,hb,hl,hm,jJ,hx,vV⟩
 ·simp only[zQD.injEq,Value.slice.injEq,and_true]at hv
  obtain⟨rfl,rfl,rfl⟩:=hv
  exact⟨⟨0,0,0⟩,[],by simp[oV],by simp,.inl ⟨by rw[hx],rfl⟩,fun β=>.inl ⟨rfl,rfl,rfl,by simp⟩,fun k=>absurd rfl k,fun _ hr=>absurd hr (by simp)⟩
 ·simp only[zQD.injEq,Value.slice.injEq,and_true]at hv
  obtain⟨rfl,rfl,rfl⟩:=hv
  have hhas:w.has P rch b0 a e cap0:=by
   simp only[Cell.okWide,ht,Cell.ok]at da
   exact da.2.2
  obtain⟨-,hspot,row,cells,Iw,-⟩:=hhas
  obtain⟨fh,off,spot⟩:=a
  simp only at hspot Iw
  subst hspot
  have hblk:fh<w.heap.size:=by
   rcases zQI fh w.heap.size with h' | h'
   ·exact h'
   ·unfold World.shape? at Iw
    simp[Array.getElem?_eq_none h']at Iw
  have hmc:m=cap0:=by rw[jJ];simp
  subst hmc
  haveI:Inhabited ρ:=⟨dflt⟩
  obtain⟨R,hR⟩:=Go.Deep.choose_lt (α:=ρ) (n:=len0) (p:=fun i r=>(∀ q v,(a8 me (cl r))[q]? = some v→w.cell? ⟨fh,off+i * s+q,none⟩=some v)∧(cl r).length=s∧D i=dt r∧Q r) (fun i hi=>by
   obtain⟨cs',h1,h2⟩:=vV i (by omega)
   obtain⟨r,rfl,hd,hQ⟩:=eK n cs' _ h2
   rw[hs]at h1
   obtain⟨-,h3,h4⟩:=World.cells?_some h1
   rw[cp,zQW]at h3
   refine⟨r,fun q v hv=>?_,h3,hd,hQ⟩
   have hq:q<s:=by
    have:=(zQq.1 hv).1
    rwa [cp,zQW,h3]at this
   have:=h4 q hq
   rw[eY,eY]at this
   rw[this];exact hv)
  have hlen:((zQX len0).map R).length=len0:=by simp
  have bp:∀ r∈(zQX len0).map R,(cl r).length=s:=by
   intro r hr
   obtain⟨i,hi,rfl⟩:=List.mem_map.1 hr
   exact(hR i (List.mem_range.1 hi)).2.1
  have hmx:m≤9223372036854775807:=by unfold maxLen at hm;simpa using hm
  have hlies:∀ β,q9 w fh off ((((zQX len0).map R).flatMap cl).map (ak β)):=fun β=>by
   have e1:(((zQX len0).map R).flatMap cl).map (ak β)=((zQX len0).map R).flatMap fun r=>a8 β (cl r):=by
    rw[List.map_flatMap]
    congr 1
    funext r
    rw[cp]
   rw[e1]
   refine Cc (s:=s) _ _ _ (fun r hr=>by rw[cp,zQW];exact bp r hr) (fun i r hr q v hv=>?_)
   have hi:i<len0:=by
    have:=(zQq.1 hr).1
    simpa using this
   have JD:R i=r:=by simpa[hi] using hr
   subst JD
   rw[eG _ (l8 _) β me]at hv
   have:=(hR i hi).1 q v hv
   simpa[Nat.add_assoc] using this
  refine⟨⟨fh,off,m+1⟩,(zQX len0).map R,by simp[oV],by rw[hlen];omega,.inr ⟨(zQX (m - len0)).map fun j=>D (len0+j),?_⟩,fun β=>.inr ⟨by simp,by simpa using hl,by simpa using hm,Cq cl _ bp,hlies β,(fun hm=>absurd hm (by simp)),fun k=>by simp⟩,fun _=>hblk,fun r hr=>by
   obtain⟨i,hi,rfl⟩:=List.mem_map.1 hr
   exact(hR i (List.mem_range.1 hi)).2.2.2⟩
  have hD:(zQX len0).map D=((zQX len0).map R).map dt:=by
   rw[List.map_map]
   exact zQ6 fun i hi=>(hR i (List.mem_range.1 hi)).2.2.1
  rw[hx,hD]
end
theorem og {H:Type}{P:Program}{t e:TypeId}(ht:P.underlying t=some (.slice e)){ρ:Type}{dt:ρ→DataW H}{L:List ρ}{d:DataW H}(hd:(d=.nil∧L=[])∨∃ sp,d=.slice (L.map dt) sp){r:ρ}(hr:r∈L){n:Nat}(hn:n∈(dt r).weights P e):n∈d.weights P t:=by
 rcases hd with⟨-,rfl⟩|⟨sp,rfl⟩
 ·cases hr
 ·simp only[DataW.weights,ht,zQP,zQC]
  right;left
  induction L with
  | nil=>cases hr
  | cons q L ih =>
    simp only[List.map_cons,DataW.weightsAll,zQC]
    rcases zQP.1 hr with rfl|hr
    ·exact .inl hn
    ·exact .inr (ih hr)
theorem xT {P:Program}{w:World}{r:Reach}{b:Nat}{t e:TypeId}{v:Value}(ht:P.underlying t=some (.slice e))(h:Value.okWide P w r b t v):Cell.okWide P w r b t v:=by
 simpa only[Value.okWide,ht] using h
theorem SC.law {V:Cx}{f:FuncId}{args:List SV}{l:List (Bt × av)}(h:SC V f args (l.map (·.2)) (fun r _=>r=.bool true)){w:World}(hE:V.E w)
 (hh:∀ x∈l,x.2.dg=false∧(∀ β,Holds β x.1 (fun k=>k=x.1.fh∧x.1.cap≠0) w x.2)∧(x.1.cap≠0→x.1.fh<w.heap.size)) :
 Calls V.P f (a8 (fun i=>((l[i]?).map (·.1)).getD (me 0)) args).toArray w fun e w'=>e=.returned (.bool true)∧Below w.heap.size w w':=by
 have sX:∀ (i:Nat) (r:av),(l.map (·.2))[i]? = some r→r.dg=false:=fun i r hi=>by
  rw[List.getElem?_map,zQ0]at hi
  obtain⟨x,hx,rfl⟩:=hi
  exact(hh x (List.mem_of_getElem? hx)).1
 obtain⟨β,hβ0⟩:∃ β:Nat→Bt,β=fun i=>((l[i]?).map (·.1)).getD (me 0):=⟨_,rfl⟩
 rw[← hβ0]
 obtain⟨fp,Gn⟩:∃ fp:Nat→Nat→Prop,∀ i k,fp i k↔∃ x,l[i]? = some x∧k=x.1.fh∧x.1.cap≠0:=⟨fun i k=>∃ x,l[i]? = some x∧k=x.1.fh∧x.1.cap≠0,fun _ _=>Iff.rfl⟩
 have nD:∀ β',cN (l.map (·.2)).length β β'→Hf β' fp w (l.map (·.2)):=fun β' hβ=>by
  refine Hf.mk ?_ ?_ ?_
  ·intro i r hi
   rw[List.getElem?_map,zQ0]at hi
   obtain⟨x,hx,rfl⟩:=hi
   have hb:β' i=x.1:=by
    have:=hβ i (by simpa using(zQq.1 hx).1)
    rw[← this,hβ0];simp[hx]
   rw[hb]
   have h2:=(hh x (List.mem_of_getElem? hx)).2.1 β'
   have e:fp i=fun k=>k=x.1.fh∧x.1.cap≠0:=by
    funext k
    exact propext ⟨fun h=>by obtain⟨y,hy,h1⟩:=(Gn i k).1 h;rw[hx]at hy;cases hy;exact h1,fun h=>(Gn i k).2 ⟨x,hx,h⟩⟩
   rw[e];exact h2
  ·intro i r hi k hk
   obtain⟨x,hx,rfl,hc⟩:=(Gn i k).1 hk
   exact(hh x (List.mem_of_getElem? hx)).2.2 hc
  ·intro i j r r' hi hj _ hm
   rw[sX i r hi,sX j r' hj]at hm
   simp at hm
 refine(h.2 β fp w nD ?_ hE).mono ?_
 ·intro i r hi hm
  rw[sX i r hi]at hm
  cases hm
 ·rintro e w' ⟨r,bs',β₂,fp₂,rfl,AH,hle,bp,kK,-⟩
  refine⟨by have:=(bp β₂ (cN.refl _ _)).1;simpa[ak] using this,?_⟩
  refine(kK.mono (own':=fun _=>False) ?_).below
  rintro k ⟨i,r,hi,hm,-⟩
  rw[sX i r hi]at hm
  cases hm
open Go.RowKit Wf
attribute [local go_sem] fE eV get_list
theorem GC (r:Int)(h1:128≤r)(h4:Lib.validRune r=true):∃ el:Bytes,Utf8.encode r=⟨zQo el⟩∧2≤el.length∧el.length≤4∧∀ h:el.length - 1<el.length,128≤el[el.length - 1].toNat:=by
 have hv:Utf8.valid r=true:=by
  unfold Lib.validRune at h4
  have:=of_decide_eq_true h4
  unfold Utf8.valid
  simp
  omega
 obtain⟨n,rfl⟩:=Int.eq_ofNat_of_zero_le (show 0≤r by omega)
 have hn:128≤n:=by omega
 have key:∀ m:Nat,128≤(UInt8.ofNat (0x80+m % 64)).toNat:=by
  intro m
  rw[UInt8.toNat_ofNat']
  omega
 unfold Utf8.encode
 rw[if_pos hv]
 simp only[zQ2]
 rw[if_neg (show ¬ n<128 by omega)]
 split
 ·exact⟨_,rfl,by simp,by simp,fun _=>key _⟩
 ·split
  ·exact⟨_,rfl,by simp,by simp,fun _=>key _⟩
  ·exact⟨_,rfl,by simp,by simp,fun _=>key _⟩
theorem DI (l:Bytes)(c:UInt8)(h:∀ b∈l,b≠c):Lib.indexByte l c=-1:=by
 induction l with
 | nil=>rfl
 | cons b l ih =>
   have h1:=h b (by simp)
   have h2:=ih fun x hx=>h x (by simp[hx])
   simp[Lib.indexByte,h1,h2]
set_option maxRecDepth 100000 in
theorem Bf (l:Bytes)(w:World)(ha:∀ i (h:i<l.length),l[i].toNat<128)(hl:l.length≤1000000) :
 Calls Tryz.prog 247 #[(Value.string ⟨zQo (l)⟩),.int .i32 65533] w fun e w'=>e=.returned (.int .i64 (-1))∧Below w.heap.size w w':=by
 go_enter Tryz.func247,Tryz.ntmps247
 have Ha:=hid ha
 clear ha
 go_wp2_with fail
 go_loopw [] (fun wr=>∃ i:Nat,i≤l.length∧wr=w.iter ⟨zQo l⟩ i) (fun wr=>l.length - wr.iterPos w.heap.size)
 case atStart=>exact⟨0,by omega,rfl⟩
 case round =>
  obtain⟨i,hi,rfl⟩:=hrel
  by_cases aA:i<l.length
  ·have JH:=fun ty=>run_next_ascii (P:=Tryz.prog) w ⟨zQo l⟩ i ty aA (Ha.out i aA)
   have hb:=Ha.out i aA
   have hx:((l[i].toNat:Int)==65533)=false:=beq_eq_false_iff_ne.2 (by omega)
   simp only[get_list]at JH
   go_wp2_with fail
   go_roundw
   case rel=>exact⟨i+1,by omega,rfl⟩
   case measure=>simp;omega
  ·have JH:=run_next_end (P:=Tryz.prog) w ⟨zQo l⟩ i
   have mL:l.length≤i:=by omega
   go_wp2_with fail
   go_ret
   exact⟨rfl,(Below.refl _ _).alloc (zQt _) _⟩
set_option maxRecDepth 100000 in
theorem Bg (l:Bytes)(r:Int)(w:World)(h1:128≤r)(h2:r≤2147483647)(h3:(r==65533)=false)(h4:Lib.validRune r=false) :
 Calls Tryz.prog 247 #[(Value.string ⟨zQo (l)⟩),.int .i32 r] w fun e w'=>e=.returned (.int .i64 (-1))∧Below w.heap.size w w':=by
 have h5:=hid h4
 go_enter Tryz.func247,Tryz.ntmps247
 go_wp2_with (go_at_call 278;refine(Tryz.utf8_ValidRune _ _).mono ?_;rintro e w' ⟨rfl,rfl⟩)
 go_ret
 exact⟨rfl,Below.refl _ _⟩
set_option maxRecDepth 100000 in
theorem zB (l:Bytes)(r:Int)(w:World)(ha:∀ i (h:i<l.length),l[i].toNat<128)(hl:l.length≤1000000)(h1:128≤r)(h2:r≤2147483647)(h3:(r==65533)=false)(h4:Lib.validRune r=true) :
 Calls Tryz.prog 247 #[(Value.string ⟨zQo (l)⟩),.int .i32 r] w fun e w'=>e=.returned (.int .i64 (-1))∧Below w.heap.size w w':=by
 have Ha:=hid ha
 clear ha
 go_enter Tryz.func247,Tryz.ntmps247
 go_wp2_with (go_at_call 278;refine(Tryz.utf8_ValidRune _ _).mono ?_;rintro e w' ⟨rfl,rfl⟩)
 go_step3
 go_wp2_with fail
 obtain⟨el,vV,he1,he2,N4⟩:=GC r h1 h4
 have He3:=hid N4
 clear N4
 rw[vV]
 have hx:wrap64 ((ByteArray.size ⟨zQo el⟩:Int) - 1)=((el.length - 1:Nat):Int):=by
  have:ByteArray.size ⟨zQo el⟩=el.length:=rfl
  rw[this,IntWalk.wrap64_in _ ⟨by omega,by omega⟩]
  omega
 rw[hx]
 clear vV hx h1 h2 h3 h4
 refine wp_loop_once ?_
 by_cases aA:el.length - 1<l.length
 ·have hle:el.length - 1<el.length:=by omega
  have hbt:=Ha.out _ aA
  have hc:=He3.out (by omega)
  have bK:((l[el.length - 1].toNat:Int) != (el[el.length - 1].toNat:Int))=true:=by rw[bne_iff_ne];omega
  have sX:=DI (l.drop (el.length - 1+1)) el[el.length - 1] (fun b hb hx=>by
   obtain⟨j,hj,rfl⟩:=List.mem_iff_getElem.1 hb
   rw[List.getElem_drop]at hx
   have h1:=Ha.out (el.length - 1+1+j) (by simp at hj;omega)
   rw[hx]at h1
   omega)
  have Hno:=hid sX
  clear sX
  go_wp2_with fail
  go_step3
  go_wp2_with fail
  go_quiet (fail)
  go_wp2_with fail
  have hb:Below w'.heap.size w' (w'.drewN nq):=below_drewN (Below.refl _ _) _
  generalize w'.drewN nq=w2 at hb ⊢
  have xF:IntKind.i64.wrap (((el.length - 1:Nat):Int)+1)=((el.length - 1:Nat):Int)+1:=IntWalk.i64_in _ (by omega)
  have fA:(0:Int)≤((el.length - 1:Nat):Int)+1:=by omega
  have Ch:(((el.length - 1:Nat):Int)+1).toNat=el.length - 1+1:=by omega
  have hs4:((el.length - 1:Nat):Int)+1≤(l.length:Int):=by omega
  go_quiet ((go_at_call 209;refine Calls.quiet_of_same (Tryz.strings_IndexByte _ _ _)))
  clear xF fA Ch hs4
  rw[show ((el[el.length - 1].toNat:Int)).toNat.toUInt8=el[el.length - 1] from by simp,Hno.out]
  go_wp2_with fail
  rw[Exit.noGoto_ret]
  go_wp2_with fail
  rw[Exit.noGoto_ret]
  go_ret
  exact⟨rfl,below_drewN hb _⟩
 ·go_wp2_with fail
  rw[Exit.noGoto_ret]
  go_ret
  exact⟨rfl,Below.refl _ _⟩
theorem Ij (s:ByteArray)(set:Bytes)(i k:Nat)(hn:Lib.NoAny s.data.toList set i)(eg:∀ j (h:j<set.length),set[j].toNat<128)(hh:∀ j,i≤j→j<i+k→∀ h:j<s.size,128≤s[j].toNat):Lib.NoAny s.data.toList set (i+k):=by
 intro j b hj hb
 by_cases nR:j<i
 ·exact hn j b nR hb
 ·obtain⟨hjs,rfl⟩:=zQq.1 hb
  have hs:j<s.size:=by rw[Lib.size_eq];exact hjs
  have h1:128≤(s.data.toList[j]).toNat:=hh j (by omega) hj hs
  rw[Bool.eq_false_iff]
  intro hc
  have oL:=zQ3.1 hc
  obtain⟨q,hq,he⟩:=List.mem_iff_getElem.1 oL
  have h2:=eg q hq
  rw[he]at h2
  omega
theorem Ot (s:ByteArray)(j:Nat)(h:j<s.size):(s.get! j).toNat=s[j].toNat:=by
 have:=get_at s j h
 rw[Nat.add_zero]at this
 rw[this]
theorem ld (s:ByteArray)(j:Nat)(h:(decide (j<s.size)&&(s.get! j).toNat / 64==2)=true):j<s.size∧∀ h:j<s.size,128≤s[j].toNat:=by
 simp only[zQE,decide_eq_true_eq,beq_iff_eq]at h
 refine⟨h.1,fun hj=>?_⟩
 have:=h.2
 rw[Ot s j hj]at this
 omega
def Span (s:ByteArray)(i:Nat)(p:Nat × Nat):Prop:=i+p.2≤s.size∧∀ j,i≤j→j<i+p.2→∀ h:j<s.size,128≤s[j].toNat
theorem GK (s:ByteArray)(i:Nat)(h:i<s.size)(hx:128≤s[i].toNat):Span s i (Utf8.decode s i):=by
 have one:∀ e,Span s i (e,1):=fun e=>⟨by dsimp only;omega,fun j h1 h2 h3=>by
  dsimp only at h2
  obtain rfl:j=i:=by omega
  exact hx⟩
 unfold Utf8.decode
 dsimp only
 split
 ·exact one _
 split
 ·rename_i hc
  simp only[zQE]at hc
  have c1:=ld s (i+1) (by simpa using hc.2)
  split
  ·refine⟨by dsimp only;omega,fun j h1 h2 h3=>?_⟩
   dsimp only at h2
   rcases zQI j (i+1) with h' | h'
   ·exact(one 0).2 j h1 h' h3
   ·obtain rfl:j=i+1:=by omega
    exact c1.2 h3
  ·exact one _
 ·split
  ·rename_i hc
   simp only[zQE]at hc
   have c1:=ld s (i+1) (by simpa using hc.1.2)
   have c2:=ld s (i+2) (by simpa using hc.2)
   split
   ·refine⟨by dsimp only;omega,fun j h1 h2 h3=>?_⟩
    dsimp only at h2
    rcases zQI j (i+1) with h' | h'
    ·exact(one 0).2 j h1 h' h3
    ·rcases zQI j (i+2) with h'' | h''
     ·obtain rfl:j=i+1:=by omega
      exact c1.2 h3
     ·obtain rfl:j=i+2:=by omega
      exact c2.2 h3
   ·exact one _
  ·split
   ·rename_i hc
    simp only[zQE]at hc
    have c1:=ld s (i+1) (by simpa using hc.1.1.2)
    have c2:=ld s (i+2) (by simpa using hc.1.2)
    have c3:=ld s (i+3) (by simpa using hc.2)
    split
    ·refine⟨by dsimp only;omega,fun j h1 h2 h3=>?_⟩
     dsimp only at h2
     rcases zQI j (i+1) with h' | h'
     ·exact(one 0).2 j h1 h' h3
     ·rcases zQI j (i+2) with h'' | h''
      ·obtain rfl:j=i+1:=by omega
       exact c1.2 h3
      ·rcases zQI j (i+3) with h4|h4
       ·obtain rfl:j=i+2:=by omega
        exact c2.2 h3
       ·obtain rfl:j=i+3:=by omega
        exact c3.2 h3
    ·exact one _
   ·exact one _
theorem Bh (l:Bytes)(r:Int)(w:World)(ha:∀ i (h:i<l.length),l[i].toNat<128)(hl:l.length≤1000000)(h1:128≤r)(h2:r≤2147483647) :
 Calls Tryz.prog 247 #[(Value.string ⟨zQo (l)⟩),.int .i32 r] w fun e w'=>e=.returned (.int .i64 (-1))∧Below w.heap.size w w':=by
 by_cases h3:r=65533
 ·subst h3
  exact Bf l w ha hl
 ·cases h4:Lib.validRune r
  ·exact Bg l r w h1 h2 (beq_eq_false_iff_ne.2 h3) h4
  ·exact zB l r w ha hl h1 h2 (beq_eq_false_iff_ne.2 h3) h4
theorem zA {w:World}{k:Nat}{s:ByteArray}{p:Nat}(h:w.heap[k]? = some (.stringIter s p)):w.iterPos k=p:=by unfold World.iterPos;rw[h]
set_option maxRecDepth 100000 in
theorem zC (s l:Bytes)(w:World)(ha:∀ i (h:i<l.length),l[i].toNat<128)(hl:l.length≤1000000)(h2:2≤l.length)(h8:s.length≤8) :
 Calls Tryz.prog 206 #[(Value.string ⟨zQo (s)⟩),(Value.string ⟨zQo (l)⟩)] w fun e w'=>e=.returned (.int .i64 (Lib.indexAny s l))∧Below w.heap.size w w':=by
 have Ha:=hid ha
 clear ha
 have hemp:l.isEmpty=false:=by cases l <;> simp at h2 ⊢
 have oK:((l.length:Int)==1)=false:=beq_eq_false_iff_ne.2 (by omega)
 have h8z:decide ((8:Int)<(s.length:Int))=false:=decide_eq_false (by omega)
 go_enter Tryz.func206,Tryz.ntmps206
 go_wp2_with (go_at_call 248;refine(Tryz.strings_shouldUseASCIISet _ _).mono ?_;rintro e w' ⟨rfl,hw⟩;rw[hw,h8z])
 go_loopw [] (fun wr=>∃ i:Nat,i≤s.length∧wr.heap[w.heap.size]? = some (.stringIter ⟨zQo s⟩ i)∧Below w.heap.size w wr∧Lib.NoAny s l i) (fun wr=>s.length - wr.iterPos w.heap.size)
 case atStart=>exact⟨0,by omega,World.iter_heap _ _ _,(Below.refl _ _).alloc (zQt _) _,Lib.NoAny.zero _ _⟩
 case round =>
  obtain⟨i,hi,hit,mh,sX⟩:=hrel
  have Hit:=hid hit
  have Hbl:=hid mh
  have Hno:=hid sX
  clear hit mh sX
  have zL:wr.iterPos w.heap.size=i:=by unfold World.iterPos;rw[Hit.out]
  have Hpos:=hid zL
  clear zL
  have DM:w.heap.size<wr.heap.size:=(Array.getElem?_eq_some_iff.1 Hit.out).1
  by_cases aA:i<s.length
  ·by_cases hx:s[i].toNat<128
   ·have JH:=fun ty=>Lib.run_next_ascii_at (P:=Tryz.prog) wr w.heap.size ⟨zQo s⟩ i ty Hit.out aA hx
    simp only[get_list]at JH
    have Li:=Lib.contains_iff_indexByte l s[i]
    have kx:((s[i].toNat:Int)).toNat.toUInt8=s[i]:=by simp
    cases rZ:l.contains s[i]
    ·rw[rZ]at Li
     have DL:¬ ((0:Int)≤Lib.indexByte l s[i]):=of_decide_eq_false Li.symm
     clear Li
     go_wp2_with (go_at_call 247;refine(Tryz.strings_IndexRune_ascii _ _ _ (by omega) (by omega)).mono ?_;rintro e w' ⟨rfl,hw⟩;rw[hw,kx])
     have hk:=Lib.iterAt_heap wr w.heap.size ⟨zQo s⟩ i (i+1) Hit.out
     have od:(⟨zQo s⟩:ByteArray).data.toList[i]? = some s[i]:=zQw aA
     refine⟨⟨i+1,by omega,hk,Lib.below_iterAt Hbl.out (zQt _) _ _,Hno.out.succ od rZ⟩,?_⟩
     rw[zA hk,Hpos.out];omega
    ·rw[rZ]at Li
     have qL:((0:Int)≤Lib.indexByte l s[i]):=of_decide_eq_true Li.symm
     clear Li
     go_wp2_with (go_at_call 247;refine(Tryz.strings_IndexRune_ascii _ _ _ (by omega) (by omega)).mono ?_;rintro e w' ⟨rfl,hw⟩;rw[hw,kx])
     have od:s[i]? = some s[i]:=zQw aA
     go_ret
     exact⟨xQ (by rw[Lib.indexAny_hit Hno.out od rZ]),Lib.below_iterAt Hbl.out (zQt _) _ _⟩
   ·have JH:=fun ty=>Lib.run_next_any_at (P:=Tryz.prog) wr w.heap.size ⟨zQo s⟩ i ty Hit.out aA
    have hd:=decode_high ⟨zQo s⟩ i aA (by simp only[get_list];omega)
    have AG:=decode_le ⟨zQo s⟩ i
    go_wp2_with (go_at_call 247;refine(Bh l _ _ Ha.out hl (by omega) (by omega)).mono ?_;rintro e w' ⟨rfl,hw⟩)
    have tw:=GK ⟨zQo s⟩ i aA (by simp only[get_list];omega)
    have hk:=Lib.iterAt_heap wr w.heap.size ⟨zQo s⟩ i (i+(Utf8.decode ⟨zQo s⟩ i).2) Hit.out
    have bJ:=(hw.block w.heap.size (by rw[Lib.iterAt_size];exact DM)).trans hk
    have hle:i+(Utf8.decode ⟨zQo s⟩ i).2≤s.length:=tw.1
    refine⟨⟨_,hle,bJ,(Lib.below_iterAt Hbl.out (zQt _) _ _).trans (hw.mono (by rw[Lib.iterAt_size];omega)),Ij ⟨zQo s⟩ l i _ Hno.out Ha.out tw.2⟩,?_⟩
    rw[zA bJ,Hpos.out];omega
  ·have JH:=fun ty=>Lib.run_next_end_at (P:=Tryz.prog) wr w.heap.size ⟨zQo s⟩ i ty Hit.out aA
   go_wp2_with fail
   go_ret
   exact⟨xQ (by rw[Lib.indexAny_none (by rw[show s.length=i by omega];exact Hno.out)]),Hbl.out⟩
theorem strings_IndexAny (s l:Bytes)(w:World)(ha:∀ i (h:i<l.length),l[i].toNat<128)(hl:l.length≤1000000)(h2:2≤l.length)(hs:s.length<4294967281) :
 Calls Tryz.prog 206 #[(Value.string ⟨zQo (s)⟩),(Value.string ⟨zQo (l)⟩)] w fun e w'=>e=.returned (.int .i64 (Lib.indexAny s l))∧Below w.heap.size w w':=by
 rcases zQI 8 s.length with h8|h8
 ·refine(Tryz.strings_IndexAny_long (fun _=>by kernel_rfl) ⟨zQo s⟩ ⟨zQo l⟩ w h2 h8 hs (show l.length<4294967281 by omega) (fun j b hb=>?_)).mono ?_
  ·obtain⟨hj,rfl⟩:=zQq.1 hb
   exact ha j hj
  ·rintro e w' ⟨rfl,rfl⟩
   exact⟨rfl,((Below.refl _ _).alloc (zQt _) _).alloc (by simp) _⟩
 ·exact zC s l w ha hl h2 h8
open Go.RowKit Wf
attribute [local go_sem] fE eV get_list
theorem cn (c:UInt8)(w:World):Calls Tryz.prog 252 #[.int .u8 c.toNat] w fun e w'=>e=.returned (.bool (isDigit c))∧w=w':=by
 go_enter Tryz.func252,Tryz.ntmps252
 go_wp2
 all_goals
  go_ret
  refine⟨bD ?_,rfl⟩
  have hb:=Ig c
  have hc:=c.toNat_lt
  rw[zQM]
  simp[isDigit]
  try omega
theorem dG (c:UInt8)(w:World):Calls Tryz.prog 251 #[.int .u8 c.toNat] w fun e w'=>e=.returned (.bool (isAlpha c))∧w=w':=by
 go_enter Tryz.func251,Tryz.ntmps251
 go_wp2
 all_goals
  go_ret
  refine⟨bD ?_,rfl⟩
  have hb:=Ig c
  have hc:=c.toNat_lt
  rw[zQM]
  simp[isAlpha]
  try omega
theorem eR (c:UInt8)(w:World):Calls Tryz.prog 255 #[.int .u8 c.toNat] w fun e w'=>e=.returned (.bool (bm c))∧w=w':=by
 go_enter Tryz.func255,Tryz.ntmps255
 go_wp2
 all_goals
  go_ret
  refine⟨bD ?_,rfl⟩
  have hb:=Ig c
  have hc:=c.toNat_lt
  rw[zQM]
  simp[bm]
  try omega
theorem eN (c:UInt8)(w:World):Calls Tryz.prog 148 #[.int .u8 c.toNat] w fun e w'=>e=.returned (.bool (isDigit c))∧w=w':=by
 go_enter Tryz.func148,Tryz.ntmps148
 go_wp2
 all_goals
  go_ret
  refine⟨bD ?_,rfl⟩
  have hb:=Ig c
  have hc:=c.toNat_lt
  rw[zQM]
  simp[isDigit]
  try omega
theorem jO (c:UInt8)(w:World):Calls Tryz.prog 147 #[.int .u8 c.toNat] w fun e w'=>e=.returned (.bool (isAlpha c))∧w=w':=by
 go_enter Tryz.func147,Tryz.ntmps147
 go_wp2
 all_goals
  go_ret
  refine⟨bD ?_,rfl⟩
  have hb:=Ig c
  have hc:=c.toNat_lt
  rw[zQM]
  simp[isAlpha]
  try omega
theorem Ff (c:UInt8)(w:World):Calls Tryz.prog 151 #[.int .u8 c.toNat] w fun e w'=>e=.returned (.bool (bm c))∧w=w':=by
 go_enter Tryz.func151,Tryz.ntmps151
 go_wp2
 all_goals
  go_ret
  refine⟨bD ?_,rfl⟩
  have hb:=Ig c
  have hc:=c.toNat_lt
  rw[zQM]
  simp[bm]
  try omega
open Go.RowKit Wf
def u8V (b:UInt8):Value:=.int .u8 b.toNat
def jA (w:World)(b:Nat)(l:Bytes):Prop:=∃ (rest:List Value) (T:TypeId) (fz:Nat × Nat),w.heap[b]? = some (.cells (l.map u8V++rest).toArray T fz)∧(l.length≤fz.1∨fz.2≤fz.1)
theorem jA.cell {w:World}{b:Nat}{l:Bytes}(h:jA w b l){k:Nat}(hk:k<l.length):w.cell? ⟨b,k,none⟩=some (.int .u8 l[k].toNat):=by
 obtain⟨rest,T,fz,hb,_⟩:=h
 rw[Lib.cell_of_heap hb k]
 simp[zQs,hk,u8V]
theorem jA.frozen {w:World}{b:Nat}{l:Bytes}(h:jA w b l){k:Nat}(hk:k<l.length):w.frozen? ⟨b,k,none⟩=false:=by
 obtain⟨rest,T,fz,hb,hf⟩:=h
 simp only[World.frozen?,hb]
 simp
 omega
theorem jA.set {w:World}{b:Nat}{l:Bytes}(h:jA w b l){k:Nat}(hk:k<l.length)(x:UInt8):jA (w.setCell ⟨b,k,none⟩ (.int .u8 x.toNat)) b (l.set k x):=by
 obtain⟨rest,T,fz,hb,hf⟩:=h
 refine⟨rest,T,fz,?_,by simpa using hf⟩
 rw[heap_set hb]
 congr 2
 simp[List.set_append_left,hk,List.map_set,u8V]
theorem jA.lt {w:World}{b:Nat}{l:Bytes}(h:jA w b l):b<w.heap.size:=by
 obtain⟨rest,T,fz,hb,_⟩:=h
 exact cU hb
theorem jA.back {w:World}{b:Nat}{l:Bytes}(h:jA w b l)(cap:Nat) :
 (convert 22 9 (.slice (some ⟨b,0,none⟩) l.length cap)).run Tryz.prog w=.ok (Value.string ⟨zQo (l)⟩) w:=by
 refine run_convert_bytes_back w _ _ 5 ⟨b,0,none⟩ cap l Tryz.underlying22 Tryz.underlying5 Tryz.underlying9 (fun j hj=>?_)
 have:(⟨b,0,none⟩:Addr).add j=⟨b,j,none⟩:=by
  unfold Addr.add
  split
  ·subst j;rfl
  ·simp
 rw[this]
 exact h.cell hj
theorem G1 (b o j:Nat):(⟨b,o,none⟩:Addr).add j=⟨b,o+j,none⟩:=by
 unfold Addr.add
 split
 ·subst j;rfl
 ·rfl
theorem jA.backAt {w:World}{b a:Nat}{y l:Bytes}(h:jA w b (y++l))(hy:y.length=a)(cap:Nat) :
 (convert 22 9 (.slice (some ⟨b,a,none⟩) l.length cap)).run Tryz.prog w=.ok (Value.string ⟨zQo (l)⟩) w:=by
 refine run_convert_bytes_back w _ _ 5 ⟨b,a,none⟩ cap l Tryz.underlying22 Tryz.underlying5 Tryz.underlying9 (fun j hj=>?_)
 rw[G1]
 subst hy
 have h1:=h.cell (k:=y.length+j) (by simp;omega)
 have h2:(y++l)[y.length+j]'(by simp;omega)=l[j]:=by rw[List.getElem_append_right (Nat.le_add_right _ _)];simp
 rw[h2]at h1
 exact h1
theorem Am (w:World)(s:Bytes):∃ (w1:World) (cap:Nat),(convert 9 22 (Value.string ⟨zQo (s)⟩)).run Tryz.prog w=.ok (.slice (some ⟨w.heap.size,0,none⟩) s.length cap) w1∧jA w1 w.heap.size s∧Below w.heap.size w w1:=by
 refine⟨_,_,Lib.run_convert_string_bytes w _ _ 5 ⟨zQo s⟩ Tryz.underlying9 Tryz.underlying22 Tryz.underlying5,?_,?_⟩
 ·refine⟨(Array.replicate (grownCap w s.length 0 5 - s.length) (Value.int .u8 0)).toList,5,((Lib.bytesCells w 5 ⟨zQo s⟩).size,(Lib.bytesCells w 5 ⟨zQo s⟩).size+1),?_,?_⟩
  ·rw[Lib.bytesWorld_at_new]
   congr 2
   apply Array.ext'
   simp[Lib.bytesCells]
   rfl
  ·left
   simp[Lib.bytesCells]
 ·exact⟨by simp[Lib.bytesWorld,World.freeze];rfl,rfl,rfl,by rw[Lib.bytesWorld_size];omega,fun k hk=>Lib.bytesWorld_at_old _ _ _ k hk⟩
open Go.RowKit Wf
attribute [local go_sem] fE eV get_list
theorem q8 (s:Bytes)(w:World)(hs:s.length≤9223372036854775807) :
 Calls Tryz.prog 175 #[(Value.string ⟨zQo (s)⟩)] w fun e w'=>e=.returned (Value.string ⟨zQo (lower s)⟩)∧Below w.heap.size w w':=by
 obtain⟨w1,cap,N6,eK,iT⟩:=Am w s
 have Hrow:=hid eK
 have Hw1:=hid iT
 clear eK iT
 go_enter Tryz.func175,Tryz.ntmps175
 go_wp2_with fail
 go_loopw [10] (fun i wr=>∃ k:Nat,k≤s.length∧i=.int .i64 k∧jA wr w.heap.size (jg k s)∧Below w.heap.size w wr) (fun i _=>s.length - (intOf i).toNat)
 case atStart=>exact⟨0,by omega,rfl,by rw[zn];exact Hrow.out,Hw1.out⟩
 case round =>
  obtain⟨k,hk,rfl,eK,hw⟩:=hrel
  have Hrow:=hid eK
  have Hw:=hid hw
  clear N6 eK hw
  by_cases aA:k<s.length
  ·have Mc:=kG k s
   have iM:=Hrow.out.cell (k:=k) (by omega)
   have NU:=Hrow.out.frozen (k:=k) (by omega)
   rw[Ca aA]at iM
   clear Mc
   by_cases zX:65≤s[k].toNat∧s[k].toNat≤90
   ·obtain⟨JK,mg⟩:=zX
    have hY:=Hrow.out.set (k:=k) (by rw[kG];exact aA) (dh s[k])
    rw[B9 aA,zm JK mg]at hY
    have Hst:=hid hY
    clear hY
    go_wp2_with fail
    go_roundw
    case rel=>exact⟨k+1,by omega,by go_num,Hst.out,Hw.out.setCell (p:=⟨w.heap.size,k,none⟩) (zQt _) _⟩
    case measure=>simp[intOf];omega
   ·have Hn:=hid (zo aA (B8 zX))
    have hor:s[k].toNat<65∨90<s[k].toNat:=by omega
    rcases hor with h|h
    all_goals
     go_wp2_with fail
     go_roundw
     case rel=>exact⟨k+1,by omega,by go_num,Hn.out ▸ Hrow.out,Hw.out⟩
     case measure=>simp[intOf];omega
  ·have hl:k=s.length:=by omega
   have zJ:=Hrow.out
   rw[hl,Cb]at zJ
   have kx:=zJ.back cap
   rw[show (lower s).length=s.length by simp[lower]]at kx
   clear hl zJ
   go_wp2_with fail
   go_ret
   exact⟨rfl,Hw.out⟩
theorem qs (s:Bytes)(w:World)(hs:s.length≤9223372036854775807) :
 Calls Tryz.prog 60 #[(Value.string ⟨zQo (s)⟩)] w fun e w'=>e=.returned (Value.string ⟨zQo (lower s)⟩)∧Below w.heap.size w w':=by
 obtain⟨w1,cap,N6,eK,iT⟩:=Am w s
 have Hrow:=hid eK
 have Hw1:=hid iT
 clear eK iT
 go_enter Tryz.func60,Tryz.ntmps60
 go_wp2_with fail
 go_loopw [9] (fun i wr=>∃ k:Nat,k≤s.length∧i=.int .i64 k∧jA wr w.heap.size (jg k s)∧Below w.heap.size w wr) (fun i _=>s.length - (intOf i).toNat)
 case atStart=>exact⟨0,by omega,rfl,by rw[zn];exact Hrow.out,Hw1.out⟩
 case round =>
  obtain⟨k,hk,rfl,eK,hw⟩:=hrel
  have Hrow:=hid eK
  have Hw:=hid hw
  clear N6 eK hw
  by_cases aA:k<s.length
  ·have Mc:=kG k s
   have iM:=Hrow.out.cell (k:=k) (by omega)
   have NU:=Hrow.out.frozen (k:=k) (by omega)
   rw[Ca aA]at iM
   clear Mc
   by_cases zX:65≤s[k].toNat∧s[k].toNat≤90
   ·obtain⟨JK,mg⟩:=zX
    have hY:=Hrow.out.set (k:=k) (by rw[kG];exact aA) (dh s[k])
    rw[B9 aA,zm JK mg]at hY
    have Hst:=hid hY
    clear hY
    go_wp2_with fail
    go_roundw
    case rel=>exact⟨k+1,by omega,by go_num,Hst.out,Hw.out.setCell (p:=⟨w.heap.size,k,none⟩) (zQt _) _⟩
    case measure=>simp[intOf];omega
   ·have Hn:=hid (zo aA (B8 zX))
    have hor:s[k].toNat<65∨90<s[k].toNat:=by omega
    rcases hor with h|h
    all_goals
     go_wp2_with fail
     go_roundw
     case rel=>exact⟨k+1,by omega,by go_num,Hn.out ▸ Hrow.out,Hw.out⟩
     case measure=>simp[intOf];omega
  ·have hl:k=s.length:=by omega
   have zJ:=Hrow.out
   rw[hl,Cb]at zJ
   have kx:=zJ.back cap
   rw[show (lower s).length=s.length by simp[lower]]at kx
   clear hl zJ
   go_wp2_with fail
   go_ret
   exact⟨rfl,Hw.out⟩
theorem GZ (s:Bytes)(w:World)(hs:s.length≤9223372036854775807) :
 Calls Tryz.prog 269 #[(Value.string ⟨zQo (s)⟩),.func (.func 252) #[] #[]] w fun e w'=>e=.returned (.bool (s.all isDigit))∧w=w':=by
 go_enter Tryz.func269,Tryz.ntmps269
 go_wp2_with fail
 go_loop [8] (fun i=>∃ k:Nat,k≤s.length∧i=.int .i64 k∧(s.take k).all isDigit=true) (fun i=>s.length - (intOf i).toNat)
 case atStart=>exact⟨0,by omega,rfl,rfl⟩
 case round =>
  obtain⟨k,hk,rfl,bp⟩:=hrel
  have Hall:=hid bp
  clear bp
  by_cases aA:k<s.length
  ·cases hc:isDigit s[k]
   ·have Ha:=hid (dC aA hc)
    go_wp2_with (go_at_call 252;refine(cn _ _).mono ?_;rintro e w' ⟨rfl,rfl⟩)
    go_ret
    exact⟨bD Ha.out.symm,rfl⟩
   ·go_wp2_with (go_at_call 252;refine(cn _ _).mono ?_;rintro e w' ⟨rfl,rfl⟩)
    go_round
    case rel=>exact⟨k+1,by omega,by go_num,bn aA Hall.out hc⟩
    case measure=>simp[intOf];omega
  ·have bp:=Hall.out
   rw[zQu (by omega)]at bp
   have Ha:=hid bp
   clear bp Hall
   go_wp2_with fail
   go_ret
   exact⟨bD Ha.out.symm,rfl⟩
theorem gW (s:Bytes)(w:World)(hs:s.length≤9223372036854775807) :
 Calls Tryz.prog 235 #[(Value.string ⟨zQo (s)⟩)] w fun e w'=>e=.returned (.bool (bZ s))∧w=w':=by
 cases hn:s.isEmpty
 all_goals
  have Hd:=hid (show bZ s=(!s.isEmpty&&s.all isDigit) from rfl)
  rw[hn]at Hd
  go_enter Tryz.func235,Tryz.ntmps235
  go_wp2_with (go_at_call 269;refine(GZ _ _ hs).mono ?_;rintro e w' ⟨rfl,rfl⟩)
  go_ret
  exact⟨bD (by rw[Hd.out];simp),rfl⟩
theorem Dg (s:Bytes)(w:World)(hs:s.length≤9223372036854775807) :
 Calls Tryz.prog 203 #[(Value.string ⟨zQo (s)⟩)] w fun e w'=>e=.returned (.bool (bZ s))∧w=w':=by
 go_enter Tryz.func203,Tryz.ntmps203
 go_wp2_with fail
 go_loop [3] (fun i=>∃ k:Nat,k≤s.length∧i=.int .i64 k∧(s.take k).all isDigit=true) (fun i=>s.length - (intOf i).toNat)
 case atStart=>exact⟨0,by omega,rfl,rfl⟩
 case round =>
  obtain⟨k,hk,rfl,bp⟩:=hrel
  have Hall:=hid bp
  clear bp
  by_cases aA:k<s.length
  ·cases hc:isDigit s[k]
   ·have Ha:=hid (dC aA hc)
    go_wp2_with (go_at_call 148;refine(eN _ _).mono ?_;rintro e w' ⟨rfl,rfl⟩)
    go_ret
    exact⟨bD (by unfold bZ;rw[Ha.out];simp),rfl⟩
   ·go_wp2_with (go_at_call 148;refine(eN _ _).mono ?_;rintro e w' ⟨rfl,rfl⟩)
    go_round
    case rel=>exact⟨k+1,by omega,by go_num,bn aA Hall.out hc⟩
    case measure=>simp[intOf];omega
  ·have bp:=Hall.out
   rw[zQu (by omega)]at bp
   have Ha:=hid bp
   clear bp Hall
   go_wp2_with fail
   go_ret
   exact⟨bD (by unfold bZ;rw[Ha.out];simp),rfl⟩
theorem Fg (c:UInt8)(s:Bytes)(w:World)(hs:s.length≤9223372036854775807) :
 Calls Tryz.prog 84 #[.int .u8 c.toNat,(Value.string ⟨zQo (s)⟩)] w fun e w'=>e=.returned (.bool (has s c))∧w=w':=by
 go_enter Tryz.func84,Tryz.ntmps84
 go_wp2_with fail
 go_loop [5] (fun i=>∃ k:Nat,k≤s.length∧i=.int .i64 k∧has (s.take k) c=false) (fun i=>s.length - (intOf i).toNat)
 case atStart=>exact⟨0,by omega,rfl,rfl⟩
 case round =>
  obtain⟨k,hk,rfl,bp⟩:=hrel
  have Hall:=hid bp
  clear bp
  by_cases aA:k<s.length
  ·by_cases hc:s[k]=c
   ·have hx:((s[k].toNat:Int)==(c.toNat:Int))=true:=by simp[hc]
    have Ha:=hid (show has s c=true by unfold has;rw[zQ3];exact hc ▸ zQQ aA)
    go_wp2_with fail
    go_ret
    exact⟨bD Ha.out.symm,rfl⟩
   ·have hx:((s[k].toNat:Int)==(c.toNat:Int))=false:=by
     rw[beq_eq_false_iff_ne]
     intro h
     exact hc (zQY.1 (by omega))
    go_wp2_with fail
    go_round
    case rel=>exact⟨k+1,by omega,by go_num,by
     have:=Hall.out
     unfold has at this ⊢
     rw[zQU aA,List.contains_eq_any_beq,List.any_append,← List.contains_eq_any_beq,this]
     simp
     exact fun h=>hc h.symm⟩
    case measure=>simp[intOf];omega
  ·have bp:=Hall.out
   rw[zQu (by omega)]at bp
   have Ha:=hid bp
   clear bp Hall
   go_wp2_with fail
   go_ret
   exact⟨bD Ha.out.symm,rfl⟩
theorem iJ (s t:Bytes)(w:World)(hs:s.length≤9223372036854775807)(ht:t.length≤9223372036854775807) :
 Calls Tryz.prog 34 #[(Value.string ⟨zQo (s)⟩),(Value.string ⟨zQo (t)⟩)] w fun e w'=>e=.returned (.int .i64 (pre (has t ·) s))∧w=w':=by
 have hle:=cV (has t ·) s
 go_enter Tryz.func34,Tryz.ntmps34
 go_wp2_with fail
 go_loop [5] (fun i=>∃ k:Nat,k≤pre (has t ·) s∧i=.int .i64 k) (fun i=>s.length - (intOf i).toNat)
 case atStart=>exact⟨0,by omega,rfl⟩
 case round =>
  obtain⟨k,hk,rfl⟩:=hrel
  by_cases aA:k<pre (has t ·) s
  ·have hc:=jc aA (by omega)
   go_wp2_with (go_at_call 84;refine(Fg _ _ _ ht).mono ?_;rintro e w' ⟨rfl,rfl⟩)
   go_round
   case rel=>exact⟨k+1,by omega,by go_num⟩
   case measure=>simp[intOf];omega
  ·obtain rfl:k=pre (has t ·) s:=by omega
   clear hk aA
   by_cases kL:pre (has t ·) s<s.length
   ·have hc:=iC kL
    go_wp2_with (go_at_call 84;refine(Fg _ _ _ ht).mono ?_;rintro e w' ⟨rfl,rfl⟩)
    go_ret
    exact⟨rfl,rfl⟩
   ·have he:=hid (show pre (has t ·) s=s.length by omega)
    go_wp2_with fail
    go_ret
    exact⟨xQ (by rw[he.out]),rfl⟩
open Go Vc Go.RowKit Wf
theorem below_draws {w w':World}(h:∃ n,w'=w.drewN n):Below w.heap.size w w':=by
 obtain⟨n,rfl⟩:=h
 exact below_drewN (Below.refl _ _) _
theorem cD {w w':World}(h:w=w'):Below w.heap.size w w':=by subst h;exact Below.refl _ _
theorem iK (l:Bytes)(c:UInt8):PC Tryz.V 209 [.str l,.int .u8 c.toNat] (.int .i64 (Lib.indexByte l c)) :=
 ⟨Tryz.call209,by simp[flat,flat.ai],by simp[flat,flat.ai],fun w hE=>(eM l c w).mono fun _ _ ⟨h,k⟩=>⟨h,cD k⟩⟩
theorem jX (l p:Bytes):PC Tryz.V 115 [.str l,.str p] (.bool (Lib.hasPrefix l p)) :=
 ⟨Tryz.call115,by simp[flat,flat.ai],by simp[flat,flat.ai],fun w hE=>(E6 l p w).mono fun _ _ ⟨h,k⟩=>⟨h,cD k⟩⟩
theorem mG (l p:Bytes):PC Tryz.V 208 [.str l,.str p] (.eW [.str (Lib.trimPrefix l p),.bool (Lib.hasPrefix l p)]) :=
 ⟨Tryz.call208,by simp[flat,flat.ai],by simp[flat,flat.ai],fun w hE=>(E7 l p w).mono fun _ _ ⟨h,k⟩=>⟨h,cD k⟩⟩
theorem ub (l p:Bytes):PC Tryz.V 213 [.str l,.str p] (.str (Lib.trimPrefix l p)) :=
 ⟨Tryz.call213,by simp[flat,flat.ai],by simp[flat,flat.ai],fun w hE=>(C0 l p w).mono fun _ _ ⟨h,k⟩=>⟨h,cD k⟩⟩
theorem Jq (l:Bytes)(c:UInt8)(hl:l.length<4294967281):PC Tryz.V 172 [.str l,.str [c]] (.eW [.str (aN c l).1,.str (aN c l).2.1,.bool (aN c l).2.2]) :=
 ⟨Tryz.call172,by simp[flat,flat.ai],by simp[flat,flat.ai],fun w hE=>(Jf l c w hE hl).mono fun _ _ ⟨h,k⟩=>⟨h,below_draws k⟩⟩
theorem Ic (s l:Bytes)(ha:∀ i (h:i<l.length),l[i].toNat<128)(hl:l.length≤1000000)(h2:2≤l.length)(hs:s.length<4294967281) :
 PC Tryz.V 206 [.str s,.str l] (.int .i64 (Lib.indexAny s l)) :=
 ⟨Tryz.call206,by simp[flat,flat.ai],by simp[flat,flat.ai],fun w hE=>strings_IndexAny s l w ha hl h2 hs⟩
def uy (s:Bytes)(c:UInt8):Int:=Lib.lastIndexByte ⟨zQo s⟩ c.toNat
theorem Np (s:Bytes)(c:UInt8):uy s c=((s.reverse.dropWhile (· != c)).length:Int) - 1:=by
 have h:∀ k,k≤s.length→Lib.lastIdx ⟨zQo s⟩ c.toNat k=(((s.take k).reverse.dropWhile (· != c)).length:Int) - 1:=by
  intro k
  induction k with
  | zero=>intro _;simp[Lib.lastIdx]
  | succ k ih =>
    intro hk
    have hk':k<s.length:=by omega
    have e:(⟨zQo s⟩:ByteArray).data[k]! = s[k]:=by simp[hk']
    rw[zQU hk',List.reverse_append,List.reverse_singleton,zQR,Lib.lastIdx,e]
    by_cases hc:s[k]=c
    ·rw[if_pos (by rw[hc]),List.dropWhile_cons_of_neg (by simp[hc])]
     simp
     omega
    ·rw[if_neg (fun h=>hc (zQY.1 (by exact_mod_cast h))),List.dropWhile_cons_of_pos (by simp[hc]),ih (by omega)]
 have:=h s.length (zQt _)
 rw[List.take_length]at this
 exact this
theorem ix (s:Bytes)(c:UInt8)(hs:s.length<4611686018427387904):PC Tryz.V 214 [.str s,.int .u8 c.toNat] (.int .i64 (uy s c)) :=
 ⟨Tryz.call214,by simp[flat,flat.ai],by simp[flat,flat.ai],fun w hE=>(Tryz.strings_LastIndexByte ⟨zQo s⟩ c.toNat hs w).mono fun _ _ ⟨h,k⟩=>⟨h,cD k.symm⟩⟩
theorem mM {p q:Bytes}(h:Lib.hasPrefix p q=false):¬ (q.isPrefixOf p=true):=by unfold Lib.hasPrefix at h;simp[h]
theorem fG {p q:Bytes}(h:Lib.hasPrefix p q=true):q.length≤p.length:=(zQx.1 h).length_le
theorem tD (s p:Bytes):(Lib.trimPrefix s p).length≤s.length:=by
 unfold Lib.trimPrefix;split <;> simp
theorem dw {s:Bytes}{k:Nat}(hk:k<s.length)(c:UInt8){n:Int}(hn:n=c.toNat):(((s.getD k 0).toNat:Int)==n)=(s[k]==c):=by
 subst hn
 rw[show s.getD k 0=s[k] by simp[List.getD,hk],zQM]
 simp only[beq_iff_eq]
 exact⟨fun h=>zQY.1 (by exact_mod_cast h),fun h=>by rw[h]⟩
theorem jG (l:Bytes):(l.map dW).all Vc.one=true:=by simp[dW,Vc.one]
def fX (i:Nat)(σ:St):Nat:=match lk i σ.t with
 | some (.int _ n)=>n.toNat
 | _=>0
theorem ao {i:Nat}{σ:St}{k:IntKind}{n:Int}(h:lk i σ.t=some (.int k n)):fX i σ=n.toNat:=by simp[fX,h]
def uc (u:bM):List SV:=[.str u.host,.int .i64 u.port,.str u.path,.str u.query,.str u.fragment,.bool u.aD,.bool u.aP]
def fc (f:Bytes × Bytes):List SV:=[.str f.1,.str f.2]
theorem kz {ρ:Type}(cl:ρ→List SV)(s:Nat)(hs:∀ r,(cl r).length=s):∀ (L:List ρ)(k:Nat)(h:k<L.length),((L.flatMap cl).drop (k * s)).take s=cl L[k]
 | [],k,h=>by simp at h
 | r::L,0,_=>by
   have:=hs r
   simp[List.take_append,zQu (Nat.le_of_eq this),this]
 | r::L,k+1,h=>by
   have h1:=hs r
   have h2:((r::L).flatMap cl).drop ((k+1) * s)=(L.flatMap cl).drop (k * s):=by
    rw[zQA,List.drop_append,zQ1 (by rw[Nat.add_mul];omega),zQN,show (k+1) * s - (cl r).length=k * s by rw[Nat.add_mul];omega]
   rw[h2]
   simpa using kz cl s hs L k (by simpa using h)
theorem ie {ρ:Type}(cl:ρ→List SV)(s:Nat)(hs:∀ r,(cl r).length=s):∀ (L:List ρ),(L.flatMap cl).length=L.length * s
 | []=>by simp
 | r::L=>by rw[zQA,List.length_append,hs r,ie cl s hs L,zQ4,Nat.add_mul];omega
theorem db {V:Cx}{f:FuncId}{args:List SV}{bs:List av}{x:SV}(hx:flat x=true)(h:SC V f args bs (fun r b=>r=x∧Kp bs b)):SC V f args bs (fun r b=>r=x∧b=bs):=by
 refine⟨h.1,fun β fp w nD hG hE=>(h.2 β fp w nD hG hE).mono ?_⟩
 rintro e w' ⟨r,bs',β₂,fp₂,⟨rfl,hlen,bc⟩,AH,-,bp,kK,j0,jx⟩
 have old:∀ {i r},bs[i]? = some r→bs'[i]? = some r:=fun {i r} hi=>(bc i (zQq.1 hi).1).trans hi
 refine⟨r,bs,β₂,fp₂,⟨rfl,rfl⟩,AH,zQt _,fun β' hβ=>?_,kK,fun i r' hi=>j0 i r' (old hi),fun i r' hi=>jx i r' (old hi)⟩
 have hc:∀ i,i<bs.length→(if i<bs.length then β' i else β₂ i)=β' i:=fun i hi=>if_pos hi
 have hall2:=bp (fun i=>if i<bs.length then β' i else β₂ i) (fun i _=>by
  by_cases hi:i<bs.length
  ·exact(hβ i hi).trans (hc i hi).symm
  ·exact(if_neg hi).symm)
 have eX:=nD (fun i=>if i<bs.length then β' i else β₂ i) (fun i hi=>((AH i hi).trans (hβ i hi)).trans (hc i hi).symm)
 have rL:=nD β' (fun i hi=>(AH i hi).trans (hβ i hi))
 obtain⟨he,hbx2⟩:=hall2
 refine⟨by rw[he,gV _ hx _ β'],⟨fun i r hi=>?_,fun i r hi=>hbx2.lt i r (old hi),fun i j r r' hi hj=>hbx2.sep i j r r' (old hi) (old hj)⟩⟩
 have h1:=eX.holds i r hi
 have h2:=rL.holds i r hi
 have h3:=hbx2.holds i r (old hi)
 have e:=hc i (zQq.1 hi).1
 simp only[e]at h1 h3
 exact Db h1 h2 h3
theorem nL {V:Cx}{f:FuncId}{args:List SV}{bs:List av}{x:SV}(hen:Vc.Enters V f)(fx:flat x=true)(h:∀ β fp w,Hf β fp w bs→Calls V.P f (a8 β args).toArray w fun e w'=>e=.returned (ak β x)∧Below w.heap.size w w'):SC V f args bs (fun r b=>r=x∧b=bs):=by
 refine⟨hen,fun β fp w nD hG hE=>(h β fp w (nD β (cN.refl _ _))).mono ?_⟩
 rintro e w' ⟨he,hb⟩
 have dL:=nD β (cN.refl _ _)
 refine⟨x,bs,β,fp,⟨rfl,rfl⟩,cN.refl _ _,zQt _,fun β' hβ=>⟨by rw[he,gV x fx β β'],⟨fun i r hi=>((nD β' hβ).holds i r hi).stays (fun k hk=>hb.block k (dL.lt i r hi k hk)),fun i r hi k hk=>Nat.lt_of_lt_of_le (dL.lt i r hi k hk) hb.size,dL.sep⟩⟩,tz.jY hb,fun i r hi hm k hk=>.inr ⟨i,r,hi,hm,hk⟩,fun i r hi k hk=>.inr ⟨i,r,hi,hk⟩⟩
theorem sc_Join {bs:List av}{j:Nat}{L:List Bytes}{m:Bool}(hj:bs[j]? = some (.own (L.map SV.str) 9 1 L.length m))(h0:0<L.length)(hn:L.length≤140737488355328)(sep:Bytes)(hlen:(Lib.join L sep).length≤140737488355328) :
 SC Tryz.V 227 [.o j L.length,.str sep] bs (fun r b=>r=.str (Lib.join L sep)∧b=bs):=by
 refine nL Tryz.call227 (by simp[flat]) (fun β fp w hb=>?_)
 have hh:=hb.holds j _ hj
 rcases hh with⟨-,h,-,-⟩|⟨h1,h2,h3,h4,h5,-,h7⟩
 ·omega
 have e1:(L.map fun l=>(⟨⟨l⟩⟩:ByteArray)).map (fun x=>x.data.toList)=L:=by rw[List.map_map];exact(zQ6 (fun _ _=>rfl)).trans (List.map_id L)
 have hc:=Tryz.strings_Join (β j).fh (β j).off ((β j).cap - 1) (L.map fun l=>(⟨⟨l⟩⟩:ByteArray)) ⟨⟨sep⟩⟩ w (fun i x hi=>by
  have:=h5 i (.string x) (by
   rw[List.getElem?_map]at hi
   obtain⟨l,hl,rfl⟩:=zQ0.1 hi
   simp[hl,ak])
  exact this) (hb.lt j _ hj _ ((h7 _).2 rfl)) (by simpa using hn) (by simpa using h2) (by rw[e1];exact hlen)
 rw[e1,zQW]at hc
 have e2:(a8 β [.o j L.length,.str sep]).toArray=#[.slice (some ⟨(β j).fh,(β j).off,none⟩) L.length ((β j).cap - 1),.string ⟨⟨sep⟩⟩]:=by simp[a8,ak,oV,h1]
 rw[e2]
 exact hc.mono fun e w' h=>by simpa[ak] using h
theorem MP {bs:List av}(sep:Bytes):SC Tryz.V 227 [.aj,.str sep] bs (fun r b=>r=.str []∧b=bs):=by
 refine nL Tryz.call227 (by simp[flat]) (fun β fp w hb=>?_)
 have hc:=Tryz.strings_Join_none none 0 ⟨⟨sep⟩⟩ w
 exact hc.mono fun e w' h=>⟨by simpa[ak] using h.1,cD h.2.symm⟩
theorem MO {bs:List av}{j:Nat}{L:List Bytes}{m:Bool}(hj:bs[j]? = some (.own (L.map SV.str) 9 1 L.length m))(hn:L.length≤140737488355328)(sep:Bytes)(hlen:(Lib.join L sep).length≤140737488355328) :
 SC Tryz.V 227 [.o j L.length,.str sep] bs (fun r b=>r=.str (Lib.join L sep)∧b=bs):=by
 by_cases h0:0<L.length
 ·exact sc_Join hj h0 hn sep hlen
 ·obtain rfl:L=[]:=zQG.1 (by omega)
  refine nL Tryz.call227 (by simp[flat]) (fun β fp w hb=>?_)
  have e2:∃ a c,(a8 β [.o j ([]:List Bytes).length,.str sep]).toArray=#[.slice a 0 c,.string ⟨⟨sep⟩⟩]:=by
   by_cases h:(β j).cap=0
   ·exact⟨none,0,by simp[a8,ak,oV,h]⟩
   ·exact⟨some ⟨(β j).fh,(β j).off,none⟩,(β j).cap - 1,by simp[a8,ak,oV,h]⟩
  obtain⟨a,c,e2⟩:=e2
  rw[e2]
  exact(Tryz.strings_Join_none a c ⟨⟨sep⟩⟩ w).mono fun e w' h=>⟨by simpa[ak,Lib.join] using h.1,cD h.2.symm⟩
end Go.Proofs.YtnmlimehgifadaaGreatDoor
namespace Wf
open Go Go.RowKit
theorem fS (c:UInt8):dh (dh c)=dh c∧xY (dh c)=xY c∧isDigit (dh c)=isDigit c∧(dh c==45)=(c==45)∧(dh c==46)=(c==46)∧(dh c==58)=(c==58)∧(isDigit c=true→dh c=c):=by
 have h:=dz (p:=fun c=>decide (dh (dh c)=dh c∧xY (dh c)=xY c∧isDigit (dh c)=isDigit c∧(dh c==45)=(c==45)∧(dh c==46)=(c==46)∧(dh c==58)=(c==58)∧(isDigit c=true→dh c=c))) (by decide +kernel) c
 exact of_decide_eq_true h
theorem FK (s:Bytes):lower (lower s)=lower s:=by
 unfold lower;rw[List.map_map];apply zQ6;intro c _;exact(fS c).1
theorem fR (s:Bytes):(lower s).length=s.length:=by unfold lower;simp
theorem jR (s:Bytes):(lower s).isEmpty=s.isEmpty:=by unfold lower;cases s <;> rfl
theorem vK {p:UInt8→Bool}(hp:∀ c,p (dh c)=p c)(s:Bytes):(lower s).all p=s.all p:=by
 unfold lower;rw[List.all_map];congr 1;funext c;exact hp c
theorem DH {s:Bytes}(h:s.all isDigit=true):lower s=s:=by
 unfold lower
 rw[zQV]at h
 conv=>rhs;rw[← List.map_id s]
 apply zQ6;intro c hc;exact(fS c).2.2.2.2.2.2 (h c hc)
theorem rX (s:Bytes):bS (lower s)=bS s:=by
 unfold bS
 rw[jR,fR,vK (fun c=>(fS c).2.1)]
 have h1:((lower s).head?==some 45)=(s.head?==some 45):=by
  unfold lower;rw[List.head?_map];cases s.head? with
  | none=>rfl
  | some c=>simpa using(fS c).2.2.2.1
 have h2:((lower s).getLast?==some 45)=(s.getLast?==some 45):=by
  unfold lower;rw[List.getLast?_map];cases s.getLast? with
  | none=>rfl
  | some c=>simpa using(fS c).2.2.2.1
 rw[h1,h2]
theorem qS (s:Bytes):bZ (lower s)=bZ s:=by
 unfold bZ;rw[jR,vK (fun c=>(fS c).2.2.1)]
theorem tF (s:Bytes):aF 46 (lower s)=(aF 46 s).map lower:=by
 induction s with
 | nil=>rfl
 | cons x r ih =>
   have hx:=(fS x).2.2.2.2.1
   rw[show lower (x::r)=dh x::lower r from rfl,aF,aF,hx,ih]
   cases x==46
   ·simp only[Bool.false_eq_true,if_false]
    cases aF 46 r <;> rfl
   ·rfl
theorem xD (m:Nat)(s:Bytes):aS m (lower s)=aS m s:=by
 cases h:s.all isDigit
 ·have hd:bZ s=false:=by unfold bZ;simp[h]
  have hl:(lower s).all isDigit=false:=by rw[vK (fun c=>(fS c).2.2.1),h]
  unfold aS bh
  rw[qS,hd,hl,h,jR]
  simp
 ·rw[DH h]
theorem Bb (s:Bytes):gv (lower s)=gv s:=by unfold gv;rw[xD]
theorem Ip (s:Bytes):ipv4 (lower s)=ipv4 s:=by
 unfold ipv4
 rw[tF,zQW,List.all_map]
 congr 2;funext x;exact Bb x
theorem FI (l:List Bytes):o7 (l.map lower)=o7 l:=by
 induction l with
 | nil=>rfl
 | cons x r ih =>
   cases r with
   | nil=>simp only[List.map,o7,rX,qS]
   | cons y r=>simp only[List.map_cons,o7,rX]at ih ⊢;rw[ih]
theorem DF (s:Bytes):fQ (lower s)=fQ s:=by unfold fQ;rw[tF,FI]
theorem lG {s x:Bytes}(h:ck s=(x,0)):x=lower s∧x.length≤253∧ck x=(x,0):=by
 unfold ck at h
 cases h1:s.isEmpty
 ·rw[h1]at h
  by_cases h2:253<s.length
  ·simp[h2]at h
  ·cases h3:(!ipv4 s&&!fQ s)
   ·simp[h2,h3]at h
    subst h
    refine⟨rfl,by rw[fR];omega,?_⟩
    unfold ck
    rw[jR,fR,Ip,DF,h1,h3,FK]
    simp[h2]
   ·simp[h2,h3]at h
 ·rw[h1]at h;simp at h
theorem KA (s:Bytes):pre (·==58) (lower s)=pre (·==58) s:=by
 induction s with
 | nil=>rfl
 | cons x r ih =>
   rw[show lower (x::r)=dh x::lower r from rfl,cT,cT,ih,(fS x).2.2.2.2.2.1]
theorem Fi (p:UInt8→Bool)(s:Bytes):pre p (s.take (pre p s))=(s.take (pre p s)).length:=by
 induction s with
 | nil=>rfl
 | cons x r ih =>
   rw[cT]
   cases hx:p x
   ·simp[cT,hx]
    have:=ih;simp at this;omega
   ·rfl
theorem O3 (c:UInt8)(s:Bytes):pre (·==c) (aN c s).1=(aN c s).1.length:=by
 unfold aN
 by_cases h:pre (·==c) s<s.length
 ·rw[if_pos h];exact Fi _ s
 ·rw[if_neg h];have:=cV (·==c) s;show pre (·==c) s=s.length;omega
theorem gn {c:UInt8}{s:Bytes}(h:pre (·==c) s=s.length):aN c s=(s,[],false):=by
 unfold aN;rw[if_neg (by omega)]
theorem Dk {p:UInt8→Bool}{x:Bytes}(h:pre p x=x.length)(c:UInt8)(r:Bytes)(hc:p c=true):pre p (x++c::r)=x.length:=by
 induction x with
 | nil=>simp[cT,hc]
 | cons y x ih =>
   rw[cT]at h
   cases hy:p y
   ·rw[hy]at h;simp at h
    simp[cT,hy,ih h]
   ·rw[hy]at h;simp at h
theorem iQ {c:UInt8}{x:Bytes}(h:pre (·==c) x=x.length)(r:Bytes):aN c (x++c::r)=(x,r,true):=by
 unfold aN
 rw[Dk h c r (by simp),if_pos (by simp)]
 simp
theorem zT {n:Nat}(h:n<10):di (qV n)=n∧isDigit (qV n)=true∧(qV n=48→n=0):=by
 have h:=(by decide +kernel:∀ n,n<10→di (qV n)=n∧isDigit (qV n)=true∧(qV n=48→n=0)) n h
 exact h
theorem KL {b m:Nat}(r:Bytes):∀ (l:Bytes){a v:Nat},dY b m a l=(v,0)→dY b m a (l++r)=dY b m v r:=by
 intro l
 induction l with
 | nil=>intro a v h;simp[dY]at h;rw[h];rfl
 | cons c l ih =>
   intro a v h
   rw[dY]at h
   rw[zQz,dY]
   by_cases hm:m<a * b+di c
   ·rw[if_pos hm]at h;simp at h
   ·rw[if_neg hm]at h
    rw[if_neg hm]
    exact ih h
theorem Cy (m:Nat):∀ (k n:Nat),n≤k→n≤m→dY 10 m 0 (bW n)=(n,0)∧(bW n).all isDigit=true∧(0<n→(bW n).head? ≠ some 48):=by
 intro k
 induction k with
 | zero =>
   intro n h _
   obtain rfl:n=0:=by omega
   rw[fm (by omega)]
   exact⟨by simp[dY,qV,di],by decide,fun h=>by omega⟩
 | succ k ih =>
   intro n h hm
   by_cases hn:n<10
   ·rw[fm hn]
    obtain⟨h1,h2,h3⟩:=zT hn
    refine⟨?_,by simp[h2],?_⟩
    ·rw[dY,h1,if_neg (by omega),dY];simp
    ·intro h0 he;simp at he;exact absurd (h3 he) (by omega)
   ·rw[jm hn]
    obtain⟨h1,h2,h3⟩:=ih (n / 10) (by omega) (by omega)
    obtain⟨g1,g2,g3⟩:=zT (show n % 10<10 by omega)
    refine⟨?_,by rw[List.all_append,h2];simp[g2],?_⟩
    ·rw[KL _ _ h1,dY,g1,if_neg (by omega),dY]
     congr 1;omega
    ·intro _
     have:=Al (n / 10)
     rw[List.head?_append]
     have h3:=h3 (by omega)
     cases hd:(bW (n / 10)).head? with
     | none=>rw[List.head?_eq_none_iff]at hd;rw[hd]at this;simp at this
     | some c=>rw[hd]at h3;simpa using h3
theorem KB {n:Nat}(h0:0<n)(h:n≤65535):ks (bW n)=((n:Int),0):=by
 obtain⟨h1,h2,h3⟩:=Cy 65535 n n (by omega) h
 have hp:=Al n
 have bK:(bW n).isEmpty=false:=by cases hd:bW n <;> simp[hd]at hp ⊢
 have hs:aS 65535 (bW n)=(n,0):=by
  unfold aS bh
  rw[if_neg (fun hh=>h3 h0 hh.2.2),bK,h2,h1]
  rfl
 unfold ks
 rw[hs]
 have:¬ n=0:=by omega
 simp[this]
theorem M5 {s:Bytes}{p:Int}(h:ks s=(p,0)):0<p∧p≤65535:=by
 have hle:=kE 65535 s
 unfold ks at h
 split at h
 ·simp at h
 ·rename_i hc
  simp at h
  subst h
  omega
theorem cR {s x:Bytes}{p:Int}(h:aK s=((x,p),0)):aK (bt x p)=((x,p),0)∧ck x=(x,0)∧p≠443∧x.length≤253∧0≤p∧p≤65535:=by
 have hf:=O3 58 s
 unfold aK at h
 generalize aN 58 s=C at hf h
 obtain⟨first,rest,colon⟩:=C
 simp only at hf h
 generalize hH:ck first=H at h
 obtain⟨y,e⟩:=H
 by_cases he:e=0
 ·subst he
  obtain⟨hy,hlen,kx⟩:=lG hH
  have hpy:pre (·==58) y=y.length:=by rw[hy,KA,fR];exact hf
  have plain:aK (bt y 0)=((y,0),0):=by
   unfold bt aK
   rw[if_pos rfl,gn hpy,kx];rfl
  cases colon
  ·unfold cY at h
   simp at h
   obtain⟨rfl,rfl⟩:=h
   exact⟨plain,kx,by omega,hlen,by omega,by omega⟩
  ·generalize hP:ks rest=P at h
   obtain⟨q,f⟩:=P
   unfold cY at h
   by_cases Bo:f=0
   ·subst Bo
    simp at h
    obtain⟨rfl,h⟩:=h
    obtain⟨q0,q1⟩:=M5 hP
    by_cases pS:q=443
    ·rw[if_pos pS]at h
     subst h
     exact⟨plain,kx,by omega,hlen,by omega,by omega⟩
    ·rw[if_neg pS]at h
     subst h
     refine⟨?_,kx,pS,hlen,by omega,q1⟩
     obtain⟨n,rfl⟩:∃ n:Nat,q=n:=⟨q.toNat,by omega⟩
     unfold bt aK
     rw[if_neg (by omega),if_neg (by omega)]
     have e:y++[58]++bW (n:Int).natAbs=y++58::bW n:=by simp
     rw[e,iQ hpy]
     simp only[kx,KB (show 0<n by omega) (show n≤65535 by omega)]
     unfold cY
     simp[pS]
   ·simp[Bo]at h
 ·unfold cY at h
  simp[he]at h
open Go Go.RowKit
theorem uncut (c:UInt8)(s:Bytes):s=(aN c s).1++(if (aN c s).2.2 then [c]++(aN c s).2.1 else []):=by
 unfold aN
 split
 ·rename_i h
  have h2:=iC (p:=(·==c)) h
  simp only[if_true]
  have:s.drop (pre (·==c) s)=c::s.drop (pre (·==c) s+1):=by
   rw[zQv h]
   simp only[beq_iff_eq]at h2
   rw[h2]
  rw[zQR,← this,zQS]
 ·simp
theorem EB (c:UInt8)(s:Bytes)(h:(aN c s).2.2=false):(aN c s).2.1=[]:=by
 unfold aN at h ⊢
 split
 ·rename_i h2;rw[if_pos h2]at h;simp at h
 ·rfl
def gX (l:List Bytes):Bytes:=l.flatMap (47::·)
def oO (s:Bytes):Prop:=(47:UInt8) ∉ s∧s≠[46]∧s≠[46,46]
theorem oa (x:Bytes)(l:List Bytes):gX (x::l)=47::(x++gX l):=rfl
theorem G2 (l:List Bytes)(x:Bytes):gX (l++[x])=gX l++47::x:=by
 unfold gX;simp
theorem LW (l:List Bytes):gX l=[]∨∃ r,gX l=47::r:=by
 cases l with
 | nil=>exact .inl rfl
 | cons x l=>exact .inr ⟨_,rfl⟩
theorem mB {x:Bytes}(h:(47:UInt8) ∉ x)(l:List Bytes):pre (·==47) (x++gX l)=x.length:=by
 induction x with
 | nil =>
   rcases LW l with e|⟨r,e⟩
   ·simp[e,pre_nil]
   ·simp[e,cT]
 | cons c x ih =>
   simp only[zQP,not_or]at h
   rw[zQz,cT,if_neg (by simp;exact fun e=>h.1 e.symm),ih h.2]
   rfl
theorem EO (l:List Bytes)(x:Bytes)(h:(47:UInt8) ∉ x):dZ (gX (l++[x]))=gX l:=by
 rw[G2]
 unfold dZ
 rw[List.reverse_append,List.reverse_cons,List.append_assoc]
 have:(x.reverse++([47]++(gX l).reverse)).dropWhile (· != 47)=[47]++(gX l).reverse:=by
  rw[List.dropWhile_append_of_pos]
  ·simp
  ·intro c hc
   simp only[List.mem_reverse]at hc
   simp
   rintro rfl
   exact h hc
 rw[this]
 simp
theorem IX:∀ (f:Nat)(p:Bytes)(l:List Bytes),p.length≤f→(p=[]∨∃ r,p=47::r)→(p=[]→l≠[])→(∀ x∈l,oO x)→∃ l',fH f p (gX l)=gX l'∧l'≠[]∧∀ x∈l',oO x:=by
 intro f
 induction f with
 | zero =>
   intro p l hp _ hn hg
   have:p=[]:=zQG.1 (by omega)
   exact⟨l,rfl,hn this,hg⟩
 | succ f ih =>
   intro p l hp hs hn hg
   rw[fH]
   rcases hs with rfl|⟨r,rfl⟩
   ·exact⟨l,by rw[if_pos rfl],hn rfl,hg⟩
   ·rw[if_neg (by simp)]
    have hsh:∃ l2,dZ (gX l)=gX l2∧∀ x∈l2,oO x:=by
     rcases List.eq_nil_or_concat l with rfl|⟨l2,x,rfl⟩
     ·exact⟨[],rfl,by simp⟩
     ·refine⟨l2,?_,fun y hy=>hg y (by simp[hy])⟩
      have:=hg x (by simp)
      simpa using EO l2 x this.1
    obtain⟨l2,kJ,Em⟩:=hsh
    unfold dv
    rw[if_neg (by simp[zQZ]),if_neg (by simp[zQZ])]
    by_cases c1:[47,46,47].isPrefixOf (47::r)
    ·rw[if_pos c1]
     obtain⟨q,hq⟩:=zQx.1 c1
     simp only[zQz,zQN,zQD.injEq,true_and]at hq
     subst hq
     exact ih _ l (by simp at hp ⊢;omega) (.inr ⟨q,rfl⟩) (by simp) hg
    rw[if_neg c1]
    by_cases c2:(47::r)=[47,46]
    ·rw[if_pos c2]
     rw[c2]at hp
     exact ih _ l (by simp at hp ⊢;omega) (.inr ⟨[],rfl⟩) (by simp) hg
    rw[if_neg c2]
    by_cases c3:[47,46,46,47].isPrefixOf (47::r)
    ·rw[if_pos c3]
     obtain⟨q,hq⟩:=zQx.1 c3
     simp only[zQz,zQN,zQD.injEq,true_and]at hq
     subst hq
     simp only[kJ]
     exact ih _ l2 (by simp at hp ⊢;omega) (.inr ⟨q,rfl⟩) (by simp) Em
    rw[if_neg c3]
    by_cases c4:(47::r)=[47,46,46]
    ·rw[if_pos c4]
     rw[c4]at hp
     simp only[kJ]
     exact ih _ l2 (by simp at hp ⊢;omega) (.inr ⟨[],rfl⟩) (by simp) Em
    rw[if_neg c4,if_neg (by simp)]
    simp only[List.drop_succ_cons,List.drop_zero]
    have ND:oO (r.take (pre (·==47) r)):=by
     refine⟨fun hm=>?_,fun e=>?_,fun e=>?_⟩
     ·obtain⟨k,hk,bJ⟩:=List.getElem_of_mem hm
      rw[zQ5]at hk
      have:=jc (p:=(·==47)) (l:=r) (k:=k) (by omega) (by omega)
      rw[List.getElem_take]at bJ
      simp[bJ]at this
     ·have K4:=congrArg List.length e
      simp only[zQ5,zQ4,List.length_nil]at K4
      have hr:=zQS (pre (·==47) r) r
      rw[e]at hr
      cases hd:r.drop (pre (·==47) r) with
      | nil=>rw[hd]at hr;exact c2 (by rw[← hr];rfl)
      | cons y t =>
        have aA:pre (·==47) r<r.length:=by
         apply Nat.lt_of_not_le;intro h;rw[zQ1 h]at hd;cases hd
        have:=iC (p:=(·==47)) aA
        rw[zQv aA]at hd
        simp only[zQD.injEq]at hd
        rw[hd.1]at this
        simp only[beq_iff_eq]at this
        subst this
        rw[zQv aA,hd.1]at hr
        exact c1 (by rw[← hr];simp[zQZ])
     ·have K4:=congrArg List.length e
      simp only[zQ5,zQ4,List.length_nil]at K4
      have hr:=zQS (pre (·==47) r) r
      rw[e]at hr
      cases hd:r.drop (pre (·==47) r) with
      | nil=>rw[hd]at hr;exact c4 (by rw[← hr];rfl)
      | cons y t =>
        have aA:pre (·==47) r<r.length:=by
         apply Nat.lt_of_not_le;intro h;rw[zQ1 h]at hd;cases hd
        have:=iC (p:=(·==47)) aA
        rw[zQv aA]at hd
        simp only[zQD.injEq]at hd
        rw[hd.1]at this
        simp only[beq_iff_eq]at this
        subst this
        rw[zQv aA,hd.1]at hr
        exact c3 (by rw[← hr];simp[zQZ])
    have e1:(47::r).drop (1+pre (·==47) r)=r.drop (pre (·==47) r):=by rw[Nat.add_comm];rfl
    have e2:(47::r).take (1+pre (·==47) r)=47::r.take (pre (·==47) r):=by rw[Nat.add_comm];rfl
    rw[e1,e2,← G2]
    refine ih _ _ (by simp at hp ⊢;omega) ?_ (by simp) (fun x hx=>?_)
    ·by_cases aA:pre (·==47) r<r.length
     ·right
      have:=iC (p:=(·==47)) aA
      simp only[beq_iff_eq]at this
      exact⟨_,by rw[zQv aA,this]⟩
     ·left
      exact zQ1 (by omega)
    ·simp only[zQC,zQF]at hx
     rcases hx with hx|rfl
     ·exact hg x hx
     ·exact ND
theorem qq (r:Bytes):∃ l,aM (47::r)=gX l∧l≠[]∧∀ x∈l,oO x :=
 IX _ _ [] (zQt _) (.inr ⟨r,rfl⟩) (by simp) (by simp)
theorem qR:∀ (l:List Bytes)(f:Nat)(out:Bytes),(gX l).length≤f→(∀ x∈l,oO x)→fH f (gX l) out=out++gX l
 | [],f,out,_,_=>by cases f <;> simp[gX,fH]
 | x::l,f,out,hf,hg=>by
   rw[oa]at hf ⊢
   obtain⟨f,rfl⟩:∃ k,f=k+1:=⟨f - 1,by simp at hf;omega⟩
   rw[fH,if_neg (by simp)]
   obtain⟨h1,h2,h3⟩:=hg x (by simp)
   have fj:=mB h1 l
   have seg:∀ (y:Bytes),(47:UInt8) ∉ y→y≠x→¬ (47::(y++[47])).isPrefixOf (47::(x++gX l))=true:=fun y hy bK hp=>by
    obtain⟨q,hq⟩:=zQx.1 hp
    simp only[zQz,List.append_assoc,zQD.injEq,true_and]at hq
    have hpy:=mB hy [q]
    have e:y++gX [q]=x++gX l:=by rw[← hq];simp[gX]
    rw[e,fj]at hpy
    have:=List.append_inj_left e hpy.symm
    exact bK this
   have seg2:∀ (y:Bytes),(47:UInt8) ∉ y→y≠x→(47::(x++gX l))≠47::y:=fun y hy bK he=>by
    simp only[zQD.injEq,true_and]at he
    have hpy:pre (·==47) y=y.length:=by simpa[gX] using mB hy []
    rw[← he,fj,List.length_append]at hpy
    have h0:gX l=[]:=zQG.1 (by omega)
    rw[h0,zQO]at he
    exact bK he.symm
   have hd:dv (47::(x++gX l)) out=(gX l,out++47::x):=by
    unfold dv
    rw[if_neg (by simp[zQZ]),if_neg (by simp[zQZ]),if_neg (show ¬ ([47,46,47]:Bytes).isPrefixOf _=true from seg [46] (by decide) (fun e=>h2 e.symm)),if_neg (seg2 [46] (by decide) (fun e=>h2 e.symm)),if_neg (show ¬ ([47,46,46,47]:Bytes).isPrefixOf _=true from seg [46,46] (by decide) (fun e=>h3 e.symm)),if_neg (seg2 [46,46] (by decide) (fun e=>h3 e.symm)),if_neg (by simp)]
    simp only[List.drop_succ_cons,List.drop_zero,fj]
    rw[Nat.add_comm]
    simp
   rw[hd]
   rw[qR l f _ (by simp at hf;omega) (fun y hy=>hg y (by simp[hy]))]
   simp
theorem vz (r:Bytes):aM (aM (47::r))=aM (47::r):=by
 obtain⟨l,h1,h2,h3⟩:=qq r
 rw[h1]
 unfold aM
 rw[qR l _ _ (zQt _) h3]
 rfl
theorem yw:∀ (l:List Bytes),l≠[]→(∀ x∈l,(47:UInt8) ∉ x)→aF 47 (gX l)=[]::l
 | [],h,_=>absurd rfl h
 | x::l,_,hg=>by
   rw[oa]
   have hx:=hg x (by simp)
   rw[aF,if_pos (by simp)]
   congr 1
   have fj:=mB hx l
   cases l with
   | nil =>
     simp only[gX,List.flatMap_nil,zQO]at fj ⊢
     rw[dm (by omega)]
   | cons y l =>
     rw[dH (by rw[fj];simp[oa]),fj]
     have ih:=yw (y::l) (by simp) (fun z hz=>hg z (by simp[hz]))
     rw[oa,aF,if_pos (by simp)]at ih
     simp only[zQD.injEq,true_and]at ih
     rw[oa]
     simp[ih]
theorem Ar (r:Bytes):(∃ q,aM (47::r)=47::q)∧∀ x∈aF 47 (aM (47::r)),x≠[46]∧x≠[46,46]:=by
 obtain⟨l,h1,h2,h3⟩:=qq r
 rw[h1]
 constructor
 ·cases l with
  | nil=>exact absurd rfl h2
  | cons x l=>exact⟨_,rfl⟩
 ·rw[yw l h2 (fun x hx=>(h3 x hx).1)]
  intro x hx
  simp only[zQP]at hx
  rcases hx with rfl|hx
  ·simp
  ·exact(h3 x hx).2
open Go Go.RowKit
def Can (also s:Bytes):Prop:=∃ l:List PU,s=l.flatMap PU.str∧∀ x∈l,O5 also x
theorem jV (also:Bytes):Can also []:=⟨[],rfl,by simp⟩
theorem oX {also a b:Bytes}(ha:Can also a)(hb:Can also b):Can also (a++b):=by
 obtain⟨l,rfl,h1⟩:=ha
 obtain⟨m,rfl,h2⟩:=hb
 exact⟨l++m,by simp,fun x hx=>by
  rcases zQC.1 hx with h|h
  ·exact h1 x h
  ·exact h2 x h⟩
theorem uP {also:Bytes}{c:UInt8}(h:fw also c=true)(hc:c≠37):Can also [c]:=⟨[.lit c],rfl,fun x hx=>by
 obtain rfl:=zQF.1 hx;exact⟨h,hc⟩⟩
theorem can_esc (also:Bytes){c:UInt8}(h:ia c=false):Can also (nw c):=⟨[.hex (jt (c.toNat / 16)) (jt (c.toNat % 16))],rfl,fun x hx=>by
 obtain rfl:=zQF.1 hx
 have hn:=c.toNat_lt
 have hv:=kV c
 exact⟨by rw[hv];exact h,by rw[hv],by rw[hv],iq _ (by omega),iq _ (by omega)⟩⟩
theorem GR {also:Bytes}{c:UInt8}{r:Bytes}(hc:c≠37)(h:Can also (c::r)):fw also c=true∧Can also r:=by
 obtain⟨l,e,h1⟩:=h
 cases l with
 | nil=>simp at e
 | cons x l =>
   have hx:=h1 x zQB
   rw[zQA]at e
   cases x with
   | lit d =>
     simp only[PU.str,zQR,zQD.injEq]at e
     obtain⟨rfl,rfl⟩:=e
     exact⟨hx.1,l,rfl,fun y hy=>h1 y (zQL _ hy)⟩
   | hex a b =>
     simp only[PU.str,zQz,zQN,zQD.injEq]at e
     exact absurd e.1 hc
   | bad=>exact hx.elim
theorem wm {also:Bytes}{c:UInt8}(hc:c≠37)(hx:bm c=false):∀ (l:List PU)(a b:Bytes),(∀ x∈l,O5 also x)→a++c::b=l.flatMap PU.str→Can also a∧Can also (c::b)
 | [],a,b,_,e=>by simp at e
 | .lit d::l,[],b,h,e=>⟨jV _,_,e,h⟩
 | .lit d::l,y::a,b,h,e=>by
   rw[zQA]at e
   simp only[PU.str,zQR,zQz,zQD.injEq]at e
   obtain⟨rfl,e⟩:=e
   obtain⟨h1,h2⟩:=wm hc hx l a b (fun y hy=>h y (zQL _ hy)) e
   have hy:=h _ zQB
   exact⟨oX (a:=[y]) (uP hy.1 hy.2) h1,h2⟩
 | .hex u v::l,[],b,h,e=>by
   rw[zQA]at e
   simp only[PU.str,zQN,zQz,zQD.injEq]at e
   exact absurd e.1 hc
 | .hex u v::l,[x],b,h,e=>by
   rw[zQA]at e
   simp only[PU.str,zQN,zQz,zQD.injEq]at e
   have:=(h _ zQB).2.2.2.1
   rw[← e.2.1,hx]at this;cases this
 | .hex u v::l,[x,y],b,h,e=>by
   rw[zQA]at e
   simp only[PU.str,zQN,zQz,zQD.injEq]at e
   have:=(h _ zQB).2.2.2.2
   rw[← e.2.2.1,hx]at this;cases this
 | .hex u v::l,x::y::z::a,b,h,e=>by
   rw[zQA]at e
   simp only[PU.str,zQN,zQz,zQD.injEq]at e
   obtain⟨rfl,rfl,rfl,e⟩:=e
   obtain⟨h1,h2⟩:=wm hc hx l a b (fun y hy=>h y (zQL _ hy)) e
   refine⟨oX (a:=[37,y,z]) ⟨[.hex y z],rfl,fun x hx=>?_⟩ h1,h2⟩
   obtain rfl:=zQF.1 hx
   exact h _ zQB
 | .bad::l,a,b,h,e=>(h _ zQB).elim
theorem Can.split {also a b:Bytes}{c:UInt8}(hc:c≠37)(hx:bm c=false)(h:Can also (a++c::b)):Can also a∧Can also (c::b):=by
 obtain⟨l,e,h1⟩:=h
 exact wm hc hx l a b h1 e
theorem wo {also s:Bytes}(h:Can also s):∀ c∈s,fw also c=true∨c=37∨bm c=true:=by
 obtain⟨l,rfl,h1⟩:=h
 intro c hc
 obtain⟨x,hx,hcx⟩:=List.mem_flatMap.1 hc
 have hk:=h1 x hx
 cases x with
 | lit d =>
   obtain rfl:=zQF.1 hcx
   exact .inl hk.1
 | hex a b =>
   simp only[PU.str,zQP,List.not_mem_nil,or_false]at hcx
   rcases hcx with rfl|rfl|rfl
   ·exact .inr (.inl rfl)
   ·exact .inr (.inr hk.2.2.2.1)
   ·exact .inr (.inr hk.2.2.2.2)
 | bad=>exact hk.elim
theorem uQ {also s:Bytes}(h:Can also s)(hl:s.length≤16384):bI also s=(s,0):=by
 obtain⟨l,rfl,h1⟩:=h
 unfold bI
 rw[if_neg (by omega),rf also l h1,vJ also l h1]
theorem uv {also s:Bytes}(h:(bI also s).2=0):Can also (bI also s).1:=by
 unfold bI at h ⊢
 split at h
 ·simp at h
 ·rename_i hs
  rw[if_neg hs]
  obtain⟨l',e,h1,-,-⟩:=qB also (aJ s) (wC s) h
  exact⟨l',e,h1⟩
theorem can_cut {also s:Bytes}(n:Nat)(hd:s.drop n=[]∨∃ r,s.drop n=47::r)(h:Can also s):Can also (s.take n)∧Can also (s.drop n):=by
 rcases hd with hd|⟨r,hd⟩
 ·rw[hd]
  have e:s.take n=s:=zQu (by simpa using hd)
  rw[e];exact⟨h,jV _⟩
 ·rw[hd]
  have e:s=s.take n++47::r:=by rw[← hd,zQS]
  rw[e]at h
  exact h.split (by decide) (by decide)
theorem GD (s:Bytes):s.drop (pre (·==47) s)=[]∨∃ r,s.drop (pre (·==47) s)=47::r:=by
 by_cases h:pre (·==47) s<s.length
 ·right
  have:=iC h
  simp only[beq_iff_eq]at this
  exact⟨s.drop (pre (·==47) s+1),by rw[zQv h,this]⟩
 ·left;simp;omega
theorem AL (s:Bytes):dZ s=[]∨∃ r,s=dZ s++47::r:=by
 unfold dZ
 have key:∀ t:Bytes,t.dropWhile (· != 47)=[]∨∃ a b,t=a++47::b∧t.dropWhile (· != 47)=47::b:=by
  intro t
  induction t with
  | nil=>left;rfl
  | cons x t ih =>
    by_cases hx:x=47
    ·subst hx
     right;exact⟨[],t,rfl,by simp⟩
    ·rw[List.dropWhile_cons_of_pos (by simp[hx])]
     rcases ih with ih|⟨a,b,h1,h2⟩
     ·left;exact ih
     ·right;exact⟨x::a,b,by rw[h1];rfl,h2⟩
 rcases key s.reverse with h|⟨a,b,h1,h2⟩
 ·left;rw[h];rfl
 ·right
  rw[h2]
  refine⟨a.reverse,?_⟩
  have:=congrArg List.reverse h1
  rw[List.reverse_reverse]at this
  rw[this];simp
theorem xr {also s:Bytes}(h:Can also s):Can also (dZ s):=by
 rcases AL s with e|⟨r,e⟩
 ·rw[e];exact jV _
 ·rw[e]at h;exact(h.split (by decide) (by decide)).1
theorem GU {also p o:Bytes}(r9:fw also 47=true)(hp:Can also p)(ho:Can also o):Can also (dv p o).1∧Can also (dv p o).2:=by
 have c47:Can also [47]:=uP r9 (by decide)
 have drop1:∀ {c:UInt8} {r:Bytes},c≠37→Can also (c::r)→Can also r:=fun hc h=>(GR hc h).2
 unfold dv
 split
 ·rename_i h
  obtain⟨r,rfl⟩:=zQx.1 h
  exact⟨drop1 (by decide) (drop1 (by decide) (drop1 (by decide) hp)),ho⟩
 split
 ·rename_i h
  obtain⟨r,rfl⟩:=zQx.1 h
  exact⟨drop1 (by decide) (drop1 (by decide) hp),ho⟩
 split
 ·rename_i h
  obtain⟨r,rfl⟩:=zQx.1 h
  exact⟨drop1 (by decide) (drop1 (by decide) hp),ho⟩
 split
 ·exact⟨c47,ho⟩
 split
 ·rename_i h
  obtain⟨r,rfl⟩:=zQx.1 h
  exact⟨drop1 (by decide) (drop1 (by decide) (drop1 (by decide) hp)),xr ho⟩
 split
 ·exact⟨c47,xr ho⟩
 split
 ·exact⟨jV _,ho⟩
 ·have hd:p.drop (1+pre (·==47) (p.drop 1))=[]∨∃ r,p.drop (1+pre (·==47) (p.drop 1))=47::r:=by
   rw[← List.drop_drop];exact GD _
  obtain⟨h1,h2⟩:=can_cut _ hd hp
  exact⟨h2,oX ho h1⟩
theorem At {also:Bytes}(r9:fw also 47=true):∀ (f:Nat)(p o:Bytes),Can also p→Can also o→Can also (fH f p o)
 | 0,_,_,_,ho=>ho
 | f+1,p,o,hp,ho=>by
   rw[fH]
   split
   ·exact ho
   ·obtain⟨h1,h2⟩:=GU r9 hp ho
    exact At r9 f _ _ h1 h2
theorem As {also p:Bytes}(r9:fw also 47=true)(hp:Can also p):Can also (aM p):=At r9 _ _ _ hp (jV _)
theorem zk (d:UInt8):∀ (n:Nat)(s:Bytes),s.length≤n→∀ c∈s,c=d∨∃ x∈aF d s,c∈x
 | 0,s,h,c,hc=>by
   obtain rfl:=zQG.1 (Nat.le_zero.1 h)
   simp at hc
 | n+1,s,h,c,hc=>by
   by_cases hp:pre (·==d) s<s.length
   ·rw[dH hp]
    have e:s=s.take (pre (·==d) s)++d::s.drop (pre (·==d) s+1):=by
     have:=iC hp
     simp only[beq_iff_eq]at this
     conv=>lhs;rw[← zQS (pre (·==d) s) s,zQv hp,this]
    rw[e]at hc
    rcases zQC.1 hc with h1|h1
    ·exact .inr ⟨_,zQB,h1⟩
    ·rcases zQP.1 h1 with h2|h2
     ·exact .inl h2
     ·rcases zk d n _ (by simp;omega) c h2 with h3|⟨x,h3,h4⟩
      ·exact .inl h3
      ·exact .inr ⟨x,zQL _ h3,h4⟩
   ·rw[dm hp]
    exact .inr ⟨s,zQF.2 rfl,hc⟩
theorem DE {s:Bytes}(h:gv s=true):s.all isDigit=true:=by
 unfold gv aS at h
 split at h
 ·simp at h
 ·have:=(nN 255 s).1 (.inl (by simpa using h))
  unfold bZ at this
  simp only[zQE]at this
  exact this.2
theorem B0:∀ (l:List Bytes),o7 l=true→∀ x∈l,bS x=true
 | [],_,x,h=>by simp at h
 | [y],h,x,hx=>by
   simp only[o7,zQE]at h
   obtain rfl:=zQF.1 hx
   exact h.1
 | y::z::r,h,x,hx=>by
   simp only[o7,zQE]at h
   rcases zQP.1 hx with rfl|hx
   ·exact h.1
   ·exact B0 (z::r) h.2 x hx
theorem mN {s x:Bytes}(h:ck s=(x,0)):∀ c∈x,xY c=true∨c=46:=by
 have hx:=(lG h).2.2
 clear h
 unfold ck at hx
 split at hx
 ·simp at hx
 split at hx
 ·simp at hx
 split at hx
 ·simp at hx
 ·rename_i h3
  intro c hc
  rcases zk 46 _ x (zQt _) c hc with h4|⟨y,h4,h5⟩
  ·exact .inr h4
  ·left
   cases hi:ipv4 x
   ·have hn:fQ x=true:=by simpa[hi] using h3
    have:=B0 _ hn y h4
    unfold bS at this
    simp only[zQE]at this
    exact zQV.1 this.2 c h5
   ·unfold ipv4 at hi
    simp only[zQE]at hi
    have:=DE (zQV.1 hi.2 y h4)
    have:=zQV.1 this c h5
    unfold xY;rw[this];simp
theorem xp (n:Nat):∀ c∈bW n,isDigit c=true:=fun c hc=>zQV.1 ((Cy n n n (zQt _) (zQt _)).2.1) c hc
theorem zO {s x:Bytes}{p:Int}(h:aK s=((x,p),0)):∀ c∈bt x p,xY c=true∨c=46∨c=58:=by
 obtain⟨-,h1,-,-,h2,-⟩:=cR h
 have hb:=mN h1
 unfold bt
 split
 ·intro c hc;exact(hb c hc).imp id .inl
 split
 ·omega
 ·intro c hc
  rcases zQC.1 hc with hc|hc
  ·rcases zQC.1 hc with hc|hc
   ·exact(hb c hc).imp id .inl
   ·exact .inr (.inr (zQF.1 hc))
  ·left;unfold xY;rw[xp _ c hc];simp
theorem fb {c:UInt8}{l:Bytes}(h:c ∉ l):pre (·==c) l=l.length:=by
 induction l with
 | nil=>rfl
 | cons x l ih =>
   simp only[zQP,not_or]at h
   rw[cT,if_neg (by simpa using fun e=>h.1 e.symm),ih h.2];rfl
open Go Go.RowKit
theorem HO (u:Uri)(h1:u.scheme=dT)(h2:u.bR=true)(h3:u.aT=true)(ha:∀ c∈u.authority,c≠47∧c≠63∧c≠35)(hp:∃ r,u.path=47::r)(hpb:∀ c∈u.path,c≠63∧c≠35)(hq:(35:UInt8) ∉ u.query)(hq0:u.aD=false→u.query=[])(Bo:u.aP=false→u.fragment=[])(hl:(eZ u).length≤16384) :
 aL (eZ u)=(u,0):=by
 obtain⟨sc,au,pa,qu,fr,b1,b2,b3,b4⟩:=u
 simp only at h1 h2 h3 ha hp hpb hq hq0 Bo
 subst h1 h2 h3
 have c1:aN 35 (eZ ⟨dT,au,pa,qu,fr,true,true,b3,b4⟩)=(dT++[58]++([47,47]++au)++pa++(if b3 then [63]++qu else []),fr,b4):=by
  have hn:(35:UInt8) ∉ dT++[58]++([47,47]++au)++pa++(if b3 then [63]++qu else []):=by
   simp only[zQC,not_or]
   refine⟨⟨⟨⟨by decide,by decide⟩,by decide,fun h=>(ha _ h).2.2 rfl⟩,fun h=>(hpb _ h).2 rfl⟩,?_⟩
   split
   ·simp only[zQC,not_or];exact⟨by decide,hq⟩
   ·simp
  cases b4
  ·have:eZ ⟨dT,au,pa,qu,fr,true,true,b3,false⟩=dT++[58]++([47,47]++au)++pa++(if b3 then [63]++qu else []):=by simp[eZ]
   rw[this,gn (fb hn),Bo rfl]
  ·have:eZ ⟨dT,au,pa,qu,fr,true,true,b3,true⟩=(dT++[58]++([47,47]++au)++pa++(if b3 then [63]++qu else []))++35::fr:=by simp[eZ]
   rw[this,iQ (fb hn)]
 have c2:aN 63 (dT++[58]++([47,47]++au)++pa++(if b3 then [63]++qu else []))=(dT++[58]++([47,47]++au)++pa,qu,b3):=by
  have hn:(63:UInt8) ∉ dT++[58]++([47,47]++au)++pa:=by
   simp only[zQC,not_or]
   exact⟨⟨⟨by decide,by decide⟩,by decide,fun h=>(ha _ h).2.1 rfl⟩,fun h=>(hpb _ h).1 rfl⟩
  cases b3
  ·rw[if_neg (by simp),zQO,gn (fb hn),hq0 rfl]
  ·rw[if_pos rfl,zQR,iQ (fb hn)]
 unfold aL
 rw[if_neg (by omega),c1]
 simp only
 rw[c2]
 simp only
 obtain⟨r,rfl⟩:=hp
 have e:dT++[58]++([47,47]++au)++47::r=104::116::116::112::115::58::47::47::(au++47::r):=by simp[dT]
 have p5:pre ay (104::116::116::112::115::58::47::47::(au++47::r))=5:=by
  simp only[cT]
  rw[if_neg (by decide),if_neg (by decide),if_neg (by decide),if_neg (by decide),if_neg (by decide),if_pos (by decide)]
 have pa:pre (·==47) (au++47::r)=au.length:=Dk (fb (fun h=>(ha _ h).1 rfl)) 47 r (by decide)
 rw[e]
 unfold aR
 rw[p5]
 simp only[List.drop_succ_cons,List.drop_zero,List.take_succ_cons,List.take_zero,List.head?_cons,if_true,aG,pa,List.take_left,List.drop_left]
 rw[if_pos (by decide)]
 rfl
def yj (u:bM):Uri:=⟨dT,bt u.host u.port,u.path,u.query,u.fragment,true,true,u.aD,u.aP⟩
theorem tB (u:bM):aX u=eZ (yj u):=by
 unfold aX eZ yj bT
 cases u.aD <;> simp[dT]
structure fJ (u:bM):Prop where
 host:aK (bt u.host u.port)=((u.host,u.port),0)
 path:Can dI u.path
 EM:∃ r,u.path=47::r
 dots:aM u.path=u.path
 query:Can du u.query
 frag:Can du u.fragment
 noq:u.aD=false→u.query=[]
 nof:u.aP=false→u.fragment=[]
 len:(aX u).length≤4096
theorem JG {x:Bytes}{p:Int}(h:aK (bt x p)=((x,p),0)):∀ c∈bt x p,c≠47∧c≠63∧c≠35∧c≠64:=by
 intro c hc
 have h1:=zO h c hc
 have:=dz (p:=fun c=>!(xY c||c==46||c==58)||(c != 47&&c != 63&&c != 35&&c != 64)) (by decide +kernel) c
 have h2:(xY c||c==46||c==58)=true:=by rcases h1 with h|rfl|rfl <;> simp[*]
 rw[h2]at this
 simpa[and_assoc] using this
theorem path_no {s:Bytes}(h:Can dI s):∀ c∈s,c≠63∧c≠35:=by
 intro c hc
 have h1:=wo h c hc
 have:=dz (p:=fun c=>!(fw dI c||c==37||bm c)||(c != 63&&c != 35)) (by decide +kernel) c
 have h2:(fw dI c||c==37||bm c)=true:=by rcases h1 with h|rfl|h <;> simp[*]
 rw[h2]at this
 simpa using this
theorem M3 {s:Bytes}(h:Can du s):(35:UInt8) ∉ s:=by
 intro hc
 have:=wo h _ hc
 revert this;decide
theorem fJ.split {u:bM}(h:fJ u):aL (aX u)=(yj u,0):=by
 rw[tB]
 refine HO (yj u) rfl rfl rfl (fun c hc=>?_) h.EM (path_no h.path) (M3 h.query) h.noq h.nof (by rw[← tB];have:=h.len;omega)
 have:=JG h.host c hc
 exact⟨this.1,this.2.1,this.2.2.1⟩
theorem iI (u:bM):u.path.length≤(aX u).length∧(u.aD=true→u.query.length≤(aX u).length)∧(u.aP=true→u.fragment.length≤(aX u).length):=by
 unfold aX bT
 refine⟨?_,fun h=>?_,fun h=>?_⟩
 ·split <;> split <;> (simp;omega)
 ·rw[if_pos h];split <;> (simp;omega)
 ·rw[if_pos h];split <;> (simp;omega)
theorem fJ.parse {u:bM}(h:fJ u):bz (aX u)=(u,0):=by
 obtain⟨l1,l2,l3⟩:=iI u
 have hl:=h.len
 have n1:=uQ h.path (by omega)
 have n2:bI du u.query=(u.query,0):=by
  cases hq:u.aD
  ·rw[h.noq hq];rfl
  ·exact uQ h.query (by have:=l2 hq;omega)
 have n3:bI du u.fragment=(u.fragment,0):=by
  cases hq:u.aP
  ·rw[h.nof hq];rfl
  ·exact uQ h.frag (by have:=l3 hq;omega)
 unfold bz
 rw[if_neg (by omega),h.split]
 simp only[ne_eq,not_true,if_false]
 unfold wB yj
 simp only
 rw[if_neg (by simp[show lower dT=dT by decide]),if_neg (by simp),if_neg (fun k=>(JG h.host _ k).2.2.2 rfl)]
 unfold nI
 simp only
 rw[h.host,n1,n2,n3]
 simp only[ne_eq,not_true,if_false]
 unfold oh
 simp only
 obtain⟨r,hr⟩:=h.EM
 have e:(if aM u.path=[] then [47] else aM u.path)=u.path:=by
  rw[h.dots,hr,if_neg (by simp)]
 rw[e,if_neg (by show ¬ 4096<(aX u).length;omega)]
theorem Hz (h:Bytes × Int)(p q f:Bytes)(hq hf:Bool)(k:(oh h p q f hq hf).2≠0):(oh h p q f hq hf).1=bM.none:=by
 unfold oh at k ⊢
 generalize (if aM p=[] then [47] else aM p)=d at k ⊢
 split
 ·rfl
 ·rename_i de
  rw[if_neg de]at k
  exact absurd rfl k
theorem J8 {h:Bytes × Int}{p q f:Bytes}{hq hf:Bool}{u:bM}(k:oh h p q f hq hf=(u,0)):u=⟨h.1,h.2,if aM p=[] then [47] else aM p,q,f,hq,hf⟩∧(aX u).length≤4096:=by
 unfold oh at k
 generalize (if aM p=[] then [47] else aM p)=d at k ⊢
 split at k
 ·simp at k
 ·obtain rfl:=(Prod.mk.inj k).1
  exact⟨rfl,by omega⟩
theorem CG (s:Bytes)(h:(bz s).2≠0):(bz s).1=bM.none:=by
 unfold bz at h ⊢
 split
 ·rfl
 rename_i h1
 rw[if_neg h1]at h
 split
 ·rfl
 rename_i h2
 rw[if_neg h2]at h
 unfold wB at h ⊢
 split
 ·rfl
 rename_i h3
 rw[if_neg h3]at h
 split
 ·rfl
 rename_i h4
 rw[if_neg h4]at h
 split
 ·rfl
 rename_i h5
 rw[if_neg h5]at h
 unfold nI at h ⊢
 split
 ·rfl
 rename_i h6
 rw[if_neg h6]at h
 split
 ·rfl
 rename_i h7
 rw[if_neg h7]at h
 split
 ·rfl
 rename_i h8
 rw[if_neg h8]at h
 split
 ·rfl
 rename_i h9
 rw[if_neg h9]at h
 exact Hz _ _ _ _ _ _ h
theorem yK:aM [47]=[47]:=by decide
theorem Kh (s:Bytes)(h:(aL s).2=0):((aL s).1.aD=false→(aL s).1.query=[])∧((aL s).1.aP=false→(aL s).1.fragment=[])∧((aL s).1.aT=true→(aL s).1.path=[]∨∃ r,(aL s).1.path=47::r):=by
 unfold aL at h ⊢
 split
 ·rename_i h1;rw[if_pos h1]at h;simp at h
 rename_i h1
 rw[if_neg h1]at h
 have q1:=EB 63 (aN 35 s).1
 have q2:=EB 35 s
 have ha:∀ t:Bytes,(aG t).2.1=true→(aG t).2.2=[]∨∃ r,(aG t).2.2=47::r:=by
  intro t
  unfold aG
  split
  ·intro _;exact GD _
  ·intro h;simp at h
 unfold aR at h ⊢
 split
 ·rename_i h2
  rw[if_pos h2]at h
  split
  ·exact⟨q1,q2,ha _⟩
  ·rename_i h3;rw[if_neg h3]at h;simp at h
 ·exact⟨q1,q2,ha _⟩
theorem jo {s:Bytes}{u:bM}(h:bz s=(u,0)):fJ u:=by
 unfold bz at h
 split at h
 ·simp at h
 split at h
 ·rename_i h1 h2;exact absurd (Prod.mk.inj h).2 h2
 rename_i h1 h2
 have h2:(aL s).2=0:=by simpa using h2
 obtain⟨q1,q2,q3⟩:=Kh s h2
 generalize (aL s).1=r at h q1 q2 q3
 unfold wB at h
 split at h
 ·simp at h
 split at h
 ·simp at h
 split at h
 ·simp at h
 rename_i h3 h4 h5
 have Ok:=q3 (by simpa using h4)
 unfold nI at h
 split at h
 ·rename_i h6;exact absurd (Prod.mk.inj h).2 h6
 split at h
 ·rename_i h6;exact absurd (Prod.mk.inj h).2 h6
 split at h
 ·rename_i h6;exact absurd (Prod.mk.inj h).2 h6
 split at h
 ·rename_i h6;exact absurd (Prod.mk.inj h).2 h6
 rename_i e1 e2 e3 e4
 obtain⟨h,hlen⟩:=J8 h
 have hp:=uv (also:=dI) (s:=r.path) (by simpa using e2)
 have hq:=uv (also:=du) (s:=r.query) (by simpa using e3)
 have hf:=uv (also:=du) (s:=r.fragment) (by simpa using e4)
 have hd:aM (bI dI r.path).1=[]∨∃ q,aM (bI dI r.path).1=47::q∧aM (47::q)=47::q:=by
  have hh:(bI dI r.path).1=[]∨∃ q,(bI dI r.path).1=47::q:=by
   rcases Ok with h|⟨q,h⟩
   ·left;rw[h];rfl
   ·right
    have e2':(bI dI r.path).2=0:=by simpa using e2
    rw[h]at e2' ⊢
    unfold bI at e2' ⊢
    split
    ·rename_i hx;rw[if_pos hx]at e2';simp at e2'
    rename_i hx
    rw[if_neg hx,ey (by decide),bX,if_pos (by decide)]at e2'
    rw[ey (by decide),bX,if_pos (by decide)]
    unfold comb at e2' ⊢
    split
    ·exact⟨_,rfl⟩
    ·rename_i hy;rw[if_neg hy]at e2';exact absurd e2' hy
  rcases hh with h|⟨q,h⟩
  ·left;rw[h];rfl
  ·right
   rw[h]
   obtain⟨⟨q',hq'⟩,-⟩:=Ar q
   exact⟨q',hq',by have:=vz q;rw[hq']at this;exact this⟩
 have hhp:aK r.authority=(((aK r.authority).1.1,(aK r.authority).1.2),0):=by
  have:(aK r.authority).2=0:=by simpa using e1
  rw[← this]
 subst h
 refine⟨(cR hhp).1,?_,?_,?_,hq,hf,fun k=>by simp only at k ⊢;rw[q1 k];rfl,fun k=>by simp only at k ⊢;rw[q2 k];rfl,by omega⟩
 ·simp only
  rcases hd with hd|⟨q,hd,-⟩
  ·rw[if_pos hd];exact uP (by decide) (by decide)
  ·rw[if_neg (by rw[hd];simp)];exact As (by decide) hp
 ·simp only
  rcases hd with hd|⟨q,hd,-⟩
  ·rw[if_pos hd];exact⟨_,rfl⟩
  ·rw[if_neg (by rw[hd];simp)];exact⟨_,hd⟩
 ·simp only
  rcases hd with hd|⟨q,hd,AG⟩
  ·rw[if_pos hd];exact yK
  ·rw[if_neg (by rw[hd];simp),hd];exact AG
def bM.bare (u:bM):bM:={ u with fragment:=[],aP:=false }
theorem fJ.bare {u:bM}(h:fJ u):fJ u.bare :=
 ⟨h.host,h.path,h.EM,h.dots,h.query,jV _,h.noq,fun _=>rfl,by
  have:=h.len
  unfold aX at this ⊢
  unfold bM.bare bT at *
  simp at this ⊢
  omega⟩
theorem fJ.valid {u:bM}(h:fJ u):bQ u=true:=by unfold bQ;rw[h.parse];simp
theorem nH {u:bM}(h:bQ u=true):fJ u:=jo (of_decide_eq_true h)
open Go Go.RowKit
def bP (fs:List (Bytes × Bytes))(name:Bytes):List Bytes:=(fs.filter fun f=>lower f.1==lower name).map (·.2)
def zu:Bytes:=[108,111,99,97,116,105,111,110]
def iv (n:Int):Bool:=n==301||n==302||n==303||n==307||n==308
def nM (r:bM × Int)(seen:List bM):bM × Int :=
 if r.2=253 then(bM.none,253) else if r.2≠0 then(bM.none,252) else if r.1.bare∈seen then(bM.none,251) else(r.1.bare,0)
def oB (u:bM)(l:List Bytes)(seen:List bM):bM × Int :=
 if l.length≠1 then(bM.none,252) else nM (cG u (l.head?.getD [])) seen
def dK (u:bM)(fs:List (Bytes × Bytes))(seen:List bM)(fk:Int):bM × Int :=
 if 5≤fk then(bM.none,250) else oB u (bP fs zu) seen
theorem DQ (fs:List (Bytes × Bytes))(f:Bytes × Bytes)(name:Bytes):bP (fs++[f]) name=bP fs name++if lower f.1=lower name then [f.2] else []:=by
 unfold bP
 rw[List.filter_append,List.map_append]
 congr 1
 by_cases h:lower f.1=lower name
 ·simp[h]
 ·simp[h]
theorem DP {fs:List (Bytes × Bytes)}{k:Nat}(h:k<fs.length)(name:Bytes):bP (fs.take (k+1)) name=bP (fs.take k) name++if lower fs[k].1=lower name then [fs[k].2] else []:=by
 rw[zQU h,DQ]
theorem mP (fs:List (Bytes × Bytes))(name:Bytes):(bP fs name).length≤fs.length:=by
 unfold bP
 rw[zQW]
 exact List.length_filter_le _ _
theorem Dh {u v:bM}{fs:List (Bytes × Bytes)}{seen:List bM}{fk:Int}(h:dK u fs seen fk=(v,0)):fk<5∧bQ v=true∧v.aP=false∧v ∉ seen:=by
 unfold dK oB nM at h
 split at h
 ·simp at h
 rename_i h1
 split at h
 ·simp at h
 split at h
 ·simp at h
 split at h
 ·simp at h
 rename_i h4
 split at h
 ·simp at h
 rename_i h5
 simp only[Prod.mk.injEq,and_true]at h
 subst h
 have h4:=Decidable.not_not.1 h4
 refine⟨by omega,?_,rfl,h5⟩
 refine fJ.valid (fJ.bare ?_)
 generalize hr:cG u _=r at h4 ⊢
 obtain⟨r,e⟩:=r
 simp only at h4
 subst h4
 unfold cG at hr
 split at hr
 ·simp at hr
 split at hr
 ·rename_i k;exact absurd (Prod.mk.inj hr).2 k
 split at hr
 ·simp at hr
 exact jo hr
end Wf
namespace Go.Proofs.YtnmlimehgifadaaGreatDoor
open Go.RowKit Wf
attribute [local go_sem] fE eV get_list
theorem ui (c:UInt8)(w:World)(h:bm c=true):Calls Tryz.prog 285 #[.int .u8 c.toNat] w fun e w'=>e=.returned (.int .u64 (di c))∧w=w':=by
 cases hd:isDigit c
 all_goals
  go_enter Tryz.func285,Tryz.ntmps285
  go_wp2_with (go_at_call 252;refine(cn _ _).mono ?_;rintro e w' ⟨rfl,rfl⟩)
  go_ret
  refine⟨xQ ?_,rfl⟩
  have hb:=Ig c
  simp[bm,isDigit]at h hd
  unfold di
  split <;> (try split) <;> omega
theorem zb (s:Bytes)(m:Nat)(w:World)(hs:s.length≤9223372036854775807)(hm:m≤4611686018427387904) :
 Calls Tryz.prog 270 #[(Value.string ⟨zQo (s)⟩),.int .u64 16,.int .u64 m,.func (.func 255) #[] #[]] w fun e w'=>e=.returned (.tuple #[.int .u64 (bh bm 16 m s).1,.int .i64 (bh bm 16 m s).2])∧w=w':=by
 cases bK:s.isEmpty
 ·go_enter Tryz.func270,Tryz.ntmps270
  go_wp2_with fail
  go_loop [18] (fun i=>∃ k:Nat,k≤s.length∧i=.int .i64 k∧(s.take k).all bm=true) (fun i=>s.length - (intOf i).toNat)
  case atStart=>exact⟨0,by omega,rfl,rfl⟩
  case round =>
   obtain⟨k,hk,rfl,bp⟩:=hrel
   have Hall:=hid bp
   clear bp
   by_cases aA:k<s.length
   ·cases hc:bm s[k]
    ·go_wp2_with (go_at_call 255;refine(eR _ _).mono ?_;rintro e w' ⟨rfl,rfl⟩)
     go_ret2
     exact⟨ka (by simp[bh,bK,dC aA hc]),rfl⟩
    ·go_wp2_with (go_at_call 255;refine(eR _ _).mono ?_;rintro e w' ⟨rfl,rfl⟩)
     go_round
     case rel=>exact⟨k+1,by omega,by go_num,bn aA Hall.out hc⟩
     case measure=>simp[intOf];omega
   ·have bp:s.all bm=true:=by have:=Hall.out;rwa [zQu (by omega)]at this
    clear Hall
    have Hall:=hid bp
    clear bp
    go_wp2_with fail
    go_loop [11,30] (fun n i=>∃ k a:Nat,k≤s.length∧i=.int .i64 k∧a≤m∧n=.int .u64 a∧dY 16 m a (s.drop k)=dY 16 m 0 s) (fun _ i=>s.length - (intOf i).toNat)
    case atStart=>exact⟨0,0,by omega,rfl,by omega,rfl,rfl⟩
    case round =>
     obtain⟨j,a,hj,rfl,ha,rfl,heq⟩:=hrel
     have Heq:=hid heq
     clear heq
     by_cases u9:j<s.length
     ·have hv:=kZ (show bm s[j]=true by have:=uW Hall.out u9;first|exact this | (simp[isDigit,bm]at this ⊢;omega))
      go_wp2_with (go_at_call 285;refine(ui _ _ (by have:=uW Hall.out u9;first|exact this | (simp[isDigit,bm]at this ⊢;omega))).mono ?_;rintro e w' ⟨rfl,rfl⟩)
      all_goals first
       | (go_ret2;exact⟨ka (oE bK Hall.out Heq.out u9 (by omega)),rfl⟩)
       | (go_round
          case rel=>exact⟨j+1,a * 16+di s[j],by omega,by go_num,by omega,by go_num,nf Heq.out u9 (by omega)⟩
          case measure=>simp[intOf];omega)
     ·go_wp2_with fail
      go_ret2
      exact⟨ka (ni bK Hall.out Heq.out u9),rfl⟩
 ·go_enter Tryz.func270,Tryz.ntmps270
  go_wp2_with fail
  go_ret2
  exact⟨ka (by simp[bh,bK]),rfl⟩
theorem zc (s:Bytes)(m:Nat)(w:World)(hs:s.length≤9223372036854775807)(hm:m≤4611686018427387904) :
 Calls Tryz.prog 270 #[(Value.string ⟨zQo (s)⟩),.int .u64 10,.int .u64 m,.func (.func 252) #[] #[]] w fun e w'=>e=.returned (.tuple #[.int .u64 (bh isDigit 10 m s).1,.int .i64 (bh isDigit 10 m s).2])∧w=w':=by
 cases bK:s.isEmpty
 ·go_enter Tryz.func270,Tryz.ntmps270
  go_wp2_with fail
  go_loop [18] (fun i=>∃ k:Nat,k≤s.length∧i=.int .i64 k∧(s.take k).all isDigit=true) (fun i=>s.length - (intOf i).toNat)
  case atStart=>exact⟨0,by omega,rfl,rfl⟩
  case round =>
   obtain⟨k,hk,rfl,bp⟩:=hrel
   have Hall:=hid bp
   clear bp
   by_cases aA:k<s.length
   ·cases hc:isDigit s[k]
    ·go_wp2_with (go_at_call 252;refine(cn _ _).mono ?_;rintro e w' ⟨rfl,rfl⟩)
     go_ret2
     exact⟨ka (by simp[bh,bK,dC aA hc]),rfl⟩
    ·go_wp2_with (go_at_call 252;refine(cn _ _).mono ?_;rintro e w' ⟨rfl,rfl⟩)
     go_round
     case rel=>exact⟨k+1,by omega,by go_num,bn aA Hall.out hc⟩
     case measure=>simp[intOf];omega
   ·have bp:s.all isDigit=true:=by have:=Hall.out;rwa [zQu (by omega)]at this
    clear Hall
    have Hall:=hid bp
    clear bp
    go_wp2_with fail
    go_loop [11,30] (fun n i=>∃ k a:Nat,k≤s.length∧i=.int .i64 k∧a≤m∧n=.int .u64 a∧dY 10 m a (s.drop k)=dY 10 m 0 s) (fun _ i=>s.length - (intOf i).toNat)
    case atStart=>exact⟨0,0,by omega,rfl,by omega,rfl,rfl⟩
    case round =>
     obtain⟨j,a,hj,rfl,ha,rfl,heq⟩:=hrel
     have Heq:=hid heq
     clear heq
     by_cases u9:j<s.length
     ·have hv:=kZ (show bm s[j]=true by have:=uW Hall.out u9;first|exact this | (simp[isDigit,bm]at this ⊢;omega))
      go_wp2_with (go_at_call 285;refine(ui _ _ (by have:=uW Hall.out u9;first|exact this | (simp[isDigit,bm]at this ⊢;omega))).mono ?_;rintro e w' ⟨rfl,rfl⟩)
      all_goals first
       | (go_ret2;exact⟨ka (oE bK Hall.out Heq.out u9 (by omega)),rfl⟩)
       | (go_round
          case rel=>exact⟨j+1,a * 10+di s[j],by omega,by go_num,by omega,by go_num,nf Heq.out u9 (by omega)⟩
          case measure=>simp[intOf];omega)
     ·go_wp2_with fail
      go_ret2
      exact⟨ka (ni bK Hall.out Heq.out u9),rfl⟩
 ·go_enter Tryz.func270,Tryz.ntmps270
  go_wp2_with fail
  go_ret2
  exact⟨ka (by simp[bh,bK]),rfl⟩
theorem Ii (s:Bytes)(m:Nat)(w:World)(hs:s.length≤9223372036854775807)(hm:m≤4611686018427387904) :
 Calls Tryz.prog 266 #[(Value.string ⟨zQo (s)⟩),.int .u64 m] w fun e w'=>e=.returned (.tuple #[.int .u64 (bh bm 16 m s).1,.int .i64 (bh bm 16 m s).2])∧w=w':=by
 go_enter Tryz.func266,Tryz.ntmps266
 go_wp2_with (go_at_call 270;refine(zb _ _ _ hs hm).mono ?_;rintro e w' ⟨rfl,rfl⟩)
 go_ret2
 exact⟨rfl,rfl⟩
theorem uo (s:Bytes)(w:World)(hs:s.length≤9223372036854775807) :
 Calls Tryz.prog 266 #[(Value.string ⟨zQo (s)⟩),.int .u64 4611686018427387904] w fun e w'=>e=.returned (.tuple #[.int .u64 (bh bm 16 4611686018427387904 s).1,.int .i64 (bh bm 16 4611686018427387904 s).2])∧w=w' :=
 Ii s 4611686018427387904 w hs (zQt _)
theorem kD (s:Bytes)(m:Nat)(w:World)(hs:s.length≤9223372036854775807)(hm:m≤4611686018427387904) :
 Calls Tryz.prog 236 #[(Value.string ⟨zQo (s)⟩),.int .u64 m] w fun e w'=>e=.returned (.tuple #[.int .u64 (bh isDigit 10 m s).1,.int .i64 (bh isDigit 10 m s).2])∧w=w':=by
 go_enter Tryz.func236,Tryz.ntmps236
 go_wp2_with (go_at_call 270;refine(zc _ _ _ hs hm).mono ?_;rintro e w' ⟨rfl,rfl⟩)
 go_ret2
 exact⟨rfl,rfl⟩
theorem jQ (s:Bytes)(m:Nat)(w:World)(hs:s.length≤9223372036854775807)(hm:m≤4611686018427387904) :
 Calls Tryz.prog 223 #[(Value.string ⟨zQo (s)⟩),.int .u64 m] w fun e w'=>e=.returned (.tuple #[.int .u64 (aS m s).1,.int .i64 (aS m s).2])∧w=w':=by
 by_cases hd:bZ s=true
 ·by_cases h1:1<s.length
  ·by_cases h0:s[0]=48
   ·have Hq:=hid (show aS m s=(0,6) from if_pos ⟨hd,h1,by rw[nT (by omega),h0]⟩)
    have hx:((s[0].toNat:Int)==48)=true:=by simp[h0]
    clear h0
    go_enter Tryz.func223,Tryz.ntmps223
    go_wp2_with (go_at_call 235;refine(gW _ _ hs).mono ?_;rintro e w' ⟨rfl,rfl⟩)
    go_ret2
    rw[Hq.out]
    exact⟨rfl,rfl⟩
   ·have Hq:=hid (show aS m s=bh isDigit 10 m s from if_neg (by rintro⟨_,_,h⟩;rw[nT (by omega)]at h;exact h0 (by simpa using h)))
    have hx:((s[0].toNat:Int)==48)=false:=EC h0
    clear h0
    go_enter Tryz.func223,Tryz.ntmps223
    go_wp2_with (first
     | (go_at_call 235;refine(gW _ _ hs).mono ?_;rintro e w' ⟨rfl,rfl⟩)
     | (go_at_call 236;refine(kD _ _ _ hs hm).mono ?_;rintro e w' ⟨rfl,rfl⟩))
    go_ret2
    rw[Hq.out]
    exact⟨rfl,rfl⟩
  ·have Hq:=hid (show aS m s=bh isDigit 10 m s from if_neg (by rintro⟨_,h,_⟩;exact h1 h))
   go_enter Tryz.func223,Tryz.ntmps223
   go_wp2_with (first
    | (go_at_call 235;refine(gW _ _ hs).mono ?_;rintro e w' ⟨rfl,rfl⟩)
    | (go_at_call 236;refine(kD _ _ _ hs hm).mono ?_;rintro e w' ⟨rfl,rfl⟩))
   go_ret2
   rw[Hq.out]
   exact⟨rfl,rfl⟩
 ·have Hq:=hid (show aS m s=bh isDigit 10 m s from if_neg (by rintro⟨h,_,_⟩;exact hd h))
  have AG:bZ s=false:=by simpa using hd
  clear hd
  go_enter Tryz.func223,Tryz.ntmps223
  go_wp2_with (first
   | (go_at_call 235;refine(gW _ _ hs).mono ?_;rintro e w' ⟨rfl,rfl⟩)
   | (go_at_call 236;refine(kD _ _ _ hs hm).mono ?_;rintro e w' ⟨rfl,rfl⟩))
  go_ret2
  rw[Hq.out]
  exact⟨rfl,rfl⟩
theorem AX (s:Bytes)(m:Nat)(w:World)(hs:s.length≤9223372036854775807)(hm:m≤4611686018427387904) :
 Calls Tryz.prog 204 #[(Value.string ⟨zQo (s)⟩),.int .u64 10,.int .u64 m] w fun e w'=>e=.returned (.tuple #[.int .u64 (bh isDigit 10 m s).1,.int .i64 (bh isDigit 10 m s).2])∧w=w':=by
 cases bK:s.isEmpty
 ·go_enter Tryz.func204,Tryz.ntmps204
  go_wp2_with fail
  go_loop [8] (fun i=>∃ k:Nat,k≤s.length∧i=.int .i64 k∧(s.take k).all isDigit=true) (fun i=>s.length - (intOf i).toNat)
  case atStart=>exact⟨0,by omega,rfl,rfl⟩
  case round =>
   obtain⟨k,hk,rfl,bp⟩:=hrel
   have Hall:=hid bp
   clear bp
   by_cases aA:k<s.length
   ·cases hc:isDigit s[k]
    ·have Ha:=hid (dC aA hc)
     go_wp2_with (go_at_call 148;refine(eN _ _).mono ?_;rintro e w' ⟨rfl,rfl⟩)
     go_ret2
     exact⟨ka (by simp[bh,bK,Ha.out]),rfl⟩
    ·go_wp2_with (go_at_call 148;refine(eN _ _).mono ?_;rintro e w' ⟨rfl,rfl⟩)
     go_round
     case rel=>exact⟨k+1,by omega,by go_num,bn aA Hall.out hc⟩
     case measure=>simp[intOf];omega
   ·have bp:s.all isDigit=true:=by have:=Hall.out;rwa [zQu (by omega)]at this
    clear Hall
    have Hall:=hid bp
    clear bp
    go_wp2_with fail
    go_loop [9,10] (fun n i=>∃ k a:Nat,k≤s.length∧i=.int .i64 k∧a≤m∧n=.int .u64 a∧dY 10 m a (s.drop k)=dY 10 m 0 s) (fun _ i=>s.length - (intOf i).toNat)
    case atStart=>exact⟨0,0,by omega,rfl,by omega,rfl,rfl⟩
    case round =>
     obtain⟨j,a,hj,rfl,ha,rfl,heq⟩:=hrel
     have Heq:=hid heq
     clear heq
     by_cases u9:j<s.length
     ·have hdg:=uW Hall.out u9
      simp[isDigit]at hdg
      obtain⟨r6,AG⟩:=hdg
      have Hv:=hid (show (di s[j]:Int)=s[j].toNat - 48 by unfold di;rw[if_pos AG];omega)
      go_wp2_with fail
      all_goals
       have hu:=Mu ((m:Int) - (s[j].toNat - 48)) (by omega) (by omega)
       have hv:=Hv.out
       first
       | (go_ret2;exact⟨ka (oE bK Hall.out Heq.out u9 (by omega)),rfl⟩)
       | (go_round
          case rel=>exact⟨j+1,a * 10+di s[j],by omega,by go_num,by omega,congrArg (Value.int .u64) (by omega),nf Heq.out u9 (by omega)⟩
          case measure=>simp[intOf];omega)
     ·go_wp2_with fail
      go_ret2
      exact⟨ka (ni bK Hall.out Heq.out u9),rfl⟩
 ·go_enter Tryz.func204,Tryz.ntmps204
  go_wp2_with fail
  go_ret2
  exact⟨ka (by simp[bh,bK]),rfl⟩
theorem oA (s:Bytes)(m:Nat)(w:World)(hs:s.length≤9223372036854775807)(hm:m≤4611686018427387904) :
 Calls Tryz.prog 150 #[(Value.string ⟨zQo (s)⟩),.int .u64 m] w fun e w'=>e=.returned (.tuple #[.int .u64 (aS m s).1,.int .i64 (aS m s).2])∧w=w':=by
 have hq:aS m s=if bZ s=true∧1<s.length∧s.head? = some 48 then(0,6) else bh isDigit 10 m s:=rfl
 have he:=nN m s
 have hc:=AX s m w hs hm
 generalize bh isDigit 10 m s=np at hq he hc
 obtain⟨n,e⟩:=np
 simp only at hq he hc
 have Hc:=hid hc
 clear hc
 by_cases hd:bZ s=true
 ·rw[hd]at he
  simp only[iff_true]at he
  have hg:(e==0||e==4)=true:=by simp;omega
  by_cases h1:1<s.length
  ·by_cases h0:s[0]=48
   ·rw[if_pos ⟨hd,h1,by rw[nT (by omega),h0]⟩]at hq
    have Hq:=hid hq
    have hx:((s[0].toNat:Int)==48)=true:=by simp[h0]
    clear h0 hq
    rcases he with rfl|rfl
    all_goals
     go_enter Tryz.func150,Tryz.ntmps150
     go_wp2_with fail
     refine Hc.out.mono ?_
     rintro e w' ⟨rfl,rfl⟩
     go_wp2_with fail
     go_ret2
     rw[Hq.out]
     exact⟨rfl,rfl⟩
   ·rw[if_neg (by rintro⟨_,_,h⟩;rw[nT (by omega)]at h;exact h0 (by simpa using h))]at hq
    have Hq:=hid hq
    have hx:((s[0].toNat:Int)==48)=false:=EC h0
    clear h0 hq
    rcases he with rfl|rfl
    all_goals
     go_enter Tryz.func150,Tryz.ntmps150
     go_wp2_with fail
     refine Hc.out.mono ?_
     rintro e w' ⟨rfl,rfl⟩
     go_wp2_with fail
     go_ret2
     rw[Hq.out]
     exact⟨rfl,rfl⟩
  ·rw[if_neg (by rintro⟨_,h,_⟩;exact h1 h)]at hq
   have Hq:=hid hq
   clear hq
   rcases he with rfl|rfl
   all_goals
    go_enter Tryz.func150,Tryz.ntmps150
    go_wp2_with fail
    refine Hc.out.mono ?_
    rintro e w' ⟨rfl,rfl⟩
    go_wp2_with fail
    go_ret2
    rw[Hq.out]
    exact⟨rfl,rfl⟩
 ·rw[if_neg (by rintro⟨h,_,_⟩;exact hd h)]at hq
  have AG:bZ s=false:=by simpa using hd
  rw[AG]at he
  have h1:(e==0)=false:=by simp;intro h;simp[h]at he
  have h2:(e==4)=false:=by simp;intro h;simp[h]at he
  have Hq:=hid hq
  clear hd he hq
  go_enter Tryz.func150,Tryz.ntmps150
  go_wp2_with fail
  refine Hc.out.mono ?_
  rintro e w' ⟨rfl,rfl⟩
  go_wp2_with fail
  go_ret2
  rw[Hq.out]
  exact⟨rfl,rfl⟩
open Go.RowKit Wf
attribute [local go_sem] fE eV get_list
theorem zy (s:Bytes)(h1:s.isEmpty=false)(h2:s.length≤63)(h3:¬ s[0]? = some 45)(h4:¬ s[s.length - 1]? = some 45):bS s=s.all xY:=by
 unfold bS
 rw[List.getLast?_eq_getElem?,List.head?_eq_getElem?]
 simp[h1,h2,h3,h4]
theorem zN (s:Bytes)(w:World)(hs:s.length≤9223372036854775807) :
 Calls Tryz.prog 271 #[(Value.string ⟨zQo (s)⟩)] w fun e w'=>e=.returned (.bool (bS s))∧w=w':=by
 cases h1:s.isEmpty
 ·by_cases h2:63<s.length
  ·have Hq:=hid (show bS s=false by unfold bS;simp;omega)
   go_enter Tryz.func271,Tryz.ntmps271
   go_wp2_with fail
   go_ret
   exact⟨bD Hq.out.symm,rfl⟩
  ·have hl:0<s.length:=by cases s <;> simp at h1 ⊢
   by_cases h3:s[0]=45
   ·have Hq:=hid (show bS s=false by unfold bS;rw[nT hl,h3];simp)
    have hx:((s[0].toNat:Int)==45)=true:=by simp[h3]
    clear h3
    go_enter Tryz.func271,Tryz.ntmps271
    go_wp2_with fail
    go_ret
    exact⟨bD Hq.out.symm,rfl⟩
   ·have hx:((s[0].toNat:Int)==45)=false:=EC h3
    by_cases h4:s[s.length - 1]=45
    ·have Hq:=hid (show bS s=false by
      unfold bS
      rw[List.getLast?_eq_getElem?,zQw (by omega),h4];simp)
     have hy:((s[s.length - 1].toNat:Int)==45)=true:=by simp[h4]
     clear h4 h3
     go_enter Tryz.func271,Tryz.ntmps271
     go_wp2_with fail
     go_ret
     exact⟨bD Hq.out.symm,rfl⟩
    ·have hy:((s[s.length - 1].toNat:Int)==45)=false:=EC h4
     have Hq:=hid (zy s h1 (by omega) (by rw[zQw hl];simpa using h3) (by rw[zQw (by omega)];simpa using h4))
     have Lh:decide (63<(s.length:Int))=false:=decide_eq_false (by omega)
     clear h3 h4
     go_enter Tryz.func271,Tryz.ntmps271
     go_wp2_with fail
     go_loop [26] (fun i=>∃ k:Nat,k≤s.length∧i=.int .i64 k∧(s.take k).all xY=true) (fun i=>s.length - (intOf i).toNat)
     case atStart=>exact⟨0,by omega,rfl,rfl⟩
     case round=>(
      obtain⟨k,hk,rfl,bp⟩:=hrel
      have Hall:=hid bp
      clear bp
      by_cases aA:k<s.length
      ·cases hc:xY s[k]
       ·have Ha:=hid (dC aA hc)
        have hc':=hc
        unfold xY at hc'
        simp only[Bool.or_eq_false_iff]at hc'
        obtain⟨⟨c1,c2⟩,c3⟩:=hc'
        have c4:((s[k].toNat:Int) != 45)=true:=by
         have:s[k]≠45:=by simpa using c3
         rw[bne_iff_ne]
         intro h
         exact this (zQY.1 (by simp;omega))
        clear c3 hc
        go_wp2_with (first
         | (go_at_call 251;refine(dG _ _).mono ?_;rintro e w' ⟨rfl,rfl⟩)
         | (go_at_call 252;refine(cn _ _).mono ?_;rintro e w' ⟨rfl,rfl⟩))
        go_ret
        exact⟨bD (by rw[Hq.out,Ha.out]),rfl⟩
       ·have Hc:=hid (bn aA Hall.out hc)
        unfold xY at hc
        simp only[Bool.or_eq_true,beq_iff_eq]at hc
        rcases hc with(hc|hc) | hc
        ·go_wp2_with (first
         | (go_at_call 251;refine(dG _ _).mono ?_;rintro e w' ⟨rfl,rfl⟩)
         | (go_at_call 252;refine(cn _ _).mono ?_;rintro e w' ⟨rfl,rfl⟩))
         go_round
         case rel=>exact⟨k+1,by omega,by go_num,Hc.out⟩
         case measure=>simp[intOf];omega
        ·cases hca:isAlpha s[k]
         all_goals
          go_wp2_with (first
           | (go_at_call 251;refine(dG _ _).mono ?_;rintro e w' ⟨rfl,rfl⟩)
           | (go_at_call 252;refine(cn _ _).mono ?_;rintro e w' ⟨rfl,rfl⟩))
          go_round
          case rel=>exact⟨k+1,by omega,by go_num,Hc.out⟩
          case measure=>simp[intOf];omega
        ·have c4:((s[k].toNat:Int) != 45)=false:=by simp[hc]
         clear hc
         cases hca:isAlpha s[k] <;> cases En:isDigit s[k]
         all_goals
          go_wp2_with (first
           | (go_at_call 251;refine(dG _ _).mono ?_;rintro e w' ⟨rfl,rfl⟩)
           | (go_at_call 252;refine(cn _ _).mono ?_;rintro e w' ⟨rfl,rfl⟩))
          go_round
          case rel=>exact⟨k+1,by omega,by go_num,Hc.out⟩
          case measure=>simp[intOf];omega
      ·have bp:=Hall.out
       rw[zQu (by omega)]at bp
       have Ha:=hid bp
       clear bp Hall
       go_wp2_with fail
       go_ret
       exact⟨bD (by rw[Hq.out,Ha.out]),rfl⟩)
 ·have Hq:=hid (show bS s=false by unfold bS;simp[h1])
  go_enter Tryz.func271,Tryz.ntmps271
  go_wp2_with fail
  go_ret
  exact⟨bD Hq.out.symm,rfl⟩
theorem Ci (s:Bytes)(w:World)(hE:Env w)(hs:s.length<4294967281) :
 Calls Tryz.prog 240 #[(Value.string ⟨zQo (s)⟩)] w fun e w'=>e=.returned (.bool (fQ s))∧Below w.heap.size w w':=by
 go_enter Tryz.func240,Tryz.ntmps240
 go_wp2_with fail
 go_loopw [0] (fun v wr=>∃ r:Bytes,v=(Value.string ⟨zQo (r)⟩)∧r.length≤s.length∧Below w.heap.size w wr∧fQ r=fQ s) (fun v _=>lx v)
 case atStart=>exact⟨s,rfl,by omega,Below.refl _ _,rfl⟩
 case round =>
  obtain⟨r,rfl,hr,hw,heq⟩:=hrel
  have Hw:=hid hw
  have HE:=hid (hE.below hw)
  have Heq:=hid heq
  clear hw heq
  by_cases hp:pre (·==46) r<r.length
  ·have hcut:=hid (show aN 46 r=(r.take (pre (·==46) r),r.drop (pre (·==46) r+1),true) from if_pos hp)
   have sY:fQ r=(bS (r.take (pre (·==46) r))&&fQ (r.drop (pre (·==46) r+1))):=by
    unfold fQ
    rw[dH hp]
    have:=rm 46 (r.drop (pre (·==46) r+1))
    cases tw:aF 46 (r.drop (pre (·==46) r+1)) with
    | nil=>exact absurd tw this
    | cons y l=>rfl
   cases hl:bS (r.take (pre (·==46) r))
   all_goals
    rw[hl]at sY
    have Hnl:=hid (sY.symm.trans Heq.out)
    clear sY
    go_wp2_with fail
    refine(Jf r 46 wr HE.out (by omega)).mono ?_
    rintro e w2 ⟨rfl,n,gx⟩
    rw[hcut.out]
    have Hw2:Hid (Below w.heap.size w w2):=hid (by rw[gx];exact below_drewN Hw.out _)
    clear gx
    go_wp2_with (go_at_call 271;refine(zN _ _ (by simp;omega)).mono ?_;rintro e w' ⟨rfl,rfl⟩)
   ·go_ret
    exact⟨bD Hnl.out,Hw2.out⟩
   ·go_roundw
    case rel=>exact⟨_,rfl,by simp;omega,Hw2.out,Hnl.out⟩
    case measure=>simp[sLen_mk];omega
  ·have hcut:=hid (show aN 46 r=(r,[],false) from if_neg hp)
   have sY:fQ r=(bS r&&!bZ r):=by unfold fQ;rw[dm hp];rfl
   have Hnl:=hid (sY.symm.trans Heq.out)
   clear sY
   cases hl:bS r
   all_goals
    rw[hl]at Hnl
    go_wp2_with fail
    refine(Jf r 46 wr HE.out (by omega)).mono ?_
    rintro e w2 ⟨rfl,n,gx⟩
    rw[hcut.out]
    have Hw2:Hid (Below w.heap.size w w2):=hid (by rw[gx];exact below_drewN Hw.out _)
    clear gx
    go_wp2_with (first
     | (go_at_call 271;refine(zN _ _ (by omega)).mono ?_;rintro e w' ⟨rfl,rfl⟩)
     | (go_at_call 235;refine(gW _ _ (by omega)).mono ?_;rintro e w' ⟨rfl,rfl⟩))
    go_ret
    exact⟨bD (by have:=Hnl.out;simpa using this),Hw2.out⟩
theorem qK (s:Bytes)(w:World)(hE:Env w)(hs:s.length<4294967281) :
 Calls Tryz.prog 239 #[(Value.string ⟨zQo (s)⟩)] w fun e w'=>e=.returned (.bool (ipv4 s))∧Below w.heap.size w w':=by
 have hq:ipv4 s=((aF 46 s).length==4&&(aF 46 s).all gv):=rfl
 have tw:=s_Split s 46 w hE hs
 have hlen:∀ x∈aF 46 s,x.length≤s.length:=iA 46 s
 generalize aF 46 s=parts at hq tw hlen
 have Hq:=hid hq
 have Hsp:=hid tw
 have Hlen:=hid hlen
 clear hq tw hlen
 by_cases h4:parts.length=4
 ·have hx:((parts.length:Int) != 4)=false:=by simp[h4]
  go_enter Tryz.func239,Tryz.ntmps239
  go_wp2_with fail
  refine Hsp.out.mono ?_
  rintro e w1 ⟨rfl,iT⟩
  have Hrow:Hid (Eg w1 w.heap.size parts):=hid (by rw[iT];have:=Eg.alloc w parts [] 9;simpa using this)
  have Hw1:Hid (Below w.heap.size w w1):=hid (by rw[iT];exact(Below.refl _ _).alloc (zQt _) _)
  clear iT
  go_wp2_with fail
  go_loop [15] (fun i=>∃ k:Nat,k≤4∧i=.int .i64 k∧(parts.take k).all gv=true) (fun i=>4 - (intOf i).toNat)
  case atStart=>exact⟨0,by omega,rfl,rfl⟩
  case round =>
   obtain⟨k,hk,rfl,bp⟩:=hrel
   have Hall:=hid bp
   clear bp
   by_cases aA:k<4
   ·have x9:k<parts.length:=by omega
    have iM:=Hrow.out k x9
    have Lc:=Hlen.out parts[k] (zQQ x9)
    have K9:gv parts[k]=((aS 255 parts[k]).2==0):=rfl
    cases hc:gv parts[k]
    ·have Ha:=hid (dC x9 hc)
     have hn:((aS 255 parts[k]).2 != 0)=true:=by rw[hc]at K9;simp only[bne];rw[← K9];rfl
     clear K9
     go_wp2_with (go_at_call 223;refine(jQ _ 255 _ (by omega) (by omega)).mono ?_;rintro e w' ⟨rfl,rfl⟩)
     go_ret
     exact⟨bD (by rw[Hq.out,Ha.out];simp),Hw1.out⟩
    ·have Hn:=hid (bn x9 Hall.out hc)
     have hn:((aS 255 parts[k]).2 != 0)=false:=by rw[hc]at K9;simp only[bne];rw[← K9];rfl
     clear K9
     go_wp2_with (go_at_call 223;refine(jQ _ 255 _ (by omega) (by omega)).mono ?_;rintro e w' ⟨rfl,rfl⟩)
     go_round
     case rel=>exact⟨k+1,by omega,by go_num,Hn.out⟩
     case measure=>simp[intOf];omega
   ·have bp:=Hall.out
    rw[zQu (by omega)]at bp
    have Ha:=hid bp
    clear bp Hall
    go_wp2_with fail
    go_ret
    exact⟨bD (by rw[Hq.out,Ha.out,h4];rfl),Hw1.out⟩
 ·have hx:((parts.length:Int) != 4)=true:=by simp;omega
  go_enter Tryz.func239,Tryz.ntmps239
  go_wp2_with fail
  refine Hsp.out.mono ?_
  rintro e w1 ⟨rfl,iT⟩
  have Hw1:Hid (Below w.heap.size w w1):=hid (by rw[iT];exact(Below.refl _ _).alloc (zQt _) _)
  clear iT
  go_wp2_with fail
  go_ret
  exact⟨bD (by rw[Hq.out];simp[h4]),Hw1.out⟩
theorem K6 (s:Bytes)(w:World)(hE:Env w)(hs:s.length<4294967281) :
 Calls Tryz.prog 183 #[(Value.string ⟨zQo (s)⟩)] w fun e w'=>e=.returned (.tuple #[(Value.string ⟨zQo ((ck s).1)⟩),.int .i64 (ck s).2])∧Below w.heap.size w w':=by
 cases h1:s.isEmpty
 ·by_cases h2:253<s.length
  ·have Hq:=hid (show ck s=([],5) by unfold ck;simp[h1,h2])
   go_enter Tryz.func183,Tryz.ntmps183
   go_wp2_with fail
   go_ret2
   rw[Hq.out]
   exact⟨rfl,Below.refl _ _⟩
  ·cases h3:ipv4 s
   ·cases h4:fQ s
    ·have Hq:=hid (show ck s=([],50) by unfold ck;simp[h1,h2,h3,h4])
     go_enter Tryz.func183,Tryz.ntmps183
     go_wp2_with (first
      | (go_at_call 239;refine(qK _ _ hE hs).mono ?_;rintro e w1 ⟨rfl,iT⟩)
      | (go_at_call 240;refine(Ci _ _ (hE.below ‹_›) hs).mono ?_;rintro e w2 ⟨rfl,gx⟩))
     go_ret2
     rw[Hq.out]
     exact⟨rfl,cM ‹_› ‹_›⟩
    ·have Hq:=hid (show ck s=(lower s,0) by unfold ck;simp[h1,h2,h3,h4])
     go_enter Tryz.func183,Tryz.ntmps183
     go_wp2_with (first
      | (go_at_call 239;refine(qK _ _ hE hs).mono ?_;rintro e w1 ⟨rfl,iT⟩)
      | (go_at_call 240;refine(Ci _ _ (hE.below iT) hs).mono ?_;rintro e w2 ⟨rfl,gx⟩)
      | (go_at_call 175;refine(q8 _ _ (by omega)).mono ?_;rintro e w3 ⟨rfl,KW⟩))
     go_ret2
     rw[Hq.out]
     exact⟨rfl,cM (cM iT gx) KW⟩
   ·have Hq:=hid (show ck s=(lower s,0) by unfold ck;simp[h1,h2,h3])
    go_enter Tryz.func183,Tryz.ntmps183
    go_wp2_with (first
     | (go_at_call 239;refine(qK _ _ hE hs).mono ?_;rintro e w1 ⟨rfl,iT⟩)
     | (go_at_call 175;refine(q8 _ _ (by omega)).mono ?_;rintro e w3 ⟨rfl,KW⟩))
    go_ret2
    rw[Hq.out]
    exact⟨rfl,cM iT KW⟩
 ·have Hq:=hid (show ck s=([],3) by unfold ck;simp[h1])
  go_enter Tryz.func183,Tryz.ntmps183
  go_wp2_with fail
  go_ret2
  rw[Hq.out]
  exact⟨rfl,Below.refl _ _⟩
open Go.RowKit Go.Sort Wf
attribute [local go_sem] fE eV get_list
theorem K5 (s:Bytes)(w:World)(hs:s.length≤9223372036854775807) :
 Calls Tryz.prog 184 #[(Value.string ⟨zQo (s)⟩)] w fun e w'=>e=.returned (.tuple #[.int .i64 (ks s).1,.int .i64 (ks s).2])∧w=w':=by
 have hle:=kE 65535 s
 have hq:ks s=if (aS 65535 s).2≠0∨(aS 65535 s).1=0 then(0,51) else(((aS 65535 s).1:Int),0):=rfl
 have hc:=jQ s 65535 w (by omega) (by omega)
 generalize aS 65535 s=np at hle hq hc
 obtain⟨n,e⟩:=np
 simp only at hle hq hc
 have Hc:=hid hc
 clear hc
 by_cases he:e=0
 ·subst he
  by_cases hn:n=0
  ·rw[if_pos (Or.inr hn)]at hq
   have Hq:=hid hq
   have hx:((n:Int)==0)=true:=by simp[hn]
   clear hq hn
   go_enter Tryz.func184,Tryz.ntmps184
   go_wp2_with fail
   refine Hc.out.mono ?_
   rintro e w' ⟨rfl,rfl⟩
   go_wp2_with fail
   go_ret2
   rw[Hq.out]
   exact⟨rfl,rfl⟩
  ·rw[if_neg (by simp[hn])]at hq
   have Hq:=hid hq
   have hx:((n:Int)==0)=false:=by simp[hn]
   clear hq hn
   go_enter Tryz.func184,Tryz.ntmps184
   go_wp2_with fail
   refine Hc.out.mono ?_
   rintro e w' ⟨rfl,rfl⟩
   go_wp2_with fail
   go_ret2
   rw[Hq.out]
   exact⟨rfl,rfl⟩
 ·rw[if_pos (Or.inl he)]at hq
  have Hq:=hid hq
  have hx:(e != 0)=true:=by simp[he]
  clear hq
  go_enter Tryz.func184,Tryz.ntmps184
  go_wp2_with fail
  refine Hc.out.mono ?_
  rintro e w' ⟨rfl,rfl⟩
  go_wp2_with fail
  go_ret2
  rw[Hq.out]
  exact⟨rfl,rfl⟩
theorem IA (s:Bytes)(w:World)(hE:Env w)(hs:s.length<4294967281) :
 Calls Tryz.prog 113 #[(Value.string ⟨zQo (s)⟩)] w fun e w'=>e=.returned (.tuple #[.agg #[(Value.string ⟨zQo ((aK s).1.1)⟩),.int .i64 (aK s).1.2],.int .i64 (aK s).2])∧Below w.heap.size w w':=by
 have iU:=jn 58 s
 have Mh:=fun w hE=>Jf s 58 w hE hs
 have hq:aK s=cY (ck (aN 58 s).1) (aN 58 s).2.2 (ks (aN 58 s).2.1):=rfl
 generalize aN 58 s=C at iU Mh hq
 obtain⟨first,rest,colon⟩:=C
 simp only at iU Mh hq
 have hh:=fun w hE=>K6 first w hE (by omega)
 have hp:=fun w=>K5 rest w (by omega)
 generalize ck first=H at hq hh
 generalize ks rest=P at hq hp
 obtain⟨h,e⟩:=H
 obtain⟨p,f⟩:=P
 simp only at hh hp
 have Hct:=hid Mh
 have Hh:=hid hh
 have Hp:=hid hp
 clear Mh hh hp iU
 have ha:=eI w (.cells #[(Value.string ⟨zQo ([])⟩),.int .i64 0] 24)
 have IH:Below w.heap.size w (w.alloc (.cells #[(Value.string ⟨zQo ([])⟩),.int .i64 0] 24)):=(Below.refl _ _).alloc (zQt _) _
 generalize Nz:w.alloc (.cells #[(Value.string ⟨zQo ([])⟩),.int .i64 0] 24)=wa at ha IH
 have Ha:=hid ha
 have Hba:=hid IH
 have Hwa:=hid Nz
 clear ha IH Nz
 by_cases he:e=0
 ·subst he
  cases colon
  ·have Hq:=hid (show aK s=((h,0),0) from hq)
   clear hq
   go_enter Tryz.func113,Tryz.ntmps113
   go_wp2_with fail
   rw[Hwa.out]
   refine(Hct.out _ (hE.below Hba.out)).mono ?_
   rintro e w1 ⟨rfl,n,iT⟩
   have Hw1:Hid (Below w.heap.size w w1):=hid (by rw[iT];exact below_drewN Hba.out _)
   have Ha1:Hid (w1.heap[w.heap.size]? = some (.cells #[(Value.string ⟨zQo ([])⟩),.int .i64 0] 24 (0,0))):=hid (by rw[iT];exact Ha.out)
   clear iT
   go_wp2_with fail
   refine(Hh.out _ (hE.below Hw1.out)).mono ?_
   rintro e w2 ⟨rfl,gx⟩
   have Ha2:=hid ((gx.block _ (cU Ha1.out)).trans Ha1.out)
   have Hw2:=hid (cM Hw1.out gx)
   clear gx
   have aA:=cU Ha2.out
   have c0:=Lib.cell_of_heap Ha2.out 0
   have c1:=Lib.cell_of_heap Ha2.out 1
   have z0:=Lib.frozen_of_heap Ha2.out 0
   have z1:=Lib.frozen_of_heap Ha2.out 1
   go_wp2_with fail
   refine bodyPost_ret (v:=.tuple #[.agg #[(Value.string ⟨zQo (h)⟩),.int .i64 0],.int .i64 0]) (by simp[results,Tryz.results113,go_sem,c0,c1,aA]) rfl ⟨?_,?_⟩
   ·rw[Hq.out]
   ·repeat (first|exact Hw2.out | (refine Below.setCell (p:=⟨_,_,none⟩) ?_ (by simp <;> omega) _) | (refine Below.alloc ?_ (by simp <;> omega) _) | refine Below.drew ?_)
  ·by_cases hf:f=0
   ·subst hf
    by_cases pS:p=443
    ·have Hq:=hid (show aK s=((h,0),0) by rw[hq];unfold cY;simp[pS])
     have hx:(p==443)=true:=by simp[pS]
     clear hq pS
     go_enter Tryz.func113,Tryz.ntmps113
     go_wp2_with fail
     rw[Hwa.out]
     refine(Hct.out _ (hE.below Hba.out)).mono ?_
     rintro e w1 ⟨rfl,n,iT⟩
     have Hw1:Hid (Below w.heap.size w w1):=hid (by rw[iT];exact below_drewN Hba.out _)
     have Ha1:Hid (w1.heap[w.heap.size]? = some (.cells #[(Value.string ⟨zQo ([])⟩),.int .i64 0] 24 (0,0))):=hid (by rw[iT];exact Ha.out)
     clear iT
     go_wp2_with fail
     refine(Hh.out _ (hE.below Hw1.out)).mono ?_
     rintro e w2 ⟨rfl,gx⟩
     have Ha2:=hid ((gx.block _ (cU Ha1.out)).trans Ha1.out)
     have Hw2:=hid (cM Hw1.out gx)
     clear gx
     have aA:=cU Ha2.out
     have c0:=Lib.cell_of_heap Ha2.out 0
     have c1:=Lib.cell_of_heap Ha2.out 1
     have z0:=Lib.frozen_of_heap Ha2.out 0
     have z1:=Lib.frozen_of_heap Ha2.out 1
     go_wp2_with (go_at_call 184;refine(Hp.out _).mono ?_;rintro e w3 ⟨rfl,rfl⟩)
     refine bodyPost_ret (v:=.tuple #[.agg #[(Value.string ⟨zQo (h)⟩),.int .i64 0],.int .i64 0]) (by simp[results,Tryz.results113,go_sem,c0,c1,aA]) rfl ⟨?_,?_⟩
     ·rw[Hq.out]
     ·repeat (first|exact Hw2.out | (refine Below.setCell (p:=⟨_,_,none⟩) ?_ (by simp <;> omega) _) | (refine Below.alloc ?_ (by simp <;> omega) _) | refine Below.drew ?_)
    ·have Hq:=hid (show aK s=((h,p),0) by rw[hq];unfold cY;simp[pS])
     have hx:(p==443)=false:=by simp[pS]
     clear hq pS
     go_enter Tryz.func113,Tryz.ntmps113
     go_wp2_with fail
     rw[Hwa.out]
     refine(Hct.out _ (hE.below Hba.out)).mono ?_
     rintro e w1 ⟨rfl,n,iT⟩
     have Hw1:Hid (Below w.heap.size w w1):=hid (by rw[iT];exact below_drewN Hba.out _)
     have Ha1:Hid (w1.heap[w.heap.size]? = some (.cells #[(Value.string ⟨zQo ([])⟩),.int .i64 0] 24 (0,0))):=hid (by rw[iT];exact Ha.out)
     clear iT
     go_wp2_with fail
     refine(Hh.out _ (hE.below Hw1.out)).mono ?_
     rintro e w2 ⟨rfl,gx⟩
     have Ha2:=hid ((gx.block _ (cU Ha1.out)).trans Ha1.out)
     have Hw2:=hid (cM Hw1.out gx)
     clear gx
     have aA:=cU Ha2.out
     have c0:=Lib.cell_of_heap Ha2.out 0
     have c1:=Lib.cell_of_heap Ha2.out 1
     have z0:=Lib.frozen_of_heap Ha2.out 0
     have z1:=Lib.frozen_of_heap Ha2.out 1
     go_wp2_with (go_at_call 184;refine(Hp.out _).mono ?_;rintro e w3 ⟨rfl,rfl⟩)
     refine bodyPost_ret (v:=.tuple #[.agg #[(Value.string ⟨zQo (h)⟩),.int .i64 p],.int .i64 0]) (by simp[results,Tryz.results113,go_sem,c0,c1,aA]) rfl ⟨?_,?_⟩
     ·rw[Hq.out]
     ·repeat (first|exact Hw2.out | (refine Below.setCell (p:=⟨_,_,none⟩) ?_ (by simp <;> omega) _) | (refine Below.alloc ?_ (by simp <;> omega) _) | refine Below.drew ?_)
   ·have Hq:=hid (show aK s=(([],0),f) by rw[hq];unfold cY;simp[hf])
    have hx:(f != 0)=true:=by simp[hf]
    clear hq hf
    go_enter Tryz.func113,Tryz.ntmps113
    go_wp2_with fail
    rw[Hwa.out]
    refine(Hct.out _ (hE.below Hba.out)).mono ?_
    rintro e w1 ⟨rfl,n,iT⟩
    have Hw1:Hid (Below w.heap.size w w1):=hid (by rw[iT];exact below_drewN Hba.out _)
    have Ha1:Hid (w1.heap[w.heap.size]? = some (.cells #[(Value.string ⟨zQo ([])⟩),.int .i64 0] 24 (0,0))):=hid (by rw[iT];exact Ha.out)
    clear iT
    go_wp2_with fail
    refine(Hh.out _ (hE.below Hw1.out)).mono ?_
    rintro e w2 ⟨rfl,gx⟩
    have Ha2:=hid ((gx.block _ (cU Ha1.out)).trans Ha1.out)
    have Hw2:=hid (cM Hw1.out gx)
    clear gx
    have aA:=cU Ha2.out
    have c0:=Lib.cell_of_heap Ha2.out 0
    have c1:=Lib.cell_of_heap Ha2.out 1
    have z0:=Lib.frozen_of_heap Ha2.out 0
    have z1:=Lib.frozen_of_heap Ha2.out 1
    go_wp2_with (go_at_call 184;refine(Hp.out _).mono ?_;rintro e w3 ⟨rfl,rfl⟩)
    refine bodyPost_ret (v:=.tuple #[.agg #[(Value.string ⟨zQo ([])⟩),.int .i64 0],.int .i64 f]) (by simp[results,Tryz.results113,go_sem,c0,c1,aA]) rfl ⟨?_,?_⟩
    ·rw[Hq.out]
    ·repeat (first|exact Hw2.out | (refine Below.setCell (p:=⟨_,_,none⟩) ?_ (by simp <;> omega) _) | (refine Below.alloc ?_ (by simp <;> omega) _) | refine Below.drew ?_)
 ·have hx:(e != 0)=true:=by simp[he]
  have Hq:=hid (show aK s=(([],0),e) by rw[hq];unfold cY;rw[if_pos he])
  clear hq he
  go_enter Tryz.func113,Tryz.ntmps113
  go_wp2_with fail
  rw[Hwa.out]
  refine(Hct.out _ (hE.below Hba.out)).mono ?_
  rintro e w1 ⟨rfl,n,iT⟩
  have Hw1:Hid (Below w.heap.size w w1):=hid (by rw[iT];exact below_drewN Hba.out _)
  have Ha1:Hid (w1.heap[w.heap.size]? = some (.cells #[(Value.string ⟨zQo ([])⟩),.int .i64 0] 24 (0,0))):=hid (by rw[iT];exact Ha.out)
  clear iT
  go_wp2_with fail
  refine(Hh.out _ (hE.below Hw1.out)).mono ?_
  rintro e w2 ⟨rfl,gx⟩
  have Ha2:=hid ((gx.block _ (cU Ha1.out)).trans Ha1.out)
  have Hw2:=hid (cM Hw1.out gx)
  clear gx
  have aA:=cU Ha2.out
  have c0:=Lib.cell_of_heap Ha2.out 0
  have c1:=Lib.cell_of_heap Ha2.out 1
  have z0:=Lib.frozen_of_heap Ha2.out 0
  have z1:=Lib.frozen_of_heap Ha2.out 1
  go_wp2_with fail
  refine bodyPost_ret (v:=.tuple #[.agg #[(Value.string ⟨zQo ([])⟩),.int .i64 0],.int .i64 e]) (by simp[results,Tryz.results113,go_sem,c0,c1]) rfl ⟨?_,?_⟩
  ·rw[Hq.out]
  ·repeat (first|exact Hw2.out | (refine Below.setCell (p:=⟨_,_,none⟩) ?_ (by simp <;> omega) _) | (refine Below.alloc ?_ (by simp <;> omega) _) | refine Below.drew ?_)
theorem Ki (B a:Nat)(ha:a≤19)(W:World):(Instr.sliceAt 267 (.pointer (some ⟨B,0,none⟩)) (some (.int .i64 a)) none none).run Tryz.prog W=.ok (.slice (some ⟨B,a,none⟩) (20 - a) (20 - a)) W:=by
 have Co:Tryz.prog.arrayLen 267=20:=by kernel_rfl
 have he:Tryz.prog.elem 267=5:=by kernel_rfl
 have hu:Tryz.prog.underlying 267=some (.array (Tryz.prog.arrayLen 267) (Tryz.prog.elem 267)):=by kernel_rfl
 rw[run_sliceAt_array_l W _ ⟨B,0,none⟩ hu .i64 a (by omega) (by rw[Co];omega),he,Co,Tryz.sizeOf5]
 have:¬ (20=a):=by omega
 simp[Result.andThen,slicedAt,G1,this]
theorem rW (n:Nat)(w:World)(hn:n≤18446744073709551615) :
 Calls Tryz.prog 185 #[.int .u64 n] w fun e w'=>e=.returned (Value.string ⟨zQo (bW n)⟩)∧Below w.heap.size w w':=by
 have hlen:(bW n).length≤20:=cI 19 n (by omega)
 go_enter Tryz.func185,Tryz.ntmps185
 go_wp2_with fail
 go_loopw [0,4] (fun v i wr=>∃ (k a:Nat) (x ds:Bytes),v=.int .u64 k∧i=.int .i64 a∧k≤18446744073709551615∧a≤19∧jA wr w.heap.size (x++ds)∧x.length=a+1∧ds.length=19 - a∧bW k++ds=bW n∧(bW k).length≤a+1∧Below w.heap.size w wr) (fun v _ _=>(intOf v).toNat)
 case atStart =>
  refine⟨n,19,List.replicate 20 0,[],rfl,rfl,hn,by omega,?_,by simp,rfl,by simp,hlen,(Below.refl _ _).alloc (zQt _) _⟩
  exact⟨[],_,(0,0),eI _ _,Or.inr (by simp)⟩
 case round =>
  obtain⟨k,a,x,ds,rfl,rfl,hk,ha,eK,hx,hds,heq,hl,hw⟩:=hrel
  obtain⟨y,z,rfl,hy⟩:=snoc_of hx
  have e:y++[z]++ds=y++z::ds:=by simp
  rw[e]at eK
  obtain⟨cv,iM⟩:∃ q:Int,wr.cell? ⟨w.heap.size,a,none⟩=some (.int .u8 q):=⟨_,eK.cell (k:=a) (by simp;omega)⟩
  have NU:=eK.frozen (k:=a) (by simp;omega)
  have Hrow:=hid eK
  have Heq:=hid heq
  have Hw:=hid hw
  have Hy:=hid hy
  have Hds:=hid hds
  clear eK heq hw hy hds hx e
  by_cases de:k<10
  ·have hY:=Hrow.out.set (k:=a) (by have:=Hy.out;simp;omega) (qV k)
   have eg:(y++z::ds).set a (qV k)=y++(qV k)::ds:=by rw[← Hy.out];exact Jb y z _ ds
   rw[eg,qU de]at hY
   have kx:=fun cap=>hY.backAt Hy.out cap
   have pK:((qV k)::ds).length=20 - a:=by have:=Hds.out;simp;omega
   rw[pK]at kx
   have Hds2:=hid (show bW n=(qV k)::ds by rw[← Heq.out,fm de];rfl)
   have fD:=Ki w.heap.size a ha
   clear hY eg pK
   go_wp2_with fail
   go_ret
   exact⟨kA Hds2.out.symm,Hw.out.setCell (p:=⟨w.heap.size,a,none⟩) (zQt _) _⟩
  ·have hY:=Hrow.out.set (k:=a) (by have:=Hy.out;simp;omega) (qV (k % 10))
   have eg:(y++z::ds).set a (qV (k % 10))=y++(qV (k % 10))::ds:=by rw[← Hy.out];exact Jb y z _ ds
   rw[eg,qU (show k % 10<10 by omega)]at hY
   have Hst:=hid hY
   have Heq2:=hid (show bW (k / 10)++(qV (k % 10))::ds=bW n by rw[← Heq.out,jm de];simp)
   have kJ:=ko de
   have hp2:=Al (k / 10)
   have Hl2:=hid kJ
   clear hY eg kJ
   go_wp2_with fail
   have h1:=Hl2.out
   refine⟨⟨k / 10,a - 1,y,_,congrArg (Value.int .u64) (by omega),congrArg (Value.int .i64) (by omega),by omega,by omega,Hst.out,by have:=Hy.out;omega,by have:=Hds.out;simp;omega,Heq2.out,by omega,Hw.out.setCell (p:=⟨w.heap.size,a,none⟩) (zQt _) _⟩,?_⟩
   simp[intOf];omega
theorem neg_u64 (p:Int)(h:p<0)(h1:-9223372036854775808≤p):IntKind.u64.wrap (-(IntKind.u64.wrap p))=(p.natAbs:Int):=by
 simp only[IntKind.wrap,IntKind.signed,IntKind.bits]
 simp
 omega
theorem Gf (h:Bytes)(p:Int)(w:World)(hh:h.length≤4611686018427387904)(h1:-9223372036854775808≤p)(h2:p≤9223372036854775807) :
 Calls Tryz.prog 114 #[.agg #[(Value.string ⟨zQo (h)⟩),.int .i64 p]] w fun e w'=>e=.returned (Value.string ⟨zQo (bt h p)⟩)∧Below w.heap.size w w':=by
 have ha:=eI w (.cells #[(Value.string ⟨zQo (h)⟩),.int .i64 p] 24)
 have IH:Below w.heap.size w (w.alloc (.cells #[(Value.string ⟨zQo (h)⟩),.int .i64 p] 24)):=(Below.refl _ _).alloc (zQt _) _
 generalize Nz:w.alloc (.cells #[(Value.string ⟨zQo (h)⟩),.int .i64 p] 24)=wa at ha IH
 have aA:=cU ha
 have c0:wa.cell? ⟨w.heap.size,0,none⟩=some (Value.string ⟨zQo (h)⟩):=Lib.cell_of_heap ha 0
 have c1:wa.cell? ⟨w.heap.size,1,none⟩=some (.int .i64 p):=Lib.cell_of_heap ha 1
 have Hba:=hid IH
 have Hwa:=hid Nz
 clear ha IH Nz
 by_cases h0:p=0
 ·subst h0
  have Hq:=hid (show bt h 0=h from if_pos rfl)
  go_enter Tryz.func114,Tryz.ntmps114
  go_wp2_with fail
  rw[Hwa.out]
  go_wp2_with fail
  go_ret
  exact⟨kA Hq.out.symm,Hba.out⟩
 ·have hx:(p==0)=false:=by simp[h0]
  by_cases DL:p<0
  ·have Hq:=hid (show bt h p=h++[58,45]++bW p.natAbs by unfold bt;rw[if_neg h0,if_pos DL])
   clear h0
   go_enter Tryz.func114,Tryz.ntmps114
   go_wp2_with fail
   rw[Hwa.out]
   go_wp2_with fail
   have hd:=cI 19 p.natAbs (by omega)
   have hu:=neg_u64 p DL h1
   have n1:¬ 9223372036854775807<h.length+2:=by omega
   have n2:¬ 9223372036854775807<h.length+2+(bW p.natAbs).length:=by omega
   have K2:p.natAbs≤18446744073709551615:=by omega
   have k0:=cell_regrown c0
   have k1:=cell_regrown c1
   clear c0 c1 hx
   refine wp_region_quiet_below (by kernel_rfl) (by kernel_rfl) ?_
   repeat (quiet_step ((go_at_call 185;exact Calls.regrown_of (rW _ _ K2))))
   refine wpQuiet_nil ?_
   intro _ hw'
   obtain⟨⟨dq,osq⟩,hw''⟩:=hw'
   subst hw''
   have cE:=below_regrown wa dq osq
   generalize grow (redrawn wa dq) osq=wq at cE ⊢
   clear hu n1 n2 k0 k1
   go_wp2_with fail
   go_ret
   exact⟨kA (by rw[Hq.out];simp),cM Hba.out cE⟩
  ·have Hq:=hid (show bt h p=h++[58]++bW p.natAbs by unfold bt;rw[if_neg h0,if_neg DL])
   clear h0
   go_enter Tryz.func114,Tryz.ntmps114
   go_wp2_with fail
   rw[Hwa.out]
   go_wp2_with fail
   have hd:=cI 19 p.natAbs (by omega)
   have hu:IntKind.u64.wrap p=(p.natAbs:Int):=(u64_in (show 0≤p by omega) h2).trans (by omega)
   have n1:¬ 9223372036854775807<h.length+1:=by omega
   have n2:¬ 9223372036854775807<h.length+1+(bW p.natAbs).length:=by omega
   have K2:p.natAbs≤18446744073709551615:=by omega
   have k0:=cell_regrown c0
   have k1:=cell_regrown c1
   clear c0 c1 hx
   refine wp_region_quiet_below (by kernel_rfl) (by kernel_rfl) ?_
   repeat (quiet_step ((go_at_call 185;exact Calls.regrown_of (rW _ _ K2))))
   refine wpQuiet_nil ?_
   intro _ hw'
   obtain⟨⟨dq,osq⟩,hw''⟩:=hw'
   subst hw''
   have cE:=below_regrown wa dq osq
   generalize grow (redrawn wa dq) osq=wq at cE ⊢
   clear hu n1 n2 k0 k1
   go_wp2_with fail
   go_ret
   exact⟨kA (by rw[Hq.out];simp),cM Hba.out cE⟩
end Go.Proofs.YtnmlimehgifadaaGreatDoor
namespace Wf
open Go Go.RowKit
theorem owns_lt {w:World}{base:Nat}{e:TypeId}{size:Nat}{v:Value}{n:Nat}{xs:List Value}(h:w.ownsRow base e size v n xs):∀ k,v.ownBlock=some k→base≤k∧k<w.heap.size :=
 (World.ownsRowF_of h).lt
theorem wp_append_one {P:Program}{ops:Array Oper}{rest:List Oper}{o:Oper}{a:Act}{Q:Exit→Act→World→Prop}{w0:World}(hgd:o.guard=none)(s x:Operand)(t:TypeId)
 (ho:o.op=.call { callee:=.builtin .append,args:=#[s,x],argTypes:=#[t,t] }) (e:TypeId) (z:Value) (bytes:Nat) (ht:P.underlying t=some (.slice e))
 (hinfo:(P.info? e).map (fun i=>(i.zero,i.size,i.bytes))=some (some z,1,bytes)) (hzs:z.cells.size=1)
 (B:Nat) (v:Value) (n:Nat) (xs:List Value) (hs:a.eval s=v) (rI:w0.ownsRow B e 1 v n xs) (u:Value) (T:TypeId)
 (hx:a.eval x=.slice (some ⟨w0.heap.size,0,none⟩) 1 1) (h1:u.oneCell'=true) (xM:n+1≤maxLen) (vW:(n+1) * bytes≤140737488355328) (hB:B≤w0.heap.size)
 (h:∀ v' w',w'.ownsRow B e 1 v' (n+1) (xs++[u])→Below B w0 w'→wpList P ops Q rest (a.put o.dst v') w'):wpList P ops Q (o::rest) a (w0.alloc (.cells #[u] T)):=by
 obtain⟨i,hi,hz0,JA,hz2⟩:=info_parts hinfo
 refine wpList_append_own _ hgd s x t ho B e i z 1 bytes ht hi hz0 JA hz2 hzs (by decide) v n xs hs (rI.alloc _) ⟨w0.heap.size,0,none⟩ 1 1 [u] hx rfl ?_ ?_ xM vW (by simp;omega) ?_
 ·intro j y hy
  rcases j with _|j
  ·simp at hy;subst hy
   exact Go.Lib.cell_of_heap (eI _ _) 0
  ·simp at hy
 ·intro y hy;simp at hy;subst hy;exact h1
 ·intro v' w' h2 h3 _
  exact h v' w' h2 (((Below.refl B w0).alloc hB _).grown h3 (by simp;omega) (fun k hk=>(owns_lt rI k hk).1))
theorem y8 {w:World}{B:Nat}{e:TypeId}{v:Value}{n:Nat}{xs:List Value}(h:w.ownsRow B e 1 v n xs)(hn:0<n) :
 ∃ g cap,v=.slice (some ⟨g,0,none⟩) n cap∧B≤g∧g<w.heap.size∧n≤cap∧cap≤maxLen∧xs.length=n∧∀ j,j<n→w.cell? ⟨g,j,none⟩=xs[j]? := by
 obtain⟨h1,h2⟩:=h
 rcases h2 with⟨_,h0⟩|⟨g,cap,cur,rfl,hg,hh,hc,hm,mL,ht⟩
 ·omega
 ·refine⟨g,cap,rfl,hg,(Array.getElem?_eq_some_iff.1 hh).1,hc,hm,by simpa using h1,fun j hj=>?_⟩
  have:=World.ownsRow.cellAt (w:=w) (base:=B) (e:=e) (size:=1) (g:=g) (n:=n) (cap:=cap) (xs:=xs) ⟨h1,.inr ⟨g,cap,cur,rfl,hg,hh,hc,hm,mL,ht⟩⟩ j (by omega)
  exact this
theorem Mt {a b:UInt8}(h:a≠b):((a.toNat:Int) != (b.toNat:Int))=true:=by
 rw[bne_iff_ne];intro e;exact h (zQY.1 (by omega))
end Wf
namespace Go.Proofs.YtnmlimehgifadaaGreatDoor
open Go.RowKit Go.Sort Wf
attribute [local go_sem] fE eV get_list
def RetStrs (w:World)(l:List Bytes)(e:Ending)(w':World):Prop:=∃ v,e=.returned v∧w'.ownsRow w.heap.size 9 1 v l.length (l.map ov)∧Below w.heap.size w w'
theorem Tryz.Jy:(Tryz.prog.info? 9).map (fun i=>(i.zero,i.size,i.bytes))=some (some (Value.string ⟨zQo ([])⟩),1,16):=by kernel_rfl
theorem wO (s:Bytes)(c:UInt8)(w:World)(hs:s.length≤1000000000) :
 Calls Tryz.prog 126 #[(Value.string ⟨zQo (s)⟩),.int .u8 c.toNat] w (RetStrs w (aF c s)):=by
 go_enter Tryz.func126,Tryz.ntmps126
 go_wp2_with fail
 go_loopw [5,6,7] (fun v f i wr=>∃ (L:List Bytes) (a k:Nat),f=.int .i64 a∧i=.int .i64 k∧a≤k∧k≤s.length∧k - a≤pre (·==c) (s.drop a)∧wr.ownsRow w.heap.size 9 1 v L.length (L.map ov)∧L.length≤a∧L++aF c (s.drop a)=aF c s∧Below w.heap.size w wr) (fun _ _ i _=>s.length - (intOf i).toNat)
 case atStart=>exact⟨[],0,0,rfl,rfl,by omega,by omega,by omega,World.ownsRow_nil _ _ _ _,by simp,rfl,Below.refl _ _⟩
 case round =>
  obtain⟨L,a,k,rfl,rfl,hak,hks,fj,rI,hLa,heq,hw⟩:=hrel
  have Hown:=hid rI
  have Heq:=hid heq
  have Hw:=hid hw
  have Hpre:=hid fj
  clear rI heq hw fj
  by_cases aA:k<s.length
  ·have pK:(s.drop a).length=s.length - a:=by simp
   by_cases hc:s[k]=c
   ·have hx:=u8_eq hc
    have hp:pre (·==c) (s.drop a)=k - a:=by
     have h1:=Hpre.out
     rcases zQI (k - a) (pre (·==c) (s.drop a)) with h|h
     ·have:=jc h (by omega)
      rw[List.getElem_drop]at this
      simp only[show a+(k - a)=k by omega]at this
      rw[hc]at this
      simp at this
     ·omega
    have hh:aF c (s.drop a)=(s.drop a).take (k - a)::aF c (s.drop (k+1)):=by
     have:=dH (c:=c) (s:=s.drop a) (by omega)
     rw[hp,List.drop_drop,show a+(k - a+1)=k+1 by omega]at this
     exact this
    have fD:List.drop a (List.take k s)=(s.drop a).take (k - a):=by rw[List.drop_take]
    have Hn:Hid ((L++[List.drop a (List.take k s)])++aF c (s.drop (k+1))=aF c s):=hid (by rw[← Heq.out,hh,fD];simp)
    clear hc hp hh fD pK
    have hwl:=hid (Hw.out.size)
    go_wp2_with (at_builtin;refine wp_append_one rfl _ _ 76 rfl 9 (Value.string ⟨zQo ([])⟩) 16 Tryz.underlying76 Tryz.Jy rfl w.heap.size _ L.length (L.map ov) rfl Hown.out (ov (List.drop a (List.take k s))) _ rfl rfl (by unfold maxLen;omega) (by omega) hwl.out ?_;intro v' w' hown' hb')
    go_roundw
    case rel=>exact⟨L++[List.drop a (List.take k s)],k+1,k+1,by go_num,by go_num,by omega,by omega,by omega,by simpa using hown',by simp;omega,Hn.out,Hw.out.trans hb'⟩
    case measure=>simp[intOf];omega
   ·have hx:=EC hc
    have Hp:Hid (k+1 - a≤pre (·==c) (s.drop a)):=hid (by
     have h1:=Hpre.out
     rcases zQI (k - a) (pre (·==c) (s.drop a)) with h|h
     ·omega
     ·have hq:pre (·==c) (s.drop a)=k - a:=by omega
      have:=iC (p:=(·==c)) (l:=s.drop a) (by omega)
      simp only[hq,List.getElem_drop,show a+(k - a)=k by omega]at this
      exact absurd (by simpa using this) hc)
    clear hc pK
    go_wp2_with fail
    go_roundw
    case rel=>exact⟨L,a,k+1,rfl,by go_num,by omega,by omega,Hp.out,Hown.out,by omega,Heq.out,Hw.out⟩
    case measure=>simp[intOf];omega
  ·have hm:=dm (c:=c) (s:=s.drop a) (by have:=Hpre.out;simp;omega)
   have Hn:Hid (L++[s.drop a]=aF c s):=hid (by rw[← Heq.out,hm])
   clear hm
   have hwl:=hid (Hw.out.size)
   go_wp2_with (at_builtin;refine wp_append_one rfl _ _ 76 rfl 9 (Value.string ⟨zQo ([])⟩) 16 Tryz.underlying76 Tryz.Jy rfl w.heap.size _ L.length (L.map ov) rfl Hown.out (ov (s.drop a)) _ rfl rfl (by unfold maxLen;omega) (by omega) hwl.out ?_;intro v' w' hown' hb')
   go_ret
   exact⟨v',rfl,by rw[← Hn.out];simpa using hown',Hw.out.trans hb'⟩
theorem wN (s:Bytes)(w:World)(hs:s.length≤9223372036854775807) :
 Calls Tryz.prog 202 #[(Value.string ⟨zQo (s)⟩)] w fun e w'=>e=.returned (.bool (bS s))∧w=w':=by
 go_enter Tryz.func202,Tryz.ntmps202
 go_wp2_with fail
 go_loop [3] (fun i=>∃ k:Nat,k≤s.length∧i=.int .i64 k∧(s.take k).all xY=true) (fun i=>s.length - (intOf i).toNat)
 case atStart=>exact⟨0,by omega,rfl,rfl⟩
 case round =>
  obtain⟨k,hk,rfl,bp⟩:=hrel
  have Hall:=hid bp
  clear bp
  by_cases aA:k<s.length
  ·cases hc:xY s[k]
   ·have Ha:=hid (show bS s=false by unfold bS;rw[dC aA hc];simp)
    have hc':=hc
    unfold xY at hc'
    simp only[Bool.or_eq_false_iff]at hc'
    obtain⟨⟨c1,c2⟩,c3⟩:=hc'
    have c4:((s[k].toNat:Int) != 45)=true:=by
     have:s[k]≠45:=by simpa using c3
     rw[bne_iff_ne]
     intro h
     exact this (zQY.1 (by simp;omega))
    clear c3 hc
    go_wp2_with (first
     | (go_at_call 147;refine(jO _ _).mono ?_;rintro e w' ⟨rfl,rfl⟩)
     | (go_at_call 148;refine(eN _ _).mono ?_;rintro e w' ⟨rfl,rfl⟩))
    go_ret
    exact⟨bD Ha.out.symm,rfl⟩
   ·have Hc:=hid (bn aA Hall.out hc)
    unfold xY at hc
    simp only[Bool.or_eq_true,beq_iff_eq]at hc
    rcases hc with(hc|hc) | hc
    ·go_wp2_with (first
     | (go_at_call 147;refine(jO _ _).mono ?_;rintro e w' ⟨rfl,rfl⟩)
     | (go_at_call 148;refine(eN _ _).mono ?_;rintro e w' ⟨rfl,rfl⟩))
     go_round
     case rel=>exact⟨k+1,by omega,by go_num,Hc.out⟩
     case measure=>simp[intOf];omega
    ·cases hca:isAlpha s[k]
     all_goals
      go_wp2_with (first
       | (go_at_call 147;refine(jO _ _).mono ?_;rintro e w' ⟨rfl,rfl⟩)
       | (go_at_call 148;refine(eN _ _).mono ?_;rintro e w' ⟨rfl,rfl⟩))
      go_round
      case rel=>exact⟨k+1,by omega,by go_num,Hc.out⟩
      case measure=>simp[intOf];omega
    ·have c4:((s[k].toNat:Int) != 45)=false:=by simp[hc]
     clear hc
     cases hca:isAlpha s[k] <;> cases En:isDigit s[k]
     all_goals
      go_wp2_with (first
       | (go_at_call 147;refine(jO _ _).mono ?_;rintro e w' ⟨rfl,rfl⟩)
       | (go_at_call 148;refine(eN _ _).mono ?_;rintro e w' ⟨rfl,rfl⟩))
      go_round
      case rel=>exact⟨k+1,by omega,by go_num,Hc.out⟩
      case measure=>simp[intOf];omega
  ·have bp:=Hall.out
   rw[zQu (by omega)]at bp
   have Ha:=hid bp
   clear bp Hall
   cases h1:s.isEmpty
   ·by_cases h2:63<s.length
    ·have Hq:=hid (show bS s=false by unfold bS;simp;omega)
     go_wp2_with fail
     go_ret
     exact⟨bD Hq.out.symm,rfl⟩
    ·have hl:0<s.length:=by cases s <;> simp at h1 ⊢
     have h2':s.length≤63:=by omega
     by_cases h3:s[0]=45
     ·have Hq:=hid (show bS s=false by unfold bS;rw[nT hl,h3];simp)
      have hx:((s[0].toNat:Int) != 45)=false:=by simp[h3]
      clear h3
      go_wp2_with fail
      go_ret
      exact⟨bD Hq.out.symm,rfl⟩
     ·have hx:((s[0].toNat:Int) != 45)=true:=Mt h3
      by_cases h4:s[s.length - 1]=45
      ·have Hq:=hid (show bS s=false by
        unfold bS
        rw[List.getLast?_eq_getElem?,zQw (by omega),h4];simp)
       have hy:((s[s.length - 1].toNat:Int) != 45)=false:=by simp[h4]
       clear h4 h3
       go_wp2_with fail
       go_ret
       exact⟨bD Hq.out.symm,rfl⟩
      ·have hy:((s[s.length - 1].toNat:Int) != 45)=true:=Mt h4
       have Hq:=hid ((zy s h1 (by omega) (by rw[zQw hl];simpa using h3) (by rw[zQw (by omega)];simpa using h4)).trans Ha.out)
       clear h3 h4
       go_wp2_with fail
       go_ret
       exact⟨bD Hq.out.symm,rfl⟩
   ·have Hq:=hid (show bS s=false by unfold bS;simp[h1])
    go_wp2_with fail
    go_ret
    exact⟨bD Hq.out.symm,rfl⟩
theorem kB (s:Bytes)(w:World)(hs:s.length≤1000000000) :
 Calls Tryz.prog 118 #[(Value.string ⟨zQo (s)⟩)] w fun e w'=>e=.returned (.bool (ipv4 s))∧Below w.heap.size w w':=by
 have hq:ipv4 s=((aF 46 s).length==4&&(aF 46 s).all gv):=rfl
 have tw:=wO s 46 w hs
 have hlen:∀ x∈aF 46 s,x.length≤s.length:=iA 46 s
 have bK:=rm 46 s
 generalize aF 46 s=parts at hq tw hlen bK
 have zL:=List.length_pos_iff.2 bK
 have Hq:=hid hq
 have Hsp:=hid tw
 have Hlen:=hid hlen
 clear hq tw hlen bK
 go_enter Tryz.func118,Tryz.ntmps118
 go_wp2_with fail
 refine Hsp.out.mono ?_
 rintro e w1 ⟨v,rfl,rI,iT⟩
 obtain⟨g,cap,rfl,hg,hgl,zX,hcm,_,gH⟩:=y8 rI zL
 have Hw1:=hid iT
 have Hcells:=hid gH
 unfold maxLen at hcm
 clear iT gH rI
 go_wp2_with fail
 go_loop [12] (fun i=>∃ k:Nat,k≤parts.length∧i=.int .i64 k∧(parts.take k).all gv=true) (fun i=>parts.length - (intOf i).toNat)
 case atStart=>exact⟨0,by omega,rfl,rfl⟩
 case round =>
  obtain⟨k,hk,rfl,bp⟩:=hrel
  have Hall:=hid bp
  clear bp
  by_cases aA:k<parts.length
  ·have iM:w1.cell? ⟨g,k,none⟩=some (Value.string ⟨zQo (parts[k])⟩):=by
    rw[Hcells.out k aA]
    simp[aA,ov]
   have Lc:=Hlen.out parts[k] (zQQ aA)
   have K9:gv parts[k]=((aS 255 parts[k]).2==0):=rfl
   cases hc:gv parts[k]
   ·have Ha:=hid (dC aA hc)
    have hn:((aS 255 parts[k]).2 != 0)=true:=by rw[hc]at K9;simp only[bne];rw[← K9];rfl
    clear K9
    go_wp2_with (go_at_call 150;refine(oA _ 255 _ (by omega) (by omega)).mono ?_;rintro e w' ⟨rfl,rfl⟩)
    go_ret
    exact⟨bD (by rw[Hq.out,Ha.out];simp),Hw1.out⟩
   ·have Hn:=hid (bn aA Hall.out hc)
    have hn:((aS 255 parts[k]).2 != 0)=false:=by rw[hc]at K9;simp only[bne];rw[← K9];rfl
    clear K9
    go_wp2_with (go_at_call 150;refine(oA _ 255 _ (by omega) (by omega)).mono ?_;rintro e w' ⟨rfl,rfl⟩)
    go_round
    case rel=>exact⟨k+1,by omega,by go_num,Hn.out⟩
    case measure=>simp[intOf];omega
  ·have bp:=Hall.out
   rw[zQu (by omega)]at bp
   have Ha:=hid bp
   clear bp Hall
   go_wp2_with fail
   go_ret
   exact⟨bD (by rw[Hq.out,Ha.out,Bool.and_true,zQM];simp;omega),Hw1.out⟩
theorem KN (l:List Bytes)(h:l≠[]):o7 l=(l.all bS&&!bZ (l.getLast h)):=by
 induction l with
 | nil=>exact absurd rfl h
 | cons x l ih =>
   cases l with
   | nil=>simp[o7]
   | cons y r =>
     rw[o7,ih (by simp)]
     simp[Bool.and_assoc]
theorem yM (s:Bytes)(w:World)(hs:s.length≤1000000000) :
 Calls Tryz.prog 149 #[(Value.string ⟨zQo (s)⟩)] w fun e w'=>e=.returned (.bool (fQ s))∧Below w.heap.size w w':=by
 have bK:=rm 46 s
 have tw:=wO s 46 w hs
 have hlen:∀ x∈aF 46 s,x.length≤s.length:=iA 46 s
 obtain⟨parts,Iy⟩:∃ parts,aF 46 s=parts:=⟨_,rfl⟩
 rw[Iy]at tw hlen bK
 have zL:=List.length_pos_iff.2 bK
 have hq:fQ s=(parts.all bS&&!bZ (parts[parts.length - 1]'(by omega))):=by
  unfold fQ
  rw[Iy,KN _ bK,List.getLast_eq_getElem]
 clear Iy
 have Hq:=hid hq
 have Hsp:=hid tw
 have Hlen:=hid hlen
 clear hq tw hlen
 go_enter Tryz.func149,Tryz.ntmps149
 go_wp2_with fail
 refine Hsp.out.mono ?_
 rintro e w1 ⟨v,rfl,rI,iT⟩
 obtain⟨g,cap,rfl,hg,hgl,zX,hcm,_,gH⟩:=y8 rI zL
 have Hw1:=hid iT
 have Hcells:=hid gH
 unfold maxLen at hcm
 clear iT gH rI
 go_wp2_with fail
 go_loop [10] (fun i=>∃ k:Nat,k≤parts.length∧i=.int .i64 k∧(parts.take k).all bS=true) (fun i=>parts.length - (intOf i).toNat)
 case atStart=>exact⟨0,by omega,rfl,rfl⟩
 case round =>
  obtain⟨k,hk,rfl,bp⟩:=hrel
  have Hall:=hid bp
  clear bp
  by_cases aA:k<parts.length
  ·have iM:w1.cell? ⟨g,k,none⟩=some (Value.string ⟨zQo (parts[k])⟩):=by
    rw[Hcells.out k aA]
    simp[aA,ov]
   have Lc:=Hlen.out parts[k] (zQQ aA)
   cases hc:bS parts[k]
   ·have Ha:=hid (dC aA hc)
    go_wp2_with (go_at_call 202;refine(wN _ _ (by omega)).mono ?_;rintro e w' ⟨rfl,rfl⟩)
    go_ret
    exact⟨bD (by rw[Hq.out,Ha.out];simp),Hw1.out⟩
   ·have Hn:=hid (bn aA Hall.out hc)
    go_wp2_with (go_at_call 202;refine(wN _ _ (by omega)).mono ?_;rintro e w' ⟨rfl,rfl⟩)
    go_round
    case rel=>exact⟨k+1,by omega,by go_num,Hn.out⟩
    case measure=>simp[intOf];omega
  ·have bp:=Hall.out
   rw[zQu (by omega)]at bp
   have Ha:=hid bp
   clear bp Hall
   have iM:w1.cell? ⟨g,parts.length - 1,none⟩=some (Value.string ⟨zQo (parts[parts.length - 1]'(by omega))⟩):=by
    rw[Hcells.out (parts.length - 1) (by omega)]
    rw[List.getElem?_map,zQw (by omega)]
    rfl
   have Lc:=Hlen.out (parts[parts.length - 1]'(by omega)) (zQQ _)
   have xG:parts.length - 1<parts.length:=by omega
   go_wp2_with (go_at_call 203;refine(Dg _ _ (by omega)).mono ?_;rintro e w' ⟨rfl,rfl⟩)
   go_ret
   exact⟨bD (by rw[Hq.out,Ha.out,Bool.true_and]),Hw1.out⟩
open Go.RowKit Go.Sort Wf
attribute [local go_sem] fE eV get_list
theorem sG (s:Bytes)(w:World)(hs:s.length≤1000000000) :
 Calls Tryz.prog 85 #[(Value.string ⟨zQo (s)⟩)] w fun e w'=>e=.returned (.tuple #[(Value.string ⟨zQo ((ck s).1)⟩),.int .i64 (ck s).2])∧Below w.heap.size w w':=by
 cases h1:s.isEmpty
 ·by_cases h2:253<s.length
  ·have Hq:=hid (show ck s=([],5) by unfold ck;simp[h1,h2])
   go_enter Tryz.func85,Tryz.ntmps85
   go_wp2_with fail
   go_ret2
   rw[Hq.out]
   exact⟨rfl,Below.refl _ _⟩
  ·cases h3:ipv4 s
   ·cases h4:fQ s
    ·have Hq:=hid (show ck s=([],50) by unfold ck;simp[h1,h2,h3,h4])
     go_enter Tryz.func85,Tryz.ntmps85
     go_wp2_with (first
      | (go_at_call 118;refine(kB _ _ hs).mono ?_;rintro e w1 ⟨rfl,iT⟩)
      | (go_at_call 149;refine(yM _ _ hs).mono ?_;rintro e w2 ⟨rfl,gx⟩))
     go_ret2
     rw[Hq.out]
     exact⟨rfl,cM ‹_› ‹_›⟩
    ·have Hq:=hid (show ck s=(lower s,0) by unfold ck;simp[h1,h2,h3,h4])
     go_enter Tryz.func85,Tryz.ntmps85
     go_wp2_with (first
      | (go_at_call 118;refine(kB _ _ hs).mono ?_;rintro e w1 ⟨rfl,iT⟩)
      | (go_at_call 149;refine(yM _ _ hs).mono ?_;rintro e w2 ⟨rfl,gx⟩)
      | (go_at_call 60;refine(qs _ _ (by omega)).mono ?_;rintro e w3 ⟨rfl,KW⟩))
     go_ret2
     rw[Hq.out]
     exact⟨rfl,cM (cM iT gx) KW⟩
   ·have Hq:=hid (show ck s=(lower s,0) by unfold ck;simp[h1,h2,h3])
    go_enter Tryz.func85,Tryz.ntmps85
    go_wp2_with (first
     | (go_at_call 118;refine(kB _ _ hs).mono ?_;rintro e w1 ⟨rfl,iT⟩)
     | (go_at_call 60;refine(qs _ _ (by omega)).mono ?_;rintro e w3 ⟨rfl,KW⟩))
    go_ret2
    rw[Hq.out]
    exact⟨rfl,cM iT KW⟩
 ·have Hq:=hid (show ck s=([],3) by unfold ck;simp[h1])
  go_enter Tryz.func85,Tryz.ntmps85
  go_wp2_with fail
  go_ret2
  rw[Hq.out]
  exact⟨rfl,Below.refl _ _⟩
theorem HY (s:Bytes)(w:World)(hs:s.length≤9223372036854775807) :
 Calls Tryz.prog 86 #[(Value.string ⟨zQo (s)⟩)] w fun e w'=>e=.returned (.tuple #[.int .i64 (ks s).1,.int .i64 (ks s).2])∧w=w':=by
 have hle:=kE 65535 s
 have hq:ks s=if (aS 65535 s).2≠0∨(aS 65535 s).1=0 then(0,51) else(((aS 65535 s).1:Int),0):=rfl
 have hc:=oA s 65535 w (by omega) (by omega)
 generalize aS 65535 s=np at hle hq hc
 obtain⟨n,e⟩:=np
 simp only at hle hq hc
 have Hc:=hid hc
 clear hc
 by_cases he:e=0
 ·subst he
  by_cases hn:n=0
  ·rw[if_pos (Or.inr hn)]at hq
   have Hq:=hid hq
   have hx:((n:Int)==0)=true:=by simp[hn]
   clear hq hn
   go_enter Tryz.func86,Tryz.ntmps86
   go_wp2_with fail
   refine Hc.out.mono ?_
   rintro e w' ⟨rfl,rfl⟩
   go_wp2_with fail
   go_ret2
   rw[Hq.out]
   exact⟨rfl,rfl⟩
  ·rw[if_neg (by simp[hn])]at hq
   have Hq:=hid hq
   have hx:((n:Int)==0)=false:=by simp[hn]
   clear hq hn
   go_enter Tryz.func86,Tryz.ntmps86
   go_wp2_with fail
   refine Hc.out.mono ?_
   rintro e w' ⟨rfl,rfl⟩
   go_wp2_with fail
   go_ret2
   rw[Hq.out]
   exact⟨rfl,rfl⟩
 ·rw[if_pos (Or.inl he)]at hq
  have Hq:=hid hq
  have hx:(e != 0)=true:=by simp[he]
  clear hq
  go_enter Tryz.func86,Tryz.ntmps86
  go_wp2_with fail
  refine Hc.out.mono ?_
  rintro e w' ⟨rfl,rfl⟩
  go_wp2_with fail
  go_ret2
  rw[Hq.out]
  exact⟨rfl,rfl⟩
theorem Fe (s:Bytes)(w:World)(hs:s.length≤1000000000) :
 Calls Tryz.prog 35 #[(Value.string ⟨zQo (s)⟩)] w fun e w'=>e=.returned (.tuple #[.agg #[(Value.string ⟨zQo ((aK s).1.1)⟩),.int .i64 (aK s).1.2],.int .i64 (aK s).2])∧Below w.heap.size w w':=by
 have fj:pre (has [58] ·) s=pre (·==58) s:=by congr 1;funext c;simp[has];exact(Bool.beq_eq_decide_eq _ _).symm
 have hle:=cV (·==58) s
 have hq:aK s=cY (ck (aN 58 s).1) (aN 58 s).2.2 (ks (aN 58 s).2.1):=rfl
 have ha:=eI w (.cells #[(Value.string ⟨zQo ([])⟩),.int .i64 0] 24)
 have IH:Below w.heap.size w (w.alloc (.cells #[(Value.string ⟨zQo ([])⟩),.int .i64 0] 24)):=(Below.refl _ _).alloc (zQt _) _
 generalize Nz:w.alloc (.cells #[(Value.string ⟨zQo ([])⟩),.int .i64 0] 24)=wa at ha IH
 have Ha:=hid ha
 have Hba:=hid IH
 have Hwa:=hid Nz
 have Hpre:=hid fj
 clear ha IH Nz fj
 by_cases hp:pre (·==58) s<s.length
 ·have hc:aN 58 s=(s.take (pre (·==58) s),s.drop (pre (·==58) s+1),true):=if_pos hp
  rw[hc]at hq
  simp only at hq
  have hh:=fun w=>sG (s.take (pre (·==58) s)) w (by simp;omega)
  have Ma:=fun w=>HY (s.drop (pre (·==58) s+1)) w (by simp;omega)
  have xG:(s.take (pre (·==58) s)).length≤s.length:=by rw[zQ5];omega
  generalize ck (s.take (pre (·==58) s))=H at hq hh
  generalize ks (s.drop (pre (·==58) s+1))=P at hq Ma
  obtain⟨h,e⟩:=H
  obtain⟨p,f⟩:=P
  simp only at hh Ma
  have Hh:=hid hh
  have Hp:=hid Ma
  have hkne:((pre (·==58) s:Int)==(s.length:Int))=false:=beq_eq_false_iff_ne.2 (by omega)
  clear hh Ma hc
  generalize pre (·==58) s=k at Hh Hp hkne hp hle Hpre xG
  by_cases he:e=0
  ·subst he
   by_cases hf:f=0
   ·subst hf
    by_cases pS:p=443
    ·have Hq:=hid (show aK s=((h,0),0) by rw[hq];unfold cY;simp[pS])
     have hx:(p==443)=true:=by simp[pS]
     clear hq pS
     go_enter Tryz.func35,Tryz.ntmps35
     go_wp2_with fail
     rw[Hwa.out]
     go_wp2_with fail
     refine(iJ s [58] _ (by omega) (by decide)).mono ?_
     rintro e w1 ⟨rfl,rfl⟩
     rw[Hpre.out]
     go_wp2_with fail
     refine(Hh.out _).mono ?_
     rintro e w2 ⟨rfl,gx⟩
     have Ha2:=hid ((gx.block _ (cU Ha.out)).trans Ha.out)
     have Hw2:=hid (cM Hba.out gx)
     clear gx
     have aA:=cU Ha2.out
     have c0:=Lib.cell_of_heap Ha2.out 0
     have c1:=Lib.cell_of_heap Ha2.out 1
     have z0:=Lib.frozen_of_heap Ha2.out 0
     have z1:=Lib.frozen_of_heap Ha2.out 1
     go_wp2_with fail
     go_wp2_with (go_at_call 86;refine(Hp.out _).mono ?_;rintro e w3 ⟨rfl,rfl⟩)
     refine bodyPost_ret (v:=.tuple #[.agg #[(Value.string ⟨zQo (h)⟩),.int .i64 0],.int .i64 0]) (by simp[results,Tryz.results35,go_sem,c0,c1]) rfl ⟨?_,?_⟩
     ·rw[Hq.out]
     ·repeat (first|exact Hw2.out | (refine Below.setCell (p:=⟨_,_,none⟩) ?_ (by simp <;> omega) _) | (refine Below.alloc ?_ (by simp <;> omega) _) | refine Below.drew ?_)
    ·have Hq:=hid (show aK s=((h,p),0) by rw[hq];unfold cY;simp[pS])
     have hx:(p==443)=false:=by simp[pS]
     clear hq pS
     go_enter Tryz.func35,Tryz.ntmps35
     go_wp2_with fail
     rw[Hwa.out]
     go_wp2_with fail
     refine(iJ s [58] _ (by omega) (by decide)).mono ?_
     rintro e w1 ⟨rfl,rfl⟩
     rw[Hpre.out]
     go_wp2_with fail
     refine(Hh.out _).mono ?_
     rintro e w2 ⟨rfl,gx⟩
     have Ha2:=hid ((gx.block _ (cU Ha.out)).trans Ha.out)
     have Hw2:=hid (cM Hba.out gx)
     clear gx
     have aA:=cU Ha2.out
     have c0:=Lib.cell_of_heap Ha2.out 0
     have c1:=Lib.cell_of_heap Ha2.out 1
     have z0:=Lib.frozen_of_heap Ha2.out 0
     have z1:=Lib.frozen_of_heap Ha2.out 1
     go_wp2_with fail
     go_wp2_with (go_at_call 86;refine(Hp.out _).mono ?_;rintro e w3 ⟨rfl,rfl⟩)
     refine bodyPost_ret (v:=.tuple #[.agg #[(Value.string ⟨zQo (h)⟩),.int .i64 p],.int .i64 0]) (by simp[results,Tryz.results35,go_sem,c0,c1]) rfl ⟨?_,?_⟩
     ·rw[Hq.out]
     ·repeat (first|exact Hw2.out | (refine Below.setCell (p:=⟨_,_,none⟩) ?_ (by simp <;> omega) _) | (refine Below.alloc ?_ (by simp <;> omega) _) | refine Below.drew ?_)
   ·have Hq:=hid (show aK s=(([],0),f) by rw[hq];unfold cY;simp[hf])
    have hx:(f != 0)=true:=by simp[hf]
    clear hq hf
    go_enter Tryz.func35,Tryz.ntmps35
    go_wp2_with fail
    rw[Hwa.out]
    go_wp2_with fail
    refine(iJ s [58] _ (by omega) (by decide)).mono ?_
    rintro e w1 ⟨rfl,rfl⟩
    rw[Hpre.out]
    go_wp2_with fail
    refine(Hh.out _).mono ?_
    rintro e w2 ⟨rfl,gx⟩
    have Ha2:=hid ((gx.block _ (cU Ha.out)).trans Ha.out)
    have Hw2:=hid (cM Hba.out gx)
    clear gx
    have aA:=cU Ha2.out
    have c0:=Lib.cell_of_heap Ha2.out 0
    have c1:=Lib.cell_of_heap Ha2.out 1
    have z0:=Lib.frozen_of_heap Ha2.out 0
    have z1:=Lib.frozen_of_heap Ha2.out 1
    go_wp2_with fail
    go_wp2_with (go_at_call 86;refine(Hp.out _).mono ?_;rintro e w3 ⟨rfl,rfl⟩)
    refine bodyPost_ret (v:=.tuple #[.agg #[(Value.string ⟨zQo ([])⟩),.int .i64 0],.int .i64 f]) (by simp[results,Tryz.results35,go_sem,c0,c1]) rfl ⟨?_,?_⟩
    ·rw[Hq.out]
    ·repeat (first|exact Hw2.out | (refine Below.setCell (p:=⟨_,_,none⟩) ?_ (by simp <;> omega) _) | (refine Below.alloc ?_ (by simp <;> omega) _) | refine Below.drew ?_)
  ·have hx:(e != 0)=true:=by simp[he]
   have Hq:=hid (show aK s=(([],0),e) by rw[hq];unfold cY;rw[if_pos he])
   clear hq he
   go_enter Tryz.func35,Tryz.ntmps35
   go_wp2_with fail
   rw[Hwa.out]
   go_wp2_with fail
   refine(iJ s [58] _ (by omega) (by decide)).mono ?_
   rintro e w1 ⟨rfl,rfl⟩
   rw[Hpre.out]
   go_wp2_with fail
   refine(Hh.out _).mono ?_
   rintro e w2 ⟨rfl,gx⟩
   have Ha2:=hid ((gx.block _ (cU Ha.out)).trans Ha.out)
   have Hw2:=hid (cM Hba.out gx)
   clear gx
   have aA:=cU Ha2.out
   have c0:=Lib.cell_of_heap Ha2.out 0
   have c1:=Lib.cell_of_heap Ha2.out 1
   have z0:=Lib.frozen_of_heap Ha2.out 0
   have z1:=Lib.frozen_of_heap Ha2.out 1
   go_wp2_with fail
   refine bodyPost_ret (v:=.tuple #[.agg #[(Value.string ⟨zQo ([])⟩),.int .i64 0],.int .i64 e]) (by simp[results,Tryz.results35,go_sem,c0,c1]) rfl ⟨?_,?_⟩
   ·rw[Hq.out]
   ·repeat (first|exact Hw2.out | (refine Below.setCell (p:=⟨_,_,none⟩) ?_ (by simp <;> omega) _) | (refine Below.alloc ?_ (by simp <;> omega) _) | refine Below.drew ?_)
 ·have hc:aN 58 s=(s,[],false):=if_neg hp
  have hk:pre (·==58) s=s.length:=by omega
  rw[hc]at hq
  simp only at hq
  have hh:=fun w=>sG s w hs
  generalize ck s=H at hq hh
  obtain⟨h,e⟩:=H
  simp only at hh
  have Hh:=hid hh
  have Hpre:=hid (Hpre.out.trans hk)
  clear hh hk hc
  by_cases he:e=0
  ·subst he
   have Hq:=hid (show aK s=((h,0),0) from hq)
   clear hq
   go_enter Tryz.func35,Tryz.ntmps35
   go_wp2_with fail
   rw[Hwa.out]
   go_wp2_with fail
   refine(iJ s [58] _ (by omega) (by decide)).mono ?_
   rintro e w1 ⟨rfl,rfl⟩
   rw[Hpre.out]
   go_wp2_with fail
   refine(Hh.out _).mono ?_
   rintro e w2 ⟨rfl,gx⟩
   have Ha2:=hid ((gx.block _ (cU Ha.out)).trans Ha.out)
   have Hw2:=hid (cM Hba.out gx)
   clear gx
   have aA:=cU Ha2.out
   have c0:=Lib.cell_of_heap Ha2.out 0
   have c1:=Lib.cell_of_heap Ha2.out 1
   have z0:=Lib.frozen_of_heap Ha2.out 0
   have z1:=Lib.frozen_of_heap Ha2.out 1
   go_wp2_with fail
   refine bodyPost_ret (v:=.tuple #[.agg #[(Value.string ⟨zQo (h)⟩),.int .i64 0],.int .i64 0]) (by simp[results,Tryz.results35,go_sem,c0,c1]) rfl ⟨?_,?_⟩
   ·rw[Hq.out]
   ·repeat (first|exact Hw2.out | (refine Below.setCell (p:=⟨_,_,none⟩) ?_ (by simp <;> omega) _) | (refine Below.alloc ?_ (by simp <;> omega) _) | refine Below.drew ?_)
  ·have hx:(e != 0)=true:=by simp[he]
   have Hq:=hid (show aK s=(([],0),e) by rw[hq];unfold cY;rw[if_pos he])
   clear hq he
   go_enter Tryz.func35,Tryz.ntmps35
   go_wp2_with fail
   rw[Hwa.out]
   go_wp2_with fail
   refine(iJ s [58] _ (by omega) (by decide)).mono ?_
   rintro e w1 ⟨rfl,rfl⟩
   rw[Hpre.out]
   go_wp2_with fail
   refine(Hh.out _).mono ?_
   rintro e w2 ⟨rfl,gx⟩
   have Ha2:=hid ((gx.block _ (cU Ha.out)).trans Ha.out)
   have Hw2:=hid (cM Hba.out gx)
   clear gx
   have aA:=cU Ha2.out
   have c0:=Lib.cell_of_heap Ha2.out 0
   have c1:=Lib.cell_of_heap Ha2.out 1
   have z0:=Lib.frozen_of_heap Ha2.out 0
   have z1:=Lib.frozen_of_heap Ha2.out 1
   go_wp2_with fail
   refine bodyPost_ret (v:=.tuple #[.agg #[(Value.string ⟨zQo ([])⟩),.int .i64 0],.int .i64 e]) (by simp[results,Tryz.results35,go_sem,c0,c1]) rfl ⟨?_,?_⟩
   ·rw[Hq.out]
   ·repeat (first|exact Hw2.out | (refine Below.setCell (p:=⟨_,_,none⟩) ?_ (by simp <;> omega) _) | (refine Below.alloc ?_ (by simp <;> omega) _) | refine Below.drew ?_)
theorem tT (n:Nat)(w:World)(hn:n≤18446744073709551615) :
 Calls Tryz.prog 205 #[.int .u64 n] w fun e w'=>e=.returned (Value.string ⟨zQo (bW n)⟩)∧Below w.heap.size w w':=by
 have hlen:(bW n).length≤20:=cI 19 n (by omega)
 go_enter Tryz.func205,Tryz.ntmps205
 go_wp2_with fail
 go_loopw [0,3] (fun v o wr=>∃ (k:Nat) (ds:Bytes),v=.int .u64 k∧o=(Value.string ⟨zQo (ds)⟩)∧k≤18446744073709551615∧(bW k).length+ds.length≤20∧bW k++ds=bW n∧Below w.heap.size w wr) (fun v _ _=>(intOf v).toNat)
 case atStart=>exact⟨n,[],rfl,rfl,hn,by simpa using hlen,by simp,Below.refl _ _⟩
 case round =>
  obtain⟨k,ds,rfl,rfl,hk,hl,heq,hw⟩:=hrel
  have eK:∀ T,jA (wr.alloc (.cells #[.int .u8 (48+(k:Int) % 10)] T)) wr.heap.size [qV (k % 10)]:=fun T =>
   ⟨[],T,(0,0),by rw[eI];simp only[List.map_cons,List.map_nil,zQO,u8V,qU (show k % 10<10 by omega)];rfl,Or.inr (by simp)⟩
  have kx:=fun T=>(eK T).back 1
  simp only[zQ4,List.length_nil,Nat.zero_add]at kx
  have Heq:=hid heq
  have Hw:=hid hw
  clear heq hw eK
  by_cases de:k<10
  ·have hz:((k:Int) / 10==0)=true:=by simp;omega
   have hm:k % 10=k:=by omega
   have Hn:=hid (show bW n=qV (k % 10)::ds by rw[← Heq.out,fm de,hm];rfl)
   have Mc:ds.length≤20:=by omega
   clear hm
   go_wp2_with fail
   go_ret
   refine⟨kA (by rw[Hn.out]),?_⟩
   exact Hw.out.alloc Hw.out.size _
  ·have hz:((k:Int) / 10==0)=false:=by simp;omega
   have Hn:=hid (show bW (k / 10)++qV (k % 10)::ds=bW n by rw[← Heq.out,jm de];simp)
   have kJ:=ko de
   have Hl2:=hid kJ
   have Mc:ds.length≤20:=by omega
   clear kJ
   go_wp2_with fail
   have h1:=Hl2.out
   refine⟨⟨k / 10,qV (k % 10)::ds,congrArg (Value.int .u64) (by omega),rfl,by omega,by simp;omega,Hn.out,Hw.out.alloc Hw.out.size _⟩,?_⟩
   simp[intOf];omega
theorem na (p:Int)(w:World)(h1:-9223372036854775808≤p)(h2:p≤9223372036854775807) :
 Calls Tryz.prog 153 #[.int .i64 p] w fun e w'=>e=.returned (Value.string ⟨zQo ((if p<0 then [45] else [])++bW p.natAbs)⟩)∧Below w.heap.size w w':=by
 have hd:=cI 19 p.natAbs (by omega)
 by_cases DL:p<0
 ·rw[if_pos DL]
  have hp:-(p+1)+1=(p.natAbs:Int):=by omega
  have hnn:p.natAbs≤18446744073709551615:=by omega
  go_enter Tryz.func153,Tryz.ntmps153
  go_wp2_with fail
  clear hp
  go_wp2_with (go_at_call 205;refine(tT _ _ hnn).mono ?_;rintro e w1 ⟨rfl,iT⟩)
  go_ret
  exact⟨rfl,iT⟩
 ·rw[if_neg DL]
  obtain⟨n,rfl⟩:=Int.eq_ofNat_of_zero_le (show 0≤p by omega)
  go_enter Tryz.func153,Tryz.ntmps153
  go_wp2_with (go_at_call 205;refine(tT _ _ (by omega)).mono ?_;rintro e w1 ⟨rfl,iT⟩)
  go_ret
  exact⟨rfl,iT⟩
theorem Df (h:Bytes)(p:Int)(w:World)(hh:h.length≤4611686018427387904)(h1:-9223372036854775808≤p)(h2:p≤9223372036854775807) :
 Calls Tryz.prog 91 #[.agg #[(Value.string ⟨zQo (h)⟩),.int .i64 p]] w fun e w'=>e=.returned (Value.string ⟨zQo (bt h p)⟩)∧Below w.heap.size w w':=by
 have ha:=eI w (.cells #[(Value.string ⟨zQo (h)⟩),.int .i64 p] 24)
 have IH:Below w.heap.size w (w.alloc (.cells #[(Value.string ⟨zQo (h)⟩),.int .i64 p] 24)):=(Below.refl _ _).alloc (zQt _) _
 generalize Nz:w.alloc (.cells #[(Value.string ⟨zQo (h)⟩),.int .i64 p] 24)=wa at ha IH
 have aA:=cU ha
 have c0:wa.cell? ⟨w.heap.size,0,none⟩=some (Value.string ⟨zQo (h)⟩):=Lib.cell_of_heap ha 0
 have c1:wa.cell? ⟨w.heap.size,1,none⟩=some (.int .i64 p):=Lib.cell_of_heap ha 1
 have Hba:=hid IH
 have Hwa:=hid Nz
 clear ha IH Nz
 by_cases h0:p=0
 ·subst h0
  have Hq:=hid (show bt h 0=h from if_pos rfl)
  go_enter Tryz.func91,Tryz.ntmps91
  go_wp2_with fail
  rw[Hwa.out]
  go_wp2_with fail
  go_ret
  exact⟨kA Hq.out.symm,Hba.out⟩
 ·have hx:(p==0)=false:=by simp[h0]
  have hq:bt h p=h++58::((if p<0 then [45] else [])++bW p.natAbs):=by
   unfold bt
   rw[if_neg h0]
   split <;> simp
  have hd:=cI 19 p.natAbs (by omega)
  have pK:((if p<0 then [45] else [])++bW p.natAbs).length≤21:=by split <;> simp <;> omega
  have hdc:=fun w=>na p w h1 h2
  generalize (if p<0 then [45] else [])++bW p.natAbs=ds at hq pK hdc
  have Hq:=hid hq
  have Hdc:=hid hdc
  clear h0 hq hdc hd
  go_enter Tryz.func91,Tryz.ntmps91
  go_wp2_with fail
  rw[Hwa.out]
  go_wp2_with fail
  have n1:¬ 9223372036854775807<h.length+1:=by omega
  have n2:¬ 9223372036854775807<h.length+1+ds.length:=by omega
  have k0:=cell_regrown c0
  have k1:=cell_regrown c1
  clear c0 c1 hx
  refine wp_region_quiet_below (by kernel_rfl) (by kernel_rfl) ?_
  repeat (quiet_step ((go_at_call 153;exact Calls.regrown_of (Hdc.out _))))
  refine wpQuiet_nil ?_
  intro _ hw'
  obtain⟨⟨dq,osq⟩,hw''⟩:=hw'
  subst hw''
  have cE:=below_regrown wa dq osq
  generalize grow (redrawn wa dq) osq=wq at cE ⊢
  clear n1 n2 k0 k1
  go_wp2_with fail
  go_ret
  exact⟨kA Hq.out.symm,cM Hba.out cE⟩
open Go Vc Go.RowKit Wf
theorem Dz (s:Bytes)(hs:s.length<4294967281):PC Tryz.V 113 [.str s] (.eW [.agg [.str (aK s).1.1,.int .i64 (aK s).1.2],.int .i64 (aK s).2]) :=
 ⟨Tryz.call113,by simp[flat,flat.ai],by simp[flat,flat.ai],fun w hE=>(IA s w hE hs).mono fun _ _ ⟨h,k⟩=>⟨h,k⟩⟩
theorem A8 (h:Bytes)(p:Int)(hh:h.length≤4611686018427387904)(h1:-9223372036854775808≤p)(h2:p≤9223372036854775807):PC Tryz.V 114 [.agg [.str h,.int .i64 p]] (.str (bt h p)) :=
 ⟨Tryz.call114,by simp[flat,flat.ai],by simp[flat,flat.ai],fun w hE=>(Gf h p w hh h1 h2).mono fun _ _ ⟨h,k⟩=>⟨h,k⟩⟩
theorem BX (s:Bytes)(hs:s.length≤1000000000):PC Tryz.V 85 [.str s] (.eW [.str (ck s).1,.int .i64 (ck s).2]) :=
 ⟨Tryz.call85,by simp[flat,flat.ai],by simp[flat,flat.ai],fun w hE=>(sG s w hs).mono fun _ _ ⟨h,k⟩=>⟨h,k⟩⟩
theorem yT (s:Bytes)(hs:s.length≤1000000000):PC Tryz.V 35 [.str s] (.eW [.agg [.str (aK s).1.1,.int .i64 (aK s).1.2],.int .i64 (aK s).2]) :=
 ⟨Tryz.call35,by simp[flat,flat.ai],by simp[flat,flat.ai],fun w hE=>(Fe s w hs).mono fun _ _ ⟨h,k⟩=>⟨h,k⟩⟩
theorem Fw (h:Bytes)(p:Int)(hh:h.length≤4611686018427387904)(h1:-9223372036854775808≤p)(h2:p≤9223372036854775807):PC Tryz.V 91 [.agg [.str h,.int .i64 p]] (.str (bt h p)) :=
 ⟨Tryz.call91,by simp[flat,flat.ai],by simp[flat,flat.ai],fun w hE=>(Df h p w hh h1 h2).mono fun _ _ ⟨h,k⟩=>⟨h,k⟩⟩
theorem xR (s:Bytes)(hs:s.length≤9223372036854775807):PC Tryz.V 175 [.str s] (.str (lower s)) :=
 ⟨Tryz.call175,by simp[flat,flat.ai],by simp[flat,flat.ai],fun w hE=>(q8 s w hs).mono fun _ _ ⟨h,k⟩=>⟨h,k⟩⟩
theorem jE (s:Bytes)(hs:s.length≤9223372036854775807):PC Tryz.V 60 [.str s] (.str (lower s)) :=
 ⟨Tryz.call60,by simp[flat,flat.ai],by simp[flat,flat.ai],fun w hE=>(qs s w hs).mono fun _ _ ⟨h,k⟩=>⟨h,k⟩⟩
theorem DB (s t:Bytes)(hs:s.length≤9223372036854775807)(ht:t.length≤9223372036854775807):PC Tryz.V 155 [.str s,.str t] (.bool (lower s==lower t)):=by
 refine aZ 3000 Tryz.func155 rfl Tryz.ntmps155 Tryz.results155 Tryz.call155 (by simp) (by simp[flat,flat.ai]) (by simp[flat,flat.ai]) ?_
 refine bC ?_
 (refine aa (xR s hs) ?_;refine bC ?_)
 (refine aa (xR t ht) ?_;exact bC True.intro)
theorem jF (s t:Bytes)(hs:s.length≤9223372036854775807)(ht:t.length≤9223372036854775807):PC Tryz.V 33 [.str s,.str t] (.bool (lower s==lower t)):=by
 refine aZ 3000 Tryz.func33 rfl Tryz.ntmps33 Tryz.results33 Tryz.call33 (by simp) (by simp[flat,flat.ai]) (by simp[flat,flat.ai]) ?_
 refine bC ?_
 (refine aa (jE s hs) ?_;refine bC ?_)
 (refine aa (jE t ht) ?_;exact bC True.intro)
theorem OG (L:List (Bytes × Bytes))(k:Nat)(h:k<L.length):((L.flatMap fc).drop (k * 2)).take 2=fc L[k]:=kz fc 2 (fun _=>rfl) L k h
theorem D0 (L:List (Bytes × Bytes)):(L.flatMap fc).length=L.length * 2:=ie fc 2 (fun _=>rfl) L
theorem DZ (fs:List (Bytes × Bytes)):(fs.flatMap fc).all Vc.one=true:=by
 rw[zQV]
 intro x hx
 obtain⟨f,-,hf⟩:=List.mem_flatMap.1 hx
 simp only[fc,zQP,List.not_mem_nil,or_false]at hf
 rcases hf with rfl|rfl <;> rfl
theorem qm {bs:List av}{j:Nat}{fs:List (Bytes × Bytes)}{m:Bool}(hj:bs[j]? = some (.own (fs.flatMap fc) 100 2 fs.length m))(hn:fs.length≤1000000)(hl:∀ f∈fs,f.1.length≤9223372036854775807)(name:Bytes)(NM:name.length≤9223372036854775807)(a c:Int) :
 SC Tryz.V 110 [.agg [.int .i64 a,.int .i64 c,.o j fs.length],.str name] bs (fun r b=>Kp bs b∧Sl 9 1 bs.length r b ((bP fs name).map .str) (bP fs name).length):=by
 have gw:j<bs.length:=(zQq.1 hj).1
 refine bo 3000 Tryz.func110 rfl Tryz.ntmps110 Tryz.results110 Tryz.call110 (by simp) (ah bs.length _ (by simp[within,within.ax,gw])) ?_
 refine Ou ?_
 have hp:=ad hj [.cells [.int .i64 a,.int .i64 c,.o j fs.length] 48 true]
 refine az (fun σ=>∃ (k:Nat) (x:SV),k≤fs.length∧lk 1 σ.t=some (.str name)∧lk 5 σ.t=some x∧lk 9 σ.t=some (.o j fs.length)∧lk 10 σ.t=some (.int .i64 fs.length)∧lk 11 σ.t=some (.int .i64 k)∧σ.b[j]? = some (.own (fs.flatMap fc) 100 2 fs.length m) ∧
  Kp bs σ.b∧Sl 9 1 bs.length x σ.b ((bP (fs.take k) name).map .str) (bP (fs.take k) name).length) (fun σ=>fs.length - fX 11 σ) ⟨0,.aj,by omega,rfl,rfl,rfl,rfl,rfl,hp,(Kp.refl _).app _,.inl ⟨rfl,rfl,rfl⟩⟩ ?_
 rintro⟨t,b⟩ ⟨k,x,hk,h1,h5,h9,de,eJ,hb,bc,fD⟩
 simp only at h1 h5 h9 de eJ hb bc fD
 rw[ao eJ]
 by_cases aA:k<fs.length
 ·have hu:=OG fs k aA
  have oI:=D0 fs
  have hx:=DP aA name
  have Mc:=mP (fs.take k) name
  rw[zQ5]at Mc
  have he:=DB fs[k].1 name (hl _ (zQQ aA)) NM
  unfold fc at hb hu oI
  rcases fD with⟨rfl,jT,mO⟩|⟨i,rfl,hLi,hi⟩
  ·refine gC (zQp h1 (zQp h5 (zQp h9 (zQp de (zQp eJ (zQp hb (zQp hu (zQp oI zQ2)))))))) ?_
   refine⟨fun _=>⟨⟨by omega,by omega⟩,by omega,?_⟩,fun h=>absurd h (by simp;omega)⟩
   have eX:=fun X=>ad hb [X]
   have rL:=fun X Y=>ad (eX X) [Y]
   have Lp:=fun X Y Z=>ad (rL X Y) [Z]
   (refine aa (he) ?_;refine gC (zQp h1 (zQp h5 (zQp h9 (zQp de (zQp eJ (zQp hb (zQp eX (zQp rL Lp)))))))) ?_)
   refine⟨fun hq=>⟨by omega,⟨by unfold maxLen;omega,by omega⟩,⟨by omega,by omega⟩,⟨k+1,_,by omega,rfl,rfl,rfl,((bc.app _).app _).app _,.inr ⟨(b++[av.cells [.str fs[k].1,.str fs[k].2] 100 true]++[av.own [.str fs[k].2] 9 1 1 true]).length,?_,?_,?_⟩⟩,?_⟩,fun hq=>⟨⟨by omega,by omega⟩,⟨k+1,_,by omega,rfl,rfl,rfl,bc.app _,.inl ⟨rfl,?_,?_⟩⟩,?_⟩⟩
   ·rw[hx,if_pos (by simpa using hq),zQG.1 mO];rfl
   ·have:=bc.1;simp;omega
   ·rw[hx,if_pos (by simpa using hq),zQG.1 mO,aC];rfl
   ·rw[ao (k:=.i64) (n:=(k:Int)+1) rfl];omega
   ·rw[hx,if_neg (by simpa using hq),zQO];exact jT
   ·rw[hx,if_neg (by simpa using hq),zQO];exact mO
   ·rw[ao (k:=.i64) (n:=(k:Int)+1) rfl];omega
  ·refine gC (zQp h1 (zQp h5 (zQp h9 (zQp de (zQp eJ (zQp hb (zQp hu (zQp oI zQ2)))))))) ?_
   refine⟨fun _=>⟨⟨by omega,by omega⟩,by omega,?_⟩,fun h=>absurd h (by simp;omega)⟩
   have hi1:=fun X=>ad hi [X]
   have hi2:=fun X Y=>ad (hi1 X) [Y]
   have eX:=fun X=>ad hb [X]
   (refine aa (he) ?_;refine gC (zQp h1 (zQp h5 (zQp h9 (zQp de (zQp eJ (zQp hb (zQp hi (zQp hi1 hi2)))))))) ?_)
   have hK:=fun X=>((((bc.app [.cells [.str fs[k].1,.str fs[k].2] 100 true]).app [.own [.str fs[k].2] 9 1 1 true]).set hLi .gone).app [X])
   refine⟨fun hq=>⟨by omega,⟨by unfold maxLen;omega,by omega⟩,⟨by omega,by omega⟩,⟨k+1,_,by omega,rfl,rfl,(hK _).at hj,hK _,.inr ⟨(b++[av.cells [.str fs[k].1,.str fs[k].2] 100 true]++[av.own [.str fs[k].2] 9 1 1 true]).length,?_,?_,?_⟩⟩,?_⟩,fun hq=>⟨⟨by omega,by omega⟩,⟨k+1,_,by omega,rfl,rfl,(bc.app _).at hj,bc.app _,.inr ⟨i,?_,hLi,?_⟩⟩,?_⟩⟩
   ·rw[hx,if_pos (by simpa using hq)];simp
   ·have:=bc.1;simp;omega
   ·rw[hx,if_pos (by simpa using hq),List.map_append,zQJ (by simp)];simp
   ·rw[ao (k:=.i64) (n:=(k:Int)+1) rfl];omega
   ·rw[hx,if_neg (by simpa using hq),zQO]
   ·rw[hx,if_neg (by simpa using hq),zQO];exact hi1 _
   ·rw[ao (k:=.i64) (n:=(k:Int)+1) rfl];omega
 ·have js:k=fs.length:=by omega
  subst js
  rw[List.take_length]at fD
  refine gN (zQp h1 (zQp h5 (zQp h9 (zQp de (zQp eJ hb))))) ?_
  exact⟨fun h=>absurd h (by simp),fun _=>⟨bc,fD⟩⟩
theorem KI (c:UInt8):PC Tryz.V 251 [.int .u8 c.toNat] (.bool (isAlpha c)) :=
 ⟨Tryz.call251,by simp[flat,flat.ai],by simp[flat,flat.ai],fun w _=>(dG c w).mono fun _ _ ⟨h,k⟩=>⟨h,cD k⟩⟩
theorem BY (c:UInt8):PC Tryz.V 252 [.int .u8 c.toNat] (.bool (isDigit c)) :=
 ⟨Tryz.call252,by simp[flat,flat.ai],by simp[flat,flat.ai],fun w _=>(cn c w).mono fun _ _ ⟨h,k⟩=>⟨h,cD k⟩⟩
theorem Jp (c:UInt8):PC Tryz.V 255 [.int .u8 c.toNat] (.bool (bm c)) :=
 ⟨Tryz.call255,by simp[flat,flat.ai],by simp[flat,flat.ai],fun w _=>(eR c w).mono fun _ _ ⟨h,k⟩=>⟨h,cD k⟩⟩
theorem Jz (set:Bytes)(c:UInt8):decide (0≤Lib.indexByte set c)=set.contains c:=by
 rw[eQ]
 by_cases h:pre (·==c) set<set.length
 ·rw[if_pos h]
  have:=iC (p:=(·==c)) h
  simp only[beq_iff_eq]at this
  simp only[Int.natCast_nonneg,decide_true]
  symm
  rw[zQ3,← this]
  exact zQQ h
 ·rw[if_neg h]
  simp only[show ¬ (0:Int)≤-1 by omega,decide_false]
  symm
  rw[← Bool.not_eq_true,zQ3]
  intro hm
  obtain⟨k,hk,rfl⟩:=List.getElem_of_mem hm
  have h2:=cV (·==set[k]) set
  have:=jc (p:=(·==set[k])) (l:=set) (k:=k) (by omega) hk
  simp at this
theorem Jn (c:UInt8)(set:Bytes):PC Tryz.V 258 [.int .u8 c.toNat,.str set] (.bool (set.contains c)):=by
 refine aZ 3000 Tryz.func258 rfl Tryz.ntmps258 Tryz.results258 Tryz.call258 (by simp) (by simp[flat,flat.ai]) (by simp[flat,flat.ai]) ?_
 refine bC ?_
 (refine aa (iK set c) ?_;refine bC ?_)
 rw[Jz]
theorem Jo (c:UInt8):PC Tryz.V 257 [.int .u8 c.toNat] (.bool (isAlpha c||isDigit c)):=by
 refine aZ 3000 Tryz.func257 rfl Tryz.ntmps257 Tryz.results257 Tryz.call257 (by simp) (by simp[flat,flat.ai]) (by simp[flat,flat.ai]) ?_
 refine bC ?_
 (refine aa (KI c) ?_;refine bC ?_)
 refine⟨fun h=>?_,fun h=>by rw[h];rfl⟩
 (refine aa (BY c) ?_;refine bC ?_)
 rw[h];rfl
theorem qA (c:UInt8):PC Tryz.V 211 [.int .u8 c.toNat] (.bool (ia c)):=by
 refine aZ 3000 Tryz.func211 rfl Tryz.ntmps211 Tryz.results211 Tryz.call211 (by simp) (by simp[flat,flat.ai]) (by simp[flat,flat.ai]) ?_
 refine bC ?_
 (refine aa (Jo c) ?_;refine bC ?_)
 refine⟨fun h=>?_,fun h=>by unfold ia;rw[h];rfl⟩
 (refine aa (Jn c [45,46,95,126]) ?_;refine bC ?_)
 unfold ia;rw[h];rfl
theorem dig_low (c:UInt8)(h:isDigit c=true):IntKind.u8.wrap ((c.toNat:Int) - 48)=di c:=by
 have:=dz (p:=fun c=>!isDigit c||decide (IntKind.u8.wrap ((c.toNat:Int) - 48)=di c)) (by decide +kernel) c
 simpa[h] using this
theorem OV (c:UInt8)(h:bm c=true)(h2:isDigit c=false):IntKind.u8.wrap (IntKind.u8.wrap (uR .or .u8 (c.toNat:Int) 32 - 97)+10)=di c:=by
 have:=dz (p:=fun c=>!bm c||isDigit c||decide (IntKind.u8.wrap (IntKind.u8.wrap (uR .or .u8 (c.toNat:Int) 32 - 97)+10)=di c)) (by decide +kernel) c
 simpa[h,h2] using this
theorem Jm (c:UInt8)(hc:bm c=true):PC Tryz.V 256 [.int .u8 c.toNat] (.int .u8 (di c)):=by
 refine aZ 3000 Tryz.func256 rfl Tryz.ntmps256 Tryz.results256 Tryz.call256 (by simp) (by simp[flat,flat.ai]) (by simp[flat,flat.ai]) ?_
 refine bC ?_
 (refine aa (BY c) ?_;refine bC ?_)
 refine⟨fun h=>?_,fun h=>?_⟩
 ·rw[dig_low c h]
 ·rw[OV c hc h]
theorem HB (a b:UInt8)(ha:bm a=true)(hb:bm b=true):uR .or .u8 (MH .shl .u8 (di a) 4) (di b)=((unhex a b).toNat:Int):=by
 have h1:=kZ ha
 have h2:=kZ hb
 have:∀ x,x<16→∀ y,y<16→uR .or .u8 (MH .shl .u8 (x:Nat) 4) (y:Nat)=(((x * 16+y).toUInt8).toNat:Int):=by decide +kernel
 exact this _ (by omega) _ (by omega)
def mR (s:Bytes)(i:Nat):Option UInt8:=(en (s.drop (i+1))).map fun x=>unhex x.1 x.2.1
theorem uC (s:Bytes)(i:Nat):en (s.drop (i+1))=if i+2<s.length then(if bm (s.getD (i+1) 0)&&bm (s.getD (i+2) 0) then some (s.getD (i+1) 0,s.getD (i+2) 0,s.drop (i+3)) else none) else none:=by
 by_cases h:i+2<s.length
 ·rw[if_pos h,zQv (by omega:i+1<s.length),zQv (by omega:i+1+1<s.length)]
  simp only[en,List.getD_eq_getElem?_getD]
  simp[show i+1<s.length by omega,h]
 ·rw[if_neg h]
  have hl:(s.drop (i+1)).length≤1:=by simp;omega
  match hm:s.drop (i+1),hl with
  | [],_=>rfl
  | [_],_=>rfl
theorem KG (s:Bytes)(i:Nat)(hi:i<s.length)(hs:s.length≤9223372036854775807):PC Tryz.V 210 [.str s,.int .i64 i] (.eW [.int .u8 (((mR s i).getD 0).toNat:Int),.bool (mR s i).isSome]):=by
 refine aZ 3000 Tryz.func210 rfl Tryz.ntmps210 Tryz.results210 Tryz.call210 (by simp) (by simp[flat,flat.ai]) (by simp[flat,flat.ai]) ?_
 refine bC ?_
 unfold mR
 rw[uC]
 refine⟨⟨by omega,by omega⟩,fun hl=>?_,fun hl=>?_⟩
 ·have hl:i+2<s.length:=(by simp at hl;omega)
  rw[if_pos hl]
  refine⟨⟨by omega,by omega⟩,⟨by omega,by omega⟩,?_⟩
  (refine aa (Jp _) ?_;refine bC ?_)
  refine⟨fun ha=>⟨⟨by omega,by omega⟩,⟨by omega,by omega⟩,?_⟩,fun ha=>?_⟩
  ·have ha:bm (s.getD (i+1) 0)=true:=by simpa using ha
   (refine aa (Jp _) ?_;refine bC ?_)
   refine⟨fun hb=>?_,fun hb=>⟨⟨by omega,by omega⟩,⟨by omega,by omega⟩,?_⟩⟩
   ·have hb:bm (s.getD (i+2) 0)=false:=by simpa using hb
    rw[ha,hb];rfl
   ·have hb:bm (s.getD (i+2) 0)=true:=by simpa using hb
    (refine aY (Jm _ ha) ?_;refine bC ?_)
    refine⟨by omega,⟨by omega,by omega⟩,⟨by omega,by omega⟩,?_⟩
    (refine aY (Jm _ hb) ?_;refine bC ?_)
    refine⟨(aq (by kernel_rfl)),?_⟩
    rw[HB _ _ ha hb,ha,hb];rfl
  ·have ha:bm (s.getD (i+1) 0)=false:=by simpa using ha
   rw[ha];rfl
 ·have hl:¬ i+2<s.length:=(by simp at hl;omega)
  rw[if_neg hl];rfl
theorem shr4 (c:UInt8):MH .shr .u8 (c.toNat:Int) 4=((c.toNat / 16:Nat):Int):=by
 have:=dz (p:=fun c=>decide (MH .shr .u8 (c.toNat:Int) 4=((c.toNat / 16:Nat):Int))) (by decide +kernel) c
 simpa using this
theorem and15 (c:UInt8):uR .and .u8 (c.toNat:Int) 15=((c.toNat % 16:Nat):Int):=by
 have:=dz (p:=fun c=>decide (uR .and .u8 (c.toNat:Int) 15=((c.toNat % 16:Nat):Int))) (by decide +kernel) c
 simpa using this
theorem yc:∀ n,n<16→([48,49,50,51,52,53,54,55,56,57,65,66,67,68,69,70]:Bytes).getD n 0=jt n:=by decide
theorem Ct (c:UInt8):(nw c).map dW=[.int .u8 37,.int .u8 ((jt (c.toNat / 16)).toNat:Int),.int .u8 ((jt (c.toNat % 16)).toNat:Int)]:=rfl
structure BD (bs:List av) (i L:Nat) (x:SV) (l:Bytes):Prop where
 box:bs[i]? = some (.cells [x] 243 true)
 sl:Sl 5 1 L x bs (l.map dW) l.length
 lt:i<L
theorem BD.ne {bs:List av}{i L j n:Nat}{l:Bytes}(h:BD bs i L (.o j n) l):i≠j:=by
 rcases h.sl with⟨h1,-⟩|⟨j',h1,h2,-⟩
 ·cases h1
 ·cases h1;have:=h.lt;omega
theorem Kq {bs:List av}{i L:Nat}{x:SV}{l:Bytes}(h:BD bs i L x l)(hL:L≤bs.length)(hl:l.length≤1000000)(c:UInt8) :
 SC Tryz.V 212 [.p i 0,.int .u8 c.toNat] bs (fun r b=>r=.eW []∧∃ x',BD b i L x' (l++nw c)∧bs.length≤b.length∧∀ k,k<L→k≠i→b[k]? = bs[k]?):=by
 have dF:i<bs.length:=(zQq.1 h.box).1
 have hc:=c.toNat_lt
 have d1:=yc (c.toNat / 16) (by omega)
 have d2:=yc (c.toNat % 16) (by omega)
 have s1:=shr4 c
 have s2:=and15 c
 have oN:=h.box
 have ec:=Ct c
 refine bo 3000 Tryz.func212 rfl Tryz.ntmps212 Tryz.results212 Tryz.call212 (by simp) (ah bs.length _ (by simp[within,within.ax,dF])) ?_
 rcases h.sl with⟨rfl,jT,mO⟩|⟨j,rfl,nU,hj⟩
 ·obtain rfl:l=[]:=by simpa using jT
  have ho:∀ X,(bs++[X])[i]? = some (.cells [.aj] 243 true):=fun X=>ad oN [X]
  have pJ:∀ X Y,(bs++[X]++[Y])[i]? = some (.cells [.aj] 243 true):=fun X Y=>ad (ho X) [Y]
  refine gN (zQp oN (zQp s1 (zQp s2 (zQp zQ2 (zQp d1 (zQp d2 (zQp @aC (zQp ho pJ)))))))) ?_
  rw[← ec]
  have n1:¬ bs.length=i:=by omega
  have n2:∀ X,¬ (bs++[X]).length=i:=fun X=>by simp;omega
  refine⟨by omega,⟨by omega,by omega⟩,⟨by omega,by omega⟩,by omega,⟨by unfold maxLen;omega,by omega⟩,?_,_,⟨zQy (by simp;omega),.inr ⟨_,rfl,by simp;omega,?_⟩,h.lt⟩,by simp,fun k hk kv=>?_⟩
  ·exact(by
   refine bO (fun n=>if n=i then 0 else 1) ?_
   simp only[List.map_cons,List.map_nil,cW,eS,reduceIte,n1,n2]
   exact aq (by kernel_rfl))
  ·rw[zQr (fun e=>n2 _ e.symm),aC];rfl
  ·rw[zQr (fun e=>kv e.symm),zQs (by simp;omega),zQs (by omega)]
 ·have Gj:=h.ne
  have gw:j<bs.length:=(zQq.1 hj).1
  have ho:∀ X,(bs++[X])[j]? = some (.own (l.map dW) 5 1 l.length true):=fun X=>ad hj [X]
  have pJ:∀ X Y,((bs++[X]).set j .gone++[Y])[i]? = some (.cells [.o j l.length] 243 true):=fun X Y=>by
   rw[zQs (by simp;omega),zQr Gj.symm];exact ad oN [X]
  refine gN (zQp oN (zQp s1 (zQp s2 (zQp zQ2 (zQp d1 (zQp d2 (zQp @aC (zQp ho pJ)))))))) ?_
  rw[← ec,← List.map_append]
  have n1:¬ bs.length=i:=by omega
  have n2:∀ X,¬ (bs++[X]).length=i:=fun X=>by simp;omega
  have n3:¬ j=i:=fun e=>Gj e.symm
  refine⟨by omega,⟨by omega,by omega⟩,⟨by omega,by omega⟩,by omega,⟨by unfold maxLen;omega,by omega⟩,?_,_,⟨zQy (by simp;omega),.inr ⟨(bs++[av.own ((nw c).map dW) 5 1 3 true]).length,by simp[nw],by simp;omega,?_⟩,h.lt⟩,by simp;omega,fun k hk kv=>?_⟩
  ·exact(by
   refine bO (fun n=>if n=i then 0 else 1) ?_
   simp only[List.map_cons,List.map_nil,cW,eS,reduceIte,n1,n2,n3]
   exact aq (by kernel_rfl))
  ·rw[zQr (fun e=>n2 _ e.symm),zQJ (by simp)];simp[nw]
  ·rw[zQr (fun e=>kv e.symm),zQs (by simp;omega),zQr (by omega),zQs (by omega)]
theorem CJ {bs:List av}{i L:Nat}{x:SV}{l:Bytes}(h:BD bs i L x l)(hL:L≤bs.length)(c:UInt8)(hx:x=.aj):BD ((bs++[av.own [dW c] 5 1 1 true]++[av.own [dW c] 5 1 1 true]).set i (av.cells [.o (bs++[av.own [dW c] 5 1 1 true]).length 1] 243 true)) i L (.o (bs++[av.own [dW c] 5 1 1 true]).length 1) (l++[c]):=by
 have dF:i<bs.length:=(zQq.1 h.box).1
 have hl:l=[]:=by
  rcases h.sl with⟨-,h1,-⟩|⟨j,h1,-,-⟩
  ·simpa using h1
  ·rw[hx]at h1;cases h1
 subst hl
 have n2:∀ X,¬ (bs++[X]).length=i:=fun X=>by simp;omega
 refine⟨zQy (by simp;omega),.inr ⟨_,rfl,by simp;omega,?_⟩,h.lt⟩
 rw[zQr (fun e=>n2 _ e.symm),aC]
 rfl
theorem yl {bs:List av}{i L j:Nat}{l:Bytes}(h:BD bs i L (.o j l.length) l)(hL:L≤bs.length)(c:UInt8)(nU:L≤j):BD (((bs++[av.own [dW c] 5 1 1 true]).set j .gone++[av.own (l.map dW++[dW c]) 5 1 (l.length+1) true]).set i (av.cells [.o (bs++[av.own [dW c] 5 1 1 true]).length (l.length+1)] 243 true)) i L (.o (bs++[av.own [dW c] 5 1 1 true]).length (l.length+1)) (l++[c]):=by
 have dF:i<bs.length:=(zQq.1 h.box).1
 refine⟨zQy (by simp;omega),.inr ⟨(bs++[av.own [dW c] 5 1 1 true]).length,by simp,by simp;omega,?_⟩,h.lt⟩
 rw[zQr (by simp;omega),zQJ (by simp)]
 simp
def NoI (also s:Bytes)(σ:St):Prop:=∃ (i:Nat) (x:SV) (d:Bytes),lk 0 σ.t=some (.str s)∧lk 1 σ.t=some (.str also)∧lk 6 σ.t=some (.p 0 0)∧lk 7 σ.t=some (.int .i64 i)∧i≤s.length∧d.length≤3 * i∧1≤σ.b.length∧BD σ.b 0 1 x d∧comb d (bX also (aJ (s.drop i)))=bX also (aJ s)
def NoM (s:Bytes)(σ:St):Nat:=match lk 7 σ.t with
 | some (.int _ k)=>s.length - k.toNat
 | _=>0
theorem Eh {s:Bytes}{σ:St}{k:Nat}(h:lk 7 σ.t=some (.int .i64 k)):NoM s σ=s.length - k:=by simp[NoM,h]
theorem ze {also s:Bytes}{t:List (Nat × SV)}{b:List av}{i i':Nat}{x:SV}{d:Bytes}(h0:lk 0 t=some (.str s))(h1:lk 1 t=some (.str also))(h6:lk 6 t=some (.p 0 0))(h7:lk 7 t=some (.int .i64 i'))(h:i'≤s.length∧d.length≤3 * i')(hb:1≤b.length)(ht:BD b 0 1 x d)
 (hn:comb d (bX also (aJ (s.drop i')))=bX also (aJ s)) (aA:i<i'):NoI also s ⟨t,b⟩∧NoM s ⟨t,b⟩<s.length - i :=
 ⟨⟨i',x,d,h0,h1,h6,h7,h.1,h.2,hb,ht,hn⟩,by rw[Eh h7];omega⟩
theorem si {s:Bytes}{i:Nat}(hi:i<s.length):aJ (s.drop i)=if s[i]=37 then(match mR s i with
 | some _=>(match en (s.drop (i+1)) with
   | some (a,b,_)=>.hex a b::aJ (s.drop (i+3))
   | none=>[.bad])
 | none=>[.bad]) else .lit s[i]::aJ (s.drop (i+1)):=by
 rw[zQv hi]
 by_cases h:s[i]=37
 ·rw[if_pos h,h]
  unfold mR
  cases hp:en (s.drop (i+1)) with
  | none=>simp only[Option.map_none];exact ve hp
  | some x =>
    obtain⟨a,b,r⟩:=x
    obtain⟨h1,h2,h3⟩:=eh hp
    simp only[Option.map_some]
    rw[h1,gO h2 h3]
    congr 2
    have:=congrArg (List.drop 2) h1
    rw[List.drop_drop]at this
    exact this.symm
 ·rw[if_neg h,ey h]
theorem qz (s also:Bytes)(ha:also.length≤1000):PC Tryz.V 157 [.str s,.str also] (.eW [.str (bI also s).1,.int .i64 (bI also s).2]):=by
 refine aZ 3000 Tryz.func157 rfl Tryz.ntmps157 Tryz.results157 Tryz.call157 (by simp) (by simp[flat,flat.ai]) (by simp[flat,flat.ai]) ?_
 refine bC ?_
 unfold bI
 refine⟨fun hl=>?_,fun hl=>?_⟩
 ·have hl:16384<s.length:=(by simp at hl;omega)
  rw[if_pos hl]
 have hl:s.length≤16384:=(by simp at hl;omega)
 rw[if_neg (by omega)]
 refine az (NoI also s) (NoM s) ⟨0,.aj,[],rfl,rfl,rfl,rfl,by omega,by simp,by simp,⟨rfl,.inl ⟨rfl,rfl,rfl⟩,by omega⟩,An _ (BZ also _)⟩ ?_
 rintro⟨t,b⟩ ⟨i,x,d,h0,h1,h6,h7,hi,hd,mh,ht,hn⟩
 simp only at h0 h1 h6 h7 mh ht
 rw[Eh h7]
 have oN:=ht.box
 by_cases aA:i<s.length
 ·have hu:=si aA
  have hg:s.getD i 0=s[i]:=by simp[List.getD,aA]
  refine gN (zQp h0 (zQp h1 (zQp h6 h7))) ?_
  refine⟨fun _=>⟨⟨by omega,by omega⟩,fun hc=>?_,fun hc=>?_⟩,fun h=>absurd h (by simp;omega)⟩
  ·rw[dw (n:=37) aA 37 rfl]at hc
   rw[if_pos (by simpa using hc)]at hu
   have pe:=KG s i aA (by omega)
   cases he:mR s i with
   | none =>
     rw[he]at pe hu
     simp only at hu
     rw[hu]at hn
     have qJ:bX also (aJ s)=([],2):=by rw[← hn];rfl
     rw[qJ]
     (refine aa pe ?_;simp only[cz,↓Xn,↓Xo,↓Xg,↓Xd,↓Xe,↓Xf,Tryz.VΓ,Tryz.Γs,Xp,Xi,Nat.reduceAdd,Nat.reduceSub,Nat.reduceLT,Nat.reduceLeDiff,reduceIte,reduceCtorEq,Nat.reduceEqDiff,implies_true,forall_const,cw,h0,h1,h6,h7,Option.isSome_none])
   | some v =>
     rw[he]at pe hu
     have hx:=he
     unfold mR at hx
     obtain⟨⟨a,bb,r⟩,hp,hv⟩:=zQ0.1 hx
     simp only at hv
     rw[hp]at hu
     simp only at hu
     have hi3:i+3≤s.length:=by
      obtain⟨h1,-,-⟩:=eh hp
      have:=congrArg List.length h1
      simp at this
      omega
     have jI:comb (d++qC v) (bX also (aJ (s.drop (i+2+1))))=bX also (aJ s):=by
      rw[← hn,hu,bX,lg,hv]
     simp only[Option.getD_some,Option.isSome_some]at pe
     (refine aa pe ?_;refine gN (zQp h0 (zQp h1 (zQp h6 h7))) ?_)
     refine⟨⟨by omega,by omega⟩,?_⟩
     (refine aa (qA v) ?_;refine gN (zQp h0 (zQp h1 (zQp h6 h7))) ?_)
     refine⟨fun hq=>?_,fun hq=>?_⟩
     ·have uA:comb (d++[v]) (bX also (aJ (s.drop (i+2+1))))=bX also (aJ s):=by
       rw[← jI];unfold qC;rw[if_pos hq]
      (rcases ht.sl with⟨rfl,jT,mO⟩|⟨j,rfl,nU,hj⟩
       ·have ho:∀ X,(b++[X])[0]? = some (.cells [.aj] 243 true):=fun X=>ad oN [X]
        have pJ:∀ X Y,(b++[X]++[Y])[0]? = some (.cells [.aj] 243 true):=fun X Y=>ad (ho X) [Y]
        refine gN (zQp h0 (zQp h1 (zQp h6 (zQp h7 (zQp oN (zQp @aC (zQp ho pJ))))))) ?_
        refine⟨by omega,⟨by unfold maxLen;omega,by omega⟩,⟨by omega,by omega⟩,ze (i':=i+2+1) (x:=.o (b++[av.own [dW (v)] 5 1 1 true]).length 1) (d:=d++[v]) h0 h1 h6 (by simp only[lk,reduceIte,zQH.injEq,SV.int.injEq,true_and];omega) ⟨by omega,by simp;omega⟩ (by simp) (CJ ht mh (v) rfl) (uA) (by omega)⟩
       ·have hlj:d.length=d.length:=rfl
        have ho:∀ X,(b++[X])[j]? = some (.own (d.map dW) 5 1 d.length true):=fun X=>ad hj [X]
        have pJ:∀ X Y,((b++[X]).set j .gone++[Y])[0]? = some (.cells [.o j d.length] 243 true):=fun X Y=>by
         rw[zQs (by simp),zQr (by omega)];exact ad oN [X]
        refine gN (zQp h0 (zQp h1 (zQp h6 (zQp h7 (zQp oN (zQp @aC (zQp ho pJ))))))) ?_
        refine⟨by omega,⟨by unfold maxLen;omega,by omega⟩,⟨by omega,by omega⟩,ze (i':=i+2+1) (x:=.o (b++[av.own [dW (v)] 5 1 1 true]).length (d.length+1)) (d:=d++[v]) h0 h1 h6 (by simp only[lk,reduceIte,zQH.injEq,SV.int.injEq,true_and];omega) ⟨by omega,by simp;omega⟩ (by simp) (yl ht mh (v) nU) (uA) (by omega)⟩)
     ·have uA:comb (d++nw v) (bX also (aJ (s.drop (i+2+1))))=bX also (aJ s):=by
       rw[← jI];unfold qC;rw[if_neg (by simp[hq])]
      refine ae (Kq ht mh (by omega) v) ?_
      rintro r b' ⟨rfl,x',ht',hbl',-⟩
      refine gN (zQp h0 (zQp h1 (zQp h6 h7))) ?_
      exact⟨⟨by omega,by omega⟩,ze (i':=i+2+1) (d:=d++nw v) h0 h1 h6 (by simp only[lk,reduceIte,zQH.injEq,SV.int.injEq,true_and];omega) ⟨by omega,by simp[nw];omega⟩ (by omega) ht' uA (by omega)⟩
  ·rw[dw (n:=37) aA 37 rfl]at hc
   rw[if_neg (by simpa using hc)]at hu
   rw[hu,bX]at hn
   rw[hg]
   have jI:fw also s[i]=true→comb (d++[s[i]]) (bX also (aJ (s.drop (i+1))))=bX also (aJ s):=fun hk=>by
    rw[← hn,if_pos hk,lg]
   (refine aa (qA s[i]) ?_;refine gN (zQp h0 (zQp h1 (zQp h6 (zQp h7 hg)))) ?_)
   refine⟨fun hq=>?_,fun hq=>?_⟩
   ·(refine aa (iK also s[i]) ?_;refine gN (zQp h0 (zQp h1 (zQp h6 (zQp h7 hg)))) ?_)
    rw[Jz]
    refine⟨fun nC=>?_,fun nC=>?_⟩
    ·have hk:fw also s[i]=true:=by unfold fw;rw[nC];simp
     (rcases ht.sl with⟨rfl,jT,mO⟩|⟨j,rfl,nU,hj⟩
      ·have ho:∀ X,(b++[X])[0]? = some (.cells [.aj] 243 true):=fun X=>ad oN [X]
       have pJ:∀ X Y,(b++[X]++[Y])[0]? = some (.cells [.aj] 243 true):=fun X Y=>ad (ho X) [Y]
       refine gN (zQp h0 (zQp h1 (zQp h6 (zQp h7 (zQp oN (zQp @aC (zQp ho pJ))))))) ?_
       refine⟨by omega,⟨by unfold maxLen;omega,by omega⟩,⟨by omega,by omega⟩,ze (i':=i+1) (x:=.o (b++[av.own [dW (s[i])] 5 1 1 true]).length 1) (d:=d++[s[i]]) h0 h1 h6 (by simp only[lk,reduceIte,zQH.injEq,SV.int.injEq,true_and];omega) ⟨by omega,by simp;omega⟩ (by simp) (CJ ht mh (s[i]) rfl) (jI hk) (by omega)⟩
      ·have hlj:d.length=d.length:=rfl
       have ho:∀ X,(b++[X])[j]? = some (.own (d.map dW) 5 1 d.length true):=fun X=>ad hj [X]
       have pJ:∀ X Y,((b++[X]).set j .gone++[Y])[0]? = some (.cells [.o j d.length] 243 true):=fun X Y=>by
        rw[zQs (by simp),zQr (by omega)];exact ad oN [X]
       refine gN (zQp h0 (zQp h1 (zQp h6 (zQp h7 (zQp oN (zQp @aC (zQp ho pJ))))))) ?_
       refine⟨by omega,⟨by unfold maxLen;omega,by omega⟩,⟨by omega,by omega⟩,ze (i':=i+1) (x:=.o (b++[av.own [dW (s[i])] 5 1 1 true]).length (d.length+1)) (d:=d++[s[i]]) h0 h1 h6 (by simp only[lk,reduceIte,zQH.injEq,SV.int.injEq,true_and];omega) ⟨by omega,by simp;omega⟩ (by simp) (yl ht mh (s[i]) nU) (jI hk) (by omega)⟩)
    ·have hk:¬ fw also s[i]=true:=by unfold fw;rw[hq,nC];simp
     rw[if_neg hk]at hn
     have qJ:bX also (aJ s)=([],1):=by rw[← hn];rfl
     rw[qJ]
   ·have hk:fw also s[i]=true:=by unfold fw;rw[hq];simp
    (rcases ht.sl with⟨rfl,jT,mO⟩|⟨j,rfl,nU,hj⟩
     ·have ho:∀ X,(b++[X])[0]? = some (.cells [.aj] 243 true):=fun X=>ad oN [X]
      have pJ:∀ X Y,(b++[X]++[Y])[0]? = some (.cells [.aj] 243 true):=fun X Y=>ad (ho X) [Y]
      refine gN (zQp h0 (zQp h1 (zQp h6 (zQp h7 (zQp oN (zQp @aC (zQp ho pJ))))))) ?_
      refine⟨by omega,⟨by unfold maxLen;omega,by omega⟩,⟨by omega,by omega⟩,ze (i':=i+1) (x:=.o (b++[av.own [dW (s[i])] 5 1 1 true]).length 1) (d:=d++[s[i]]) h0 h1 h6 (by simp only[lk,reduceIte,zQH.injEq,SV.int.injEq,true_and];omega) ⟨by omega,by simp;omega⟩ (by simp) (CJ ht mh (s[i]) rfl) (jI hk) (by omega)⟩
     ·have hlj:d.length=d.length:=rfl
      have ho:∀ X,(b++[X])[j]? = some (.own (d.map dW) 5 1 d.length true):=fun X=>ad hj [X]
      have pJ:∀ X Y,((b++[X]).set j .gone++[Y])[0]? = some (.cells [.o j d.length] 243 true):=fun X Y=>by
       rw[zQs (by simp),zQr (by omega)];exact ad oN [X]
      refine gN (zQp h0 (zQp h1 (zQp h6 (zQp h7 (zQp oN (zQp @aC (zQp ho pJ))))))) ?_
      refine⟨by omega,⟨by unfold maxLen;omega,by omega⟩,⟨by omega,by omega⟩,ze (i':=i+1) (x:=.o (b++[av.own [dW (s[i])] 5 1 1 true]).length (d.length+1)) (d:=d++[s[i]]) h0 h1 h6 (by simp only[lk,reduceIte,zQH.injEq,SV.int.injEq,true_and];omega) ⟨by omega,by simp;omega⟩ (by simp) (yl ht mh (s[i]) nU) (jI hk) (by omega)⟩)
 ·have js:i=s.length:=by omega
  subst js
  rw[List.drop_length,gi]at hn
  have qJ:bX also (aJ s)=(d,0):=by rw[← hn];simp[bX,comb]
  rw[qJ]
  rcases ht.sl with⟨rfl,jT,mO⟩|⟨j,rfl,nU,hj⟩
  ·obtain rfl:d=[]:=by simpa using jT
   refine gN (zQp h0 (zQp h1 (zQp h6 (zQp h7 oN)))) ?_
   exact fun h=>(by simp at h)
  ·refine gN (zQp h0 (zQp h1 (zQp h6 (zQp h7 (zQp oN hj))))) ?_
   refine⟨fun h=>absurd h (by simp),fun _=>⟨gd d,?_⟩⟩
   rw[ll]
end Go.Proofs.YtnmlimehgifadaaGreatDoor
