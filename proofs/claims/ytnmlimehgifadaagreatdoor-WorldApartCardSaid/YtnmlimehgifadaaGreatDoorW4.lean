/- Texts of this claim, laid together: SlRows, IdxAny, Ascii, Bytes, Ascii2, Lib, Comm, PlainQ, RedirP, Number, Host, Host2, Own, RefHost, RefHost2, HostPC, ValsW, Pct, UrlW, Uri, UriW, Bld, UriW3, UriN, UriW2. -/
import Derived.Deep.Slices
import Derived.Lib.OthersKept
import Derived.Deep.QuietTactic
import Derived.BigQuiet
import Derived.Test.YtnmlimehgifadaaGreatDoorProg
import Derived.Lib.ConvBytes
import Derived.Laws.IdiomStrings
import Derived.Lib.QuietBelow
import Derived.Lib.FrozenHead
import Derived.Test.YtnmlimehgifadaaGreatDoorW3
open List renaming toArray → zKS, take_of_length_le → zKU, getElem?_eq_some_iff → zKV, drop_eq_getElem_cons → zKX, getElem?_eq_getElem → zKY, isPrefixOf_iff_prefix → zKZ, getElem?_append_left → zK0, getElem?_set_ne → zK1, cons_append → zK2, flatMap_cons → zK3, mem_cons_self → zK4, cons → zK6, mem_singleton → zK7, getElem?_append_right → zK9, length_append → zLa, mem_cons_of_mem → zLb, nil_append → zLd, mem_append → zLf, length_take → zLg, drop_of_length_le → zLh, singleton_append → zLi, take_append_drop → zLj, isPrefixOf → zLl, mem_cons → zLm, length_cons → zLn, getElem_mem → zLo, all_eq_true → zLp, range → zLq, getElem?_set_self → zLs, contains_iff_mem → zLt, length_pos_iff → zLv
open And renaming intro → zKT
open Nat renaming le_refl → zKW, lt_or_ge → zK8
open Bool renaming and_eq_true → zK5, eq_iff_iff → zLc
open UInt8 renaming toNat_inj → zLr
open Option renaming some → zLu
set_option linter.all false
set_option maxHeartbeats 16000000
set_option maxRecDepth 20000
namespace Go.Proofs.YtnmlimehgifadaaGreatDoor
open Go Vc Go.RowKit Wf
open Go.ChangeShapes Go.WideShapes Go.ChangeAt
open Go.WideMaps Go.WideElems
theorem H3 {w:World}{b off:Nat}{xs ys:List Value}(h1:nV w b off xs)(h2:nV w b (off+xs.length) ys):nV w b off (xs++ys):=fun j v hv=>by
 rcases zK8 j xs.length with h|h
 ·rw[zK0 h]at hv
  exact h1 j v hv
 ·rw[zK9 h]at hv
  have:=h2 (j - xs.length) v hv
  rwa [show off+xs.length+(j - xs.length)=off+j by omega]at this
theorem x9 {ρ:Type}{w:World}{b s:Nat}(vs:ρ→List Value):∀ (L:List ρ)(off:Nat),(∀ r∈L,(vs r).length=s)→(∀ (i:Nat) (r:ρ),L[i]? = some r→nV w b (off+i * s) (vs r))→nV w b off (L.flatMap vs)
 | [],_,_,_=>fun j v hv=>by simp at hv
 | r::L,off,hs,h=>by
   rw[zK3]
   refine H3 (by simpa using h 0 r rfl) (x9 vs L _ (fun q hq=>hs q (zLb _ hq)) (fun i q hq=>?_))
   have:=h (i+1) q hq
   rw[hs r zK4]
   rwa [show off+s+i * s=off+(i+1) * s by rw[Nat.add_mul];omega]
theorem yj {ρ:Type}{s:Nat}(vs:ρ→List SV):∀ (L:List ρ),(∀ r∈L,(vs r).length=s)→(L.flatMap vs).length=L.length * s
 | [],_=>by simp
 | r::L,hs=>by
   rw[zK3,zLa,hs r zK4,yj vs L (fun q hq=>hs q (zLb _ hq)),zLn,Nat.add_mul]
   omega
section
variable {H:Type} {enc:TypeId × Value→H} {P:Program} {w:World} {held:Bool}
theorem FP {ρ:Type}(dflt:ρ)(cl:ρ→List SV)(dt:ρ→DataW H)(Q:ρ→Prop)(kT:∀ r,flat.af (cl r)=true){t e:TypeId}{s:Nat}(ht:P.underlying t=some (.slice e))(hs:P.cellsOf e=s)
 (gi:∀ fuel cs x,DataW.trod enc P w 0 (fun _=>true) held fuel e cs=some x→∃ r,cs=bG pS (cl r)∧x.1=dt r∧Q r)
 {rch:Reach} {b0:Nat} {v:Value} {n:Nat} {x:DataW H × List MemPlace} (cV:Cell.okWide P w rch b0 t v) (h:DataW.trod enc P w 0 (fun _=>true) held n t [v]=some x) :
 ∃ (b:Bt) (L:List ρ),v=oV b L.length∧L.length≤9223372036854775807∧((x.1=.nil∧L=[])∨∃ sp',x.1=.slice (L.map dt) sp')∧(∀ β,Holds β b (fun k=>k=b.kQ∧b.cap≠0) w (.own (L.flatMap cl) e s L.length false))∧(b.cap≠0→b.kQ<w.heap.size)∧∀ r∈L,Q r:=by
 obtain⟨a0,len0,cap0,rfl⟩:∃ a len cap,v=.slice a len cap:=by
  simp only[Cell.okWide,ht]at cV
  cases v <;> simp_all [Cell.ok]
 have hf:=h
 rcases Go.Deep.open_slice ht hf with⟨hv,hx⟩|⟨a,len,cap,m,n,D,Pl,hv,hb,hl,hm,iX,hx,C7⟩
 ·simp only[zK6.injEq,Value.slice.injEq,and_true]at hv
  obtain⟨rfl,rfl,rfl⟩:=hv
  exact⟨⟨0,0,0⟩,[],by simp[oV],by simp,.inl ⟨by rw[hx],rfl⟩,fun β=>.inl ⟨rfl,rfl,rfl,by simp⟩,fun k=>absurd rfl k,fun _ hr=>absurd hr (by simp)⟩
 ·simp only[zK6.injEq,Value.slice.injEq,and_true]at hv
  obtain⟨rfl,rfl,rfl⟩:=hv
  have hhas:w.has P rch b0 a e cap0:=by
   simp only[Cell.okWide,ht,Cell.ok]at cV
   exact cV.2.2
  obtain⟨-,hspot,row,cells,DY,-⟩:=hhas
  obtain⟨kQ,off,spot⟩:=a
  simp only at hspot DY
  subst hspot
  have hblk:kQ<w.heap.size:=by
   rcases zK8 kQ w.heap.size with h' | h'
   ·exact h'
   ·unfold World.shape? at DY
    simp[Array.getElem?_eq_none h']at DY
  have hmc:m=cap0:=by rw[iX];simp
  subst hmc
  haveI:Inhabited ρ:=⟨dflt⟩
  obtain⟨R,hR⟩:=Go.Deep.choose_lt (α:=ρ) (n:=len0) (p:=fun i r=>(∀ q v,(bG pS (cl r))[q]? = some v→w.cell? ⟨kQ,off+i * s+q,none⟩=some v)∧(cl r).length=s∧D i=dt r∧Q r) (fun i hi=>by
   obtain⟨cs',h1,h2⟩:=C7 i (by omega)
   obtain⟨r,rfl,hd,hQ⟩:=gi n cs' _ h2
   rw[hs]at h1
   obtain⟨-,h3,h4⟩:=World.cells?_some h1
   rw[bR,List.length_map]at h3
   refine⟨r,fun q v hv=>?_,h3,hd,hQ⟩
   have hq:q<s:=by
    have:=(zKV.1 hv).1
    rwa [bR,List.length_map,h3]at this
   have:=h4 q hq
   rw[ep,ep]at this
   rw[this];exact hv)
  have hlen:((zLq len0).map R).length=len0:=by simp
  have a6:∀ r∈(zLq len0).map R,(cl r).length=s:=by
   intro r hr
   obtain⟨i,hi,rfl⟩:=List.mem_map.1 hr
   exact(hR i (List.mem_range.1 hi)).2.1
  have hmx:m≤9223372036854775807:=by unfold maxLen at hm;simpa using hm
  have hlies:∀ β,nV w kQ off ((((zLq len0).map R).flatMap cl).map (ai β)):=fun β=>by
   have e1:(((zLq len0).map R).flatMap cl).map (ai β)=((zLq len0).map R).flatMap fun r=>bG β (cl r):=by
    rw[List.map_flatMap]
    congr 1
    funext r
    rw[bR]
   rw[e1]
   refine x9 (s:=s) _ _ _ (fun r hr=>by rw[bR,List.length_map];exact a6 r hr) (fun i r hr q v hv=>?_)
   have hi:i<len0:=by
    have:=(zKV.1 hr).1
    simpa using this
   have Iw:R i=r:=by simpa[hi] using hr
   subst Iw
   rw[dT _ (kT _) β pS]at hv
   have:=(hR i hi).1 q v hv
   simpa[Nat.add_assoc] using this
  refine⟨⟨kQ,off,m+1⟩,(zLq len0).map R,by simp[oV],by rw[hlen];omega,.inr ⟨(zLq (m - len0)).map fun j=>D (len0+j),?_⟩,fun β=>.inr ⟨by simp,by simpa using hl,by simpa using hm,yj cl _ a6,hlies β,(fun hm=>absurd hm (by simp)),fun k=>by simp⟩,fun _=>hblk,fun r hr=>by
   obtain⟨i,hi,rfl⟩:=List.mem_map.1 hr
   exact(hR i (List.mem_range.1 hi)).2.2.2⟩
  have hD:(zLq len0).map D=((zLq len0).map R).map dt:=by
   rw[List.map_map]
   exact List.map_congr_left fun i hi=>(hR i (List.mem_range.1 hi)).2.2.1
  rw[hx,hD]
end
theorem ok_cell {P:Program}{w:World}{r:Reach}{b:Nat}{t e:TypeId}{v:Value}(ht:P.underlying t=some (.slice e))(h:Value.okWide P w r b t v):Cell.okWide P w r b t v:=by
 simpa only[Value.okWide,ht] using h
theorem SC.law {V:Cx}{f:FuncId}{args:List SV}{l:List (Bt × aw)}(h:SC V f args (l.map (·.2)) (fun r _=>r=.bool true)){w:World}(hE:V.E w)
 (hh:∀ x∈l,x.2.cP=false∧(∀ β,Holds β x.1 (fun k=>k=x.1.kQ∧x.1.cap≠0) w x.2)∧(x.1.cap≠0→x.1.kQ<w.heap.size)) :
 Calls V.P f (bG (fun i=>((l[i]?).map (·.1)).getD (pS 0)) args).toArray w fun e w'=>e=.returned (.bool true)∧Below w.heap.size w w':=by
 have pq:∀ (i:Nat) (r:aw),(l.map (·.2))[i]? = some r→r.cP=false:=fun i r hi=>by
  rw[List.getElem?_map,Option.map_eq_some_iff]at hi
  obtain⟨x,hx,rfl⟩:=hi
  exact(hh x (List.mem_of_getElem? hx)).1
 obtain⟨β,hβ0⟩:∃ β:Nat→Bt,β=fun i=>((l[i]?).map (·.1)).getD (pS 0):=⟨_,rfl⟩
 rw[← hβ0]
 obtain⟨fp,hfp⟩:∃ fp:Nat→Nat→Prop,∀ i k,fp i k↔∃ x,l[i]? = some x∧k=x.1.kQ∧x.1.cap≠0:=⟨fun i k=>∃ x,l[i]? = some x∧k=x.1.kQ∧x.1.cap≠0,fun _ _=>Iff.rfl⟩
 have qM:∀ β',ct (l.map (·.2)).length β β'→GR β' fp w (l.map (·.2)):=fun β' hβ=>by
  refine GR.mk ?_ ?_ ?_
  ·intro i r hi
   rw[List.getElem?_map,Option.map_eq_some_iff]at hi
   obtain⟨x,hx,rfl⟩:=hi
   have hb:β' i=x.1:=by
    have:=hβ i (by simpa using(zKV.1 hx).1)
    rw[← this,hβ0];simp[hx]
   rw[hb]
   have h2:=(hh x (List.mem_of_getElem? hx)).2.1 β'
   have e:fp i=fun k=>k=x.1.kQ∧x.1.cap≠0:=by
    funext k
    exact propext ⟨fun h=>by obtain⟨y,hy,h1⟩:=(hfp i k).1 h;rw[hx]at hy;cases hy;exact h1,fun h=>(hfp i k).2 ⟨x,hx,h⟩⟩
   rw[e];exact h2
  ·intro i r hi k hk
   obtain⟨x,hx,rfl,hc⟩:=(hfp i k).1 hk
   exact(hh x (List.mem_of_getElem? hx)).2.2 hc
  ·intro i j r r' hi hj _ hm
   rw[pq i r hi,pq j r' hj]at hm
   simp at hm
 refine(h.2 β fp w qM ?_ hE).mono ?_
 ·intro i r hi hm
  rw[pq i r hi]at hm
  cases hm
 ·rintro e w' ⟨r,bs',β₂,fp₂,rfl,vS,hle,a6,j5,-⟩
  refine⟨by have:=(a6 β₂ (ct.refl _ _)).1;simpa[ai] using this,?_⟩
  refine(j5.mono (own':=fun _=>False) ?_).below
  rintro k ⟨i,r,hi,hm,-⟩
  rw[pq i r hi]at hm
  cases hm
open Go.RowKit Wf
attribute [local go_sem] dX dK get_list
theorem Cr (r:Int)(h1:128≤r)(h4:Lib.validRune r=true):∃ el:Bytes,Utf8.encode r=⟨zKS el⟩∧2≤el.length∧el.length≤4∧∀ h:el.length - 1<el.length,128≤el[el.length - 1].toNat:=by
 have hv:Utf8.valid r=true:=by
  unfold Lib.validRune at h4
  have:=of_decide_eq_true h4
  unfold Utf8.valid
  simp
  omega
 obtain⟨n,rfl⟩:=Int.eq_ofNat_of_zero_le (show 0≤r by omega)
 have hn:128≤n:=by omega
 have key:∀ m:Nat,128≤(UInt8.ofNat (0x80+m % 64)).toNat:=by
  intro m
  rw[UInt8.toNat_ofNat']
  omega
 unfold Utf8.encode
 rw[if_pos hv]
 simp only[Int.toNat_natCast]
 rw[if_neg (show ¬ n<128 by omega)]
 split
 ·exact⟨_,rfl,by simp,by simp,fun _=>key _⟩
 ·split
  ·exact⟨_,rfl,by simp,by simp,fun _=>key _⟩
  ·exact⟨_,rfl,by simp,by simp,fun _=>key _⟩
theorem zz (l:Bytes)(c:UInt8)(h:∀ b∈l,b≠c):Lib.indexByte l c=-1:=by
 induction l with
 | nil=>rfl
 | cons b l ih =>
   have h1:=h b (by simp)
   have h2:=ih fun x hx=>h x (by simp[hx])
   simp[Lib.indexByte,h1,h2]
set_option maxRecDepth 100000 in
theorem xa (l:Bytes)(w:World)(ha:∀ i (h:i<l.length),l[i].toNat<128)(hl:l.length≤1000000) :
 Calls Tryz.prog 247 #[(Value.string ⟨zKS (l)⟩),.int .i32 65533] w fun e w'=>e=.returned (.int .i64 (-1))∧Below w.heap.size w w':=by
 go_enter Tryz.func247,Tryz.ntmps247
 have Ha:=hid ha
 clear ha
 go_wp2_with fail
 go_loopw [] (fun wr=>∃ i:Nat,i≤l.length∧wr=w.iter ⟨zKS l⟩ i) (fun wr=>l.length - wr.iterPos w.heap.size)
 case atStart=>exact⟨0,by omega,rfl⟩
 case round =>
  obtain⟨i,hi,rfl⟩:=hrel
  by_cases aC:i<l.length
  ·have hnx:=fun ty=>run_next_ascii (P:=Tryz.prog) w ⟨zKS l⟩ i ty aC (Ha.out i aC)
   have hb:=Ha.out i aC
   have hx:((l[i].toNat:Int)==65533)=false:=beq_eq_false_iff_ne.2 (by omega)
   simp only[get_list]at hnx
   go_wp2_with fail
   go_roundw
   case rel=>exact⟨i+1,by omega,rfl⟩
   case measure=>simp;omega
  ·have hnx:=run_next_end (P:=Tryz.prog) w ⟨zKS l⟩ i
   have oa:l.length≤i:=by omega
   go_wp2_with fail
   go_ret
   exact⟨rfl,(Below.refl _ _).alloc (zKW _) _⟩
set_option maxRecDepth 100000 in
theorem xb (l:Bytes)(r:Int)(w:World)(h1:128≤r)(h2:r≤2147483647)(h3:(r==65533)=false)(h4:Lib.validRune r=false) :
 Calls Tryz.prog 247 #[(Value.string ⟨zKS (l)⟩),.int .i32 r] w fun e w'=>e=.returned (.int .i64 (-1))∧Below w.heap.size w w':=by
 have h5:=hid h4
 go_enter Tryz.func247,Tryz.ntmps247
 go_wp2_with (go_at_call 278;refine(Tryz.utf8_ValidRune _ _).mono ?_;rintro e w' ⟨rfl,rfl⟩)
 go_ret
 exact⟨rfl,Below.refl _ _⟩
set_option maxRecDepth 100000 in
theorem vC (l:Bytes)(r:Int)(w:World)(ha:∀ i (h:i<l.length),l[i].toNat<128)(hl:l.length≤1000000)(h1:128≤r)(h2:r≤2147483647)(h3:(r==65533)=false)(h4:Lib.validRune r=true) :
 Calls Tryz.prog 247 #[(Value.string ⟨zKS (l)⟩),.int .i32 r] w fun e w'=>e=.returned (.int .i64 (-1))∧Below w.heap.size w w':=by
 have Ha:=hid ha
 clear ha
 go_enter Tryz.func247,Tryz.ntmps247
 go_wp2_with (go_at_call 278;refine(Tryz.utf8_ValidRune _ _).mono ?_;rintro e w' ⟨rfl,rfl⟩)
 go_step3
 go_wp2_with fail
 obtain⟨el,C7,he1,he2,he3⟩:=Cr r h1 h4
 have He3:=hid he3
 clear he3
 rw[C7]
 have hx:wrap64 ((ByteArray.size ⟨zKS el⟩:Int) - 1)=((el.length - 1:Nat):Int):=by
  have:ByteArray.size ⟨zKS el⟩=el.length:=rfl
  rw[this,IntWalk.wrap64_in _ ⟨by omega,by omega⟩]
  omega
 rw[hx]
 clear C7 hx h1 h2 h3 h4
 refine wp_loop_once ?_
 by_cases aC:el.length - 1<l.length
 ·have hle:el.length - 1<el.length:=by omega
  have hbt:=Ha.out _ aC
  have hc:=He3.out (by omega)
  have bt:((l[el.length - 1].toNat:Int) != (el[el.length - 1].toNat:Int))=true:=by rw[bne_iff_ne];omega
  have pq:=zz (l.drop (el.length - 1+1)) el[el.length - 1] (fun b hb hx=>by
   obtain⟨j,hj,rfl⟩:=List.mem_iff_getElem.1 hb
   rw[List.getElem_drop]at hx
   have h1:=Ha.out (el.length - 1+1+j) (by simp at hj;omega)
   rw[hx]at h1
   omega)
  have Hno:=hid pq
  clear pq
  go_wp2_with fail
  go_step3
  go_wp2_with fail
  go_quiet (fail)
  go_wp2_with fail
  have hb:Below w'.heap.size w' (w'.drewN nq):=below_drewN (Below.refl _ _) _
  generalize w'.drewN nq=w2 at hb ⊢
  have GW:IntKind.i64.wrap (((el.length - 1:Nat):Int)+1)=((el.length - 1:Nat):Int)+1:=IntWalk.i64_in _ (by omega)
  have fw:(0:Int)≤((el.length - 1:Nat):Int)+1:=by omega
  have hs3:(((el.length - 1:Nat):Int)+1).toNat=el.length - 1+1:=by omega
  have hs4:((el.length - 1:Nat):Int)+1≤(l.length:Int):=by omega
  go_quiet ((go_at_call 209;refine Calls.quiet_of_same (Tryz.strings_IndexByte _ _ _)))
  clear GW fw hs3 hs4
  rw[show ((el[el.length - 1].toNat:Int)).toNat.toUInt8=el[el.length - 1] from by simp,Hno.out]
  go_wp2_with fail
  rw[Exit.noGoto_ret]
  go_wp2_with fail
  rw[Exit.noGoto_ret]
  go_ret
  exact⟨rfl,below_drewN hb _⟩
 ·go_wp2_with fail
  rw[Exit.noGoto_ret]
  go_ret
  exact⟨rfl,Below.refl _ _⟩
theorem DQ (s:ByteArray)(set:Bytes)(i k:Nat)(hn:Lib.NoAny s.data.toList set i)(dL:∀ j (h:j<set.length),set[j].toNat<128)(hh:∀ j,i≤j→j<i+k→∀ h:j<s.size,128≤s[j].toNat):Lib.NoAny s.data.toList set (i+k):=by
 intro j b hj hb
 by_cases ox:j<i
 ·exact hn j b ox hb
 ·obtain⟨hjs,rfl⟩:=zKV.1 hb
  have hs:j<s.size:=by rw[Lib.size_eq];exact hjs
  have h1:128≤(s.data.toList[j]).toNat:=hh j (by omega) hj hs
  rw[Bool.eq_false_iff]
  intro hc
  have pw:=zLt.1 hc
  obtain⟨q,hq,he⟩:=List.mem_iff_getElem.1 pw
  have h2:=dL q hq
  rw[he]at h2
  omega
theorem I7 (s:ByteArray)(j:Nat)(h:j<s.size):(s.get! j).toNat=s[j].toNat:=by
 have:=get_at s j h
 rw[Nat.add_zero]at this
 rw[this]
theorem js (s:ByteArray)(j:Nat)(h:(decide (j<s.size)&&(s.get! j).toNat / 64==2)=true):j<s.size∧∀ h:j<s.size,128≤s[j].toNat:=by
 simp only[zK5,decide_eq_true_eq,beq_iff_eq]at h
 refine⟨h.1,fun hj=>?_⟩
 have:=h.2
 rw[I7 s j hj]at this
 omega
def Span (s:ByteArray)(i:Nat)(p:Nat × Nat):Prop:=i+p.2≤s.size∧∀ j,i≤j→j<i+p.2→∀ h:j<s.size,128≤s[j].toNat
theorem Cz (s:ByteArray)(i:Nat)(h:i<s.size)(hx:128≤s[i].toNat):Span s i (Utf8.decode s i):=by
 have one:∀ e,Span s i (e,1):=fun e=>⟨by dsimp only;omega,fun j h1 h2 h3=>by
  dsimp only at h2
  obtain rfl:j=i:=by omega
  exact hx⟩
 unfold Utf8.decode
 dsimp only
 split
 ·exact one _
 split
 ·rename_i hc
  simp only[zK5]at hc
  have c1:=js s (i+1) (by simpa using hc.2)
  split
  ·refine⟨by dsimp only;omega,fun j h1 h2 h3=>?_⟩
   dsimp only at h2
   rcases zK8 j (i+1) with h' | h'
   ·exact(one 0).2 j h1 h' h3
   ·obtain rfl:j=i+1:=by omega
    exact c1.2 h3
  ·exact one _
 ·split
  ·rename_i hc
   simp only[zK5]at hc
   have c1:=js s (i+1) (by simpa using hc.1.2)
   have c2:=js s (i+2) (by simpa using hc.2)
   split
   ·refine⟨by dsimp only;omega,fun j h1 h2 h3=>?_⟩
    dsimp only at h2
    rcases zK8 j (i+1) with h' | h'
    ·exact(one 0).2 j h1 h' h3
    ·rcases zK8 j (i+2) with h'' | h''
     ·obtain rfl:j=i+1:=by omega
      exact c1.2 h3
     ·obtain rfl:j=i+2:=by omega
      exact c2.2 h3
   ·exact one _
  ·split
   ·rename_i hc
    simp only[zK5]at hc
    have c1:=js s (i+1) (by simpa using hc.1.1.2)
    have c2:=js s (i+2) (by simpa using hc.1.2)
    have c3:=js s (i+3) (by simpa using hc.2)
    split
    ·refine⟨by dsimp only;omega,fun j h1 h2 h3=>?_⟩
     dsimp only at h2
     rcases zK8 j (i+1) with h' | h'
     ·exact(one 0).2 j h1 h' h3
     ·rcases zK8 j (i+2) with h'' | h''
      ·obtain rfl:j=i+1:=by omega
       exact c1.2 h3
      ·rcases zK8 j (i+3) with h4|h4
       ·obtain rfl:j=i+2:=by omega
        exact c2.2 h3
       ·obtain rfl:j=i+3:=by omega
        exact c3.2 h3
    ·exact one _
   ·exact one _
theorem xc (l:Bytes)(r:Int)(w:World)(ha:∀ i (h:i<l.length),l[i].toNat<128)(hl:l.length≤1000000)(h1:128≤r)(h2:r≤2147483647) :
 Calls Tryz.prog 247 #[(Value.string ⟨zKS (l)⟩),.int .i32 r] w fun e w'=>e=.returned (.int .i64 (-1))∧Below w.heap.size w w':=by
 by_cases h3:r=65533
 ·subst h3
  exact xa l w ha hl
 ·cases h4:Lib.validRune r
  ·exact xb l r w h1 h2 (beq_eq_false_iff_ne.2 h3) h4
  ·exact vC l r w ha hl h1 h2 (beq_eq_false_iff_ne.2 h3) h4
theorem vB {w:World}{k:Nat}{s:ByteArray}{p:Nat}(h:w.heap[k]? = some (.stringIter s p)):w.iterPos k=p:=by unfold World.iterPos;rw[h]
set_option maxRecDepth 100000 in
theorem vD (s l:Bytes)(w:World)(ha:∀ i (h:i<l.length),l[i].toNat<128)(hl:l.length≤1000000)(h2:2≤l.length)(h8:s.length≤8) :
 Calls Tryz.prog 206 #[(Value.string ⟨zKS (s)⟩),(Value.string ⟨zKS (l)⟩)] w fun e w'=>e=.returned (.int .i64 (Lib.indexAny s l))∧Below w.heap.size w w':=by
 have Ha:=hid ha
 clear ha
 have hemp:l.isEmpty=false:=by cases l <;> simp at h2 ⊢
 have D6:((l.length:Int)==1)=false:=beq_eq_false_iff_ne.2 (by omega)
 have h8z:decide ((8:Int)<(s.length:Int))=false:=decide_eq_false (by omega)
 go_enter Tryz.func206,Tryz.ntmps206
 go_wp2_with (go_at_call 248;refine(Tryz.strings_shouldUseASCIISet _ _).mono ?_;rintro e w' ⟨rfl,hw⟩;rw[hw,h8z])
 go_loopw [] (fun wr=>∃ i:Nat,i≤s.length∧wr.heap[w.heap.size]? = some (.stringIter ⟨zKS s⟩ i)∧Below w.heap.size w wr∧Lib.NoAny s l i) (fun wr=>s.length - wr.iterPos w.heap.size)
 case atStart=>exact⟨0,by omega,World.iter_heap _ _ _,(Below.refl _ _).alloc (zKW _) _,Lib.NoAny.zero _ _⟩
 case round =>
  obtain⟨i,hi,hit,qN,pq⟩:=hrel
  have Hit:=hid hit
  have Hbl:=hid qN
  have Hno:=hid pq
  clear hit qN pq
  have D0:wr.iterPos w.heap.size=i:=by unfold World.iterPos;rw[Hit.out]
  have Hpos:=hid D0
  clear D0
  have zE:w.heap.size<wr.heap.size:=(Array.getElem?_eq_some_iff.1 Hit.out).1
  by_cases aC:i<s.length
  ·by_cases hx:s[i].toNat<128
   ·have hnx:=fun ty=>Lib.run_next_ascii_at (P:=Tryz.prog) wr w.heap.size ⟨zKS s⟩ i ty Hit.out aC hx
    simp only[get_list]at hnx
    have Gf:=Lib.contains_iff_indexByte l s[i]
    have iN:((s[i].toNat:Int)).toNat.toUInt8=s[i]:=by simp
    cases tg:l.contains s[i]
    ·rw[tg]at Gf
     have D5:¬ ((0:Int)≤Lib.indexByte l s[i]):=of_decide_eq_false Gf.symm
     clear Gf
     go_wp2_with (go_at_call 247;refine(Tryz.strings_IndexRune_ascii _ _ _ (by omega) (by omega)).mono ?_;rintro e w' ⟨rfl,hw⟩;rw[hw,iN])
     have hk:=Lib.iterAt_heap wr w.heap.size ⟨zKS s⟩ i (i+1) Hit.out
     have mL:(⟨zKS s⟩:ByteArray).data.toList[i]? = some s[i]:=zKY aC
     refine⟨⟨i+1,by omega,hk,Lib.below_iterAt Hbl.out (zKW _) _ _,Hno.out.succ mL tg⟩,?_⟩
     rw[vB hk,Hpos.out];omega
    ·rw[tg]at Gf
     have Ce:((0:Int)≤Lib.indexByte l s[i]):=of_decide_eq_true Gf.symm
     clear Gf
     go_wp2_with (go_at_call 247;refine(Tryz.strings_IndexRune_ascii _ _ _ (by omega) (by omega)).mono ?_;rintro e w' ⟨rfl,hw⟩;rw[hw,iN])
     have mL:s[i]? = some s[i]:=zKY aC
     go_ret
     exact⟨tT (by rw[Lib.indexAny_hit Hno.out mL tg]),Lib.below_iterAt Hbl.out (zKW _) _ _⟩
   ·have hnx:=fun ty=>Lib.run_next_any_at (P:=Tryz.prog) wr w.heap.size ⟨zKS s⟩ i ty Hit.out aC
    have hd:=decode_high ⟨zKS s⟩ i aC (by simp only[get_list];omega)
    have yg:=decode_le ⟨zKS s⟩ i
    go_wp2_with (go_at_call 247;refine(xc l _ _ Ha.out hl (by omega) (by omega)).mono ?_;rintro e w' ⟨rfl,hw⟩)
    have rX:=Cz ⟨zKS s⟩ i aC (by simp only[get_list];omega)
    have hk:=Lib.iterAt_heap wr w.heap.size ⟨zKS s⟩ i (i+(Utf8.decode ⟨zKS s⟩ i).2) Hit.out
    have bM:=(hw.block w.heap.size (by rw[Lib.iterAt_size];exact zE)).trans hk
    have hle:i+(Utf8.decode ⟨zKS s⟩ i).2≤s.length:=rX.1
    refine⟨⟨_,hle,bM,(Lib.below_iterAt Hbl.out (zKW _) _ _).trans (hw.mono (by rw[Lib.iterAt_size];omega)),DQ ⟨zKS s⟩ l i _ Hno.out Ha.out rX.2⟩,?_⟩
    rw[vB bM,Hpos.out];omega
  ·have hnx:=fun ty=>Lib.run_next_end_at (P:=Tryz.prog) wr w.heap.size ⟨zKS s⟩ i ty Hit.out aC
   go_wp2_with fail
   go_ret
   exact⟨tT (by rw[Lib.indexAny_none (by rw[show s.length=i by omega];exact Hno.out)]),Hbl.out⟩
theorem strings_IndexAny (s l:Bytes)(w:World)(ha:∀ i (h:i<l.length),l[i].toNat<128)(hl:l.length≤1000000)(h2:2≤l.length)(hs:s.length<4294967281) :
 Calls Tryz.prog 206 #[(Value.string ⟨zKS (s)⟩),(Value.string ⟨zKS (l)⟩)] w fun e w'=>e=.returned (.int .i64 (Lib.indexAny s l))∧Below w.heap.size w w':=by
 rcases zK8 8 s.length with h8|h8
 ·refine(Tryz.strings_IndexAny_long (fun _=>by kernel_rfl) ⟨zKS s⟩ ⟨zKS l⟩ w h2 h8 hs (show l.length<4294967281 by omega) (fun j b hb=>?_)).mono ?_
  ·obtain⟨hj,rfl⟩:=zKV.1 hb
   exact ha j hj
  ·rintro e w' ⟨rfl,rfl⟩
   exact⟨rfl,((Below.refl _ _).alloc (zKW _) _).alloc (by simp) _⟩
 ·exact vD s l w ha hl h2 h8
open Go.RowKit Wf
attribute [local go_sem] dX dK get_list
theorem bH (c:UInt8)(w:World):Calls Tryz.prog 252 #[.int .u8 c.toNat] w fun e w'=>e=.returned (.bool (isDigit c))∧w=w':=by
 go_enter Tryz.func252,Tryz.ntmps252
 go_wp2
 all_goals
  go_ret
  refine⟨bc ?_,rfl⟩
  have hb:=DO c
  have hc:=c.toNat_lt
  rw[zLc]
  simp[isDigit]
  try omega
theorem cS (c:UInt8)(w:World):Calls Tryz.prog 251 #[.int .u8 c.toNat] w fun e w'=>e=.returned (.bool (isAlpha c))∧w=w':=by
 go_enter Tryz.func251,Tryz.ntmps251
 go_wp2
 all_goals
  go_ret
  refine⟨bc ?_,rfl⟩
  have hb:=DO c
  have hc:=c.toNat_lt
  rw[zLc]
  simp[isAlpha]
  try omega
theorem CM (c:UInt8)(w:World):Calls Tryz.prog 255 #[.int .u8 c.toNat] w fun e w'=>e=.returned (.bool (bm c))∧w=w':=by
 go_enter Tryz.func255,Tryz.ntmps255
 go_wp2
 all_goals
  go_ret
  refine⟨bc ?_,rfl⟩
  have hb:=DO c
  have hc:=c.toNat_lt
  rw[zLc]
  simp[bm]
  try omega
theorem dA (c:UInt8)(w:World):Calls Tryz.prog 148 #[.int .u8 c.toNat] w fun e w'=>e=.returned (.bool (isDigit c))∧w=w':=by
 go_enter Tryz.func148,Tryz.ntmps148
 go_wp2
 all_goals
  go_ret
  refine⟨bc ?_,rfl⟩
  have hb:=DO c
  have hc:=c.toNat_lt
  rw[zLc]
  simp[isDigit]
  try omega
theorem hZ (c:UInt8)(w:World):Calls Tryz.prog 147 #[.int .u8 c.toNat] w fun e w'=>e=.returned (.bool (isAlpha c))∧w=w':=by
 go_enter Tryz.func147,Tryz.ntmps147
 go_wp2
 all_goals
  go_ret
  refine⟨bc ?_,rfl⟩
  have hb:=DO c
  have hc:=c.toNat_lt
  rw[zLc]
  simp[isAlpha]
  try omega
theorem A9 (c:UInt8)(w:World):Calls Tryz.prog 151 #[.int .u8 c.toNat] w fun e w'=>e=.returned (.bool (bm c))∧w=w':=by
 go_enter Tryz.func151,Tryz.ntmps151
 go_wp2
 all_goals
  go_ret
  refine⟨bc ?_,rfl⟩
  have hb:=DO c
  have hc:=c.toNat_lt
  rw[zLc]
  simp[bm]
  try omega
open Go.RowKit Wf
def u8V (b:UInt8):Value:=.int .u8 b.toNat
def gO (w:World)(b:Nat)(l:Bytes):Prop:=∃ (rest:List Value) (T:TypeId) (fz:Nat × Nat),w.heap[b]? = some (.cells (l.map u8V++rest).toArray T fz)∧(l.length≤fz.1∨fz.2≤fz.1)
theorem gO.cell {w:World}{b:Nat}{l:Bytes}(h:gO w b l){k:Nat}(hk:k<l.length):w.cell? ⟨b,k,none⟩=some (.int .u8 l[k].toNat):=by
 obtain⟨rest,T,fz,hb,_⟩:=h
 rw[Lib.cell_of_heap hb k]
 simp[zK0,hk,u8V]
theorem gO.frozen {w:World}{b:Nat}{l:Bytes}(h:gO w b l){k:Nat}(hk:k<l.length):w.frozen? ⟨b,k,none⟩=false:=by
 obtain⟨rest,T,fz,hb,hf⟩:=h
 simp only[World.frozen?,hb]
 simp
 omega
theorem gO.set {w:World}{b:Nat}{l:Bytes}(h:gO w b l){k:Nat}(hk:k<l.length)(x:UInt8):gO (w.setCell ⟨b,k,none⟩ (.int .u8 x.toNat)) b (l.set k x):=by
 obtain⟨rest,T,fz,hb,hf⟩:=h
 refine⟨rest,T,fz,?_,by simpa using hf⟩
 rw[heap_set hb]
 congr 2
 simp[List.set_append_left,hk,List.map_set,u8V]
theorem gO.lt {w:World}{b:Nat}{l:Bytes}(h:gO w b l):b<w.heap.size:=by
 obtain⟨rest,T,fz,hb,_⟩:=h
 exact cE hb
theorem gO.back {w:World}{b:Nat}{l:Bytes}(h:gO w b l)(cap:Nat) :
 (convert 22 9 (.slice (some ⟨b,0,none⟩) l.length cap)).run Tryz.prog w=.ok (Value.string ⟨zKS (l)⟩) w:=by
 refine run_convert_bytes_back w _ _ 5 ⟨b,0,none⟩ cap l Tryz.underlying22 Tryz.underlying5 Tryz.underlying9 (fun j hj=>?_)
 have:(⟨b,0,none⟩:Addr).add j=⟨b,j,none⟩:=by
  unfold Addr.add
  split
  ·subst j;rfl
  ·simp
 rw[this]
 exact h.cell hj
theorem CN (b o j:Nat):(⟨b,o,none⟩:Addr).add j=⟨b,o+j,none⟩:=by
 unfold Addr.add
 split
 ·subst j;rfl
 ·rfl
theorem gO.backAt {w:World}{b a:Nat}{y l:Bytes}(h:gO w b (y++l))(hy:y.length=a)(cap:Nat) :
 (convert 22 9 (.slice (some ⟨b,a,none⟩) l.length cap)).run Tryz.prog w=.ok (Value.string ⟨zKS (l)⟩) w:=by
 refine run_convert_bytes_back w _ _ 5 ⟨b,a,none⟩ cap l Tryz.underlying22 Tryz.underlying5 Tryz.underlying9 (fun j hj=>?_)
 rw[CN]
 subst hy
 have h1:=h.cell (k:=y.length+j) (by simp;omega)
 have h2:(y++l)[y.length+j]'(by simp;omega)=l[j]:=by rw[List.getElem_append_right (Nat.le_add_right _ _)];simp
 rw[h2]at h1
 exact h1
theorem wj (w:World)(s:Bytes):∃ (w1:World) (cap:Nat),(convert 9 22 (Value.string ⟨zKS (s)⟩)).run Tryz.prog w=.ok (.slice (some ⟨w.heap.size,0,none⟩) s.length cap) w1∧gO w1 w.heap.size s∧Below w.heap.size w w1:=by
 refine⟨_,_,Lib.run_convert_string_bytes w _ _ 5 ⟨zKS s⟩ Tryz.underlying9 Tryz.underlying22 Tryz.underlying5,?_,?_⟩
 ·refine⟨(Array.replicate (grownCap w s.length 0 5 - s.length) (Value.int .u8 0)).toList,5,((Lib.bytesCells w 5 ⟨zKS s⟩).size,(Lib.bytesCells w 5 ⟨zKS s⟩).size+1),?_,?_⟩
  ·rw[Lib.bytesWorld_at_new]
   congr 2
   apply Array.ext'
   simp[Lib.bytesCells]
   rfl
  ·left
   simp[Lib.bytesCells]
 ·exact⟨by simp[Lib.bytesWorld,World.freeze];rfl,rfl,rfl,by rw[Lib.bytesWorld_size];omega,fun k hk=>Lib.bytesWorld_at_old _ _ _ k hk⟩
open Go.RowKit Wf
attribute [local go_sem] dX dK get_list
theorem nU (s:Bytes)(w:World)(hs:s.length≤9223372036854775807) :
 Calls Tryz.prog 175 #[(Value.string ⟨zKS (s)⟩)] w fun e w'=>e=.returned (Value.string ⟨zKS (lower s)⟩)∧Below w.heap.size w w':=by
 obtain⟨w1,cap,IQ,gi,gH⟩:=wj w s
 have Hrow:=hid gi
 have Hw1:=hid gH
 clear gi gH
 go_enter Tryz.func175,Tryz.ntmps175
 go_wp2_with fail
 go_loopw [10] (fun i wr=>∃ k:Nat,k≤s.length∧i=.int .i64 k∧gO wr w.heap.size (gw k s)∧Below w.heap.size w wr) (fun i _=>s.length - (intOf i).toNat)
 case atStart=>exact⟨0,by omega,rfl,by rw[vq];exact Hrow.out,Hw1.out⟩
 case round =>
  obtain⟨k,hk,rfl,gi,hw⟩:=hrel
  have Hrow:=hid gi
  have Hw:=hid hw
  clear IQ gi hw
  by_cases aC:k<s.length
  ·have hll:=iU k s
   have mG:=Hrow.out.cell (k:=k) (by omega)
   have hfz:=Hrow.out.frozen (k:=k) (by omega)
   rw[x7 aC]at mG
   clear hll
   by_cases zI:65≤s[k].toNat∧s[k].toNat≤90
   ·obtain⟨Gh,Gg⟩:=zI
    have jn:=Hrow.out.set (k:=k) (by rw[iU];exact aC) (cA s[k])
    rw[xZ aC,vp Gh Gg]at jn
    have Hst:=hid jn
    clear jn
    go_wp2_with fail
    go_roundw
    case rel=>exact⟨k+1,by omega,by go_num,Hst.out,Hw.out.setCell (p:=⟨w.heap.size,k,none⟩) (zKW _) _⟩
    case measure=>simp[intOf];omega
   ·have Hn:=hid (vt aC (xY zI))
    have hor:s[k].toNat<65∨90<s[k].toNat:=by omega
    rcases hor with h|h
    all_goals
     go_wp2_with fail
     go_roundw
     case rel=>exact⟨k+1,by omega,by go_num,Hn.out ▸ Hrow.out,Hw.out⟩
     case measure=>simp[intOf];omega
  ·have hl:k=s.length:=by omega
   have vI:=Hrow.out
   rw[hl,x8]at vI
   have iN:=vI.back cap
   rw[show (lower s).length=s.length by simp[lower]]at iN
   clear hl vI
   go_wp2_with fail
   go_ret
   exact⟨rfl,Hw.out⟩
theorem ns (s:Bytes)(w:World)(hs:s.length≤9223372036854775807) :
 Calls Tryz.prog 60 #[(Value.string ⟨zKS (s)⟩)] w fun e w'=>e=.returned (Value.string ⟨zKS (lower s)⟩)∧Below w.heap.size w w':=by
 obtain⟨w1,cap,IQ,gi,gH⟩:=wj w s
 have Hrow:=hid gi
 have Hw1:=hid gH
 clear gi gH
 go_enter Tryz.func60,Tryz.ntmps60
 go_wp2_with fail
 go_loopw [9] (fun i wr=>∃ k:Nat,k≤s.length∧i=.int .i64 k∧gO wr w.heap.size (gw k s)∧Below w.heap.size w wr) (fun i _=>s.length - (intOf i).toNat)
 case atStart=>exact⟨0,by omega,rfl,by rw[vq];exact Hrow.out,Hw1.out⟩
 case round =>
  obtain⟨k,hk,rfl,gi,hw⟩:=hrel
  have Hrow:=hid gi
  have Hw:=hid hw
  clear IQ gi hw
  by_cases aC:k<s.length
  ·have hll:=iU k s
   have mG:=Hrow.out.cell (k:=k) (by omega)
   have hfz:=Hrow.out.frozen (k:=k) (by omega)
   rw[x7 aC]at mG
   clear hll
   by_cases zI:65≤s[k].toNat∧s[k].toNat≤90
   ·obtain⟨Gh,Gg⟩:=zI
    have jn:=Hrow.out.set (k:=k) (by rw[iU];exact aC) (cA s[k])
    rw[xZ aC,vp Gh Gg]at jn
    have Hst:=hid jn
    clear jn
    go_wp2_with fail
    go_roundw
    case rel=>exact⟨k+1,by omega,by go_num,Hst.out,Hw.out.setCell (p:=⟨w.heap.size,k,none⟩) (zKW _) _⟩
    case measure=>simp[intOf];omega
   ·have Hn:=hid (vt aC (xY zI))
    have hor:s[k].toNat<65∨90<s[k].toNat:=by omega
    rcases hor with h|h
    all_goals
     go_wp2_with fail
     go_roundw
     case rel=>exact⟨k+1,by omega,by go_num,Hn.out ▸ Hrow.out,Hw.out⟩
     case measure=>simp[intOf];omega
  ·have hl:k=s.length:=by omega
   have vI:=Hrow.out
   rw[hl,x8]at vI
   have iN:=vI.back cap
   rw[show (lower s).length=s.length by simp[lower]]at iN
   clear hl vI
   go_wp2_with fail
   go_ret
   exact⟨rfl,Hw.out⟩
theorem CL (s:Bytes)(w:World)(hs:s.length≤9223372036854775807) :
 Calls Tryz.prog 269 #[(Value.string ⟨zKS (s)⟩),.func (.func 252) #[] #[]] w fun e w'=>e=.returned (.bool (s.all isDigit))∧w=w':=by
 go_enter Tryz.func269,Tryz.ntmps269
 go_wp2_with fail
 go_loop [8] (fun i=>∃ k:Nat,k≤s.length∧i=.int .i64 k∧(s.take k).all isDigit=true) (fun i=>s.length - (intOf i).toNat)
 case atStart=>exact⟨0,by omega,rfl,rfl⟩
 case round =>
  obtain⟨k,hk,rfl,a6⟩:=hrel
  have Hall:=hid a6
  clear a6
  by_cases aC:k<s.length
  ·cases hc:isDigit s[k]
   ·have Ha:=hid (dj aC hc)
    go_wp2_with (go_at_call 252;refine(bH _ _).mono ?_;rintro e w' ⟨rfl,rfl⟩)
    go_ret
    exact⟨bc Ha.out.symm,rfl⟩
   ·go_wp2_with (go_at_call 252;refine(bH _ _).mono ?_;rintro e w' ⟨rfl,rfl⟩)
    go_round
    case rel=>exact⟨k+1,by omega,by go_num,aX aC Hall.out hc⟩
    case measure=>simp[intOf];omega
  ·have a6:=Hall.out
   rw[zKU (by omega)]at a6
   have Ha:=hid a6
   clear a6 Hall
   go_wp2_with fail
   go_ret
   exact⟨bc Ha.out.symm,rfl⟩
theorem gy (s:Bytes)(w:World)(hs:s.length≤9223372036854775807) :
 Calls Tryz.prog 235 #[(Value.string ⟨zKS (s)⟩)] w fun e w'=>e=.returned (.bool (cf s))∧w=w':=by
 cases hn:s.isEmpty
 all_goals
  have Hd:=hid (show cf s=(!s.isEmpty&&s.all isDigit) from rfl)
  rw[hn]at Hd
  go_enter Tryz.func235,Tryz.ntmps235
  go_wp2_with (go_at_call 269;refine(CL _ _ hs).mono ?_;rintro e w' ⟨rfl,rfl⟩)
  go_ret
  exact⟨bc (by rw[Hd.out];simp),rfl⟩
theorem y6 (s:Bytes)(w:World)(hs:s.length≤9223372036854775807) :
 Calls Tryz.prog 203 #[(Value.string ⟨zKS (s)⟩)] w fun e w'=>e=.returned (.bool (cf s))∧w=w':=by
 go_enter Tryz.func203,Tryz.ntmps203
 go_wp2_with fail
 go_loop [3] (fun i=>∃ k:Nat,k≤s.length∧i=.int .i64 k∧(s.take k).all isDigit=true) (fun i=>s.length - (intOf i).toNat)
 case atStart=>exact⟨0,by omega,rfl,rfl⟩
 case round =>
  obtain⟨k,hk,rfl,a6⟩:=hrel
  have Hall:=hid a6
  clear a6
  by_cases aC:k<s.length
  ·cases hc:isDigit s[k]
   ·have Ha:=hid (dj aC hc)
    go_wp2_with (go_at_call 148;refine(dA _ _).mono ?_;rintro e w' ⟨rfl,rfl⟩)
    go_ret
    exact⟨bc (by unfold cf;rw[Ha.out];simp),rfl⟩
   ·go_wp2_with (go_at_call 148;refine(dA _ _).mono ?_;rintro e w' ⟨rfl,rfl⟩)
    go_round
    case rel=>exact⟨k+1,by omega,by go_num,aX aC Hall.out hc⟩
    case measure=>simp[intOf];omega
  ·have a6:=Hall.out
   rw[zKU (by omega)]at a6
   have Ha:=hid a6
   clear a6 Hall
   go_wp2_with fail
   go_ret
   exact⟨bc (by unfold cf;rw[Ha.out];simp),rfl⟩
theorem Ba (c:UInt8)(s:Bytes)(w:World)(hs:s.length≤9223372036854775807) :
 Calls Tryz.prog 84 #[.int .u8 c.toNat,(Value.string ⟨zKS (s)⟩)] w fun e w'=>e=.returned (.bool (has s c))∧w=w':=by
 go_enter Tryz.func84,Tryz.ntmps84
 go_wp2_with fail
 go_loop [5] (fun i=>∃ k:Nat,k≤s.length∧i=.int .i64 k∧has (s.take k) c=false) (fun i=>s.length - (intOf i).toNat)
 case atStart=>exact⟨0,by omega,rfl,rfl⟩
 case round =>
  obtain⟨k,hk,rfl,a6⟩:=hrel
  have Hall:=hid a6
  clear a6
  by_cases aC:k<s.length
  ·by_cases hc:s[k]=c
   ·have hx:((s[k].toNat:Int)==(c.toNat:Int))=true:=by simp[hc]
    have Ha:=hid (show has s c=true by unfold has;rw[zLt];exact hc ▸ zLo aC)
    go_wp2_with fail
    go_ret
    exact⟨bc Ha.out.symm,rfl⟩
   ·have hx:((s[k].toNat:Int)==(c.toNat:Int))=false:=by
     rw[beq_eq_false_iff_ne]
     intro h
     exact hc (zLr.1 (by omega))
    go_wp2_with fail
    go_round
    case rel=>exact⟨k+1,by omega,by go_num,by
     have:=Hall.out
     unfold has at this ⊢
     rw[List.take_succ_eq_append_getElem aC,List.contains_eq_any_beq,List.any_append,← List.contains_eq_any_beq,this]
     simp
     exact fun h=>hc h.symm⟩
    case measure=>simp[intOf];omega
  ·have a6:=Hall.out
   rw[zKU (by omega)]at a6
   have Ha:=hid a6
   clear a6 Hall
   go_wp2_with fail
   go_ret
   exact⟨bc Ha.out.symm,rfl⟩
theorem fY (s t:Bytes)(w:World)(hs:s.length≤9223372036854775807)(ht:t.length≤9223372036854775807) :
 Calls Tryz.prog 34 #[(Value.string ⟨zKS (s)⟩),(Value.string ⟨zKS (t)⟩)] w fun e w'=>e=.returned (.int .i64 (pre (has t ·) s))∧w=w':=by
 have hle:=cw (has t ·) s
 go_enter Tryz.func34,Tryz.ntmps34
 go_wp2_with fail
 go_loop [5] (fun i=>∃ k:Nat,k≤pre (has t ·) s∧i=.int .i64 k) (fun i=>s.length - (intOf i).toNat)
 case atStart=>exact⟨0,by omega,rfl⟩
 case round =>
  obtain⟨k,hk,rfl⟩:=hrel
  by_cases aC:k<pre (has t ·) s
  ·have hc:=ib aC (by omega)
   go_wp2_with (go_at_call 84;refine(Ba _ _ _ ht).mono ?_;rintro e w' ⟨rfl,rfl⟩)
   go_round
   case rel=>exact⟨k+1,by omega,by go_num⟩
   case measure=>simp[intOf];omega
  ·obtain rfl:k=pre (has t ·) s:=by omega
   clear hk aC
   by_cases qL:pre (has t ·) s<s.length
   ·have hc:=gr qL
    go_wp2_with (go_at_call 84;refine(Ba _ _ _ ht).mono ?_;rintro e w' ⟨rfl,rfl⟩)
    go_ret
    exact⟨rfl,rfl⟩
   ·have he:=hid (show pre (has t ·) s=s.length by omega)
    go_wp2_with fail
    go_ret
    exact⟨tT (by rw[he.out]),rfl⟩
open Go Vc Go.RowKit Wf
theorem below_draws {w w':World}(h:∃ n,w'=w.drewN n):Below w.heap.size w w':=by
 obtain⟨n,rfl⟩:=h
 exact below_drewN (Below.refl _ _) _
theorem dJ {w w':World}(h:w=w'):Below w.heap.size w w':=by subst h;exact Below.refl _ _
theorem fZ (l:Bytes)(c:UInt8):PC Tryz.V 209 [.str l,.int .u8 c.toNat] (.int .i64 (Lib.indexByte l c)) :=
 ⟨Tryz.call209,by simp[flat,flat.af],by simp[flat,flat.af],fun w hE=>(fX l c w).mono fun _ _ ⟨h,k⟩=>⟨h,dJ k⟩⟩
theorem ir (l p:Bytes):PC Tryz.V 115 [.str l,.str p] (.bool (Lib.hasPrefix l p)) :=
 ⟨Tryz.call115,by simp[flat,flat.af],by simp[flat,flat.af],fun w hE=>(AV l p w).mono fun _ _ ⟨h,k⟩=>⟨h,dJ k⟩⟩
theorem ny (l p:Bytes):PC Tryz.V 208 [.str l,.str p] (.fF [.str (Lib.trimPrefix l p),.bool (Lib.hasPrefix l p)]) :=
 ⟨Tryz.call208,by simp[flat,flat.af],by simp[flat,flat.af],fun w hE=>(AW l p w).mono fun _ _ ⟨h,k⟩=>⟨h,dJ k⟩⟩
theorem qy (l p:Bytes):PC Tryz.V 213 [.str l,.str p] (.str (Lib.trimPrefix l p)) :=
 ⟨Tryz.call213,by simp[flat,flat.af],by simp[flat,flat.af],fun w hE=>(yS l p w).mono fun _ _ ⟨h,k⟩=>⟨h,dJ k⟩⟩
theorem p_Cut (l:Bytes)(c:UInt8)(hl:l.length<4294967281):PC Tryz.V 172 [.str l,.str [c]] (.fF [.str (aL c l).1,.str (aL c l).2.1,.bool (aL c l).2.2]) :=
 ⟨Tryz.call172,by simp[flat,flat.af],by simp[flat,flat.af],fun w hE=>(EE l c w hE hl).mono fun _ _ ⟨h,k⟩=>⟨h,below_draws k⟩⟩
theorem DM (s l:Bytes)(ha:∀ i (h:i<l.length),l[i].toNat<128)(hl:l.length≤1000000)(h2:2≤l.length)(hs:s.length<4294967281) :
 PC Tryz.V 206 [.str s,.str l] (.int .i64 (Lib.indexAny s l)) :=
 ⟨Tryz.call206,by simp[flat,flat.af],by simp[flat,flat.af],fun w hE=>strings_IndexAny s l w ha hl h2 hs⟩
def qF (s:Bytes)(c:UInt8):Int:=Lib.lastIndexByte ⟨zKS s⟩ c.toNat
theorem H7 (s:Bytes)(c:UInt8):qF s c=((s.reverse.dropWhile (· != c)).length:Int) - 1:=by
 have h:∀ k,k≤s.length→Lib.lastIdx ⟨zKS s⟩ c.toNat k=(((s.take k).reverse.dropWhile (· != c)).length:Int) - 1:=by
  intro k
  induction k with
  | zero=>intro _;simp[Lib.lastIdx]
  | succ k ih =>
    intro hk
    have hk':k<s.length:=by omega
    have e:(⟨zKS s⟩:ByteArray).data[k]! = s[k]:=by simp[hk']
    rw[List.take_succ_eq_append_getElem hk',List.reverse_append,List.reverse_singleton,zLi,Lib.lastIdx,e]
    by_cases hc:s[k]=c
    ·rw[if_pos (by rw[hc]),List.dropWhile_cons_of_neg (by simp[hc])]
     simp
     omega
    ·rw[if_neg (fun h=>hc (zLr.1 (by exact_mod_cast h))),List.dropWhile_cons_of_pos (by simp[hc]),ih (by omega)]
 have:=h s.length (zKW _)
 rw[List.take_length]at this
 exact this
theorem mA (s:Bytes)(c:UInt8)(hs:s.length<4611686018427387904):PC Tryz.V 214 [.str s,.int .u8 c.toNat] (.int .i64 (qF s c)) :=
 ⟨Tryz.call214,by simp[flat,flat.af],by simp[flat,flat.af],fun w hE=>(Tryz.strings_LastIndexByte ⟨zKS s⟩ c.toNat hs w).mono fun _ _ ⟨h,k⟩=>⟨h,dJ k.symm⟩⟩
theorem kt {p q:Bytes}(h:Lib.hasPrefix p q=false):¬ (q.isPrefixOf p=true):=by unfold Lib.hasPrefix at h;simp[h]
theorem eg {p q:Bytes}(h:Lib.hasPrefix p q=true):q.length≤p.length:=(zKZ.1 h).length_le
theorem uB (s p:Bytes):(Lib.trimPrefix s p).length≤s.length:=by
 unfold Lib.trimPrefix;split <;> simp
theorem cK {s:Bytes}{k:Nat}(hk:k<s.length)(c:UInt8){n:Int}(hn:n=c.toNat):(((s.getD k 0).toNat:Int)==n)=(s[k]==c):=by
 subst hn
 rw[show s.getD k 0=s[k] by simp[List.getD,hk],zLc]
 simp only[beq_iff_eq]
 exact⟨fun h=>zLr.1 (by exact_mod_cast h),fun h=>by rw[h]⟩
theorem iF (l:Bytes):(l.map dP).all Vc.one=true:=by simp[dP,Vc.one]
def fC (i:Nat)(σ:St):Nat:=match lk i σ.t with
 | some (.int _ n)=>n.toNat
 | _=>0
theorem ao {i:Nat}{σ:St}{k:IntKind}{n:Int}(h:lk i σ.t=some (.int k n)):fC i σ=n.toNat:=by simp[fC,h]
def uc (u:cX):List SV:=[.str u.host,.int .i64 u.port,.str u.path,.str u.query,.str u.fragment,.bool u.aN,.bool u.aZ]
def fc (f:Bytes × Bytes):List SV:=[.str f.1,.str f.2]
theorem lT {ρ:Type}(cl:ρ→List SV)(s:Nat)(hs:∀ r,(cl r).length=s):∀ (L:List ρ)(k:Nat)(h:k<L.length),((L.flatMap cl).drop (k * s)).take s=cl L[k]
 | [],k,h=>by simp at h
 | r::L,0,_=>by
   have:=hs r
   simp[List.take_append,zKU (Nat.le_of_eq this),this]
 | r::L,k+1,h=>by
   have h1:=hs r
   have h2:((r::L).flatMap cl).drop ((k+1) * s)=(L.flatMap cl).drop (k * s):=by
    rw[zK3,List.drop_append,zLh (by rw[Nat.add_mul];omega),zLd,show (k+1) * s - (cl r).length=k * s by rw[Nat.add_mul];omega]
   rw[h2]
   simpa using lT cl s hs L k (by simpa using h)
theorem iq {ρ:Type}(cl:ρ→List SV)(s:Nat)(hs:∀ r,(cl r).length=s):∀ (L:List ρ),(L.flatMap cl).length=L.length * s
 | []=>by simp
 | r::L=>by rw[zK3,zLa,hs r,iq cl s hs L,zLn,Nat.add_mul];omega
theorem jl {V:Cx}{f:FuncId}{args:List SV}{bs:List aw}{x:SV}(hx:flat x=true)(h:SC V f args bs (fun r b=>r=x∧Kp bs b)):SC V f args bs (fun r b=>r=x∧b=bs):=by
 refine⟨h.1,fun β fp w qM hG hE=>(h.2 β fp w qM hG hE).mono ?_⟩
 rintro e w' ⟨r,bs',β₂,fp₂,⟨rfl,hlen,bf⟩,vS,-,a6,j5,iu,gI⟩
 have old:∀ {i r},bs[i]? = some r→bs'[i]? = some r:=fun {i r} hi=>(bf i (zKV.1 hi).1).trans hi
 refine⟨r,bs,β₂,fp₂,⟨rfl,rfl⟩,vS,zKW _,fun β' hβ=>?_,j5,fun i r' hi=>iu i r' (old hi),fun i r' hi=>gI i r' (old hi)⟩
 have hc:∀ i,i<bs.length→(if i<bs.length then β' i else β₂ i)=β' i:=fun i hi=>if_pos hi
 have hall2:=a6 (fun i=>if i<bs.length then β' i else β₂ i) (fun i _=>by
  by_cases hi:i<bs.length
  ·exact(hβ i hi).trans (hc i hi).symm
  ·exact(if_neg hi).symm)
 have eQ:=qM (fun i=>if i<bs.length then β' i else β₂ i) (fun i hi=>((vS i hi).trans (hβ i hi)).trans (hc i hi).symm)
 have wI:=qM β' (fun i hi=>(vS i hi).trans (hβ i hi))
 obtain⟨he,pz⟩:=hall2
 refine⟨by rw[he,jt _ hx _ β'],⟨fun i r hi=>?_,fun i r hi=>pz.lt i r (old hi),fun i j r r' hi hj=>pz.sep i j r r' (old hi) (old hj)⟩⟩
 have h1:=eQ.holds i r hi
 have h2:=wI.holds i r hi
 have h3:=pz.holds i r (old hi)
 have e:=hc i (zKV.1 hi).1
 simp only[e]at h1 h3
 exact yW h1 h2 h3
end Go.Proofs.YtnmlimehgifadaaGreatDoor
namespace Wf
open Go Go.RowKit
theorem eE (c:UInt8):cA (cA c)=cA c∧ua (cA c)=ua c∧isDigit (cA c)=isDigit c∧(cA c==45)=(c==45)∧(cA c==46)=(c==46)∧(cA c==58)=(c==58)∧(isDigit c=true→cA c=c):=by
 have h:=cW (p:=fun c=>decide (cA (cA c)=cA c∧ua (cA c)=ua c∧isDigit (cA c)=isDigit c∧(cA c==45)=(c==45)∧(cA c==46)=(c==46)∧(cA c==58)=(c==58)∧(isDigit c=true→cA c=c))) (by decide +kernel) c
 exact of_decide_eq_true h
theorem BC (s:Bytes):lower (lower s)=lower s:=by
 unfold lower;rw[List.map_map];apply List.map_congr_left;intro c _;exact(eE c).1
theorem fm (s:Bytes):(lower s).length=s.length:=by unfold lower;simp
theorem ic (s:Bytes):(lower s).isEmpty=s.isEmpty:=by unfold lower;cases s <;> rfl
theorem rR {p:UInt8→Bool}(hp:∀ c,p (cA c)=p c)(s:Bytes):(lower s).all p=s.all p:=by
 unfold lower;rw[List.all_map];congr 1;funext c;exact hp c
theorem zy {s:Bytes}(h:s.all isDigit=true):lower s=s:=by
 unfold lower
 rw[zLp]at h
 conv=>rhs;rw[← List.map_id s]
 apply List.map_congr_left;intro c hc;exact(eE c).2.2.2.2.2.2 (h c hc)
theorem oK (s:Bytes):br (lower s)=br s:=by
 unfold br
 rw[ic,fm,rR (fun c=>(eE c).2.1)]
 have h1:((lower s).head?==some 45)=(s.head?==some 45):=by
  unfold lower;rw[List.head?_map];cases s.head? with
  | none=>rfl
  | some c=>simpa using(eE c).2.2.2.1
 have h2:((lower s).getLast?==some 45)=(s.getLast?==some 45):=by
  unfold lower;rw[List.getLast?_map];cases s.getLast? with
  | none=>rfl
  | some c=>simpa using(eE c).2.2.2.1
 rw[h1,h2]
theorem nP (s:Bytes):cf (lower s)=cf s:=by
 unfold cf;rw[ic,rR (fun c=>(eE c).2.2.1)]
theorem p8 (s:Bytes):aA 46 (lower s)=(aA 46 s).map lower:=by
 induction s with
 | nil=>rfl
 | cons x r ih =>
   have hx:=(eE x).2.2.2.2.1
   rw[show lower (x::r)=cA x::lower r from rfl,aA,aA,hx,ih]
   cases x==46
   ·simp only[Bool.false_eq_true,if_false]
    cases aA 46 r <;> rfl
   ·rfl
theorem tI (m:Nat)(s:Bytes):aY m (lower s)=aY m s:=by
 cases h:s.all isDigit
 ·have hd:cf s=false:=by unfold cf;simp[h]
  have hl:(lower s).all isDigit=false:=by rw[rR (fun c=>(eE c).2.2.1),h]
  unfold aY bA
  rw[nP,hd,hl,h,ic]
  simp
 ·rw[zy h]
theorem wZ (s:Bytes):eU (lower s)=eU s:=by unfold eU;rw[tI]
theorem DV (s:Bytes):ipv4 (lower s)=ipv4 s:=by
 unfold ipv4
 rw[p8,List.length_map,List.all_map]
 congr 2;funext x;exact wZ x
theorem BA (l:List Bytes):mB (l.map lower)=mB l:=by
 induction l with
 | nil=>rfl
 | cons x r ih =>
   cases r with
   | nil=>simp only[List.map,mB,oK,nP]
   | cons y r=>simp only[List.map_cons,mB,oK]at ih ⊢;rw[ih]
theorem zw (s:Bytes):eD (lower s)=eD s:=by unfold eD;rw[p8,BA]
theorem jJ {s x:Bytes}(h:bF s=(x,0)):x=lower s∧x.length≤253∧bF x=(x,0):=by
 unfold bF at h
 cases h1:s.isEmpty
 ·rw[h1]at h
  by_cases h2:253<s.length
  ·simp[h2]at h
  ·cases h3:(!ipv4 s&&!eD s)
   ·simp[h2,h3]at h
    subst h
    refine⟨rfl,by rw[fm];omega,?_⟩
    unfold bF
    rw[ic,fm,DV,zw,h1,h3,BC]
    simp[h2]
   ·simp[h2,h3]at h
 ·rw[h1]at h;simp at h
theorem FH (s:Bytes):pre (·==58) (lower s)=pre (·==58) s:=by
 induction s with
 | nil=>rfl
 | cons x r ih =>
   rw[show lower (x::r)=cA x::lower r from rfl,bV,bV,ih,(eE x).2.2.2.2.2.1]
theorem Bc (p:UInt8→Bool)(s:Bytes):pre p (s.take (pre p s))=(s.take (pre p s)).length:=by
 induction s with
 | nil=>rfl
 | cons x r ih =>
   rw[bV]
   cases hx:p x
   ·simp[bV,hx]
    have:=ih;simp at this;omega
   ·rfl
theorem Jx (c:UInt8)(s:Bytes):pre (·==c) (aL c s).1=(aL c s).1.length:=by
 unfold aL
 by_cases h:pre (·==c) s<s.length
 ·rw[if_pos h];exact Bc _ s
 ·rw[if_neg h];have:=cw (·==c) s;show pre (·==c) s=s.length;omega
theorem eR {c:UInt8}{s:Bytes}(h:pre (·==c) s=s.length):aL c s=(s,[],false):=by
 unfold aL;rw[if_neg (by omega)]
theorem y8 {p:UInt8→Bool}{x:Bytes}(h:pre p x=x.length)(c:UInt8)(r:Bytes)(hc:p c=true):pre p (x++c::r)=x.length:=by
 induction x with
 | nil=>simp[bV,hc]
 | cons y x ih =>
   rw[bV]at h
   cases hy:p y
   ·rw[hy]at h;simp at h
    simp[bV,hy,ih h]
   ·rw[hy]at h;simp at h
theorem gg {c:UInt8}{x:Bytes}(h:pre (·==c) x=x.length)(r:Bytes):aL c (x++c::r)=(x,r,true):=by
 unfold aL
 rw[y8 h c r (by simp),if_pos (by simp)]
 simp
theorem vP {n:Nat}(h:n<10):cG (oQ n)=n∧isDigit (oQ n)=true∧(oQ n=48→n=0):=by
 have h:=(by decide +kernel:∀ n,n<10→cG (oQ n)=n∧isDigit (oQ n)=true∧(oQ n=48→n=0)) n h
 exact h
theorem FR {b m:Nat}(r:Bytes):∀ (l:Bytes){a v:Nat},dv b m a l=(v,0)→dv b m a (l++r)=dv b m v r:=by
 intro l
 induction l with
 | nil=>intro a v h;simp[dv]at h;rw[h];rfl
 | cons c l ih =>
   intro a v h
   rw[dv]at h
   rw[zK2,dv]
   by_cases hm:m<a * b+cG c
   ·rw[if_pos hm]at h;simp at h
   ·rw[if_neg hm]at h
    rw[if_neg hm]
    exact ih h
theorem yp (m:Nat):∀ (k n:Nat),n≤k→n≤m→dv 10 m 0 (bD n)=(n,0)∧(bD n).all isDigit=true∧(0<n→(bD n).head? ≠ some 48):=by
 intro k
 induction k with
 | zero =>
   intro n h _
   obtain rfl:n=0:=by omega
   rw[e7 (by omega)]
   exact⟨by simp[dv,oQ,cG],by decide,fun h=>by omega⟩
 | succ k ih =>
   intro n h hm
   by_cases hn:n<10
   ·rw[e7 hn]
    obtain⟨h1,h2,h3⟩:=vP hn
    refine⟨?_,by simp[h2],?_⟩
    ·rw[dv,h1,if_neg (by omega),dv];simp
    ·intro h0 he;simp at he;exact absurd (h3 he) (by omega)
   ·rw[jS hn]
    obtain⟨h1,h2,h3⟩:=ih (n / 10) (by omega) (by omega)
    obtain⟨g1,g2,g3⟩:=vP (show n % 10<10 by omega)
    refine⟨?_,by rw[List.all_append,h2];simp[g2],?_⟩
    ·rw[FR _ _ h1,dv,g1,if_neg (by omega),dv]
     congr 1;omega
    ·intro _
     have:=wi (n / 10)
     rw[List.head?_append]
     have h3:=h3 (by omega)
     cases hd:(bD (n / 10)).head? with
     | none=>rw[List.head?_eq_none_iff]at hd;rw[hd]at this;simp at this
     | some c=>rw[hd]at h3;simpa using h3
theorem FI {n:Nat}(h0:0<n)(h:n≤65535):iL (bD n)=((n:Int),0):=by
 obtain⟨h1,h2,h3⟩:=yp 65535 n n (by omega) h
 have hp:=wi n
 have bt:(bD n).isEmpty=false:=by cases hd:bD n <;> simp[hd]at hp ⊢
 have hs:aY 65535 (bD n)=(n,0):=by
  unfold aY bA
  rw[if_neg (fun hh=>h3 h0 hh.2.2),bt,h2,h1]
  rfl
 unfold iL
 rw[hs]
 have:¬ n=0:=by omega
 simp[this]
theorem HQ {s:Bytes}{p:Int}(h:iL s=(p,0)):0<p∧p≤65535:=by
 have hle:=lW 65535 s
 unfold iL at h
 split at h
 ·simp at h
 ·rename_i hc
  simp at h
  subst h
  omega
theorem ck {s x:Bytes}{p:Int}(h:aF s=((x,p),0)):aF (aU x p)=((x,p),0)∧bF x=(x,0)∧p≠443∧x.length≤253∧0≤p∧p≤65535:=by
 have hf:=Jx 58 s
 unfold aF at h
 generalize aL 58 s=C at hf h
 obtain⟨first,rest,colon⟩:=C
 simp only at hf h
 generalize hH:bF first=H at h
 obtain⟨y,e⟩:=H
 by_cases he:e=0
 ·subst he
  obtain⟨hy,hlen,iN⟩:=jJ hH
  have hpy:pre (·==58) y=y.length:=by rw[hy,FH,fm];exact hf
  have plain:aF (aU y 0)=((y,0),0):=by
   unfold aU aF
   rw[if_pos rfl,eR hpy,iN];rfl
  cases colon
  ·unfold bZ at h
   simp at h
   obtain⟨rfl,rfl⟩:=h
   exact⟨plain,iN,by omega,hlen,by omega,by omega⟩
  ·generalize hP:iL rest=P at h
   obtain⟨q,f⟩:=P
   unfold bZ at h
   by_cases Eb:f=0
   ·subst Eb
    simp at h
    obtain⟨rfl,h⟩:=h
    obtain⟨q0,q1⟩:=HQ hP
    by_cases mN:q=443
    ·rw[if_pos mN]at h
     subst h
     exact⟨plain,iN,by omega,hlen,by omega,by omega⟩
    ·rw[if_neg mN]at h
     subst h
     refine⟨?_,iN,mN,hlen,by omega,q1⟩
     obtain⟨n,rfl⟩:∃ n:Nat,q=n:=⟨q.toNat,by omega⟩
     unfold aU aF
     rw[if_neg (by omega),if_neg (by omega)]
     have e:y++[58]++bD (n:Int).natAbs=y++58::bD n:=by simp
     rw[e,gg hpy]
     simp only[iN,FI (show 0<n by omega) (show n≤65535 by omega)]
     unfold bZ
     simp[mN]
   ·simp[Eb]at h
 ·unfold bZ at h
  simp[he]at h
open Go Go.RowKit
theorem uncut (c:UInt8)(s:Bytes):s=(aL c s).1++(if (aL c s).2.2 then [c]++(aL c s).2.1 else []):=by
 unfold aL
 split
 ·rename_i h
  have h2:=gr (p:=(·==c)) h
  simp only[if_true]
  have:s.drop (pre (·==c) s)=c::s.drop (pre (·==c) s+1):=by
   rw[zKX h]
   simp only[beq_iff_eq]at h2
   rw[h2]
  rw[zLi,← this,zLj]
 ·simp
theorem Au (c:UInt8)(s:Bytes)(h:(aL c s).2.2=false):(aL c s).2.1=[]:=by
 unfold aL at h ⊢
 split
 ·rename_i h2;rw[if_pos h2]at h;simp at h
 ·rfl
def fx (l:List Bytes):Bytes:=l.flatMap (47::·)
def l9 (s:Bytes):Prop:=(47:UInt8) ∉ s∧s≠[46]∧s≠[46,46]
theorem lC (x:Bytes)(l:List Bytes):fx (x::l)=47::(x++fx l):=rfl
theorem CP (l:List Bytes)(x:Bytes):fx (l++[x])=fx l++47::x:=by
 unfold fx;simp
theorem GQ (l:List Bytes):fx l=[]∨∃ r,fx l=47::r:=by
 cases l with
 | nil=>exact .inl rfl
 | cons x l=>exact .inr ⟨_,rfl⟩
theorem kb {x:Bytes}(h:(47:UInt8) ∉ x)(l:List Bytes):pre (·==47) (x++fx l)=x.length:=by
 induction x with
 | nil =>
   rcases GQ l with e|⟨r,e⟩
   ·simp[e,pre_nil]
   ·simp[e,bV]
 | cons c x ih =>
   simp only[zLm,not_or]at h
   rw[zK2,bV,if_neg (by simp;exact fun e=>h.1 e.symm),ih h.2]
   rfl
theorem AI (l:List Bytes)(x:Bytes)(h:(47:UInt8) ∉ x):dg (fx (l++[x]))=fx l:=by
 rw[CP]
 unfold dg
 rw[List.reverse_append,List.reverse_cons,List.append_assoc]
 have:(x.reverse++([47]++(fx l).reverse)).dropWhile (· != 47)=[47]++(fx l).reverse:=by
  rw[List.dropWhile_append_of_pos]
  ·simp
  ·intro c hc
   simp only[List.mem_reverse]at hc
   simp
   rintro rfl
   exact h hc
 rw[this]
 simp
theorem Em:∀ (f:Nat)(p:Bytes)(l:List Bytes),p.length≤f→(p=[]∨∃ r,p=47::r)→(p=[]→l≠[])→(∀ x∈l,l9 x)→∃ l',en f p (fx l)=fx l'∧l'≠[]∧∀ x∈l',l9 x:=by
 intro f
 induction f with
 | zero =>
   intro p l hp _ hn hg
   have:p=[]:=List.length_eq_zero_iff.1 (by omega)
   exact⟨l,rfl,hn this,hg⟩
 | succ f ih =>
   intro p l hp hs hn hg
   rw[en]
   rcases hs with rfl|⟨r,rfl⟩
   ·exact⟨l,by rw[if_pos rfl],hn rfl,hg⟩
   ·rw[if_neg (by simp)]
    have hsh:∃ l2,dg (fx l)=fx l2∧∀ x∈l2,l9 x:=by
     rcases List.eq_nil_or_concat l with rfl|⟨l2,x,rfl⟩
     ·exact⟨[],rfl,by simp⟩
     ·refine⟨l2,?_,fun y hy=>hg y (by simp[hy])⟩
      have:=hg x (by simp)
      simpa using AI l2 x this.1
    obtain⟨l2,jZ,Ai⟩:=hsh
    unfold cJ
    rw[if_neg (by simp[zLl]),if_neg (by simp[zLl])]
    by_cases c1:[47,46,47].isPrefixOf (47::r)
    ·rw[if_pos c1]
     obtain⟨q,hq⟩:=zKZ.1 c1
     simp only[zK2,zLd,zK6.injEq,true_and]at hq
     subst hq
     exact ih _ l (by simp at hp ⊢;omega) (.inr ⟨q,rfl⟩) (by simp) hg
    rw[if_neg c1]
    by_cases c2:(47::r)=[47,46]
    ·rw[if_pos c2]
     rw[c2]at hp
     exact ih _ l (by simp at hp ⊢;omega) (.inr ⟨[],rfl⟩) (by simp) hg
    rw[if_neg c2]
    by_cases c3:[47,46,46,47].isPrefixOf (47::r)
    ·rw[if_pos c3]
     obtain⟨q,hq⟩:=zKZ.1 c3
     simp only[zK2,zLd,zK6.injEq,true_and]at hq
     subst hq
     simp only[jZ]
     exact ih _ l2 (by simp at hp ⊢;omega) (.inr ⟨q,rfl⟩) (by simp) Ai
    rw[if_neg c3]
    by_cases c4:(47::r)=[47,46,46]
    ·rw[if_pos c4]
     rw[c4]at hp
     simp only[jZ]
     exact ih _ l2 (by simp at hp ⊢;omega) (.inr ⟨[],rfl⟩) (by simp) Ai
    rw[if_neg c4,if_neg (by simp)]
    simp only[List.drop_succ_cons,List.drop_zero]
    have It:l9 (r.take (pre (·==47) r)):=by
     refine⟨fun hm=>?_,fun e=>?_,fun e=>?_⟩
     ·obtain⟨k,hk,bM⟩:=List.getElem_of_mem hm
      rw[zLg]at hk
      have:=ib (p:=(·==47)) (l:=r) (k:=k) (by omega) (by omega)
      rw[List.getElem_take]at bM
      simp[bM]at this
     ·have hp1:=congrArg List.length e
      simp only[zLg,zLn,List.length_nil]at hp1
      have hr:=zLj (pre (·==47) r) r
      rw[e]at hr
      cases hd:r.drop (pre (·==47) r) with
      | nil=>rw[hd]at hr;exact c2 (by rw[← hr];rfl)
      | cons y t =>
        have aC:pre (·==47) r<r.length:=by
         apply Nat.lt_of_not_le;intro h;rw[zLh h]at hd;cases hd
        have:=gr (p:=(·==47)) aC
        rw[zKX aC]at hd
        simp only[zK6.injEq]at hd
        rw[hd.1]at this
        simp only[beq_iff_eq]at this
        subst this
        rw[zKX aC,hd.1]at hr
        exact c1 (by rw[← hr];simp[zLl])
     ·have hp1:=congrArg List.length e
      simp only[zLg,zLn,List.length_nil]at hp1
      have hr:=zLj (pre (·==47) r) r
      rw[e]at hr
      cases hd:r.drop (pre (·==47) r) with
      | nil=>rw[hd]at hr;exact c4 (by rw[← hr];rfl)
      | cons y t =>
        have aC:pre (·==47) r<r.length:=by
         apply Nat.lt_of_not_le;intro h;rw[zLh h]at hd;cases hd
        have:=gr (p:=(·==47)) aC
        rw[zKX aC]at hd
        simp only[zK6.injEq]at hd
        rw[hd.1]at this
        simp only[beq_iff_eq]at this
        subst this
        rw[zKX aC,hd.1]at hr
        exact c3 (by rw[← hr];simp[zLl])
    have e1:(47::r).drop (1+pre (·==47) r)=r.drop (pre (·==47) r):=by rw[Nat.add_comm];rfl
    have e2:(47::r).take (1+pre (·==47) r)=47::r.take (pre (·==47) r):=by rw[Nat.add_comm];rfl
    rw[e1,e2,← CP]
    refine ih _ _ (by simp at hp ⊢;omega) ?_ (by simp) (fun x hx=>?_)
    ·by_cases aC:pre (·==47) r<r.length
     ·right
      have:=gr (p:=(·==47)) aC
      simp only[beq_iff_eq]at this
      exact⟨_,by rw[zKX aC,this]⟩
     ·left
      exact zLh (by omega)
    ·simp only[zLf,zK7]at hx
     rcases hx with hx|rfl
     ·exact hg x hx
     ·exact It
theorem nr (r:Bytes):∃ l,aG (47::r)=fx l∧l≠[]∧∀ x∈l,l9 x :=
 Em _ _ [] (zKW _) (.inr ⟨r,rfl⟩) (by simp) (by simp)
theorem nO:∀ (l:List Bytes)(f:Nat)(out:Bytes),(fx l).length≤f→(∀ x∈l,l9 x)→en f (fx l) out=out++fx l
 | [],f,out,_,_=>by cases f <;> simp[fx,en]
 | x::l,f,out,hf,hg=>by
   rw[lC]at hf ⊢
   obtain⟨f,rfl⟩:∃ k,f=k+1:=⟨f - 1,by simp at hf;omega⟩
   rw[en,if_neg (by simp)]
   obtain⟨h1,h2,h3⟩:=hg x (by simp)
   have dM:=kb h1 l
   have seg:∀ (y:Bytes),(47:UInt8) ∉ y→y≠x→¬ (47::(y++[47])).isPrefixOf (47::(x++fx l))=true:=fun y hy bt hp=>by
    obtain⟨q,hq⟩:=zKZ.1 hp
    simp only[zK2,List.append_assoc,zK6.injEq,true_and]at hq
    have hpy:=kb hy [q]
    have e:y++fx [q]=x++fx l:=by rw[← hq];simp[fx]
    rw[e,dM]at hpy
    have:=List.append_inj_left e hpy.symm
    exact bt this
   have seg2:∀ (y:Bytes),(47:UInt8) ∉ y→y≠x→(47::(x++fx l))≠47::y:=fun y hy bt he=>by
    simp only[zK6.injEq,true_and]at he
    have hpy:pre (·==47) y=y.length:=by simpa[fx] using kb hy []
    rw[← he,dM,zLa]at hpy
    have h0:fx l=[]:=List.length_eq_zero_iff.1 (by omega)
    rw[h0,List.append_nil]at he
    exact bt he.symm
   have hd:cJ (47::(x++fx l)) out=(fx l,out++47::x):=by
    unfold cJ
    rw[if_neg (by simp[zLl]),if_neg (by simp[zLl]),if_neg (show ¬ ([47,46,47]:Bytes).isPrefixOf _=true from seg [46] (by decide) (fun e=>h2 e.symm)),if_neg (seg2 [46] (by decide) (fun e=>h2 e.symm)),if_neg (show ¬ ([47,46,46,47]:Bytes).isPrefixOf _=true from seg [46,46] (by decide) (fun e=>h3 e.symm)),if_neg (seg2 [46,46] (by decide) (fun e=>h3 e.symm)),if_neg (by simp)]
    simp only[List.drop_succ_cons,List.drop_zero,dM]
    rw[Nat.add_comm]
    simp
   rw[hd]
   rw[nO l f _ (by simp at hf;omega) (fun y hy=>hg y (by simp[hy]))]
   simp
theorem rG (r:Bytes):aG (aG (47::r))=aG (47::r):=by
 obtain⟨l,h1,h2,h3⟩:=nr r
 rw[h1]
 unfold aG
 rw[nO l _ _ (zKW _) h3]
 rfl
theorem uG:∀ (l:List Bytes),l≠[]→(∀ x∈l,(47:UInt8) ∉ x)→aA 47 (fx l)=[]::l
 | [],h,_=>absurd rfl h
 | x::l,_,hg=>by
   rw[lC]
   have hx:=hg x (by simp)
   rw[aA,if_pos (by simp)]
   congr 1
   have dM:=kb hx l
   cases l with
   | nil =>
     simp only[fx,List.flatMap_nil,List.append_nil]at dM ⊢
     rw[cC (by omega)]
   | cons y l =>
     rw[cT (by rw[dM];simp[lC]),dM]
     have ih:=uG (y::l) (by simp) (fun z hz=>hg z (by simp[hz]))
     rw[lC,aA,if_pos (by simp)]at ih
     simp only[zK6.injEq,true_and]at ih
     rw[lC]
     simp[ih]
theorem wo (r:Bytes):(∃ q,aG (47::r)=47::q)∧∀ x∈aA 47 (aG (47::r)),x≠[46]∧x≠[46,46]:=by
 obtain⟨l,h1,h2,h3⟩:=nr r
 rw[h1]
 constructor
 ·cases l with
  | nil=>exact absurd rfl h2
  | cons x l=>exact⟨_,rfl⟩
 ·rw[uG l h2 (fun x hx=>(h3 x hx).1)]
  intro x hx
  simp only[zLm]at hx
  rcases hx with rfl|hx
  ·simp
  ·exact(h3 x hx).2
open Go Go.RowKit
def Can (also s:Bytes):Prop:=∃ l:List PU,s=l.flatMap PU.str∧∀ x∈l,Jz also x
theorem ik (also:Bytes):Can also []:=⟨[],rfl,by simp⟩
theorem mh {also a b:Bytes}(ha:Can also a)(hb:Can also b):Can also (a++b):=by
 obtain⟨l,rfl,h1⟩:=ha
 obtain⟨m,rfl,h2⟩:=hb
 exact⟨l++m,by simp,fun x hx=>by
  rcases zLf.1 hx with h|h
  ·exact h1 x h
  ·exact h2 x h⟩
theorem qZ {also:Bytes}{c:UInt8}(h:dU also c=true)(hc:c≠37):Can also [c]:=⟨[.lit c],rfl,fun x hx=>by
 obtain rfl:=zK7.1 hx;exact⟨h,hc⟩⟩
theorem can_esc (also:Bytes){c:UInt8}(h:fE c=false):Can also (kN c):=⟨[.hex (gE (c.toNat / 16)) (gE (c.toNat % 16))],rfl,fun x hx=>by
 obtain rfl:=zK7.1 hx
 have hn:=c.toNat_lt
 have hv:=jj c
 exact⟨by rw[hv];exact h,by rw[hv],by rw[hv],fK _ (by omega),fK _ (by omega)⟩⟩
theorem CE {also:Bytes}{c:UInt8}{r:Bytes}(hc:c≠37)(h:Can also (c::r)):dU also c=true∧Can also r:=by
 obtain⟨l,e,h1⟩:=h
 cases l with
 | nil=>simp at e
 | cons x l =>
   have hx:=h1 x zK4
   rw[zK3]at e
   cases x with
   | lit d =>
     simp only[PU.str,zLi,zK6.injEq]at e
     obtain⟨rfl,rfl⟩:=e
     exact⟨hx.1,l,rfl,fun y hy=>h1 y (zLb _ hy)⟩
   | hex a b =>
     simp only[PU.str,zK2,zLd,zK6.injEq]at e
     exact absurd e.1 hc
   | bad=>exact hx.elim
theorem sn {also:Bytes}{c:UInt8}(hc:c≠37)(hx:bm c=false):∀ (l:List PU)(a b:Bytes),(∀ x∈l,Jz also x)→a++c::b=l.flatMap PU.str→Can also a∧Can also (c::b)
 | [],a,b,_,e=>by simp at e
 | .lit d::l,[],b,h,e=>⟨ik _,_,e,h⟩
 | .lit d::l,y::a,b,h,e=>by
   rw[zK3]at e
   simp only[PU.str,zLi,zK2,zK6.injEq]at e
   obtain⟨rfl,e⟩:=e
   obtain⟨h1,h2⟩:=sn hc hx l a b (fun y hy=>h y (zLb _ hy)) e
   have hy:=h _ zK4
   exact⟨mh (a:=[y]) (qZ hy.1 hy.2) h1,h2⟩
 | .hex u v::l,[],b,h,e=>by
   rw[zK3]at e
   simp only[PU.str,zLd,zK2,zK6.injEq]at e
   exact absurd e.1 hc
 | .hex u v::l,[x],b,h,e=>by
   rw[zK3]at e
   simp only[PU.str,zLd,zK2,zK6.injEq]at e
   have:=(h _ zK4).2.2.2.1
   rw[← e.2.1,hx]at this;cases this
 | .hex u v::l,[x,y],b,h,e=>by
   rw[zK3]at e
   simp only[PU.str,zLd,zK2,zK6.injEq]at e
   have:=(h _ zK4).2.2.2.2
   rw[← e.2.2.1,hx]at this;cases this
 | .hex u v::l,x::y::z::a,b,h,e=>by
   rw[zK3]at e
   simp only[PU.str,zLd,zK2,zK6.injEq]at e
   obtain⟨rfl,rfl,rfl,e⟩:=e
   obtain⟨h1,h2⟩:=sn hc hx l a b (fun y hy=>h y (zLb _ hy)) e
   refine⟨mh (a:=[37,y,z]) ⟨[.hex y z],rfl,fun x hx=>?_⟩ h1,h2⟩
   obtain rfl:=zK7.1 hx
   exact h _ zK4
 | .bad::l,a,b,h,e=>(h _ zK4).elim
theorem Can.split {also a b:Bytes}{c:UInt8}(hc:c≠37)(hx:bm c=false)(h:Can also (a++c::b)):Can also a∧Can also (c::b):=by
 obtain⟨l,e,h1⟩:=h
 exact sn hc hx l a b h1 e
theorem so {also s:Bytes}(h:Can also s):∀ c∈s,dU also c=true∨c=37∨bm c=true:=by
 obtain⟨l,rfl,h1⟩:=h
 intro c hc
 obtain⟨x,hx,hcx⟩:=List.mem_flatMap.1 hc
 have hk:=h1 x hx
 cases x with
 | lit d =>
   obtain rfl:=zK7.1 hcx
   exact .inl hk.1
 | hex a b =>
   simp only[PU.str,zLm,List.not_mem_nil,or_false]at hcx
   rcases hcx with rfl|rfl|rfl
   ·exact .inr (.inl rfl)
   ·exact .inr (.inr hk.2.2.2.1)
   ·exact .inr (.inr hk.2.2.2.2)
 | bad=>exact hk.elim
theorem q7 {also s:Bytes}(h:Can also s)(hl:s.length≤16384):bk also s=(s,0):=by
 obtain⟨l,rfl,h1⟩:=h
 unfold bk
 rw[if_neg (by omega),nX also l h1,rQ also l h1]
theorem qD {also s:Bytes}(h:(bk also s).2=0):Can also (bk also s).1:=by
 unfold bk at h ⊢
 split at h
 ·simp at h
 ·rename_i hs
  rw[if_neg hs]
  obtain⟨l',e,h1,-,-⟩:=nz also (aE s) (sC s) h
  exact⟨l',e,h1⟩
theorem can_cut {also s:Bytes}(n:Nat)(hd:s.drop n=[]∨∃ r,s.drop n=47::r)(h:Can also s):Can also (s.take n)∧Can also (s.drop n):=by
 rcases hd with hd|⟨r,hd⟩
 ·rw[hd]
  have e:s.take n=s:=zKU (by simpa using hd)
  rw[e];exact⟨h,ik _⟩
 ·rw[hd]
  have e:s=s.take n++47::r:=by rw[← hd,zLj]
  rw[e]at h
  exact h.split (by decide) (by decide)
theorem Cs (s:Bytes):s.drop (pre (·==47) s)=[]∨∃ r,s.drop (pre (·==47) s)=47::r:=by
 by_cases h:pre (·==47) s<s.length
 ·right
  have:=gr h
  simp only[beq_iff_eq]at this
  exact⟨s.drop (pre (·==47) s+1),by rw[zKX h,this]⟩
 ·left;simp;omega
theorem wL (s:Bytes):dg s=[]∨∃ r,s=dg s++47::r:=by
 unfold dg
 have key:∀ t:Bytes,t.dropWhile (· != 47)=[]∨∃ a b,t=a++47::b∧t.dropWhile (· != 47)=47::b:=by
  intro t
  induction t with
  | nil=>left;rfl
  | cons x t ih =>
    by_cases hx:x=47
    ·subst hx
     right;exact⟨[],t,rfl,by simp⟩
    ·rw[List.dropWhile_cons_of_pos (by simp[hx])]
     rcases ih with ih|⟨a,b,h1,h2⟩
     ·left;exact ih
     ·right;exact⟨x::a,b,by rw[h1];rfl,h2⟩
 rcases key s.reverse with h|⟨a,b,h1,h2⟩
 ·left;rw[h];rfl
 ·right
  rw[h2]
  refine⟨a.reverse,?_⟩
  have:=congrArg List.reverse h1
  rw[List.reverse_reverse]at this
  rw[this];simp
theorem tB {also s:Bytes}(h:Can also s):Can also (dg s):=by
 rcases wL s with e|⟨r,e⟩
 ·rw[e];exact ik _
 ·rw[e]at h;exact(h.split (by decide) (by decide)).1
theorem CG {also p o:Bytes}(Gv:dU also 47=true)(hp:Can also p)(ho:Can also o):Can also (cJ p o).1∧Can also (cJ p o).2:=by
 have c47:Can also [47]:=qZ Gv (by decide)
 have drop1:∀ {c:UInt8} {r:Bytes},c≠37→Can also (c::r)→Can also r:=fun hc h=>(CE hc h).2
 unfold cJ
 split
 ·rename_i h
  obtain⟨r,rfl⟩:=zKZ.1 h
  exact⟨drop1 (by decide) (drop1 (by decide) (drop1 (by decide) hp)),ho⟩
 split
 ·rename_i h
  obtain⟨r,rfl⟩:=zKZ.1 h
  exact⟨drop1 (by decide) (drop1 (by decide) hp),ho⟩
 split
 ·rename_i h
  obtain⟨r,rfl⟩:=zKZ.1 h
  exact⟨drop1 (by decide) (drop1 (by decide) hp),ho⟩
 split
 ·exact⟨c47,ho⟩
 split
 ·rename_i h
  obtain⟨r,rfl⟩:=zKZ.1 h
  exact⟨drop1 (by decide) (drop1 (by decide) (drop1 (by decide) hp)),tB ho⟩
 split
 ·exact⟨c47,tB ho⟩
 split
 ·exact⟨ik _,ho⟩
 ·have hd:p.drop (1+pre (·==47) (p.drop 1))=[]∨∃ r,p.drop (1+pre (·==47) (p.drop 1))=47::r:=by
   rw[← List.drop_drop];exact Cs _
  obtain⟨h1,h2⟩:=can_cut _ hd hp
  exact⟨h2,mh ho h1⟩
theorem wx {also:Bytes}(Gv:dU also 47=true):∀ (f:Nat)(p o:Bytes),Can also p→Can also o→Can also (en f p o)
 | 0,_,_,_,ho=>ho
 | f+1,p,o,hp,ho=>by
   rw[en]
   split
   ·exact ho
   ·obtain⟨h1,h2⟩:=CG Gv hp ho
    exact wx Gv f _ _ h1 h2
theorem wu {also p:Bytes}(Gv:dU also 47=true)(hp:Can also p):Can also (aG p):=wx Gv _ _ _ hp (ik _)
theorem vn (d:UInt8):∀ (n:Nat)(s:Bytes),s.length≤n→∀ c∈s,c=d∨∃ x∈aA d s,c∈x
 | 0,s,h,c,hc=>by
   obtain rfl:=List.length_eq_zero_iff.1 (Nat.le_zero.1 h)
   simp at hc
 | n+1,s,h,c,hc=>by
   by_cases hp:pre (·==d) s<s.length
   ·rw[cT hp]
    have e:s=s.take (pre (·==d) s)++d::s.drop (pre (·==d) s+1):=by
     have:=gr hp
     simp only[beq_iff_eq]at this
     conv=>lhs;rw[← zLj (pre (·==d) s) s,zKX hp,this]
    rw[e]at hc
    rcases zLf.1 hc with h1|h1
    ·exact .inr ⟨_,zK4,h1⟩
    ·rcases zLm.1 h1 with h2|h2
     ·exact .inl h2
     ·rcases vn d n _ (by simp;omega) c h2 with h3|⟨x,h3,h4⟩
      ·exact .inl h3
      ·exact .inr ⟨x,zLb _ h3,h4⟩
   ·rw[cC hp]
    exact .inr ⟨s,zK7.2 rfl,hc⟩
theorem zu {s:Bytes}(h:eU s=true):s.all isDigit=true:=by
 unfold eU aY at h
 split at h
 ·simp at h
 ·have:=(lf 255 s).1 (.inl (by simpa using h))
  unfold cf at this
  simp only[zK5]at this
  exact this.2
theorem xW:∀ (l:List Bytes),mB l=true→∀ x∈l,br x=true
 | [],_,x,h=>by simp at h
 | [y],h,x,hx=>by
   simp only[mB,zK5]at h
   obtain rfl:=zK7.1 hx
   exact h.1
 | y::z::r,h,x,hx=>by
   simp only[mB,zK5]at h
   rcases zLm.1 hx with rfl|hx
   ·exact h.1
   ·exact xW (z::r) h.2 x hx
theorem kv {s x:Bytes}(h:bF s=(x,0)):∀ c∈x,ua c=true∨c=46:=by
 have hx:=(jJ h).2.2
 clear h
 unfold bF at hx
 split at hx
 ·simp at hx
 split at hx
 ·simp at hx
 split at hx
 ·simp at hx
 ·rename_i h3
  intro c hc
  rcases vn 46 _ x (zKW _) c hc with h4|⟨y,h4,h5⟩
  ·exact .inr h4
  ·left
   cases hi:ipv4 x
   ·have hn:eD x=true:=by simpa[hi] using h3
    have:=xW _ hn y h4
    unfold br at this
    simp only[zK5]at this
    exact zLp.1 this.2 c h5
   ·unfold ipv4 at hi
    simp only[zK5]at hi
    have:=zu (zLp.1 hi.2 y h4)
    have:=zLp.1 this c h5
    unfold ua;rw[this];simp
theorem tz (n:Nat):∀ c∈bD n,isDigit c=true:=fun c hc=>zLp.1 ((yp n n n (zKW _) (zKW _)).2.1) c hc
theorem vL {s x:Bytes}{p:Int}(h:aF s=((x,p),0)):∀ c∈aU x p,ua c=true∨c=46∨c=58:=by
 obtain⟨-,h1,-,-,h2,-⟩:=ck h
 have hb:=kv h1
 unfold aU
 split
 ·intro c hc;exact(hb c hc).imp id .inl
 split
 ·omega
 ·intro c hc
  rcases zLf.1 hc with hc|hc
  ·rcases zLf.1 hc with hc|hc
   ·exact(hb c hc).imp id .inl
   ·exact .inr (.inr (zK7.1 hc))
  ·left;unfold ua;rw[tz _ c hc];simp
theorem dS {c:UInt8}{l:Bytes}(h:c ∉ l):pre (·==c) l=l.length:=by
 induction l with
 | nil=>rfl
 | cons x l ih =>
   simp only[zLm,not_or]at h
   rw[bV,if_neg (by simpa using fun e=>h.1 e.symm),ih h.2];rfl
open Go Go.RowKit
theorem Dp (u:Uri)(h1:u.scheme=dw)(h2:u.bX=true)(h3:u.a8=true)(ha:∀ c∈u.authority,c≠47∧c≠63∧c≠35)(hp:∃ r,u.path=47::r)(hpb:∀ c∈u.path,c≠63∧c≠35)(hq:(35:UInt8) ∉ u.query)(hq0:u.aN=false→u.query=[])(Eb:u.aZ=false→u.fragment=[])(hl:(fg u).length≤16384) :
 aM (fg u)=(u,0):=by
 obtain⟨sc,au,pa,qu,fr,b1,b2,b3,b4⟩:=u
 simp only at h1 h2 h3 ha hp hpb hq hq0 Eb
 subst h1 h2 h3
 have c1:aL 35 (fg ⟨dw,au,pa,qu,fr,true,true,b3,b4⟩)=(dw++[58]++([47,47]++au)++pa++(if b3 then [63]++qu else []),fr,b4):=by
  have hn:(35:UInt8) ∉ dw++[58]++([47,47]++au)++pa++(if b3 then [63]++qu else []):=by
   simp only[zLf,not_or]
   refine⟨⟨⟨⟨by decide,by decide⟩,by decide,fun h=>(ha _ h).2.2 rfl⟩,fun h=>(hpb _ h).2 rfl⟩,?_⟩
   split
   ·simp only[zLf,not_or];exact⟨by decide,hq⟩
   ·simp
  cases b4
  ·have:fg ⟨dw,au,pa,qu,fr,true,true,b3,false⟩=dw++[58]++([47,47]++au)++pa++(if b3 then [63]++qu else []):=by simp[fg]
   rw[this,eR (dS hn),Eb rfl]
  ·have:fg ⟨dw,au,pa,qu,fr,true,true,b3,true⟩=(dw++[58]++([47,47]++au)++pa++(if b3 then [63]++qu else []))++35::fr:=by simp[fg]
   rw[this,gg (dS hn)]
 have c2:aL 63 (dw++[58]++([47,47]++au)++pa++(if b3 then [63]++qu else []))=(dw++[58]++([47,47]++au)++pa,qu,b3):=by
  have hn:(63:UInt8) ∉ dw++[58]++([47,47]++au)++pa:=by
   simp only[zLf,not_or]
   exact⟨⟨⟨by decide,by decide⟩,by decide,fun h=>(ha _ h).2.1 rfl⟩,fun h=>(hpb _ h).1 rfl⟩
  cases b3
  ·rw[if_neg (by simp),List.append_nil,eR (dS hn),hq0 rfl]
  ·rw[if_pos rfl,zLi,gg (dS hn)]
 unfold aM
 rw[if_neg (by omega),c1]
 simp only
 rw[c2]
 simp only
 obtain⟨r,rfl⟩:=hp
 have e:dw++[58]++([47,47]++au)++47::r=104::116::116::112::115::58::47::47::(au++47::r):=by simp[dw]
 have p5:pre aq (104::116::116::112::115::58::47::47::(au++47::r))=5:=by
  simp only[bV]
  rw[if_neg (by decide),if_neg (by decide),if_neg (by decide),if_neg (by decide),if_neg (by decide),if_pos (by decide)]
 have pa:pre (·==47) (au++47::r)=au.length:=y8 (dS (fun h=>(ha _ h).1 rfl)) 47 r (by decide)
 rw[e]
 unfold aH
 rw[p5]
 simp only[List.drop_succ_cons,List.drop_zero,List.take_succ_cons,List.take_zero,List.head?_cons,if_true,aB,pa,List.take_left,List.drop_left]
 rw[if_pos (by decide)]
 rfl
def uw (u:cX):Uri:=⟨dw,aU u.host u.port,u.path,u.query,u.fragment,true,true,u.aN,u.aZ⟩
theorem p6 (u:cX):aT u=fg (uw u):=by
 unfold aT fg uw bz
 cases u.aN <;> simp[dw]
structure fW (u:cX):Prop where
 host:aF (aU u.host u.port)=((u.host,u.port),0)
 path:Can cU u.path
 AH:∃ r,u.path=47::r
 dots:aG u.path=u.path
 query:Can cI u.query
 frag:Can cI u.fragment
 noq:u.aN=false→u.query=[]
 nof:u.aZ=false→u.fragment=[]
 len:(aT u).length≤4096
theorem E1 {x:Bytes}{p:Int}(h:aF (aU x p)=((x,p),0)):∀ c∈aU x p,c≠47∧c≠63∧c≠35∧c≠64:=by
 intro c hc
 have h1:=vL h c hc
 have:=cW (p:=fun c=>!(ua c||c==46||c==58)||(c != 47&&c != 63&&c != 35&&c != 64)) (by decide +kernel) c
 have h2:(ua c||c==46||c==58)=true:=by rcases h1 with h|rfl|rfl <;> simp[*]
 rw[h2]at this
 simpa[and_assoc] using this
theorem path_no {s:Bytes}(h:Can cU s):∀ c∈s,c≠63∧c≠35:=by
 intro c hc
 have h1:=so h c hc
 have:=cW (p:=fun c=>!(dU cU c||c==37||bm c)||(c != 63&&c != 35)) (by decide +kernel) c
 have h2:(dU cU c||c==37||bm c)=true:=by rcases h1 with h|rfl|h <;> simp[*]
 rw[h2]at this
 simpa using this
theorem HO {s:Bytes}(h:Can cI s):(35:UInt8) ∉ s:=by
 intro hc
 have:=so h _ hc
 revert this;decide
theorem fW.split {u:cX}(h:fW u):aM (aT u)=(uw u,0):=by
 rw[p6]
 refine Dp (uw u) rfl rfl rfl (fun c hc=>?_) h.AH (path_no h.path) (HO h.query) h.noq h.nof (by rw[← p6];have:=h.len;omega)
 have:=E1 h.host c hc
 exact⟨this.1,this.2.1,this.2.2.1⟩
theorem im (u:cX):u.path.length≤(aT u).length∧(u.aN=true→u.query.length≤(aT u).length)∧(u.aZ=true→u.fragment.length≤(aT u).length):=by
 unfold aT bz
 refine⟨?_,fun h=>?_,fun h=>?_⟩
 ·split <;> split <;> (simp;omega)
 ·rw[if_pos h];split <;> (simp;omega)
 ·rw[if_pos h];split <;> (simp;omega)
theorem fW.parse {u:cX}(h:fW u):a7 (aT u)=(u,0):=by
 obtain⟨l1,l2,l3⟩:=im u
 have hl:=h.len
 have n1:=q7 h.path (by omega)
 have n2:bk cI u.query=(u.query,0):=by
  cases hq:u.aN
  ·rw[h.noq hq];rfl
  ·exact q7 h.query (by have:=l2 hq;omega)
 have n3:bk cI u.fragment=(u.fragment,0):=by
  cases hq:u.aZ
  ·rw[h.nof hq];rfl
  ·exact q7 h.frag (by have:=l3 hq;omega)
 unfold a7
 rw[if_neg (by omega),h.split]
 simp only[ne_eq,not_true,if_false]
 unfold sB uw
 simp only
 rw[if_neg (by simp[show lower dw=dw by decide]),if_neg (by simp),if_neg (fun k=>(E1 h.host _ k).2.2.2 rfl)]
 unfold kY
 simp only
 rw[h.host,n1,n2,n3]
 simp only[ne_eq,not_true,if_false]
 unfold lG
 simp only
 obtain⟨r,hr⟩:=h.AH
 have e:(if aG u.path=[] then [47] else aG u.path)=u.path:=by
  rw[h.dots,hr,if_neg (by simp)]
 rw[e,if_neg (by show ¬ 4096<(aT u).length;omega)]
theorem Dc (h:Bytes × Int)(p q f:Bytes)(hq hf:Bool)(k:(lG h p q f hq hf).2≠0):(lG h p q f hq hf).1=cX.none:=by
 unfold lG at k ⊢
 generalize (if aG p=[] then [47] else aG p)=d at k ⊢
 split
 ·rfl
 ·rename_i dH
  rw[if_neg dH]at k
  exact absurd rfl k
theorem Fq {h:Bytes × Int}{p q f:Bytes}{hq hf:Bool}{u:cX}(k:lG h p q f hq hf=(u,0)):u=⟨h.1,h.2,if aG p=[] then [47] else aG p,q,f,hq,hf⟩∧(aT u).length≤4096:=by
 unfold lG at k
 generalize (if aG p=[] then [47] else aG p)=d at k ⊢
 split at k
 ·simp at k
 ·obtain rfl:=(Prod.mk.inj k).1
  exact⟨rfl,by omega⟩
theorem yx (s:Bytes)(h:(a7 s).2≠0):(a7 s).1=cX.none:=by
 unfold a7 at h ⊢
 split
 ·rfl
 rename_i h1
 rw[if_neg h1]at h
 split
 ·rfl
 rename_i h2
 rw[if_neg h2]at h
 unfold sB at h ⊢
 split
 ·rfl
 rename_i h3
 rw[if_neg h3]at h
 split
 ·rfl
 rename_i h4
 rw[if_neg h4]at h
 split
 ·rfl
 rename_i h5
 rw[if_neg h5]at h
 unfold kY at h ⊢
 split
 ·rfl
 rename_i h6
 rw[if_neg h6]at h
 split
 ·rfl
 rename_i h7
 rw[if_neg h7]at h
 split
 ·rfl
 rename_i h8
 rw[if_neg h8]at h
 split
 ·rfl
 rename_i h9
 rw[if_neg h9]at h
 exact Dc _ _ _ _ _ _ h
theorem uQ:aG [47]=[47]:=by decide
theorem Fy (s:Bytes)(h:(aM s).2=0):((aM s).1.aN=false→(aM s).1.query=[])∧((aM s).1.aZ=false→(aM s).1.fragment=[])∧((aM s).1.a8=true→(aM s).1.path=[]∨∃ r,(aM s).1.path=47::r):=by
 unfold aM at h ⊢
 split
 ·rename_i h1;rw[if_pos h1]at h;simp at h
 rename_i h1
 rw[if_neg h1]at h
 have q1:=Au 63 (aL 35 s).1
 have q2:=Au 35 s
 have ha:∀ t:Bytes,(aB t).2.1=true→(aB t).2.2=[]∨∃ r,(aB t).2.2=47::r:=by
  intro t
  unfold aB
  split
  ·intro _;exact Cs _
  ·intro h;simp at h
 unfold aH at h ⊢
 split
 ·rename_i h2
  rw[if_pos h2]at h
  split
  ·exact⟨q1,q2,ha _⟩
  ·rename_i h3;rw[if_neg h3]at h;simp at h
 ·exact⟨q1,q2,ha _⟩
theorem je {s:Bytes}{u:cX}(h:a7 s=(u,0)):fW u:=by
 unfold a7 at h
 split at h
 ·simp at h
 split at h
 ·rename_i h1 h2;exact absurd (Prod.mk.inj h).2 h2
 rename_i h1 h2
 have h2:(aM s).2=0:=by simpa using h2
 obtain⟨q1,q2,q3⟩:=Fy s h2
 generalize (aM s).1=r at h q1 q2 q3
 unfold sB at h
 split at h
 ·simp at h
 split at h
 ·simp at h
 split at h
 ·simp at h
 rename_i h3 h4 h5
 have I0:=q3 (by simpa using h4)
 unfold kY at h
 split at h
 ·rename_i h6;exact absurd (Prod.mk.inj h).2 h6
 split at h
 ·rename_i h6;exact absurd (Prod.mk.inj h).2 h6
 split at h
 ·rename_i h6;exact absurd (Prod.mk.inj h).2 h6
 split at h
 ·rename_i h6;exact absurd (Prod.mk.inj h).2 h6
 rename_i e1 e2 e3 e4
 obtain⟨h,hlen⟩:=Fq h
 have hp:=qD (also:=cU) (s:=r.path) (by simpa using e2)
 have hq:=qD (also:=cI) (s:=r.query) (by simpa using e3)
 have hf:=qD (also:=cI) (s:=r.fragment) (by simpa using e4)
 have hd:aG (bk cU r.path).1=[]∨∃ q,aG (bk cU r.path).1=47::q∧aG (47::q)=47::q:=by
  have hh:(bk cU r.path).1=[]∨∃ q,(bk cU r.path).1=47::q:=by
   rcases I0 with h|⟨q,h⟩
   ·left;rw[h];rfl
   ·right
    have e2':(bk cU r.path).2=0:=by simpa using e2
    rw[h]at e2' ⊢
    unfold bk at e2' ⊢
    split
    ·rename_i hx;rw[if_pos hx]at e2';simp at e2'
    rename_i hx
    rw[if_neg hx,dm (by decide),bB,if_pos (by decide)]at e2'
    rw[dm (by decide),bB,if_pos (by decide)]
    unfold comb at e2' ⊢
    split
    ·exact⟨_,rfl⟩
    ·rename_i hy;rw[if_neg hy]at e2';exact absurd e2' hy
  rcases hh with h|⟨q,h⟩
  ·left;rw[h];rfl
  ·right
   rw[h]
   obtain⟨⟨q',hq'⟩,-⟩:=wo q
   exact⟨q',hq',by have:=rG q;rw[hq']at this;exact this⟩
 have hhp:aF r.authority=(((aF r.authority).1.1,(aF r.authority).1.2),0):=by
  have:(aF r.authority).2=0:=by simpa using e1
  rw[← this]
 subst h
 refine⟨(ck hhp).1,?_,?_,?_,hq,hf,fun k=>by simp only at k ⊢;rw[q1 k];rfl,fun k=>by simp only at k ⊢;rw[q2 k];rfl,by omega⟩
 ·simp only
  rcases hd with hd|⟨q,hd,-⟩
  ·rw[if_pos hd];exact qZ (by decide) (by decide)
  ·rw[if_neg (by rw[hd];simp)];exact wu (by decide) hp
 ·simp only
  rcases hd with hd|⟨q,hd,-⟩
  ·rw[if_pos hd];exact⟨_,rfl⟩
  ·rw[if_neg (by rw[hd];simp)];exact⟨_,hd⟩
 ·simp only
  rcases hd with hd|⟨q,hd,yg⟩
  ·rw[if_pos hd];exact uQ
  ·rw[if_neg (by rw[hd];simp),hd];exact yg
def cX.bare (u:cX):cX:={ u with fragment:=[],aZ:=false }
theorem fW.bare {u:cX}(h:fW u):fW u.bare :=
 ⟨h.host,h.path,h.AH,h.dots,h.query,ik _,h.noq,fun _=>rfl,by
  have:=h.len
  unfold aT at this ⊢
  unfold cX.bare bz at *
  simp at this ⊢
  omega⟩
theorem xE {u:cX}(h:dQ u=true):fW u:=je (of_decide_eq_true h)
open Go Go.RowKit
end Wf
namespace Go.Proofs.YtnmlimehgifadaaGreatDoor
open Go.RowKit Wf
attribute [local go_sem] dX dK get_list
theorem zv (c:UInt8)(w:World)(h:bm c=true):Calls Tryz.prog 285 #[.int .u8 c.toNat] w fun e w'=>e=.returned (.int .u64 (cG c))∧w=w':=by
 cases hd:isDigit c
 all_goals
  go_enter Tryz.func285,Tryz.ntmps285
  go_wp2_with (go_at_call 252;refine(bH _ _).mono ?_;rintro e w' ⟨rfl,rfl⟩)
  go_ret
  refine⟨tT ?_,rfl⟩
  have hb:=DO c
  simp[bm,isDigit]at h hd
  unfold cG
  split <;> (try split) <;> omega
theorem vg (s:Bytes)(m:Nat)(w:World)(hs:s.length≤9223372036854775807)(hm:m≤4611686018427387904) :
 Calls Tryz.prog 270 #[(Value.string ⟨zKS (s)⟩),.int .u64 10,.int .u64 m,.func (.func 252) #[] #[]] w fun e w'=>e=.returned (.tuple #[.int .u64 (bA isDigit 10 m s).1,.int .i64 (bA isDigit 10 m s).2])∧w=w':=by
 cases bt:s.isEmpty
 ·go_enter Tryz.func270,Tryz.ntmps270
  go_wp2_with fail
  go_loop [18] (fun i=>∃ k:Nat,k≤s.length∧i=.int .i64 k∧(s.take k).all isDigit=true) (fun i=>s.length - (intOf i).toNat)
  case atStart=>exact⟨0,by omega,rfl,rfl⟩
  case round =>
   obtain⟨k,hk,rfl,a6⟩:=hrel
   have Hall:=hid a6
   clear a6
   by_cases aC:k<s.length
   ·cases hc:isDigit s[k]
    ·go_wp2_with (go_at_call 252;refine(bH _ _).mono ?_;rintro e w' ⟨rfl,rfl⟩)
     go_ret2
     exact⟨nj (by simp[bA,bt,dj aC hc]),rfl⟩
    ·go_wp2_with (go_at_call 252;refine(bH _ _).mono ?_;rintro e w' ⟨rfl,rfl⟩)
     go_round
     case rel=>exact⟨k+1,by omega,by go_num,aX aC Hall.out hc⟩
     case measure=>simp[intOf];omega
   ·have a6:s.all isDigit=true:=by have:=Hall.out;rwa [zKU (by omega)]at this
    clear Hall
    have Hall:=hid a6
    clear a6
    go_wp2_with fail
    go_loop [11,30] (fun n i=>∃ k a:Nat,k≤s.length∧i=.int .i64 k∧a≤m∧n=.int .u64 a∧dv 10 m a (s.drop k)=dv 10 m 0 s) (fun _ i=>s.length - (intOf i).toNat)
    case atStart=>exact⟨0,0,by omega,rfl,by omega,rfl,rfl⟩
    case round =>
     obtain⟨j,a,hj,rfl,ha,rfl,heq⟩:=hrel
     have Heq:=hid heq
     clear heq
     by_cases hjt:j<s.length
     ·have hv:=lj (show bm s[j]=true by have:=zY Hall.out hjt;first|exact this | (simp[isDigit,bm]at this ⊢;omega))
      go_wp2_with (go_at_call 285;refine(zv _ _ (by have:=zY Hall.out hjt;first|exact this | (simp[isDigit,bm]at this ⊢;omega))).mono ?_;rintro e w' ⟨rfl,rfl⟩)
      all_goals first
       | (go_ret2;exact⟨nj (qA bt Hall.out Heq.out hjt (by omega)),rfl⟩)
       | (go_round
          case rel=>exact⟨j+1,a * 10+cG s[j],by omega,by go_num,by omega,by go_num,oI Heq.out hjt (by omega)⟩
          case measure=>simp[intOf];omega)
     ·go_wp2_with fail
      go_ret2
      exact⟨nj (oJ bt Hall.out Heq.out hjt),rfl⟩
 ·go_enter Tryz.func270,Tryz.ntmps270
  go_wp2_with fail
  go_ret2
  exact⟨nj (by simp[bA,bt]),rfl⟩
theorem lV (s:Bytes)(m:Nat)(w:World)(hs:s.length≤9223372036854775807)(hm:m≤4611686018427387904) :
 Calls Tryz.prog 236 #[(Value.string ⟨zKS (s)⟩),.int .u64 m] w fun e w'=>e=.returned (.tuple #[.int .u64 (bA isDigit 10 m s).1,.int .i64 (bA isDigit 10 m s).2])∧w=w':=by
 go_enter Tryz.func236,Tryz.ntmps236
 go_wp2_with (go_at_call 270;refine(vg _ _ _ hs hm).mono ?_;rintro e w' ⟨rfl,rfl⟩)
 go_ret2
 exact⟨rfl,rfl⟩
theorem kH (s:Bytes)(m:Nat)(w:World)(hs:s.length≤9223372036854775807)(hm:m≤4611686018427387904) :
 Calls Tryz.prog 223 #[(Value.string ⟨zKS (s)⟩),.int .u64 m] w fun e w'=>e=.returned (.tuple #[.int .u64 (aY m s).1,.int .i64 (aY m s).2])∧w=w':=by
 by_cases hd:cf s=true
 ·by_cases h1:1<s.length
  ·by_cases h0:s[0]=48
   ·have Hq:=hid (show aY m s=(0,6) from if_pos ⟨hd,h1,by rw[ln (by omega),h0]⟩)
    have hx:((s[0].toNat:Int)==48)=true:=by simp[h0]
    clear h0
    go_enter Tryz.func223,Tryz.ntmps223
    go_wp2_with (go_at_call 235;refine(gy _ _ hs).mono ?_;rintro e w' ⟨rfl,rfl⟩)
    go_ret2
    rw[Hq.out]
    exact⟨rfl,rfl⟩
   ·have Hq:=hid (show aY m s=bA isDigit 10 m s from if_neg (by rintro⟨_,_,h⟩;rw[ln (by omega)]at h;exact h0 (by simpa using h)))
    have hx:((s[0].toNat:Int)==48)=false:=Av h0
    clear h0
    go_enter Tryz.func223,Tryz.ntmps223
    go_wp2_with (first
     | (go_at_call 235;refine(gy _ _ hs).mono ?_;rintro e w' ⟨rfl,rfl⟩)
     | (go_at_call 236;refine(lV _ _ _ hs hm).mono ?_;rintro e w' ⟨rfl,rfl⟩))
    go_ret2
    rw[Hq.out]
    exact⟨rfl,rfl⟩
  ·have Hq:=hid (show aY m s=bA isDigit 10 m s from if_neg (by rintro⟨_,h,_⟩;exact h1 h))
   go_enter Tryz.func223,Tryz.ntmps223
   go_wp2_with (first
    | (go_at_call 235;refine(gy _ _ hs).mono ?_;rintro e w' ⟨rfl,rfl⟩)
    | (go_at_call 236;refine(lV _ _ _ hs hm).mono ?_;rintro e w' ⟨rfl,rfl⟩))
   go_ret2
   rw[Hq.out]
   exact⟨rfl,rfl⟩
 ·have Hq:=hid (show aY m s=bA isDigit 10 m s from if_neg (by rintro⟨h,_,_⟩;exact hd h))
  have yg:cf s=false:=by simpa using hd
  clear hd
  go_enter Tryz.func223,Tryz.ntmps223
  go_wp2_with (first
   | (go_at_call 235;refine(gy _ _ hs).mono ?_;rintro e w' ⟨rfl,rfl⟩)
   | (go_at_call 236;refine(lV _ _ _ hs hm).mono ?_;rintro e w' ⟨rfl,rfl⟩))
  go_ret2
  rw[Hq.out]
  exact⟨rfl,rfl⟩
theorem wT (s:Bytes)(m:Nat)(w:World)(hs:s.length≤9223372036854775807)(hm:m≤4611686018427387904) :
 Calls Tryz.prog 204 #[(Value.string ⟨zKS (s)⟩),.int .u64 10,.int .u64 m] w fun e w'=>e=.returned (.tuple #[.int .u64 (bA isDigit 10 m s).1,.int .i64 (bA isDigit 10 m s).2])∧w=w':=by
 cases bt:s.isEmpty
 ·go_enter Tryz.func204,Tryz.ntmps204
  go_wp2_with fail
  go_loop [8] (fun i=>∃ k:Nat,k≤s.length∧i=.int .i64 k∧(s.take k).all isDigit=true) (fun i=>s.length - (intOf i).toNat)
  case atStart=>exact⟨0,by omega,rfl,rfl⟩
  case round =>
   obtain⟨k,hk,rfl,a6⟩:=hrel
   have Hall:=hid a6
   clear a6
   by_cases aC:k<s.length
   ·cases hc:isDigit s[k]
    ·have Ha:=hid (dj aC hc)
     go_wp2_with (go_at_call 148;refine(dA _ _).mono ?_;rintro e w' ⟨rfl,rfl⟩)
     go_ret2
     exact⟨nj (by simp[bA,bt,Ha.out]),rfl⟩
    ·go_wp2_with (go_at_call 148;refine(dA _ _).mono ?_;rintro e w' ⟨rfl,rfl⟩)
     go_round
     case rel=>exact⟨k+1,by omega,by go_num,aX aC Hall.out hc⟩
     case measure=>simp[intOf];omega
   ·have a6:s.all isDigit=true:=by have:=Hall.out;rwa [zKU (by omega)]at this
    clear Hall
    have Hall:=hid a6
    clear a6
    go_wp2_with fail
    go_loop [9,10] (fun n i=>∃ k a:Nat,k≤s.length∧i=.int .i64 k∧a≤m∧n=.int .u64 a∧dv 10 m a (s.drop k)=dv 10 m 0 s) (fun _ i=>s.length - (intOf i).toNat)
    case atStart=>exact⟨0,0,by omega,rfl,by omega,rfl,rfl⟩
    case round =>
     obtain⟨j,a,hj,rfl,ha,rfl,heq⟩:=hrel
     have Heq:=hid heq
     clear heq
     by_cases hjt:j<s.length
     ·have hdg:=zY Hall.out hjt
      simp[isDigit]at hdg
      obtain⟨rn,yg⟩:=hdg
      have Hv:=hid (show (cG s[j]:Int)=s[j].toNat - 48 by unfold cG;rw[if_pos yg];omega)
      go_wp2_with fail
      all_goals
       have hu:=Hi ((m:Int) - (s[j].toNat - 48)) (by omega) (by omega)
       have hv:=Hv.out
       first
       | (go_ret2;exact⟨nj (qA bt Hall.out Heq.out hjt (by omega)),rfl⟩)
       | (go_round
          case rel=>exact⟨j+1,a * 10+cG s[j],by omega,by go_num,by omega,congrArg (Value.int .u64) (by omega),oI Heq.out hjt (by omega)⟩
          case measure=>simp[intOf];omega)
     ·go_wp2_with fail
      go_ret2
      exact⟨nj (oJ bt Hall.out Heq.out hjt),rfl⟩
 ·go_enter Tryz.func204,Tryz.ntmps204
  go_wp2_with fail
  go_ret2
  exact⟨nj (by simp[bA,bt]),rfl⟩
theorem lU (s:Bytes)(m:Nat)(w:World)(hs:s.length≤9223372036854775807)(hm:m≤4611686018427387904) :
 Calls Tryz.prog 150 #[(Value.string ⟨zKS (s)⟩),.int .u64 m] w fun e w'=>e=.returned (.tuple #[.int .u64 (aY m s).1,.int .i64 (aY m s).2])∧w=w':=by
 have hq:aY m s=if cf s=true∧1<s.length∧s.head? = some 48 then(0,6) else bA isDigit 10 m s:=rfl
 have he:=lf m s
 have hc:=wT s m w hs hm
 generalize bA isDigit 10 m s=np at hq he hc
 obtain⟨n,e⟩:=np
 simp only at hq he hc
 have Hc:=hid hc
 clear hc
 by_cases hd:cf s=true
 ·rw[hd]at he
  simp only[iff_true]at he
  have hg:(e==0||e==4)=true:=by simp;omega
  by_cases h1:1<s.length
  ·by_cases h0:s[0]=48
   ·rw[if_pos ⟨hd,h1,by rw[ln (by omega),h0]⟩]at hq
    have Hq:=hid hq
    have hx:((s[0].toNat:Int)==48)=true:=by simp[h0]
    clear h0 hq
    rcases he with rfl|rfl
    all_goals
     go_enter Tryz.func150,Tryz.ntmps150
     go_wp2_with fail
     refine Hc.out.mono ?_
     rintro e w' ⟨rfl,rfl⟩
     go_wp2_with fail
     go_ret2
     rw[Hq.out]
     exact⟨rfl,rfl⟩
   ·rw[if_neg (by rintro⟨_,_,h⟩;rw[ln (by omega)]at h;exact h0 (by simpa using h))]at hq
    have Hq:=hid hq
    have hx:((s[0].toNat:Int)==48)=false:=Av h0
    clear h0 hq
    rcases he with rfl|rfl
    all_goals
     go_enter Tryz.func150,Tryz.ntmps150
     go_wp2_with fail
     refine Hc.out.mono ?_
     rintro e w' ⟨rfl,rfl⟩
     go_wp2_with fail
     go_ret2
     rw[Hq.out]
     exact⟨rfl,rfl⟩
  ·rw[if_neg (by rintro⟨_,h,_⟩;exact h1 h)]at hq
   have Hq:=hid hq
   clear hq
   rcases he with rfl|rfl
   all_goals
    go_enter Tryz.func150,Tryz.ntmps150
    go_wp2_with fail
    refine Hc.out.mono ?_
    rintro e w' ⟨rfl,rfl⟩
    go_wp2_with fail
    go_ret2
    rw[Hq.out]
    exact⟨rfl,rfl⟩
 ·rw[if_neg (by rintro⟨h,_,_⟩;exact hd h)]at hq
  have yg:cf s=false:=by simpa using hd
  rw[yg]at he
  have h1:(e==0)=false:=by simp;intro h;simp[h]at he
  have h2:(e==4)=false:=by simp;intro h;simp[h]at he
  have Hq:=hid hq
  clear hd he hq
  go_enter Tryz.func150,Tryz.ntmps150
  go_wp2_with fail
  refine Hc.out.mono ?_
  rintro e w' ⟨rfl,rfl⟩
  go_wp2_with fail
  go_ret2
  rw[Hq.out]
  exact⟨rfl,rfl⟩
open Go.RowKit Wf
attribute [local go_sem] dX dK get_list
theorem vA (s:Bytes)(h1:s.isEmpty=false)(h2:s.length≤63)(h3:¬ s[0]? = some 45)(h4:¬ s[s.length - 1]? = some 45):br s=s.all ua:=by
 unfold br
 rw[List.getLast?_eq_getElem?,List.head?_eq_getElem?]
 simp[h1,h2,h3,h4]
theorem vK (s:Bytes)(w:World)(hs:s.length≤9223372036854775807) :
 Calls Tryz.prog 271 #[(Value.string ⟨zKS (s)⟩)] w fun e w'=>e=.returned (.bool (br s))∧w=w':=by
 cases h1:s.isEmpty
 ·by_cases h2:63<s.length
  ·have Hq:=hid (show br s=false by unfold br;simp;omega)
   go_enter Tryz.func271,Tryz.ntmps271
   go_wp2_with fail
   go_ret
   exact⟨bc Hq.out.symm,rfl⟩
  ·have hl:0<s.length:=by cases s <;> simp at h1 ⊢
   by_cases h3:s[0]=45
   ·have Hq:=hid (show br s=false by unfold br;rw[ln hl,h3];simp)
    have hx:((s[0].toNat:Int)==45)=true:=by simp[h3]
    clear h3
    go_enter Tryz.func271,Tryz.ntmps271
    go_wp2_with fail
    go_ret
    exact⟨bc Hq.out.symm,rfl⟩
   ·have hx:((s[0].toNat:Int)==45)=false:=Av h3
    by_cases h4:s[s.length - 1]=45
    ·have Hq:=hid (show br s=false by
      unfold br
      rw[List.getLast?_eq_getElem?,zKY (by omega),h4];simp)
     have hy:((s[s.length - 1].toNat:Int)==45)=true:=by simp[h4]
     clear h4 h3
     go_enter Tryz.func271,Tryz.ntmps271
     go_wp2_with fail
     go_ret
     exact⟨bc Hq.out.symm,rfl⟩
    ·have hy:((s[s.length - 1].toNat:Int)==45)=false:=Av h4
     have Hq:=hid (vA s h1 (by omega) (by rw[zKY hl];simpa using h3) (by rw[zKY (by omega)];simpa using h4))
     have Ge:decide (63<(s.length:Int))=false:=decide_eq_false (by omega)
     clear h3 h4
     go_enter Tryz.func271,Tryz.ntmps271
     go_wp2_with fail
     go_loop [26] (fun i=>∃ k:Nat,k≤s.length∧i=.int .i64 k∧(s.take k).all ua=true) (fun i=>s.length - (intOf i).toNat)
     case atStart=>exact⟨0,by omega,rfl,rfl⟩
     case round=>(
      obtain⟨k,hk,rfl,a6⟩:=hrel
      have Hall:=hid a6
      clear a6
      by_cases aC:k<s.length
      ·cases hc:ua s[k]
       ·have Ha:=hid (dj aC hc)
        have hc':=hc
        unfold ua at hc'
        simp only[Bool.or_eq_false_iff]at hc'
        obtain⟨⟨c1,c2⟩,c3⟩:=hc'
        have c4:((s[k].toNat:Int) != 45)=true:=by
         have:s[k]≠45:=by simpa using c3
         rw[bne_iff_ne]
         intro h
         exact this (zLr.1 (by simp;omega))
        clear c3 hc
        go_wp2_with (first
         | (go_at_call 251;refine(cS _ _).mono ?_;rintro e w' ⟨rfl,rfl⟩)
         | (go_at_call 252;refine(bH _ _).mono ?_;rintro e w' ⟨rfl,rfl⟩))
        go_ret
        exact⟨bc (by rw[Hq.out,Ha.out]),rfl⟩
       ·have Hc:=hid (aX aC Hall.out hc)
        unfold ua at hc
        simp only[Bool.or_eq_true,beq_iff_eq]at hc
        rcases hc with(hc|hc) | hc
        ·go_wp2_with (first
         | (go_at_call 251;refine(cS _ _).mono ?_;rintro e w' ⟨rfl,rfl⟩)
         | (go_at_call 252;refine(bH _ _).mono ?_;rintro e w' ⟨rfl,rfl⟩))
         go_round
         case rel=>exact⟨k+1,by omega,by go_num,Hc.out⟩
         case measure=>simp[intOf];omega
        ·cases hca:isAlpha s[k]
         all_goals
          go_wp2_with (first
           | (go_at_call 251;refine(cS _ _).mono ?_;rintro e w' ⟨rfl,rfl⟩)
           | (go_at_call 252;refine(bH _ _).mono ?_;rintro e w' ⟨rfl,rfl⟩))
          go_round
          case rel=>exact⟨k+1,by omega,by go_num,Hc.out⟩
          case measure=>simp[intOf];omega
        ·have c4:((s[k].toNat:Int) != 45)=false:=by simp[hc]
         clear hc
         cases hca:isAlpha s[k] <;> cases Aj:isDigit s[k]
         all_goals
          go_wp2_with (first
           | (go_at_call 251;refine(cS _ _).mono ?_;rintro e w' ⟨rfl,rfl⟩)
           | (go_at_call 252;refine(bH _ _).mono ?_;rintro e w' ⟨rfl,rfl⟩))
          go_round
          case rel=>exact⟨k+1,by omega,by go_num,Hc.out⟩
          case measure=>simp[intOf];omega
      ·have a6:=Hall.out
       rw[zKU (by omega)]at a6
       have Ha:=hid a6
       clear a6 Hall
       go_wp2_with fail
       go_ret
       exact⟨bc (by rw[Hq.out,Ha.out]),rfl⟩)
 ·have Hq:=hid (show br s=false by unfold br;simp[h1])
  go_enter Tryz.func271,Tryz.ntmps271
  go_wp2_with fail
  go_ret
  exact⟨bc Hq.out.symm,rfl⟩
theorem yc (s:Bytes)(w:World)(hE:Env w)(hs:s.length<4294967281) :
 Calls Tryz.prog 240 #[(Value.string ⟨zKS (s)⟩)] w fun e w'=>e=.returned (.bool (eD s))∧Below w.heap.size w w':=by
 go_enter Tryz.func240,Tryz.ntmps240
 go_wp2_with fail
 go_loopw [0] (fun v wr=>∃ r:Bytes,v=(Value.string ⟨zKS (r)⟩)∧r.length≤s.length∧Below w.heap.size w wr∧eD r=eD s) (fun v _=>j0 v)
 case atStart=>exact⟨s,rfl,by omega,Below.refl _ _,rfl⟩
 case round =>
  obtain⟨r,rfl,hr,hw,heq⟩:=hrel
  have Hw:=hid hw
  have HE:=hid (hE.below hw)
  have Heq:=hid heq
  clear hw heq
  by_cases hp:pre (·==46) r<r.length
  ·have hcut:=hid (show aL 46 r=(r.take (pre (·==46) r),r.drop (pre (·==46) r+1),true) from if_pos hp)
   have tf:eD r=(br (r.take (pre (·==46) r))&&eD (r.drop (pre (·==46) r+1))):=by
    unfold eD
    rw[cT hp]
    have:=rB 46 (r.drop (pre (·==46) r+1))
    cases rX:aA 46 (r.drop (pre (·==46) r+1)) with
    | nil=>exact absurd rX this
    | cons y l=>rfl
   cases hl:br (r.take (pre (·==46) r))
   all_goals
    rw[hl]at tf
    have Hnl:=hid (tf.symm.trans Heq.out)
    clear tf
    go_wp2_with fail
    refine(EE r 46 wr HE.out (by omega)).mono ?_
    rintro e w2 ⟨rfl,n,fA⟩
    rw[hcut.out]
    have Hw2:Hid (Below w.heap.size w w2):=hid (by rw[fA];exact below_drewN Hw.out _)
    clear fA
    go_wp2_with (go_at_call 271;refine(vK _ _ (by simp;omega)).mono ?_;rintro e w' ⟨rfl,rfl⟩)
   ·go_ret
    exact⟨bc Hnl.out,Hw2.out⟩
   ·go_roundw
    case rel=>exact⟨_,rfl,by simp;omega,Hw2.out,Hnl.out⟩
    case measure=>simp[sLen_mk];omega
  ·have hcut:=hid (show aL 46 r=(r,[],false) from if_neg hp)
   have tf:eD r=(br r&&!cf r):=by unfold eD;rw[cC hp];rfl
   have Hnl:=hid (tf.symm.trans Heq.out)
   clear tf
   cases hl:br r
   all_goals
    rw[hl]at Hnl
    go_wp2_with fail
    refine(EE r 46 wr HE.out (by omega)).mono ?_
    rintro e w2 ⟨rfl,n,fA⟩
    rw[hcut.out]
    have Hw2:Hid (Below w.heap.size w w2):=hid (by rw[fA];exact below_drewN Hw.out _)
    clear fA
    go_wp2_with (first
     | (go_at_call 271;refine(vK _ _ (by omega)).mono ?_;rintro e w' ⟨rfl,rfl⟩)
     | (go_at_call 235;refine(gy _ _ (by omega)).mono ?_;rintro e w' ⟨rfl,rfl⟩))
    go_ret
    exact⟨bc (by have:=Hnl.out;simpa using this),Hw2.out⟩
theorem nJ (s:Bytes)(w:World)(hE:Env w)(hs:s.length<4294967281) :
 Calls Tryz.prog 239 #[(Value.string ⟨zKS (s)⟩)] w fun e w'=>e=.returned (.bool (ipv4 s))∧Below w.heap.size w w':=by
 have hq:ipv4 s=((aA 46 s).length==4&&(aA 46 s).all eU):=rfl
 have rX:=s_Split s 46 w hE hs
 have hlen:∀ x∈aA 46 s,x.length≤s.length:=gR 46 s
 generalize aA 46 s=parts at hq rX hlen
 have Hq:=hid hq
 have Hsp:=hid rX
 have Hlen:=hid hlen
 clear hq rX hlen
 by_cases h4:parts.length=4
 ·have hx:((parts.length:Int) != 4)=false:=by simp[h4]
  go_enter Tryz.func239,Tryz.ntmps239
  go_wp2_with fail
  refine Hsp.out.mono ?_
  rintro e w1 ⟨rfl,gH⟩
  have Hrow:Hid (Ab w1 w.heap.size parts):=hid (by rw[gH];have:=Ab.alloc w parts [] 9;simpa using this)
  have Hw1:Hid (Below w.heap.size w w1):=hid (by rw[gH];exact(Below.refl _ _).alloc (zKW _) _)
  clear gH
  go_wp2_with fail
  go_loop [15] (fun i=>∃ k:Nat,k≤4∧i=.int .i64 k∧(parts.take k).all eU=true) (fun i=>4 - (intOf i).toNat)
  case atStart=>exact⟨0,by omega,rfl,rfl⟩
  case round =>
   obtain⟨k,hk,rfl,a6⟩:=hrel
   have Hall:=hid a6
   clear a6
   by_cases aC:k<4
   ·have ug:k<parts.length:=by omega
    have mG:=Hrow.out k ug
    have hln:=Hlen.out parts[k] (zLo ug)
    have Gb:eU parts[k]=((aY 255 parts[k]).2==0):=rfl
    cases hc:eU parts[k]
    ·have Ha:=hid (dj ug hc)
     have hn:((aY 255 parts[k]).2 != 0)=true:=by rw[hc]at Gb;simp only[bne];rw[← Gb];rfl
     clear Gb
     go_wp2_with (go_at_call 223;refine(kH _ 255 _ (by omega) (by omega)).mono ?_;rintro e w' ⟨rfl,rfl⟩)
     go_ret
     exact⟨bc (by rw[Hq.out,Ha.out];simp),Hw1.out⟩
    ·have Hn:=hid (aX ug Hall.out hc)
     have hn:((aY 255 parts[k]).2 != 0)=false:=by rw[hc]at Gb;simp only[bne];rw[← Gb];rfl
     clear Gb
     go_wp2_with (go_at_call 223;refine(kH _ 255 _ (by omega) (by omega)).mono ?_;rintro e w' ⟨rfl,rfl⟩)
     go_round
     case rel=>exact⟨k+1,by omega,by go_num,Hn.out⟩
     case measure=>simp[intOf];omega
   ·have a6:=Hall.out
    rw[zKU (by omega)]at a6
    have Ha:=hid a6
    clear a6 Hall
    go_wp2_with fail
    go_ret
    exact⟨bc (by rw[Hq.out,Ha.out,h4];rfl),Hw1.out⟩
 ·have hx:((parts.length:Int) != 4)=true:=by simp;omega
  go_enter Tryz.func239,Tryz.ntmps239
  go_wp2_with fail
  refine Hsp.out.mono ?_
  rintro e w1 ⟨rfl,gH⟩
  have Hw1:Hid (Below w.heap.size w w1):=hid (by rw[gH];exact(Below.refl _ _).alloc (zKW _) _)
  clear gH
  go_wp2_with fail
  go_ret
  exact⟨bc (by rw[Hq.out];simp[h4]),Hw1.out⟩
theorem F7 (s:Bytes)(w:World)(hE:Env w)(hs:s.length<4294967281) :
 Calls Tryz.prog 183 #[(Value.string ⟨zKS (s)⟩)] w fun e w'=>e=.returned (.tuple #[(Value.string ⟨zKS ((bF s).1)⟩),.int .i64 (bF s).2])∧Below w.heap.size w w':=by
 cases h1:s.isEmpty
 ·by_cases h2:253<s.length
  ·have Hq:=hid (show bF s=([],5) by unfold bF;simp[h1,h2])
   go_enter Tryz.func183,Tryz.ntmps183
   go_wp2_with fail
   go_ret2
   rw[Hq.out]
   exact⟨rfl,Below.refl _ _⟩
  ·cases h3:ipv4 s
   ·cases h4:eD s
    ·have Hq:=hid (show bF s=([],50) by unfold bF;simp[h1,h2,h3,h4])
     go_enter Tryz.func183,Tryz.ntmps183
     go_wp2_with (first
      | (go_at_call 239;refine(nJ _ _ hE hs).mono ?_;rintro e w1 ⟨rfl,gH⟩)
      | (go_at_call 240;refine(yc _ _ (hE.below ‹_›) hs).mono ?_;rintro e w2 ⟨rfl,fA⟩))
     go_ret2
     rw[Hq.out]
     exact⟨rfl,bS ‹_› ‹_›⟩
    ·have Hq:=hid (show bF s=(lower s,0) by unfold bF;simp[h1,h2,h3,h4])
     go_enter Tryz.func183,Tryz.ntmps183
     go_wp2_with (first
      | (go_at_call 239;refine(nJ _ _ hE hs).mono ?_;rintro e w1 ⟨rfl,gH⟩)
      | (go_at_call 240;refine(yc _ _ (hE.below gH) hs).mono ?_;rintro e w2 ⟨rfl,fA⟩)
      | (go_at_call 175;refine(nU _ _ (by omega)).mono ?_;rintro e w3 ⟨rfl,hw3⟩))
     go_ret2
     rw[Hq.out]
     exact⟨rfl,bS (bS gH fA) hw3⟩
   ·have Hq:=hid (show bF s=(lower s,0) by unfold bF;simp[h1,h2,h3])
    go_enter Tryz.func183,Tryz.ntmps183
    go_wp2_with (first
     | (go_at_call 239;refine(nJ _ _ hE hs).mono ?_;rintro e w1 ⟨rfl,gH⟩)
     | (go_at_call 175;refine(nU _ _ (by omega)).mono ?_;rintro e w3 ⟨rfl,hw3⟩))
    go_ret2
    rw[Hq.out]
    exact⟨rfl,bS gH hw3⟩
 ·have Hq:=hid (show bF s=([],3) by unfold bF;simp[h1])
  go_enter Tryz.func183,Tryz.ntmps183
  go_wp2_with fail
  go_ret2
  rw[Hq.out]
  exact⟨rfl,Below.refl _ _⟩
open Go.RowKit Go.Sort Wf
attribute [local go_sem] dX dK get_list
theorem F6 (s:Bytes)(w:World)(hs:s.length≤9223372036854775807) :
 Calls Tryz.prog 184 #[(Value.string ⟨zKS (s)⟩)] w fun e w'=>e=.returned (.tuple #[.int .i64 (iL s).1,.int .i64 (iL s).2])∧w=w':=by
 have hle:=lW 65535 s
 have hq:iL s=if (aY 65535 s).2≠0∨(aY 65535 s).1=0 then(0,51) else(((aY 65535 s).1:Int),0):=rfl
 have hc:=kH s 65535 w (by omega) (by omega)
 generalize aY 65535 s=np at hle hq hc
 obtain⟨n,e⟩:=np
 simp only at hle hq hc
 have Hc:=hid hc
 clear hc
 by_cases he:e=0
 ·subst he
  by_cases hn:n=0
  ·rw[if_pos (Or.inr hn)]at hq
   have Hq:=hid hq
   have hx:((n:Int)==0)=true:=by simp[hn]
   clear hq hn
   go_enter Tryz.func184,Tryz.ntmps184
   go_wp2_with fail
   refine Hc.out.mono ?_
   rintro e w' ⟨rfl,rfl⟩
   go_wp2_with fail
   go_ret2
   rw[Hq.out]
   exact⟨rfl,rfl⟩
  ·rw[if_neg (by simp[hn])]at hq
   have Hq:=hid hq
   have hx:((n:Int)==0)=false:=by simp[hn]
   clear hq hn
   go_enter Tryz.func184,Tryz.ntmps184
   go_wp2_with fail
   refine Hc.out.mono ?_
   rintro e w' ⟨rfl,rfl⟩
   go_wp2_with fail
   go_ret2
   rw[Hq.out]
   exact⟨rfl,rfl⟩
 ·rw[if_pos (Or.inl he)]at hq
  have Hq:=hid hq
  have hx:(e != 0)=true:=by simp[he]
  clear hq
  go_enter Tryz.func184,Tryz.ntmps184
  go_wp2_with fail
  refine Hc.out.mono ?_
  rintro e w' ⟨rfl,rfl⟩
  go_wp2_with fail
  go_ret2
  rw[Hq.out]
  exact⟨rfl,rfl⟩
theorem D4 (s:Bytes)(w:World)(hE:Env w)(hs:s.length<4294967281) :
 Calls Tryz.prog 113 #[(Value.string ⟨zKS (s)⟩)] w fun e w'=>e=.returned (.tuple #[.agg #[(Value.string ⟨zKS ((aF s).1.1)⟩),.int .i64 (aF s).1.2],.int .i64 (aF s).2])∧Below w.heap.size w w':=by
 have jL:=iw 58 s
 have hct:=fun w hE=>EE s 58 w hE hs
 have hq:aF s=bZ (bF (aL 58 s).1) (aL 58 s).2.2 (iL (aL 58 s).2.1):=rfl
 generalize aL 58 s=C at jL hct hq
 obtain⟨first,rest,colon⟩:=C
 simp only at jL hct hq
 have hh:=fun w hE=>F7 first w hE (by omega)
 have hp:=fun w=>F6 rest w (by omega)
 generalize bF first=H at hq hh
 generalize iL rest=P at hq hp
 obtain⟨h,e⟩:=H
 obtain⟨p,f⟩:=P
 simp only at hh hp
 have Hct:=hid hct
 have Hh:=hid hh
 have Hp:=hid hp
 clear hct hh hp jL
 have ha:=dG w (.cells #[(Value.string ⟨zKS ([])⟩),.int .i64 0] 24)
 have Ee:Below w.heap.size w (w.alloc (.cells #[(Value.string ⟨zKS ([])⟩),.int .i64 0] 24)):=(Below.refl _ _).alloc (zKW _) _
 generalize Ik:w.alloc (.cells #[(Value.string ⟨zKS ([])⟩),.int .i64 0] 24)=wa at ha Ee
 have Ha:=hid ha
 have Hba:=hid Ee
 have Hwa:=hid Ik
 clear ha Ee Ik
 by_cases he:e=0
 ·subst he
  cases colon
  ·have Hq:=hid (show aF s=((h,0),0) from hq)
   clear hq
   go_enter Tryz.func113,Tryz.ntmps113
   go_wp2_with fail
   rw[Hwa.out]
   refine(Hct.out _ (hE.below Hba.out)).mono ?_
   rintro e w1 ⟨rfl,n,gH⟩
   have Hw1:Hid (Below w.heap.size w w1):=hid (by rw[gH];exact below_drewN Hba.out _)
   have Ha1:Hid (w1.heap[w.heap.size]? = some (.cells #[(Value.string ⟨zKS ([])⟩),.int .i64 0] 24 (0,0))):=hid (by rw[gH];exact Ha.out)
   clear gH
   go_wp2_with fail
   refine(Hh.out _ (hE.below Hw1.out)).mono ?_
   rintro e w2 ⟨rfl,fA⟩
   have Ha2:=hid ((fA.block _ (cE Ha1.out)).trans Ha1.out)
   have Hw2:=hid (bS Hw1.out fA)
   clear fA
   have aC:=cE Ha2.out
   have c0:=Lib.cell_of_heap Ha2.out 0
   have c1:=Lib.cell_of_heap Ha2.out 1
   have z0:=Lib.frozen_of_heap Ha2.out 0
   have z1:=Lib.frozen_of_heap Ha2.out 1
   go_wp2_with fail
   refine bodyPost_ret (v:=.tuple #[.agg #[(Value.string ⟨zKS (h)⟩),.int .i64 0],.int .i64 0]) (by simp[results,Tryz.results113,go_sem,c0,c1,aC]) rfl ⟨?_,?_⟩
   ·rw[Hq.out]
   ·repeat (first|exact Hw2.out | (refine Below.setCell (p:=⟨_,_,none⟩) ?_ (by simp <;> omega) _) | (refine Below.alloc ?_ (by simp <;> omega) _) | refine Below.drew ?_)
  ·by_cases hf:f=0
   ·subst hf
    by_cases mN:p=443
    ·have Hq:=hid (show aF s=((h,0),0) by rw[hq];unfold bZ;simp[mN])
     have hx:(p==443)=true:=by simp[mN]
     clear hq mN
     go_enter Tryz.func113,Tryz.ntmps113
     go_wp2_with fail
     rw[Hwa.out]
     refine(Hct.out _ (hE.below Hba.out)).mono ?_
     rintro e w1 ⟨rfl,n,gH⟩
     have Hw1:Hid (Below w.heap.size w w1):=hid (by rw[gH];exact below_drewN Hba.out _)
     have Ha1:Hid (w1.heap[w.heap.size]? = some (.cells #[(Value.string ⟨zKS ([])⟩),.int .i64 0] 24 (0,0))):=hid (by rw[gH];exact Ha.out)
     clear gH
     go_wp2_with fail
     refine(Hh.out _ (hE.below Hw1.out)).mono ?_
     rintro e w2 ⟨rfl,fA⟩
     have Ha2:=hid ((fA.block _ (cE Ha1.out)).trans Ha1.out)
     have Hw2:=hid (bS Hw1.out fA)
     clear fA
     have aC:=cE Ha2.out
     have c0:=Lib.cell_of_heap Ha2.out 0
     have c1:=Lib.cell_of_heap Ha2.out 1
     have z0:=Lib.frozen_of_heap Ha2.out 0
     have z1:=Lib.frozen_of_heap Ha2.out 1
     go_wp2_with (go_at_call 184;refine(Hp.out _).mono ?_;rintro e w3 ⟨rfl,rfl⟩)
     refine bodyPost_ret (v:=.tuple #[.agg #[(Value.string ⟨zKS (h)⟩),.int .i64 0],.int .i64 0]) (by simp[results,Tryz.results113,go_sem,c0,c1,aC]) rfl ⟨?_,?_⟩
     ·rw[Hq.out]
     ·repeat (first|exact Hw2.out | (refine Below.setCell (p:=⟨_,_,none⟩) ?_ (by simp <;> omega) _) | (refine Below.alloc ?_ (by simp <;> omega) _) | refine Below.drew ?_)
    ·have Hq:=hid (show aF s=((h,p),0) by rw[hq];unfold bZ;simp[mN])
     have hx:(p==443)=false:=by simp[mN]
     clear hq mN
     go_enter Tryz.func113,Tryz.ntmps113
     go_wp2_with fail
     rw[Hwa.out]
     refine(Hct.out _ (hE.below Hba.out)).mono ?_
     rintro e w1 ⟨rfl,n,gH⟩
     have Hw1:Hid (Below w.heap.size w w1):=hid (by rw[gH];exact below_drewN Hba.out _)
     have Ha1:Hid (w1.heap[w.heap.size]? = some (.cells #[(Value.string ⟨zKS ([])⟩),.int .i64 0] 24 (0,0))):=hid (by rw[gH];exact Ha.out)
     clear gH
     go_wp2_with fail
     refine(Hh.out _ (hE.below Hw1.out)).mono ?_
     rintro e w2 ⟨rfl,fA⟩
     have Ha2:=hid ((fA.block _ (cE Ha1.out)).trans Ha1.out)
     have Hw2:=hid (bS Hw1.out fA)
     clear fA
     have aC:=cE Ha2.out
     have c0:=Lib.cell_of_heap Ha2.out 0
     have c1:=Lib.cell_of_heap Ha2.out 1
     have z0:=Lib.frozen_of_heap Ha2.out 0
     have z1:=Lib.frozen_of_heap Ha2.out 1
     go_wp2_with (go_at_call 184;refine(Hp.out _).mono ?_;rintro e w3 ⟨rfl,rfl⟩)
     refine bodyPost_ret (v:=.tuple #[.agg #[(Value.string ⟨zKS (h)⟩),.int .i64 p],.int .i64 0]) (by simp[results,Tryz.results113,go_sem,c0,c1,aC]) rfl ⟨?_,?_⟩
     ·rw[Hq.out]
     ·repeat (first|exact Hw2.out | (refine Below.setCell (p:=⟨_,_,none⟩) ?_ (by simp <;> omega) _) | (refine Below.alloc ?_ (by simp <;> omega) _) | refine Below.drew ?_)
   ·have Hq:=hid (show aF s=(([],0),f) by rw[hq];unfold bZ;simp[hf])
    have hx:(f != 0)=true:=by simp[hf]
    clear hq hf
    go_enter Tryz.func113,Tryz.ntmps113
    go_wp2_with fail
    rw[Hwa.out]
    refine(Hct.out _ (hE.below Hba.out)).mono ?_
    rintro e w1 ⟨rfl,n,gH⟩
    have Hw1:Hid (Below w.heap.size w w1):=hid (by rw[gH];exact below_drewN Hba.out _)
    have Ha1:Hid (w1.heap[w.heap.size]? = some (.cells #[(Value.string ⟨zKS ([])⟩),.int .i64 0] 24 (0,0))):=hid (by rw[gH];exact Ha.out)
    clear gH
    go_wp2_with fail
    refine(Hh.out _ (hE.below Hw1.out)).mono ?_
    rintro e w2 ⟨rfl,fA⟩
    have Ha2:=hid ((fA.block _ (cE Ha1.out)).trans Ha1.out)
    have Hw2:=hid (bS Hw1.out fA)
    clear fA
    have aC:=cE Ha2.out
    have c0:=Lib.cell_of_heap Ha2.out 0
    have c1:=Lib.cell_of_heap Ha2.out 1
    have z0:=Lib.frozen_of_heap Ha2.out 0
    have z1:=Lib.frozen_of_heap Ha2.out 1
    go_wp2_with (go_at_call 184;refine(Hp.out _).mono ?_;rintro e w3 ⟨rfl,rfl⟩)
    refine bodyPost_ret (v:=.tuple #[.agg #[(Value.string ⟨zKS ([])⟩),.int .i64 0],.int .i64 f]) (by simp[results,Tryz.results113,go_sem,c0,c1,aC]) rfl ⟨?_,?_⟩
    ·rw[Hq.out]
    ·repeat (first|exact Hw2.out | (refine Below.setCell (p:=⟨_,_,none⟩) ?_ (by simp <;> omega) _) | (refine Below.alloc ?_ (by simp <;> omega) _) | refine Below.drew ?_)
 ·have hx:(e != 0)=true:=by simp[he]
  have Hq:=hid (show aF s=(([],0),e) by rw[hq];unfold bZ;rw[if_pos he])
  clear hq he
  go_enter Tryz.func113,Tryz.ntmps113
  go_wp2_with fail
  rw[Hwa.out]
  refine(Hct.out _ (hE.below Hba.out)).mono ?_
  rintro e w1 ⟨rfl,n,gH⟩
  have Hw1:Hid (Below w.heap.size w w1):=hid (by rw[gH];exact below_drewN Hba.out _)
  have Ha1:Hid (w1.heap[w.heap.size]? = some (.cells #[(Value.string ⟨zKS ([])⟩),.int .i64 0] 24 (0,0))):=hid (by rw[gH];exact Ha.out)
  clear gH
  go_wp2_with fail
  refine(Hh.out _ (hE.below Hw1.out)).mono ?_
  rintro e w2 ⟨rfl,fA⟩
  have Ha2:=hid ((fA.block _ (cE Ha1.out)).trans Ha1.out)
  have Hw2:=hid (bS Hw1.out fA)
  clear fA
  have aC:=cE Ha2.out
  have c0:=Lib.cell_of_heap Ha2.out 0
  have c1:=Lib.cell_of_heap Ha2.out 1
  have z0:=Lib.frozen_of_heap Ha2.out 0
  have z1:=Lib.frozen_of_heap Ha2.out 1
  go_wp2_with fail
  refine bodyPost_ret (v:=.tuple #[.agg #[(Value.string ⟨zKS ([])⟩),.int .i64 0],.int .i64 e]) (by simp[results,Tryz.results113,go_sem,c0,c1]) rfl ⟨?_,?_⟩
  ·rw[Hq.out]
  ·repeat (first|exact Hw2.out | (refine Below.setCell (p:=⟨_,_,none⟩) ?_ (by simp <;> omega) _) | (refine Below.alloc ?_ (by simp <;> omega) _) | refine Below.drew ?_)
theorem Fz (B a:Nat)(ha:a≤19)(W:World):(Instr.sliceAt 267 (.pointer (some ⟨B,0,none⟩)) (some (.int .i64 a)) none none).run Tryz.prog W=.ok (.slice (some ⟨B,a,none⟩) (20 - a) (20 - a)) W:=by
 have yi:Tryz.prog.arrayLen 267=20:=by kernel_rfl
 have he:Tryz.prog.elem 267=5:=by kernel_rfl
 have hu:Tryz.prog.underlying 267=some (.array (Tryz.prog.arrayLen 267) (Tryz.prog.elem 267)):=by kernel_rfl
 rw[run_sliceAt_array_l W _ ⟨B,0,none⟩ hu .i64 a (by omega) (by rw[yi];omega),he,yi,Tryz.sizeOf5]
 have:¬ (20=a):=by omega
 simp[Result.andThen,slicedAt,CN,this]
theorem oH (n:Nat)(w:World)(hn:n≤18446744073709551615) :
 Calls Tryz.prog 185 #[.int .u64 n] w fun e w'=>e=.returned (Value.string ⟨zKS (bD n)⟩)∧Below w.heap.size w w':=by
 have hlen:(bD n).length≤20:=bP 19 n (by omega)
 go_enter Tryz.func185,Tryz.ntmps185
 go_wp2_with fail
 go_loopw [0,4] (fun v i wr=>∃ (k a:Nat) (x ds:Bytes),v=.int .u64 k∧i=.int .i64 a∧k≤18446744073709551615∧a≤19∧gO wr w.heap.size (x++ds)∧x.length=a+1∧ds.length=19 - a∧bD k++ds=bD n∧(bD k).length≤a+1∧Below w.heap.size w wr) (fun v _ _=>(intOf v).toNat)
 case atStart =>
  refine⟨n,19,List.replicate 20 0,[],rfl,rfl,hn,by omega,?_,by simp,rfl,by simp,hlen,(Below.refl _ _).alloc (zKW _) _⟩
  exact⟨[],_,(0,0),dG _ _,Or.inr (by simp)⟩
 case round =>
  obtain⟨k,a,x,ds,rfl,rfl,hk,ha,gi,hx,hds,heq,hl,hw⟩:=hrel
  obtain⟨y,z,rfl,hy⟩:=snoc_of hx
  have e:y++[z]++ds=y++z::ds:=by simp
  rw[e]at gi
  obtain⟨cv,mG⟩:∃ q:Int,wr.cell? ⟨w.heap.size,a,none⟩=some (.int .u8 q):=⟨_,gi.cell (k:=a) (by simp;omega)⟩
  have hfz:=gi.frozen (k:=a) (by simp;omega)
  have Hrow:=hid gi
  have Heq:=hid heq
  have Hw:=hid hw
  have Hy:=hid hy
  have Hds:=hid hds
  clear gi heq hw hy hds hx e
  by_cases dH:k<10
  ·have jn:=Hrow.out.set (k:=a) (by have:=Hy.out;simp;omega) (oQ k)
   have dL:(y++z::ds).set a (oQ k)=y++(oQ k)::ds:=by rw[← Hy.out];exact EB y z _ ds
   rw[dL,nQ dH]at jn
   have iN:=fun cap=>jn.backAt Hy.out cap
   have tj:((oQ k)::ds).length=20 - a:=by have:=Hds.out;simp;omega
   rw[tj]at iN
   have Hds2:=hid (show bD n=(oQ k)::ds by rw[← Heq.out,e7 dH];rfl)
   have oq:=Fz w.heap.size a ha
   clear jn dL tj
   go_wp2_with fail
   go_ret
   exact⟨iQ Hds2.out.symm,Hw.out.setCell (p:=⟨w.heap.size,a,none⟩) (zKW _) _⟩
  ·have jn:=Hrow.out.set (k:=a) (by have:=Hy.out;simp;omega) (oQ (k % 10))
   have dL:(y++z::ds).set a (oQ (k % 10))=y++(oQ (k % 10))::ds:=by rw[← Hy.out];exact EB y z _ ds
   rw[dL,nQ (show k % 10<10 by omega)]at jn
   have Hst:=hid jn
   have Heq2:=hid (show bD (k / 10)++(oQ (k % 10))::ds=bD n by rw[← Heq.out,jS dH];simp)
   have jZ:=iK dH
   have hp2:=wi (k / 10)
   have Hl2:=hid jZ
   clear jn dL jZ
   go_wp2_with fail
   have h1:=Hl2.out
   refine⟨⟨k / 10,a - 1,y,_,congrArg (Value.int .u64) (by omega),congrArg (Value.int .i64) (by omega),by omega,by omega,Hst.out,by have:=Hy.out;omega,by have:=Hds.out;simp;omega,Heq2.out,by omega,Hw.out.setCell (p:=⟨w.heap.size,a,none⟩) (zKW _) _⟩,?_⟩
   simp[intOf];omega
theorem neg_u64 (p:Int)(h:p<0)(h1:-9223372036854775808≤p):IntKind.u64.wrap (-(IntKind.u64.wrap p))=(p.natAbs:Int):=by
 simp only[IntKind.wrap,IntKind.signed,IntKind.bits]
 simp
 omega
theorem B8 (h:Bytes)(p:Int)(w:World)(hh:h.length≤4611686018427387904)(h1:-9223372036854775808≤p)(h2:p≤9223372036854775807) :
 Calls Tryz.prog 114 #[.agg #[(Value.string ⟨zKS (h)⟩),.int .i64 p]] w fun e w'=>e=.returned (Value.string ⟨zKS (aU h p)⟩)∧Below w.heap.size w w':=by
 have ha:=dG w (.cells #[(Value.string ⟨zKS (h)⟩),.int .i64 p] 24)
 have Ee:Below w.heap.size w (w.alloc (.cells #[(Value.string ⟨zKS (h)⟩),.int .i64 p] 24)):=(Below.refl _ _).alloc (zKW _) _
 generalize Ik:w.alloc (.cells #[(Value.string ⟨zKS (h)⟩),.int .i64 p] 24)=wa at ha Ee
 have aC:=cE ha
 have c0:wa.cell? ⟨w.heap.size,0,none⟩=some (Value.string ⟨zKS (h)⟩):=Lib.cell_of_heap ha 0
 have c1:wa.cell? ⟨w.heap.size,1,none⟩=some (.int .i64 p):=Lib.cell_of_heap ha 1
 have Hba:=hid Ee
 have Hwa:=hid Ik
 clear ha Ee Ik
 by_cases h0:p=0
 ·subst h0
  have Hq:=hid (show aU h 0=h from if_pos rfl)
  go_enter Tryz.func114,Tryz.ntmps114
  go_wp2_with fail
  rw[Hwa.out]
  go_wp2_with fail
  go_ret
  exact⟨iQ Hq.out.symm,Hba.out⟩
 ·have hx:(p==0)=false:=by simp[h0]
  by_cases D5:p<0
  ·have Hq:=hid (show aU h p=h++[58,45]++bD p.natAbs by unfold aU;rw[if_neg h0,if_pos D5])
   clear h0
   go_enter Tryz.func114,Tryz.ntmps114
   go_wp2_with fail
   rw[Hwa.out]
   go_wp2_with fail
   have hd:=bP 19 p.natAbs (by omega)
   have hu:=neg_u64 p D5 h1
   have n1:¬ 9223372036854775807<h.length+2:=by omega
   have n2:¬ 9223372036854775807<h.length+2+(bD p.natAbs).length:=by omega
   have F4:p.natAbs≤18446744073709551615:=by omega
   have k0:=cell_regrown c0
   have k1:=cell_regrown c1
   clear c0 c1 hx
   refine wp_region_quiet_below (by kernel_rfl) (by kernel_rfl) ?_
   repeat (quiet_step ((go_at_call 185;exact Calls.regrown_of (oH _ _ F4))))
   refine wpQuiet_nil ?_
   intro _ hw'
   obtain⟨⟨dq,osq⟩,hw''⟩:=hw'
   subst hw''
   have bU:=below_regrown wa dq osq
   generalize grow (redrawn wa dq) osq=wq at bU ⊢
   clear hu n1 n2 k0 k1
   go_wp2_with fail
   go_ret
   exact⟨iQ (by rw[Hq.out];simp),bS Hba.out bU⟩
  ·have Hq:=hid (show aU h p=h++[58]++bD p.natAbs by unfold aU;rw[if_neg h0,if_neg D5])
   clear h0
   go_enter Tryz.func114,Tryz.ntmps114
   go_wp2_with fail
   rw[Hwa.out]
   go_wp2_with fail
   have hd:=bP 19 p.natAbs (by omega)
   have hu:IntKind.u64.wrap p=(p.natAbs:Int):=(u64_in (show 0≤p by omega) h2).trans (by omega)
   have n1:¬ 9223372036854775807<h.length+1:=by omega
   have n2:¬ 9223372036854775807<h.length+1+(bD p.natAbs).length:=by omega
   have F4:p.natAbs≤18446744073709551615:=by omega
   have k0:=cell_regrown c0
   have k1:=cell_regrown c1
   clear c0 c1 hx
   refine wp_region_quiet_below (by kernel_rfl) (by kernel_rfl) ?_
   repeat (quiet_step ((go_at_call 185;exact Calls.regrown_of (oH _ _ F4))))
   refine wpQuiet_nil ?_
   intro _ hw'
   obtain⟨⟨dq,osq⟩,hw''⟩:=hw'
   subst hw''
   have bU:=below_regrown wa dq osq
   generalize grow (redrawn wa dq) osq=wq at bU ⊢
   clear hu n1 n2 k0 k1
   go_wp2_with fail
   go_ret
   exact⟨iQ (by rw[Hq.out];simp),bS Hba.out bU⟩
end Go.Proofs.YtnmlimehgifadaaGreatDoor
namespace Wf
open Go Go.RowKit
theorem owns_lt {w:World}{base:Nat}{e:TypeId}{size:Nat}{v:Value}{n:Nat}{xs:List Value}(h:w.ownsRow base e size v n xs):∀ k,v.ownBlock=some k→base≤k∧k<w.heap.size :=
 (World.ownsRowF_of h).lt
theorem wp_append_one {P:Program}{ops:Array Oper}{rest:List Oper}{o:Oper}{a:Act}{Q:Exit→Act→World→Prop}{w0:World}(hgd:o.guard=none)(s x:Operand)(t:TypeId)
 (ho:o.op=.call { callee:=.builtin .append,args:=#[s,x],argTypes:=#[t,t] }) (e:TypeId) (z:Value) (bytes:Nat) (ht:P.underlying t=some (.slice e))
 (hinfo:(P.info? e).map (fun i=>(i.zero,i.size,i.bytes))=some (some z,1,bytes)) (hzs:z.cells.size=1)
 (B:Nat) (v:Value) (n:Nat) (xs:List Value) (hs:a.eval s=v) (qI:w0.ownsRow B e 1 v n xs) (u:Value) (T:TypeId)
 (hx:a.eval x=.slice (some ⟨w0.heap.size,0,none⟩) 1 1) (h1:u.oneCell'=true) (tP:n+1≤maxLen) (r6:(n+1) * bytes≤140737488355328) (hB:B≤w0.heap.size)
 (h:∀ v' w',w'.ownsRow B e 1 v' (n+1) (xs++[u])→Below B w0 w'→wpList P ops Q rest (a.put o.dst v') w'):wpList P ops Q (o::rest) a (w0.alloc (.cells #[u] T)):=by
 obtain⟨i,hi,hz0,EY,hz2⟩:=info_parts hinfo
 refine wpList_append_own _ hgd s x t ho B e i z 1 bytes ht hi hz0 EY hz2 hzs (by decide) v n xs hs (qI.alloc _) ⟨w0.heap.size,0,none⟩ 1 1 [u] hx rfl ?_ ?_ tP r6 (by simp;omega) ?_
 ·intro j y hy
  rcases j with _|j
  ·simp at hy;subst hy
   exact Go.Lib.cell_of_heap (dG _ _) 0
  ·simp at hy
 ·intro y hy;simp at hy;subst hy;exact h1
 ·intro v' w' h2 h3 _
  exact h v' w' h2 (((Below.refl B w0).alloc hB _).grown h3 (by simp;omega) (fun k hk=>(owns_lt qI k hk).1))
theorem vc {w:World}{B:Nat}{e:TypeId}{v:Value}{n:Nat}{xs:List Value}(h:w.ownsRow B e 1 v n xs)(hn:0<n) :
 ∃ g cap,v=.slice (some ⟨g,0,none⟩) n cap∧B≤g∧g<w.heap.size∧n≤cap∧cap≤maxLen∧xs.length=n∧∀ j,j<n→w.cell? ⟨g,j,none⟩=xs[j]? := by
 obtain⟨h1,h2⟩:=h
 rcases h2 with⟨_,h0⟩|⟨g,cap,cur,rfl,hg,hh,hc,hm,oa,ht⟩
 ·omega
 ·refine⟨g,cap,rfl,hg,(Array.getElem?_eq_some_iff.1 hh).1,hc,hm,by simpa using h1,fun j hj=>?_⟩
  have:=World.ownsRow.cellAt (w:=w) (base:=B) (e:=e) (size:=1) (g:=g) (n:=n) (cap:=cap) (xs:=xs) ⟨h1,.inr ⟨g,cap,cur,rfl,hg,hh,hc,hm,oa,ht⟩⟩ j (by omega)
  exact this
theorem Hg {a b:UInt8}(h:a≠b):((a.toNat:Int) != (b.toNat:Int))=true:=by
 rw[bne_iff_ne];intro e;exact h (zLr.1 (by omega))
end Wf
namespace Go.Proofs.YtnmlimehgifadaaGreatDoor
open Go.RowKit Go.Sort Wf
attribute [local go_sem] dX dK get_list
def RetStrs (w:World)(l:List Bytes)(e:Ending)(w':World):Prop:=∃ v,e=.returned v∧w'.ownsRow w.heap.size 9 1 v l.length (l.map na)∧Below w.heap.size w w'
theorem Tryz.EV:(Tryz.prog.info? 9).map (fun i=>(i.zero,i.size,i.bytes))=some (some (Value.string ⟨zKS ([])⟩),1,16):=by kernel_rfl
theorem sR (s:Bytes)(c:UInt8)(w:World)(hs:s.length≤1000000000) :
 Calls Tryz.prog 126 #[(Value.string ⟨zKS (s)⟩),.int .u8 c.toNat] w (RetStrs w (aA c s)):=by
 go_enter Tryz.func126,Tryz.ntmps126
 go_wp2_with fail
 go_loopw [5,6,7] (fun v f i wr=>∃ (L:List Bytes) (a k:Nat),f=.int .i64 a∧i=.int .i64 k∧a≤k∧k≤s.length∧k - a≤pre (·==c) (s.drop a)∧wr.ownsRow w.heap.size 9 1 v L.length (L.map na)∧L.length≤a∧L++aA c (s.drop a)=aA c s∧Below w.heap.size w wr) (fun _ _ i _=>s.length - (intOf i).toNat)
 case atStart=>exact⟨[],0,0,rfl,rfl,by omega,by omega,by omega,World.ownsRow_nil _ _ _ _,by simp,rfl,Below.refl _ _⟩
 case round =>
  obtain⟨L,a,k,rfl,rfl,hak,hks,dM,qI,hLa,heq,hw⟩:=hrel
  have Hown:=hid qI
  have Heq:=hid heq
  have Hw:=hid hw
  have Hpre:=hid dM
  clear qI heq hw dM
  by_cases aC:k<s.length
  ·have tj:(s.drop a).length=s.length - a:=by simp
   by_cases hc:s[k]=c
   ·have hx:=u8_eq hc
    have hp:pre (·==c) (s.drop a)=k - a:=by
     have h1:=Hpre.out
     rcases zK8 (k - a) (pre (·==c) (s.drop a)) with h|h
     ·have:=ib h (by omega)
      rw[List.getElem_drop]at this
      simp only[show a+(k - a)=k by omega]at this
      rw[hc]at this
      simp at this
     ·omega
    have hh:aA c (s.drop a)=(s.drop a).take (k - a)::aA c (s.drop (k+1)):=by
     have:=cT (c:=c) (s:=s.drop a) (by omega)
     rw[hp,List.drop_drop,show a+(k - a+1)=k+1 by omega]at this
     exact this
    have oq:List.drop a (List.take k s)=(s.drop a).take (k - a):=by rw[List.drop_take]
    have Hn:Hid ((L++[List.drop a (List.take k s)])++aA c (s.drop (k+1))=aA c s):=hid (by rw[← Heq.out,hh,oq];simp)
    clear hc hp hh oq tj
    have hwl:=hid (Hw.out.size)
    go_wp2_with (at_builtin;refine wp_append_one rfl _ _ 76 rfl 9 (Value.string ⟨zKS ([])⟩) 16 Tryz.underlying76 Tryz.EV rfl w.heap.size _ L.length (L.map na) rfl Hown.out (na (List.drop a (List.take k s))) _ rfl rfl (by unfold maxLen;omega) (by omega) hwl.out ?_;intro v' w' hown' hb')
    go_roundw
    case rel=>exact⟨L++[List.drop a (List.take k s)],k+1,k+1,by go_num,by go_num,by omega,by omega,by omega,by simpa using hown',by simp;omega,Hn.out,Hw.out.trans hb'⟩
    case measure=>simp[intOf];omega
   ·have hx:=Av hc
    have Hp:Hid (k+1 - a≤pre (·==c) (s.drop a)):=hid (by
     have h1:=Hpre.out
     rcases zK8 (k - a) (pre (·==c) (s.drop a)) with h|h
     ·omega
     ·have hq:pre (·==c) (s.drop a)=k - a:=by omega
      have:=gr (p:=(·==c)) (l:=s.drop a) (by omega)
      simp only[hq,List.getElem_drop,show a+(k - a)=k by omega]at this
      exact absurd (by simpa using this) hc)
    clear hc tj
    go_wp2_with fail
    go_roundw
    case rel=>exact⟨L,a,k+1,rfl,by go_num,by omega,by omega,Hp.out,Hown.out,by omega,Heq.out,Hw.out⟩
    case measure=>simp[intOf];omega
  ·have hm:=cC (c:=c) (s:=s.drop a) (by have:=Hpre.out;simp;omega)
   have Hn:Hid (L++[s.drop a]=aA c s):=hid (by rw[← Heq.out,hm])
   clear hm
   have hwl:=hid (Hw.out.size)
   go_wp2_with (at_builtin;refine wp_append_one rfl _ _ 76 rfl 9 (Value.string ⟨zKS ([])⟩) 16 Tryz.underlying76 Tryz.EV rfl w.heap.size _ L.length (L.map na) rfl Hown.out (na (s.drop a)) _ rfl rfl (by unfold maxLen;omega) (by omega) hwl.out ?_;intro v' w' hown' hb')
   go_ret
   exact⟨v',rfl,by rw[← Hn.out];simpa using hown',Hw.out.trans hb'⟩
theorem sQ (s:Bytes)(w:World)(hs:s.length≤9223372036854775807) :
 Calls Tryz.prog 202 #[(Value.string ⟨zKS (s)⟩)] w fun e w'=>e=.returned (.bool (br s))∧w=w':=by
 go_enter Tryz.func202,Tryz.ntmps202
 go_wp2_with fail
 go_loop [3] (fun i=>∃ k:Nat,k≤s.length∧i=.int .i64 k∧(s.take k).all ua=true) (fun i=>s.length - (intOf i).toNat)
 case atStart=>exact⟨0,by omega,rfl,rfl⟩
 case round =>
  obtain⟨k,hk,rfl,a6⟩:=hrel
  have Hall:=hid a6
  clear a6
  by_cases aC:k<s.length
  ·cases hc:ua s[k]
   ·have Ha:=hid (show br s=false by unfold br;rw[dj aC hc];simp)
    have hc':=hc
    unfold ua at hc'
    simp only[Bool.or_eq_false_iff]at hc'
    obtain⟨⟨c1,c2⟩,c3⟩:=hc'
    have c4:((s[k].toNat:Int) != 45)=true:=by
     have:s[k]≠45:=by simpa using c3
     rw[bne_iff_ne]
     intro h
     exact this (zLr.1 (by simp;omega))
    clear c3 hc
    go_wp2_with (first
     | (go_at_call 147;refine(hZ _ _).mono ?_;rintro e w' ⟨rfl,rfl⟩)
     | (go_at_call 148;refine(dA _ _).mono ?_;rintro e w' ⟨rfl,rfl⟩))
    go_ret
    exact⟨bc Ha.out.symm,rfl⟩
   ·have Hc:=hid (aX aC Hall.out hc)
    unfold ua at hc
    simp only[Bool.or_eq_true,beq_iff_eq]at hc
    rcases hc with(hc|hc) | hc
    ·go_wp2_with (first
     | (go_at_call 147;refine(hZ _ _).mono ?_;rintro e w' ⟨rfl,rfl⟩)
     | (go_at_call 148;refine(dA _ _).mono ?_;rintro e w' ⟨rfl,rfl⟩))
     go_round
     case rel=>exact⟨k+1,by omega,by go_num,Hc.out⟩
     case measure=>simp[intOf];omega
    ·cases hca:isAlpha s[k]
     all_goals
      go_wp2_with (first
       | (go_at_call 147;refine(hZ _ _).mono ?_;rintro e w' ⟨rfl,rfl⟩)
       | (go_at_call 148;refine(dA _ _).mono ?_;rintro e w' ⟨rfl,rfl⟩))
      go_round
      case rel=>exact⟨k+1,by omega,by go_num,Hc.out⟩
      case measure=>simp[intOf];omega
    ·have c4:((s[k].toNat:Int) != 45)=false:=by simp[hc]
     clear hc
     cases hca:isAlpha s[k] <;> cases Aj:isDigit s[k]
     all_goals
      go_wp2_with (first
       | (go_at_call 147;refine(hZ _ _).mono ?_;rintro e w' ⟨rfl,rfl⟩)
       | (go_at_call 148;refine(dA _ _).mono ?_;rintro e w' ⟨rfl,rfl⟩))
      go_round
      case rel=>exact⟨k+1,by omega,by go_num,Hc.out⟩
      case measure=>simp[intOf];omega
  ·have a6:=Hall.out
   rw[zKU (by omega)]at a6
   have Ha:=hid a6
   clear a6 Hall
   cases h1:s.isEmpty
   ·by_cases h2:63<s.length
    ·have Hq:=hid (show br s=false by unfold br;simp;omega)
     go_wp2_with fail
     go_ret
     exact⟨bc Hq.out.symm,rfl⟩
    ·have hl:0<s.length:=by cases s <;> simp at h1 ⊢
     have h2':s.length≤63:=by omega
     by_cases h3:s[0]=45
     ·have Hq:=hid (show br s=false by unfold br;rw[ln hl,h3];simp)
      have hx:((s[0].toNat:Int) != 45)=false:=by simp[h3]
      clear h3
      go_wp2_with fail
      go_ret
      exact⟨bc Hq.out.symm,rfl⟩
     ·have hx:((s[0].toNat:Int) != 45)=true:=Hg h3
      by_cases h4:s[s.length - 1]=45
      ·have Hq:=hid (show br s=false by
        unfold br
        rw[List.getLast?_eq_getElem?,zKY (by omega),h4];simp)
       have hy:((s[s.length - 1].toNat:Int) != 45)=false:=by simp[h4]
       clear h4 h3
       go_wp2_with fail
       go_ret
       exact⟨bc Hq.out.symm,rfl⟩
      ·have hy:((s[s.length - 1].toNat:Int) != 45)=true:=Hg h4
       have Hq:=hid ((vA s h1 (by omega) (by rw[zKY hl];simpa using h3) (by rw[zKY (by omega)];simpa using h4)).trans Ha.out)
       clear h3 h4
       go_wp2_with fail
       go_ret
       exact⟨bc Hq.out.symm,rfl⟩
   ·have Hq:=hid (show br s=false by unfold br;simp[h1])
    go_wp2_with fail
    go_ret
    exact⟨bc Hq.out.symm,rfl⟩
theorem iR (s:Bytes)(w:World)(hs:s.length≤1000000000) :
 Calls Tryz.prog 118 #[(Value.string ⟨zKS (s)⟩)] w fun e w'=>e=.returned (.bool (ipv4 s))∧Below w.heap.size w w':=by
 have hq:ipv4 s=((aA 46 s).length==4&&(aA 46 s).all eU):=rfl
 have rX:=sR s 46 w hs
 have hlen:∀ x∈aA 46 s,x.length≤s.length:=gR 46 s
 have bt:=rB 46 s
 generalize aA 46 s=parts at hq rX hlen bt
 have D0:=zLv.2 bt
 have Hq:=hid hq
 have Hsp:=hid rX
 have Hlen:=hid hlen
 clear hq rX hlen bt
 go_enter Tryz.func118,Tryz.ntmps118
 go_wp2_with fail
 refine Hsp.out.mono ?_
 rintro e w1 ⟨v,rfl,qI,gH⟩
 obtain⟨g,cap,rfl,hg,hgl,zI,hcm,_,fS⟩:=vc qI D0
 have Hw1:=hid gH
 have Hcells:=hid fS
 unfold maxLen at hcm
 clear gH fS qI
 go_wp2_with fail
 go_loop [12] (fun i=>∃ k:Nat,k≤parts.length∧i=.int .i64 k∧(parts.take k).all eU=true) (fun i=>parts.length - (intOf i).toNat)
 case atStart=>exact⟨0,by omega,rfl,rfl⟩
 case round =>
  obtain⟨k,hk,rfl,a6⟩:=hrel
  have Hall:=hid a6
  clear a6
  by_cases aC:k<parts.length
  ·have mG:w1.cell? ⟨g,k,none⟩=some (Value.string ⟨zKS (parts[k])⟩):=by
    rw[Hcells.out k aC]
    simp[aC,na]
   have hln:=Hlen.out parts[k] (zLo aC)
   have Gb:eU parts[k]=((aY 255 parts[k]).2==0):=rfl
   cases hc:eU parts[k]
   ·have Ha:=hid (dj aC hc)
    have hn:((aY 255 parts[k]).2 != 0)=true:=by rw[hc]at Gb;simp only[bne];rw[← Gb];rfl
    clear Gb
    go_wp2_with (go_at_call 150;refine(lU _ 255 _ (by omega) (by omega)).mono ?_;rintro e w' ⟨rfl,rfl⟩)
    go_ret
    exact⟨bc (by rw[Hq.out,Ha.out];simp),Hw1.out⟩
   ·have Hn:=hid (aX aC Hall.out hc)
    have hn:((aY 255 parts[k]).2 != 0)=false:=by rw[hc]at Gb;simp only[bne];rw[← Gb];rfl
    clear Gb
    go_wp2_with (go_at_call 150;refine(lU _ 255 _ (by omega) (by omega)).mono ?_;rintro e w' ⟨rfl,rfl⟩)
    go_round
    case rel=>exact⟨k+1,by omega,by go_num,Hn.out⟩
    case measure=>simp[intOf];omega
  ·have a6:=Hall.out
   rw[zKU (by omega)]at a6
   have Ha:=hid a6
   clear a6 Hall
   go_wp2_with fail
   go_ret
   exact⟨bc (by rw[Hq.out,Ha.out,Bool.and_true,zLc];simp;omega),Hw1.out⟩
theorem FU (l:List Bytes)(h:l≠[]):mB l=(l.all br&&!cf (l.getLast h)):=by
 induction l with
 | nil=>exact absurd rfl h
 | cons x l ih =>
   cases l with
   | nil=>simp[mB]
   | cons y r =>
     rw[mB,ih (by simp)]
     simp[Bool.and_assoc]
theorem uT (s:Bytes)(w:World)(hs:s.length≤1000000000) :
 Calls Tryz.prog 149 #[(Value.string ⟨zKS (s)⟩)] w fun e w'=>e=.returned (.bool (eD s))∧Below w.heap.size w w':=by
 have bt:=rB 46 s
 have rX:=sR s 46 w hs
 have hlen:∀ x∈aA 46 s,x.length≤s.length:=gR 46 s
 obtain⟨parts,D2⟩:∃ parts,aA 46 s=parts:=⟨_,rfl⟩
 rw[D2]at rX hlen bt
 have D0:=zLv.2 bt
 have hq:eD s=(parts.all br&&!cf (parts[parts.length - 1]'(by omega))):=by
  unfold eD
  rw[D2,FU _ bt,List.getLast_eq_getElem]
 clear D2
 have Hq:=hid hq
 have Hsp:=hid rX
 have Hlen:=hid hlen
 clear hq rX hlen
 go_enter Tryz.func149,Tryz.ntmps149
 go_wp2_with fail
 refine Hsp.out.mono ?_
 rintro e w1 ⟨v,rfl,qI,gH⟩
 obtain⟨g,cap,rfl,hg,hgl,zI,hcm,_,fS⟩:=vc qI D0
 have Hw1:=hid gH
 have Hcells:=hid fS
 unfold maxLen at hcm
 clear gH fS qI
 go_wp2_with fail
 go_loop [10] (fun i=>∃ k:Nat,k≤parts.length∧i=.int .i64 k∧(parts.take k).all br=true) (fun i=>parts.length - (intOf i).toNat)
 case atStart=>exact⟨0,by omega,rfl,rfl⟩
 case round =>
  obtain⟨k,hk,rfl,a6⟩:=hrel
  have Hall:=hid a6
  clear a6
  by_cases aC:k<parts.length
  ·have mG:w1.cell? ⟨g,k,none⟩=some (Value.string ⟨zKS (parts[k])⟩):=by
    rw[Hcells.out k aC]
    simp[aC,na]
   have hln:=Hlen.out parts[k] (zLo aC)
   cases hc:br parts[k]
   ·have Ha:=hid (dj aC hc)
    go_wp2_with (go_at_call 202;refine(sQ _ _ (by omega)).mono ?_;rintro e w' ⟨rfl,rfl⟩)
    go_ret
    exact⟨bc (by rw[Hq.out,Ha.out];simp),Hw1.out⟩
   ·have Hn:=hid (aX aC Hall.out hc)
    go_wp2_with (go_at_call 202;refine(sQ _ _ (by omega)).mono ?_;rintro e w' ⟨rfl,rfl⟩)
    go_round
    case rel=>exact⟨k+1,by omega,by go_num,Hn.out⟩
    case measure=>simp[intOf];omega
  ·have a6:=Hall.out
   rw[zKU (by omega)]at a6
   have Ha:=hid a6
   clear a6 Hall
   have mG:w1.cell? ⟨g,parts.length - 1,none⟩=some (Value.string ⟨zKS (parts[parts.length - 1]'(by omega))⟩):=by
    rw[Hcells.out (parts.length - 1) (by omega)]
    rw[List.getElem?_map,zKY (by omega)]
    rfl
   have hln:=Hlen.out (parts[parts.length - 1]'(by omega)) (zLo _)
   have wH:parts.length - 1<parts.length:=by omega
   go_wp2_with (go_at_call 203;refine(y6 _ _ (by omega)).mono ?_;rintro e w' ⟨rfl,rfl⟩)
   go_ret
   exact⟨bc (by rw[Hq.out,Ha.out,Bool.true_and]),Hw1.out⟩
open Go.RowKit Go.Sort Wf
attribute [local go_sem] dX dK get_list
theorem o6 (s:Bytes)(w:World)(hs:s.length≤1000000000) :
 Calls Tryz.prog 85 #[(Value.string ⟨zKS (s)⟩)] w fun e w'=>e=.returned (.tuple #[(Value.string ⟨zKS ((bF s).1)⟩),.int .i64 (bF s).2])∧Below w.heap.size w w':=by
 cases h1:s.isEmpty
 ·by_cases h2:253<s.length
  ·have Hq:=hid (show bF s=([],5) by unfold bF;simp[h1,h2])
   go_enter Tryz.func85,Tryz.ntmps85
   go_wp2_with fail
   go_ret2
   rw[Hq.out]
   exact⟨rfl,Below.refl _ _⟩
  ·cases h3:ipv4 s
   ·cases h4:eD s
    ·have Hq:=hid (show bF s=([],50) by unfold bF;simp[h1,h2,h3,h4])
     go_enter Tryz.func85,Tryz.ntmps85
     go_wp2_with (first
      | (go_at_call 118;refine(iR _ _ hs).mono ?_;rintro e w1 ⟨rfl,gH⟩)
      | (go_at_call 149;refine(uT _ _ hs).mono ?_;rintro e w2 ⟨rfl,fA⟩))
     go_ret2
     rw[Hq.out]
     exact⟨rfl,bS ‹_› ‹_›⟩
    ·have Hq:=hid (show bF s=(lower s,0) by unfold bF;simp[h1,h2,h3,h4])
     go_enter Tryz.func85,Tryz.ntmps85
     go_wp2_with (first
      | (go_at_call 118;refine(iR _ _ hs).mono ?_;rintro e w1 ⟨rfl,gH⟩)
      | (go_at_call 149;refine(uT _ _ hs).mono ?_;rintro e w2 ⟨rfl,fA⟩)
      | (go_at_call 60;refine(ns _ _ (by omega)).mono ?_;rintro e w3 ⟨rfl,hw3⟩))
     go_ret2
     rw[Hq.out]
     exact⟨rfl,bS (bS gH fA) hw3⟩
   ·have Hq:=hid (show bF s=(lower s,0) by unfold bF;simp[h1,h2,h3])
    go_enter Tryz.func85,Tryz.ntmps85
    go_wp2_with (first
     | (go_at_call 118;refine(iR _ _ hs).mono ?_;rintro e w1 ⟨rfl,gH⟩)
     | (go_at_call 60;refine(ns _ _ (by omega)).mono ?_;rintro e w3 ⟨rfl,hw3⟩))
    go_ret2
    rw[Hq.out]
    exact⟨rfl,bS gH hw3⟩
 ·have Hq:=hid (show bF s=([],3) by unfold bF;simp[h1])
  go_enter Tryz.func85,Tryz.ntmps85
  go_wp2_with fail
  go_ret2
  rw[Hq.out]
  exact⟨rfl,Below.refl _ _⟩
theorem DB (s:Bytes)(w:World)(hs:s.length≤9223372036854775807) :
 Calls Tryz.prog 86 #[(Value.string ⟨zKS (s)⟩)] w fun e w'=>e=.returned (.tuple #[.int .i64 (iL s).1,.int .i64 (iL s).2])∧w=w':=by
 have hle:=lW 65535 s
 have hq:iL s=if (aY 65535 s).2≠0∨(aY 65535 s).1=0 then(0,51) else(((aY 65535 s).1:Int),0):=rfl
 have hc:=lU s 65535 w (by omega) (by omega)
 generalize aY 65535 s=np at hle hq hc
 obtain⟨n,e⟩:=np
 simp only at hle hq hc
 have Hc:=hid hc
 clear hc
 by_cases he:e=0
 ·subst he
  by_cases hn:n=0
  ·rw[if_pos (Or.inr hn)]at hq
   have Hq:=hid hq
   have hx:((n:Int)==0)=true:=by simp[hn]
   clear hq hn
   go_enter Tryz.func86,Tryz.ntmps86
   go_wp2_with fail
   refine Hc.out.mono ?_
   rintro e w' ⟨rfl,rfl⟩
   go_wp2_with fail
   go_ret2
   rw[Hq.out]
   exact⟨rfl,rfl⟩
  ·rw[if_neg (by simp[hn])]at hq
   have Hq:=hid hq
   have hx:((n:Int)==0)=false:=by simp[hn]
   clear hq hn
   go_enter Tryz.func86,Tryz.ntmps86
   go_wp2_with fail
   refine Hc.out.mono ?_
   rintro e w' ⟨rfl,rfl⟩
   go_wp2_with fail
   go_ret2
   rw[Hq.out]
   exact⟨rfl,rfl⟩
 ·rw[if_pos (Or.inl he)]at hq
  have Hq:=hid hq
  have hx:(e != 0)=true:=by simp[he]
  clear hq
  go_enter Tryz.func86,Tryz.ntmps86
  go_wp2_with fail
  refine Hc.out.mono ?_
  rintro e w' ⟨rfl,rfl⟩
  go_wp2_with fail
  go_ret2
  rw[Hq.out]
  exact⟨rfl,rfl⟩
theorem A8 (s:Bytes)(w:World)(hs:s.length≤1000000000) :
 Calls Tryz.prog 35 #[(Value.string ⟨zKS (s)⟩)] w fun e w'=>e=.returned (.tuple #[.agg #[(Value.string ⟨zKS ((aF s).1.1)⟩),.int .i64 (aF s).1.2],.int .i64 (aF s).2])∧Below w.heap.size w w':=by
 have dM:pre (has [58] ·) s=pre (·==58) s:=by congr 1;funext c;simp[has];exact(Bool.beq_eq_decide_eq _ _).symm
 have hle:=cw (·==58) s
 have hq:aF s=bZ (bF (aL 58 s).1) (aL 58 s).2.2 (iL (aL 58 s).2.1):=rfl
 have ha:=dG w (.cells #[(Value.string ⟨zKS ([])⟩),.int .i64 0] 24)
 have Ee:Below w.heap.size w (w.alloc (.cells #[(Value.string ⟨zKS ([])⟩),.int .i64 0] 24)):=(Below.refl _ _).alloc (zKW _) _
 generalize Ik:w.alloc (.cells #[(Value.string ⟨zKS ([])⟩),.int .i64 0] 24)=wa at ha Ee
 have Ha:=hid ha
 have Hba:=hid Ee
 have Hwa:=hid Ik
 have Hpre:=hid dM
 clear ha Ee Ik dM
 by_cases hp:pre (·==58) s<s.length
 ·have hc:aL 58 s=(s.take (pre (·==58) s),s.drop (pre (·==58) s+1),true):=if_pos hp
  rw[hc]at hq
  simp only at hq
  have hh:=fun w=>o6 (s.take (pre (·==58) s)) w (by simp;omega)
  have GY:=fun w=>DB (s.drop (pre (·==58) s+1)) w (by simp;omega)
  have wH:(s.take (pre (·==58) s)).length≤s.length:=by rw[zLg];omega
  generalize bF (s.take (pre (·==58) s))=H at hq hh
  generalize iL (s.drop (pre (·==58) s+1))=P at hq GY
  obtain⟨h,e⟩:=H
  obtain⟨p,f⟩:=P
  simp only at hh GY
  have Hh:=hid hh
  have Hp:=hid GY
  have hkne:((pre (·==58) s:Int)==(s.length:Int))=false:=beq_eq_false_iff_ne.2 (by omega)
  clear hh GY hc
  generalize pre (·==58) s=k at Hh Hp hkne hp hle Hpre wH
  by_cases he:e=0
  ·subst he
   by_cases hf:f=0
   ·subst hf
    by_cases mN:p=443
    ·have Hq:=hid (show aF s=((h,0),0) by rw[hq];unfold bZ;simp[mN])
     have hx:(p==443)=true:=by simp[mN]
     clear hq mN
     go_enter Tryz.func35,Tryz.ntmps35
     go_wp2_with fail
     rw[Hwa.out]
     go_wp2_with fail
     refine(fY s [58] _ (by omega) (by decide)).mono ?_
     rintro e w1 ⟨rfl,rfl⟩
     rw[Hpre.out]
     go_wp2_with fail
     refine(Hh.out _).mono ?_
     rintro e w2 ⟨rfl,fA⟩
     have Ha2:=hid ((fA.block _ (cE Ha.out)).trans Ha.out)
     have Hw2:=hid (bS Hba.out fA)
     clear fA
     have aC:=cE Ha2.out
     have c0:=Lib.cell_of_heap Ha2.out 0
     have c1:=Lib.cell_of_heap Ha2.out 1
     have z0:=Lib.frozen_of_heap Ha2.out 0
     have z1:=Lib.frozen_of_heap Ha2.out 1
     go_wp2_with fail
     go_wp2_with (go_at_call 86;refine(Hp.out _).mono ?_;rintro e w3 ⟨rfl,rfl⟩)
     refine bodyPost_ret (v:=.tuple #[.agg #[(Value.string ⟨zKS (h)⟩),.int .i64 0],.int .i64 0]) (by simp[results,Tryz.results35,go_sem,c0,c1]) rfl ⟨?_,?_⟩
     ·rw[Hq.out]
     ·repeat (first|exact Hw2.out | (refine Below.setCell (p:=⟨_,_,none⟩) ?_ (by simp <;> omega) _) | (refine Below.alloc ?_ (by simp <;> omega) _) | refine Below.drew ?_)
    ·have Hq:=hid (show aF s=((h,p),0) by rw[hq];unfold bZ;simp[mN])
     have hx:(p==443)=false:=by simp[mN]
     clear hq mN
     go_enter Tryz.func35,Tryz.ntmps35
     go_wp2_with fail
     rw[Hwa.out]
     go_wp2_with fail
     refine(fY s [58] _ (by omega) (by decide)).mono ?_
     rintro e w1 ⟨rfl,rfl⟩
     rw[Hpre.out]
     go_wp2_with fail
     refine(Hh.out _).mono ?_
     rintro e w2 ⟨rfl,fA⟩
     have Ha2:=hid ((fA.block _ (cE Ha.out)).trans Ha.out)
     have Hw2:=hid (bS Hba.out fA)
     clear fA
     have aC:=cE Ha2.out
     have c0:=Lib.cell_of_heap Ha2.out 0
     have c1:=Lib.cell_of_heap Ha2.out 1
     have z0:=Lib.frozen_of_heap Ha2.out 0
     have z1:=Lib.frozen_of_heap Ha2.out 1
     go_wp2_with fail
     go_wp2_with (go_at_call 86;refine(Hp.out _).mono ?_;rintro e w3 ⟨rfl,rfl⟩)
     refine bodyPost_ret (v:=.tuple #[.agg #[(Value.string ⟨zKS (h)⟩),.int .i64 p],.int .i64 0]) (by simp[results,Tryz.results35,go_sem,c0,c1]) rfl ⟨?_,?_⟩
     ·rw[Hq.out]
     ·repeat (first|exact Hw2.out | (refine Below.setCell (p:=⟨_,_,none⟩) ?_ (by simp <;> omega) _) | (refine Below.alloc ?_ (by simp <;> omega) _) | refine Below.drew ?_)
   ·have Hq:=hid (show aF s=(([],0),f) by rw[hq];unfold bZ;simp[hf])
    have hx:(f != 0)=true:=by simp[hf]
    clear hq hf
    go_enter Tryz.func35,Tryz.ntmps35
    go_wp2_with fail
    rw[Hwa.out]
    go_wp2_with fail
    refine(fY s [58] _ (by omega) (by decide)).mono ?_
    rintro e w1 ⟨rfl,rfl⟩
    rw[Hpre.out]
    go_wp2_with fail
    refine(Hh.out _).mono ?_
    rintro e w2 ⟨rfl,fA⟩
    have Ha2:=hid ((fA.block _ (cE Ha.out)).trans Ha.out)
    have Hw2:=hid (bS Hba.out fA)
    clear fA
    have aC:=cE Ha2.out
    have c0:=Lib.cell_of_heap Ha2.out 0
    have c1:=Lib.cell_of_heap Ha2.out 1
    have z0:=Lib.frozen_of_heap Ha2.out 0
    have z1:=Lib.frozen_of_heap Ha2.out 1
    go_wp2_with fail
    go_wp2_with (go_at_call 86;refine(Hp.out _).mono ?_;rintro e w3 ⟨rfl,rfl⟩)
    refine bodyPost_ret (v:=.tuple #[.agg #[(Value.string ⟨zKS ([])⟩),.int .i64 0],.int .i64 f]) (by simp[results,Tryz.results35,go_sem,c0,c1]) rfl ⟨?_,?_⟩
    ·rw[Hq.out]
    ·repeat (first|exact Hw2.out | (refine Below.setCell (p:=⟨_,_,none⟩) ?_ (by simp <;> omega) _) | (refine Below.alloc ?_ (by simp <;> omega) _) | refine Below.drew ?_)
  ·have hx:(e != 0)=true:=by simp[he]
   have Hq:=hid (show aF s=(([],0),e) by rw[hq];unfold bZ;rw[if_pos he])
   clear hq he
   go_enter Tryz.func35,Tryz.ntmps35
   go_wp2_with fail
   rw[Hwa.out]
   go_wp2_with fail
   refine(fY s [58] _ (by omega) (by decide)).mono ?_
   rintro e w1 ⟨rfl,rfl⟩
   rw[Hpre.out]
   go_wp2_with fail
   refine(Hh.out _).mono ?_
   rintro e w2 ⟨rfl,fA⟩
   have Ha2:=hid ((fA.block _ (cE Ha.out)).trans Ha.out)
   have Hw2:=hid (bS Hba.out fA)
   clear fA
   have aC:=cE Ha2.out
   have c0:=Lib.cell_of_heap Ha2.out 0
   have c1:=Lib.cell_of_heap Ha2.out 1
   have z0:=Lib.frozen_of_heap Ha2.out 0
   have z1:=Lib.frozen_of_heap Ha2.out 1
   go_wp2_with fail
   refine bodyPost_ret (v:=.tuple #[.agg #[(Value.string ⟨zKS ([])⟩),.int .i64 0],.int .i64 e]) (by simp[results,Tryz.results35,go_sem,c0,c1]) rfl ⟨?_,?_⟩
   ·rw[Hq.out]
   ·repeat (first|exact Hw2.out | (refine Below.setCell (p:=⟨_,_,none⟩) ?_ (by simp <;> omega) _) | (refine Below.alloc ?_ (by simp <;> omega) _) | refine Below.drew ?_)
 ·have hc:aL 58 s=(s,[],false):=if_neg hp
  have hk:pre (·==58) s=s.length:=by omega
  rw[hc]at hq
  simp only at hq
  have hh:=fun w=>o6 s w hs
  generalize bF s=H at hq hh
  obtain⟨h,e⟩:=H
  simp only at hh
  have Hh:=hid hh
  have Hpre:=hid (Hpre.out.trans hk)
  clear hh hk hc
  by_cases he:e=0
  ·subst he
   have Hq:=hid (show aF s=((h,0),0) from hq)
   clear hq
   go_enter Tryz.func35,Tryz.ntmps35
   go_wp2_with fail
   rw[Hwa.out]
   go_wp2_with fail
   refine(fY s [58] _ (by omega) (by decide)).mono ?_
   rintro e w1 ⟨rfl,rfl⟩
   rw[Hpre.out]
   go_wp2_with fail
   refine(Hh.out _).mono ?_
   rintro e w2 ⟨rfl,fA⟩
   have Ha2:=hid ((fA.block _ (cE Ha.out)).trans Ha.out)
   have Hw2:=hid (bS Hba.out fA)
   clear fA
   have aC:=cE Ha2.out
   have c0:=Lib.cell_of_heap Ha2.out 0
   have c1:=Lib.cell_of_heap Ha2.out 1
   have z0:=Lib.frozen_of_heap Ha2.out 0
   have z1:=Lib.frozen_of_heap Ha2.out 1
   go_wp2_with fail
   refine bodyPost_ret (v:=.tuple #[.agg #[(Value.string ⟨zKS (h)⟩),.int .i64 0],.int .i64 0]) (by simp[results,Tryz.results35,go_sem,c0,c1]) rfl ⟨?_,?_⟩
   ·rw[Hq.out]
   ·repeat (first|exact Hw2.out | (refine Below.setCell (p:=⟨_,_,none⟩) ?_ (by simp <;> omega) _) | (refine Below.alloc ?_ (by simp <;> omega) _) | refine Below.drew ?_)
  ·have hx:(e != 0)=true:=by simp[he]
   have Hq:=hid (show aF s=(([],0),e) by rw[hq];unfold bZ;rw[if_pos he])
   clear hq he
   go_enter Tryz.func35,Tryz.ntmps35
   go_wp2_with fail
   rw[Hwa.out]
   go_wp2_with fail
   refine(fY s [58] _ (by omega) (by decide)).mono ?_
   rintro e w1 ⟨rfl,rfl⟩
   rw[Hpre.out]
   go_wp2_with fail
   refine(Hh.out _).mono ?_
   rintro e w2 ⟨rfl,fA⟩
   have Ha2:=hid ((fA.block _ (cE Ha.out)).trans Ha.out)
   have Hw2:=hid (bS Hba.out fA)
   clear fA
   have aC:=cE Ha2.out
   have c0:=Lib.cell_of_heap Ha2.out 0
   have c1:=Lib.cell_of_heap Ha2.out 1
   have z0:=Lib.frozen_of_heap Ha2.out 0
   have z1:=Lib.frozen_of_heap Ha2.out 1
   go_wp2_with fail
   refine bodyPost_ret (v:=.tuple #[.agg #[(Value.string ⟨zKS ([])⟩),.int .i64 0],.int .i64 e]) (by simp[results,Tryz.results35,go_sem,c0,c1]) rfl ⟨?_,?_⟩
   ·rw[Hq.out]
   ·repeat (first|exact Hw2.out | (refine Below.setCell (p:=⟨_,_,none⟩) ?_ (by simp <;> omega) _) | (refine Below.alloc ?_ (by simp <;> omega) _) | refine Below.drew ?_)
theorem qm (n:Nat)(w:World)(hn:n≤18446744073709551615) :
 Calls Tryz.prog 205 #[.int .u64 n] w fun e w'=>e=.returned (Value.string ⟨zKS (bD n)⟩)∧Below w.heap.size w w':=by
 have hlen:(bD n).length≤20:=bP 19 n (by omega)
 go_enter Tryz.func205,Tryz.ntmps205
 go_wp2_with fail
 go_loopw [0,3] (fun v o wr=>∃ (k:Nat) (ds:Bytes),v=.int .u64 k∧o=(Value.string ⟨zKS (ds)⟩)∧k≤18446744073709551615∧(bD k).length+ds.length≤20∧bD k++ds=bD n∧Below w.heap.size w wr) (fun v _ _=>(intOf v).toNat)
 case atStart=>exact⟨n,[],rfl,rfl,hn,by simpa using hlen,by simp,Below.refl _ _⟩
 case round =>
  obtain⟨k,ds,rfl,rfl,hk,hl,heq,hw⟩:=hrel
  have gi:∀ T,gO (wr.alloc (.cells #[.int .u8 (48+(k:Int) % 10)] T)) wr.heap.size [oQ (k % 10)]:=fun T =>
   ⟨[],T,(0,0),by rw[dG];simp only[List.map_cons,List.map_nil,List.append_nil,u8V,nQ (show k % 10<10 by omega)];rfl,Or.inr (by simp)⟩
  have iN:=fun T=>(gi T).back 1
  simp only[zLn,List.length_nil,Nat.zero_add]at iN
  have Heq:=hid heq
  have Hw:=hid hw
  clear heq hw gi
  by_cases dH:k<10
  ·have hz:((k:Int) / 10==0)=true:=by simp;omega
   have hm:k % 10=k:=by omega
   have Hn:=hid (show bD n=oQ (k % 10)::ds by rw[← Heq.out,e7 dH,hm];rfl)
   have hll:ds.length≤20:=by omega
   clear hm
   go_wp2_with fail
   go_ret
   refine⟨iQ (by rw[Hn.out]),?_⟩
   exact Hw.out.alloc Hw.out.size _
  ·have hz:((k:Int) / 10==0)=false:=by simp;omega
   have Hn:=hid (show bD (k / 10)++oQ (k % 10)::ds=bD n by rw[← Heq.out,jS dH];simp)
   have jZ:=iK dH
   have Hl2:=hid jZ
   have hll:ds.length≤20:=by omega
   clear jZ
   go_wp2_with fail
   have h1:=Hl2.out
   refine⟨⟨k / 10,oQ (k % 10)::ds,congrArg (Value.int .u64) (by omega),rfl,by omega,by simp;omega,Hn.out,Hw.out.alloc Hw.out.size _⟩,?_⟩
   simp[intOf];omega
theorem kF (p:Int)(w:World)(h1:-9223372036854775808≤p)(h2:p≤9223372036854775807) :
 Calls Tryz.prog 153 #[.int .i64 p] w fun e w'=>e=.returned (Value.string ⟨zKS ((if p<0 then [45] else [])++bD p.natAbs)⟩)∧Below w.heap.size w w':=by
 have hd:=bP 19 p.natAbs (by omega)
 by_cases D5:p<0
 ·rw[if_pos D5]
  have hp:-(p+1)+1=(p.natAbs:Int):=by omega
  have hnn:p.natAbs≤18446744073709551615:=by omega
  go_enter Tryz.func153,Tryz.ntmps153
  go_wp2_with fail
  clear hp
  go_wp2_with (go_at_call 205;refine(qm _ _ hnn).mono ?_;rintro e w1 ⟨rfl,gH⟩)
  go_ret
  exact⟨rfl,gH⟩
 ·rw[if_neg D5]
  obtain⟨n,rfl⟩:=Int.eq_ofNat_of_zero_le (show 0≤p by omega)
  go_enter Tryz.func153,Tryz.ntmps153
  go_wp2_with (go_at_call 205;refine(qm _ _ (by omega)).mono ?_;rintro e w1 ⟨rfl,gH⟩)
  go_ret
  exact⟨rfl,gH⟩
theorem yZ (h:Bytes)(p:Int)(w:World)(hh:h.length≤4611686018427387904)(h1:-9223372036854775808≤p)(h2:p≤9223372036854775807) :
 Calls Tryz.prog 91 #[.agg #[(Value.string ⟨zKS (h)⟩),.int .i64 p]] w fun e w'=>e=.returned (Value.string ⟨zKS (aU h p)⟩)∧Below w.heap.size w w':=by
 have ha:=dG w (.cells #[(Value.string ⟨zKS (h)⟩),.int .i64 p] 24)
 have Ee:Below w.heap.size w (w.alloc (.cells #[(Value.string ⟨zKS (h)⟩),.int .i64 p] 24)):=(Below.refl _ _).alloc (zKW _) _
 generalize Ik:w.alloc (.cells #[(Value.string ⟨zKS (h)⟩),.int .i64 p] 24)=wa at ha Ee
 have aC:=cE ha
 have c0:wa.cell? ⟨w.heap.size,0,none⟩=some (Value.string ⟨zKS (h)⟩):=Lib.cell_of_heap ha 0
 have c1:wa.cell? ⟨w.heap.size,1,none⟩=some (.int .i64 p):=Lib.cell_of_heap ha 1
 have Hba:=hid Ee
 have Hwa:=hid Ik
 clear ha Ee Ik
 by_cases h0:p=0
 ·subst h0
  have Hq:=hid (show aU h 0=h from if_pos rfl)
  go_enter Tryz.func91,Tryz.ntmps91
  go_wp2_with fail
  rw[Hwa.out]
  go_wp2_with fail
  go_ret
  exact⟨iQ Hq.out.symm,Hba.out⟩
 ·have hx:(p==0)=false:=by simp[h0]
  have hq:aU h p=h++58::((if p<0 then [45] else [])++bD p.natAbs):=by
   unfold aU
   rw[if_neg h0]
   split <;> simp
  have hd:=bP 19 p.natAbs (by omega)
  have tj:((if p<0 then [45] else [])++bD p.natAbs).length≤21:=by split <;> simp <;> omega
  have hdc:=fun w=>kF p w h1 h2
  generalize (if p<0 then [45] else [])++bD p.natAbs=ds at hq tj hdc
  have Hq:=hid hq
  have Hdc:=hid hdc
  clear h0 hq hdc hd
  go_enter Tryz.func91,Tryz.ntmps91
  go_wp2_with fail
  rw[Hwa.out]
  go_wp2_with fail
  have n1:¬ 9223372036854775807<h.length+1:=by omega
  have n2:¬ 9223372036854775807<h.length+1+ds.length:=by omega
  have k0:=cell_regrown c0
  have k1:=cell_regrown c1
  clear c0 c1 hx
  refine wp_region_quiet_below (by kernel_rfl) (by kernel_rfl) ?_
  repeat (quiet_step ((go_at_call 153;exact Calls.regrown_of (Hdc.out _))))
  refine wpQuiet_nil ?_
  intro _ hw'
  obtain⟨⟨dq,osq⟩,hw''⟩:=hw'
  subst hw''
  have bU:=below_regrown wa dq osq
  generalize grow (redrawn wa dq) osq=wq at bU ⊢
  clear n1 n2 k0 k1
  go_wp2_with fail
  go_ret
  exact⟨iQ Hq.out.symm,bS Hba.out bU⟩
open Go Vc Go.RowKit Wf
theorem qx (s:Bytes)(hs:s.length<4294967281):PC Tryz.V 113 [.str s] (.fF [.agg [.str (aF s).1.1,.int .i64 (aF s).1.2],.int .i64 (aF s).2]) :=
 ⟨Tryz.call113,by simp[flat,flat.af],by simp[flat,flat.af],fun w hE=>(D4 s w hE hs).mono fun _ _ ⟨h,k⟩=>⟨h,k⟩⟩
theorem oG (h:Bytes)(p:Int)(hh:h.length≤4611686018427387904)(h1:-9223372036854775808≤p)(h2:p≤9223372036854775807):PC Tryz.V 114 [.agg [.str h,.int .i64 p]] (.str (aU h p)) :=
 ⟨Tryz.call114,by simp[flat,flat.af],by simp[flat,flat.af],fun w hE=>(B8 h p w hh h1 h2).mono fun _ _ ⟨h,k⟩=>⟨h,k⟩⟩
theorem xT (s:Bytes)(hs:s.length≤1000000000):PC Tryz.V 85 [.str s] (.fF [.str (bF s).1,.int .i64 (bF s).2]) :=
 ⟨Tryz.call85,by simp[flat,flat.af],by simp[flat,flat.af],fun w hE=>(o6 s w hs).mono fun _ _ ⟨h,k⟩=>⟨h,k⟩⟩
theorem uY (s:Bytes)(hs:s.length≤1000000000):PC Tryz.V 35 [.str s] (.fF [.agg [.str (aF s).1.1,.int .i64 (aF s).1.2],.int .i64 (aF s).2]) :=
 ⟨Tryz.call35,by simp[flat,flat.af],by simp[flat,flat.af],fun w hE=>(A8 s w hs).mono fun _ _ ⟨h,k⟩=>⟨h,k⟩⟩
theorem Bp (h:Bytes)(p:Int)(hh:h.length≤4611686018427387904)(h1:-9223372036854775808≤p)(h2:p≤9223372036854775807):PC Tryz.V 91 [.agg [.str h,.int .i64 p]] (.str (aU h p)) :=
 ⟨Tryz.call91,by simp[flat,flat.af],by simp[flat,flat.af],fun w hE=>(yZ h p w hh h1 h2).mono fun _ _ ⟨h,k⟩=>⟨h,k⟩⟩
theorem EM (s:Bytes)(hs:s.length≤9223372036854775807):PC Tryz.V 175 [.str s] (.str (lower s)) :=
 ⟨Tryz.call175,by simp[flat,flat.af],by simp[flat,flat.af],fun w hE=>(nU s w hs).mono fun _ _ ⟨h,k⟩=>⟨h,k⟩⟩
theorem gU (s:Bytes)(hs:s.length≤9223372036854775807):PC Tryz.V 60 [.str s] (.str (lower s)) :=
 ⟨Tryz.call60,by simp[flat,flat.af],by simp[flat,flat.af],fun w hE=>(ns s w hs).mono fun _ _ ⟨h,k⟩=>⟨h,k⟩⟩
theorem p_Equal (s t:Bytes)(hs:s.length≤9223372036854775807)(ht:t.length≤9223372036854775807):PC Tryz.V 155 [.str s,.str t] (.bool (lower s==lower t)):=by
 refine aV 3000 Tryz.func155 rfl Tryz.ntmps155 Tryz.results155 Tryz.call155 (by simp) (by simp[flat,flat.af]) (by simp[flat,flat.af]) ?_
 refine bo ?_
 (refine aa (EM s hs) ?_;refine bo ?_)
 (refine aa (EM t ht) ?_;exact bo True.intro)
theorem gV (s t:Bytes)(hs:s.length≤9223372036854775807)(ht:t.length≤9223372036854775807):PC Tryz.V 33 [.str s,.str t] (.bool (lower s==lower t)):=by
 refine aV 3000 Tryz.func33 rfl Tryz.ntmps33 Tryz.results33 Tryz.call33 (by simp) (by simp[flat,flat.af]) (by simp[flat,flat.af]) ?_
 refine bo ?_
 (refine aa (gU s hs) ?_;refine bo ?_)
 (refine aa (gU t ht) ?_;exact bo True.intro)
theorem fc_at (L:List (Bytes × Bytes))(k:Nat)(h:k<L.length):((L.flatMap fc).drop (k * 2)).take 2=fc L[k]:=lT fc 2 (fun _=>rfl) L k h
theorem fc_len (L:List (Bytes × Bytes)):(L.flatMap fc).length=L.length * 2:=iq fc 2 (fun _=>rfl) L
theorem Jh (fs:List (Bytes × Bytes)):(fs.flatMap fc).all Vc.one=true:=by
 rw[zLp]
 intro x hx
 obtain⟨f,-,hf⟩:=List.mem_flatMap.1 hx
 simp only[fc,zLm,List.not_mem_nil,or_false]at hf
 rcases hf with rfl|rfl <;> rfl
theorem FN (c:UInt8):PC Tryz.V 251 [.int .u8 c.toNat] (.bool (isAlpha c)) :=
 ⟨Tryz.call251,by simp[flat,flat.af],by simp[flat,flat.af],fun w _=>(cS c w).mono fun _ _ ⟨h,k⟩=>⟨h,dJ k⟩⟩
theorem xU (c:UInt8):PC Tryz.V 252 [.int .u8 c.toNat] (.bool (isDigit c)) :=
 ⟨Tryz.call252,by simp[flat,flat.af],by simp[flat,flat.af],fun w _=>(bH c w).mono fun _ _ ⟨h,k⟩=>⟨h,dJ k⟩⟩
theorem EN (c:UInt8):PC Tryz.V 255 [.int .u8 c.toNat] (.bool (bm c)) :=
 ⟨Tryz.call255,by simp[flat,flat.af],by simp[flat,flat.af],fun w _=>(CM c w).mono fun _ _ ⟨h,k⟩=>⟨h,dJ k⟩⟩
theorem EW (set:Bytes)(c:UInt8):decide (0≤Lib.indexByte set c)=set.contains c:=by
 rw[dD]
 by_cases h:pre (·==c) set<set.length
 ·rw[if_pos h]
  have:=gr (p:=(·==c)) h
  simp only[beq_iff_eq]at this
  simp only[Int.natCast_nonneg,decide_true]
  symm
  rw[zLt,← this]
  exact zLo h
 ·rw[if_neg h]
  simp only[show ¬ (0:Int)≤-1 by omega,decide_false]
  symm
  rw[← Bool.not_eq_true,zLt]
  intro hm
  obtain⟨k,hk,rfl⟩:=List.getElem_of_mem hm
  have h2:=cw (·==set[k]) set
  have:=ib (p:=(·==set[k])) (l:=set) (k:=k) (by omega) hk
  simp at this
theorem p_among (c:UInt8)(set:Bytes):PC Tryz.V 258 [.int .u8 c.toNat,.str set] (.bool (set.contains c)):=by
 refine aV 3000 Tryz.func258 rfl Tryz.ntmps258 Tryz.results258 Tryz.call258 (by simp) (by simp[flat,flat.af]) (by simp[flat,flat.af]) ?_
 refine bo ?_
 (refine aa (fZ set c) ?_;refine bo ?_)
 rw[EW]
theorem p_alnum (c:UInt8):PC Tryz.V 257 [.int .u8 c.toNat] (.bool (isAlpha c||isDigit c)):=by
 refine aV 3000 Tryz.func257 rfl Tryz.ntmps257 Tryz.results257 Tryz.call257 (by simp) (by simp[flat,flat.af]) (by simp[flat,flat.af]) ?_
 refine bo ?_
 (refine aa (FN c) ?_;refine bo ?_)
 refine⟨fun h=>?_,fun h=>by rw[h];rfl⟩
 (refine aa (xU c) ?_;refine bo ?_)
 rw[h];rfl
theorem nx (c:UInt8):PC Tryz.V 211 [.int .u8 c.toNat] (.bool (fE c)):=by
 refine aV 3000 Tryz.func211 rfl Tryz.ntmps211 Tryz.results211 Tryz.call211 (by simp) (by simp[flat,flat.af]) (by simp[flat,flat.af]) ?_
 refine bo ?_
 (refine aa (p_alnum c) ?_;refine bo ?_)
 refine⟨fun h=>?_,fun h=>by unfold fE;rw[h];rfl⟩
 (refine aa (p_among c [45,46,95,126]) ?_;refine bo ?_)
 unfold fE;rw[h];rfl
theorem dig_low (c:UInt8)(h:isDigit c=true):IntKind.u8.wrap ((c.toNat:Int) - 48)=cG c:=by
 have:=cW (p:=fun c=>!isDigit c||decide (IntKind.u8.wrap ((c.toNat:Int) - 48)=cG c)) (by decide +kernel) c
 simpa[h] using this
theorem Jt (c:UInt8)(h:bm c=true)(h2:isDigit c=false):IntKind.u8.wrap (IntKind.u8.wrap (q8 .or .u8 (c.toNat:Int) 32 - 97)+10)=cG c:=by
 have:=cW (p:=fun c=>!bm c||isDigit c||decide (IntKind.u8.wrap (IntKind.u8.wrap (q8 .or .u8 (c.toNat:Int) 32 - 97)+10)=cG c)) (by decide +kernel) c
 simpa[h,h2] using this
theorem EL (c:UInt8)(hc:bm c=true):PC Tryz.V 256 [.int .u8 c.toNat] (.int .u8 (cG c)):=by
 refine aV 3000 Tryz.func256 rfl Tryz.ntmps256 Tryz.results256 Tryz.call256 (by simp) (by simp[flat,flat.af]) (by simp[flat,flat.af]) ?_
 refine bo ?_
 (refine aa (xU c) ?_;refine bo ?_)
 refine⟨fun h=>?_,fun h=>?_⟩
 ·rw[dig_low c h]
 ·rw[Jt c hc h]
theorem De (a b:UInt8)(ha:bm a=true)(hb:bm b=true):q8 .or .u8 (HB .shl .u8 (cG a) 4) (cG b)=((unhex a b).toNat:Int):=by
 have h1:=lj ha
 have h2:=lj hb
 have:∀ x,x<16→∀ y,y<16→q8 .or .u8 (HB .shl .u8 (x:Nat) 4) (y:Nat)=(((x * 16+y).toUInt8).toNat:Int):=by decide +kernel
 exact this _ (by omega) _ (by omega)
def kz (s:Bytes)(i:Nat):Option UInt8:=(di (s.drop (i+1))).map fun x=>unhex x.1 x.2.1
theorem qK (s:Bytes)(i:Nat):di (s.drop (i+1))=if i+2<s.length then(if bm (s.getD (i+1) 0)&&bm (s.getD (i+2) 0) then some (s.getD (i+1) 0,s.getD (i+2) 0,s.drop (i+3)) else none) else none:=by
 by_cases h:i+2<s.length
 ·rw[if_pos h,zKX (by omega:i+1<s.length),zKX (by omega:i+1+1<s.length)]
  simp only[di,List.getD_eq_getElem?_getD]
  simp[show i+1<s.length by omega,h]
 ·rw[if_neg h]
  have hl:(s.drop (i+1)).length≤1:=by simp;omega
  match hm:s.drop (i+1),hl with
  | [],_=>rfl
  | [_],_=>rfl
theorem FM (s:Bytes)(i:Nat)(hi:i<s.length)(hs:s.length≤9223372036854775807):PC Tryz.V 210 [.str s,.int .i64 i] (.fF [.int .u8 (((kz s i).getD 0).toNat:Int),.bool (kz s i).isSome]):=by
 refine aV 3000 Tryz.func210 rfl Tryz.ntmps210 Tryz.results210 Tryz.call210 (by simp) (by simp[flat,flat.af]) (by simp[flat,flat.af]) ?_
 refine bo ?_
 unfold kz
 rw[qK]
 refine⟨⟨by omega,by omega⟩,fun hl=>?_,fun hl=>?_⟩
 ·have hl:i+2<s.length:=(by simp at hl;omega)
  rw[if_pos hl]
  refine⟨⟨by omega,by omega⟩,⟨by omega,by omega⟩,?_⟩
  (refine aa (EN _) ?_;refine bo ?_)
  refine⟨fun ha=>⟨⟨by omega,by omega⟩,⟨by omega,by omega⟩,?_⟩,fun ha=>?_⟩
  ·have ha:bm (s.getD (i+1) 0)=true:=by simpa using ha
   (refine aa (EN _) ?_;refine bo ?_)
   refine⟨fun hb=>?_,fun hb=>⟨⟨by omega,by omega⟩,⟨by omega,by omega⟩,?_⟩⟩
   ·have hb:bm (s.getD (i+2) 0)=false:=by simpa using hb
    rw[ha,hb];rfl
   ·have hb:bm (s.getD (i+2) 0)=true:=by simpa using hb
    (refine aW (EL _ ha) ?_;refine bo ?_)
    refine⟨by omega,⟨by omega,by omega⟩,⟨by omega,by omega⟩,?_⟩
    (refine aW (EL _ hb) ?_;refine bo ?_)
    refine⟨(av (by kernel_rfl)),?_⟩
    rw[De _ _ ha hb,ha,hb];rfl
  ·have ha:bm (s.getD (i+1) 0)=false:=by simpa using ha
   rw[ha];rfl
 ·have hl:¬ i+2<s.length:=(by simp at hl;omega)
  rw[if_neg hl];rfl
theorem shr4 (c:UInt8):HB .shr .u8 (c.toNat:Int) 4=((c.toNat / 16:Nat):Int):=by
 have:=cW (p:=fun c=>decide (HB .shr .u8 (c.toNat:Int) 4=((c.toNat / 16:Nat):Int))) (by decide +kernel) c
 simpa using this
theorem and15 (c:UInt8):q8 .and .u8 (c.toNat:Int) 15=((c.toNat % 16:Nat):Int):=by
 have:=cW (p:=fun c=>decide (q8 .and .u8 (c.toNat:Int) 15=((c.toNat % 16:Nat):Int))) (by decide +kernel) c
 simpa using this
theorem uu:∀ n,n<16→([48,49,50,51,52,53,54,55,56,57,65,66,67,68,69,70]:Bytes).getD n 0=gE n:=by decide
theorem ym (c:UInt8):(kN c).map dP=[.int .u8 37,.int .u8 ((gE (c.toNat / 16)).toNat:Int),.int .u8 ((gE (c.toNat % 16)).toNat:Int)]:=rfl
structure xB (bs:List aw) (i L:Nat) (x:SV) (l:Bytes):Prop where
 box:bs[i]? = some (.cells [x] 243 true)
 sl:Sl 5 1 L x bs (l.map dP) l.length
 lt:i<L
theorem xB.ne {bs:List aw}{i L j n:Nat}{l:Bytes}(h:xB bs i L (.o j n) l):i≠j:=by
 rcases h.sl with⟨h1,-⟩|⟨j',h1,h2,-⟩
 ·cases h1
 ·cases h1;have:=h.lt;omega
theorem FD {bs:List aw}{i L:Nat}{x:SV}{l:Bytes}(h:xB bs i L x l)(hL:L≤bs.length)(hl:l.length≤1000000)(c:UInt8) :
 SC Tryz.V 212 [.p i 0,.int .u8 c.toNat] bs (fun r b=>r=.fF []∧∃ x',xB b i L x' (l++kN c)∧bs.length≤b.length∧∀ k,k<L→k≠i→b[k]? = bs[k]?):=by
 have fD:i<bs.length:=(zKV.1 h.box).1
 have hc:=c.toNat_lt
 have d1:=uu (c.toNat / 16) (by omega)
 have d2:=uu (c.toNat % 16) (by omega)
 have s1:=shr4 c
 have s2:=and15 c
 have l8:=h.box
 have ec:=ym c
 refine bJ 3000 Tryz.func212 rfl Tryz.ntmps212 Tryz.results212 Tryz.call212 (by simp) (aj bs.length _ (by simp[within,within.ax,fD])) ?_
 rcases h.sl with⟨rfl,kU,ye⟩|⟨j,rfl,mM,hj⟩
 ·obtain rfl:l=[]:=by simpa using kU
  have ho:∀ X,(bs++[X])[i]? = some (.cells [.ah] 243 true):=fun X=>ad l8 [X]
  have ud:∀ X Y,(bs++[X]++[Y])[i]? = some (.cells [.ah] 243 true):=fun X Y=>ad (ho X) [Y]
  refine gN (zKT l8 (zKT s1 (zKT s2 (zKT Int.toNat_natCast (zKT d1 (zKT d2 (zKT @aO (zKT ho ud)))))))) ?_
  rw[← ec]
  have n1:¬ bs.length=i:=by omega
  have n2:∀ X,¬ (bs++[X]).length=i:=fun X=>by simp;omega
  refine⟨by omega,⟨by omega,by omega⟩,⟨by omega,by omega⟩,by omega,⟨by unfold maxLen;omega,by omega⟩,?_,_,⟨zLs (by simp;omega),.inr ⟨_,rfl,by simp;omega,?_⟩,h.lt⟩,by simp,fun k hk kS=>?_⟩
  ·exact(by
   refine bE (fun n=>if n=i then 0 else 1) ?_
   simp only[List.map_cons,List.map_nil,cM,dZ,reduceIte,n1,n2]
   exact av (by kernel_rfl))
  ·rw[zK1 (fun e=>n2 _ e.symm),aO];rfl
  ·rw[zK1 (fun e=>kS e.symm),zK0 (by simp;omega),zK0 (by omega)]
 ·have hij:=h.ne
  have iG:j<bs.length:=(zKV.1 hj).1
  have ho:∀ X,(bs++[X])[j]? = some (.own (l.map dP) 5 1 l.length true):=fun X=>ad hj [X]
  have ud:∀ X Y,((bs++[X]).set j .gone++[Y])[i]? = some (.cells [.o j l.length] 243 true):=fun X Y=>by
   rw[zK0 (by simp;omega),zK1 hij.symm];exact ad l8 [X]
  refine gN (zKT l8 (zKT s1 (zKT s2 (zKT Int.toNat_natCast (zKT d1 (zKT d2 (zKT @aO (zKT ho ud)))))))) ?_
  rw[← ec,← List.map_append]
  have n1:¬ bs.length=i:=by omega
  have n2:∀ X,¬ (bs++[X]).length=i:=fun X=>by simp;omega
  have n3:¬ j=i:=fun e=>hij e.symm
  refine⟨by omega,⟨by omega,by omega⟩,⟨by omega,by omega⟩,by omega,⟨by unfold maxLen;omega,by omega⟩,?_,_,⟨zLs (by simp;omega),.inr ⟨(bs++[aw.own ((kN c).map dP) 5 1 3 true]).length,by simp[kN],by simp;omega,?_⟩,h.lt⟩,by simp;omega,fun k hk kS=>?_⟩
  ·exact(by
   refine bE (fun n=>if n=i then 0 else 1) ?_
   simp only[List.map_cons,List.map_nil,cM,dZ,reduceIte,n1,n2,n3]
   exact av (by kernel_rfl))
  ·rw[zK1 (fun e=>n2 _ e.symm),zK9 (by simp)];simp[kN]
  ·rw[zK1 (fun e=>kS e.symm),zK0 (by simp;omega),zK1 (by omega),zK0 (by omega)]
theorem yB {bs:List aw}{i L:Nat}{x:SV}{l:Bytes}(h:xB bs i L x l)(hL:L≤bs.length)(c:UInt8)(hx:x=.ah):xB ((bs++[aw.own [dP c] 5 1 1 true]++[aw.own [dP c] 5 1 1 true]).set i (aw.cells [.o (bs++[aw.own [dP c] 5 1 1 true]).length 1] 243 true)) i L (.o (bs++[aw.own [dP c] 5 1 1 true]).length 1) (l++[c]):=by
 have fD:i<bs.length:=(zKV.1 h.box).1
 have hl:l=[]:=by
  rcases h.sl with⟨-,h1,-⟩|⟨j,h1,-,-⟩
  ·simpa using h1
  ·rw[hx]at h1;cases h1
 subst hl
 have n2:∀ X,¬ (bs++[X]).length=i:=fun X=>by simp;omega
 refine⟨zLs (by simp;omega),.inr ⟨_,rfl,by simp;omega,?_⟩,h.lt⟩
 rw[zK1 (fun e=>n2 _ e.symm),aO]
 rfl
theorem uz {bs:List aw}{i L j:Nat}{l:Bytes}(h:xB bs i L (.o j l.length) l)(hL:L≤bs.length)(c:UInt8)(mM:L≤j):xB (((bs++[aw.own [dP c] 5 1 1 true]).set j .gone++[aw.own (l.map dP++[dP c]) 5 1 (l.length+1) true]).set i (aw.cells [.o (bs++[aw.own [dP c] 5 1 1 true]).length (l.length+1)] 243 true)) i L (.o (bs++[aw.own [dP c] 5 1 1 true]).length (l.length+1)) (l++[c]):=by
 have fD:i<bs.length:=(zKV.1 h.box).1
 refine⟨zLs (by simp;omega),.inr ⟨(bs++[aw.own [dP c] 5 1 1 true]).length,by simp,by simp;omega,?_⟩,h.lt⟩
 rw[zK1 (by simp;omega),zK9 (by simp)]
 simp
def NoI (also s:Bytes)(σ:St):Prop:=∃ (i:Nat) (x:SV) (d:Bytes),lk 0 σ.t=some (.str s)∧lk 1 σ.t=some (.str also)∧lk 6 σ.t=some (.p 0 0)∧lk 7 σ.t=some (.int .i64 i)∧i≤s.length∧d.length≤3 * i∧1≤σ.b.length∧xB σ.b 0 1 x d∧comb d (bB also (aE (s.drop i)))=bB also (aE s)
def NoM (s:Bytes)(σ:St):Nat:=match lk 7 σ.t with
 | some (.int _ k)=>s.length - k.toNat
 | _=>0
theorem Ad {s:Bytes}{σ:St}{k:Nat}(h:lk 7 σ.t=some (.int .i64 k)):NoM s σ=s.length - k:=by simp[NoM,h]
theorem vj {also s:Bytes}{t:List (Nat × SV)}{b:List aw}{i i':Nat}{x:SV}{d:Bytes}(h0:lk 0 t=some (.str s))(h1:lk 1 t=some (.str also))(h6:lk 6 t=some (.p 0 0))(h7:lk 7 t=some (.int .i64 i'))(h:i'≤s.length∧d.length≤3 * i')(hb:1≤b.length)(ht:xB b 0 1 x d)
 (hn:comb d (bB also (aE (s.drop i')))=bB also (aE s)) (aC:i<i'):NoI also s ⟨t,b⟩∧NoM s ⟨t,b⟩<s.length - i :=
 ⟨⟨i',x,d,h0,h1,h6,h7,h.1,h.2,hb,ht,hn⟩,by rw[Ad h7];omega⟩
theorem oT {s:Bytes}{i:Nat}(hi:i<s.length):aE (s.drop i)=if s[i]=37 then(match kz s i with
 | some _=>(match di (s.drop (i+1)) with
   | some (a,b,_)=>.hex a b::aE (s.drop (i+3))
   | none=>[.bad])
 | none=>[.bad]) else .lit s[i]::aE (s.drop (i+1)):=by
 rw[zKX hi]
 by_cases h:s[i]=37
 ·rw[if_pos h,h]
  unfold kz
  cases hp:di (s.drop (i+1)) with
  | none=>simp only[Option.map_none];exact ru hp
  | some x =>
    obtain⟨a,b,r⟩:=x
    obtain⟨h1,h2,h3⟩:=dh hp
    simp only[Option.map_some]
    rw[h1,fh h2 h3]
    congr 2
    have:=congrArg (List.drop 2) h1
    rw[List.drop_drop]at this
    exact this.symm
 ·rw[if_neg h,dm h]
theorem nw (s also:Bytes)(ha:also.length≤1000):PC Tryz.V 157 [.str s,.str also] (.fF [.str (bk also s).1,.int .i64 (bk also s).2]):=by
 refine aV 3000 Tryz.func157 rfl Tryz.ntmps157 Tryz.results157 Tryz.call157 (by simp) (by simp[flat,flat.af]) (by simp[flat,flat.af]) ?_
 refine bo ?_
 unfold bk
 refine⟨fun hl=>?_,fun hl=>?_⟩
 ·have hl:16384<s.length:=(by simp at hl;omega)
  rw[if_pos hl]
 have hl:s.length≤16384:=(by simp at hl;omega)
 rw[if_neg (by omega)]
 refine az (NoI also s) (NoM s) ⟨0,.ah,[],rfl,rfl,rfl,rfl,by omega,by simp,by simp,⟨rfl,.inl ⟨rfl,rfl,rfl⟩,by omega⟩,wm _ (xV also _)⟩ ?_
 rintro⟨t,b⟩ ⟨i,x,d,h0,h1,h6,h7,hi,hd,qN,ht,hn⟩
 simp only at h0 h1 h6 h7 qN ht
 rw[Ad h7]
 have l8:=ht.box
 by_cases aC:i<s.length
 ·have hu:=oT aC
  have hg:s.getD i 0=s[i]:=by simp[List.getD,aC]
  refine gN (zKT h0 (zKT h1 (zKT h6 h7))) ?_
  refine⟨fun _=>⟨⟨by omega,by omega⟩,fun hc=>?_,fun hc=>?_⟩,fun h=>absurd h (by simp;omega)⟩
  ·rw[cK (n:=37) aC 37 rfl]at hc
   rw[if_pos (by simpa using hc)]at hu
   have pe:=FM s i aC (by omega)
   cases he:kz s i with
   | none =>
     rw[he]at pe hu
     simp only at hu
     rw[hu]at hn
     have nI:bB also (aE s)=([],2):=by rw[← hn];rfl
     rw[nI]
     (refine aa pe ?_;simp only[cq,↓Xn,↓Xo,↓Xg,↓Xd,↓Xe,↓Xf,Tryz.VΓ,Tryz.Γs,Xp,Xi,Nat.reduceAdd,Nat.reduceSub,Nat.reduceLT,Nat.reduceLeDiff,reduceIte,reduceCtorEq,Nat.reduceEqDiff,implies_true,forall_const,cp,h0,h1,h6,h7,Option.isSome_none])
   | some v =>
     rw[he]at pe hu
     have hx:=he
     unfold kz at hx
     obtain⟨⟨a,bb,r⟩,hp,hv⟩:=Option.map_eq_some_iff.1 hx
     simp only at hv
     rw[hp]at hu
     simp only at hu
     have hi3:i+3≤s.length:=by
      obtain⟨h1,-,-⟩:=dh hp
      have:=congrArg List.length h1
      simp at this
      omega
     have mD:comb (d++nA v) (bB also (aE (s.drop (i+2+1))))=bB also (aE s):=by
      rw[← hn,hu,bB,jv,hv]
     simp only[Option.getD_some,Option.isSome_some]at pe
     (refine aa pe ?_;refine gN (zKT h0 (zKT h1 (zKT h6 h7))) ?_)
     refine⟨⟨by omega,by omega⟩,?_⟩
     (refine aa (nx v) ?_;refine gN (zKT h0 (zKT h1 (zKT h6 h7))) ?_)
     refine⟨fun hq=>?_,fun hq=>?_⟩
     ·have Cb:comb (d++[v]) (bB also (aE (s.drop (i+2+1))))=bB also (aE s):=by
       rw[← mD];unfold nA;rw[if_pos hq]
      (rcases ht.sl with⟨rfl,kU,ye⟩|⟨j,rfl,mM,hj⟩
       ·have ho:∀ X,(b++[X])[0]? = some (.cells [.ah] 243 true):=fun X=>ad l8 [X]
        have ud:∀ X Y,(b++[X]++[Y])[0]? = some (.cells [.ah] 243 true):=fun X Y=>ad (ho X) [Y]
        refine gN (zKT h0 (zKT h1 (zKT h6 (zKT h7 (zKT l8 (zKT @aO (zKT ho ud))))))) ?_
        refine⟨by omega,⟨by unfold maxLen;omega,by omega⟩,⟨by omega,by omega⟩,vj (i':=i+2+1) (x:=.o (b++[aw.own [dP (v)] 5 1 1 true]).length 1) (d:=d++[v]) h0 h1 h6 (by simp only[lk,reduceIte,zLu.injEq,SV.int.injEq,true_and];omega) ⟨by omega,by simp;omega⟩ (by simp) (yB ht qN (v) rfl) (Cb) (by omega)⟩
       ·have hlj:d.length=d.length:=rfl
        have ho:∀ X,(b++[X])[j]? = some (.own (d.map dP) 5 1 d.length true):=fun X=>ad hj [X]
        have ud:∀ X Y,((b++[X]).set j .gone++[Y])[0]? = some (.cells [.o j d.length] 243 true):=fun X Y=>by
         rw[zK0 (by simp),zK1 (by omega)];exact ad l8 [X]
        refine gN (zKT h0 (zKT h1 (zKT h6 (zKT h7 (zKT l8 (zKT @aO (zKT ho ud))))))) ?_
        refine⟨by omega,⟨by unfold maxLen;omega,by omega⟩,⟨by omega,by omega⟩,vj (i':=i+2+1) (x:=.o (b++[aw.own [dP (v)] 5 1 1 true]).length (d.length+1)) (d:=d++[v]) h0 h1 h6 (by simp only[lk,reduceIte,zLu.injEq,SV.int.injEq,true_and];omega) ⟨by omega,by simp;omega⟩ (by simp) (uz ht qN (v) mM) (Cb) (by omega)⟩)
     ·have Cb:comb (d++kN v) (bB also (aE (s.drop (i+2+1))))=bB also (aE s):=by
       rw[← mD];unfold nA;rw[if_neg (by simp[hq])]
      refine ae (FD ht qN (by omega) v) ?_
      rintro r b' ⟨rfl,x',ht',hbl',-⟩
      refine gN (zKT h0 (zKT h1 (zKT h6 h7))) ?_
      exact⟨⟨by omega,by omega⟩,vj (i':=i+2+1) (d:=d++kN v) h0 h1 h6 (by simp only[lk,reduceIte,zLu.injEq,SV.int.injEq,true_and];omega) ⟨by omega,by simp[kN];omega⟩ (by omega) ht' Cb (by omega)⟩
  ·rw[cK (n:=37) aC 37 rfl]at hc
   rw[if_neg (by simpa using hc)]at hu
   rw[hu,bB]at hn
   rw[hg]
   have mD:dU also s[i]=true→comb (d++[s[i]]) (bB also (aE (s.drop (i+1))))=bB also (aE s):=fun hk=>by
    rw[← hn,if_pos hk,jv]
   (refine aa (nx s[i]) ?_;refine gN (zKT h0 (zKT h1 (zKT h6 (zKT h7 hg)))) ?_)
   refine⟨fun hq=>?_,fun hq=>?_⟩
   ·(refine aa (fZ also s[i]) ?_;refine gN (zKT h0 (zKT h1 (zKT h6 (zKT h7 hg)))) ?_)
    rw[EW]
    refine⟨fun qH=>?_,fun qH=>?_⟩
    ·have hk:dU also s[i]=true:=by unfold dU;rw[qH];simp
     (rcases ht.sl with⟨rfl,kU,ye⟩|⟨j,rfl,mM,hj⟩
      ·have ho:∀ X,(b++[X])[0]? = some (.cells [.ah] 243 true):=fun X=>ad l8 [X]
       have ud:∀ X Y,(b++[X]++[Y])[0]? = some (.cells [.ah] 243 true):=fun X Y=>ad (ho X) [Y]
       refine gN (zKT h0 (zKT h1 (zKT h6 (zKT h7 (zKT l8 (zKT @aO (zKT ho ud))))))) ?_
       refine⟨by omega,⟨by unfold maxLen;omega,by omega⟩,⟨by omega,by omega⟩,vj (i':=i+1) (x:=.o (b++[aw.own [dP (s[i])] 5 1 1 true]).length 1) (d:=d++[s[i]]) h0 h1 h6 (by simp only[lk,reduceIte,zLu.injEq,SV.int.injEq,true_and];omega) ⟨by omega,by simp;omega⟩ (by simp) (yB ht qN (s[i]) rfl) (mD hk) (by omega)⟩
      ·have hlj:d.length=d.length:=rfl
       have ho:∀ X,(b++[X])[j]? = some (.own (d.map dP) 5 1 d.length true):=fun X=>ad hj [X]
       have ud:∀ X Y,((b++[X]).set j .gone++[Y])[0]? = some (.cells [.o j d.length] 243 true):=fun X Y=>by
        rw[zK0 (by simp),zK1 (by omega)];exact ad l8 [X]
       refine gN (zKT h0 (zKT h1 (zKT h6 (zKT h7 (zKT l8 (zKT @aO (zKT ho ud))))))) ?_
       refine⟨by omega,⟨by unfold maxLen;omega,by omega⟩,⟨by omega,by omega⟩,vj (i':=i+1) (x:=.o (b++[aw.own [dP (s[i])] 5 1 1 true]).length (d.length+1)) (d:=d++[s[i]]) h0 h1 h6 (by simp only[lk,reduceIte,zLu.injEq,SV.int.injEq,true_and];omega) ⟨by omega,by simp;omega⟩ (by simp) (uz ht qN (s[i]) mM) (mD hk) (by omega)⟩)
    ·have hk:¬ dU also s[i]=true:=by unfold dU;rw[hq,qH];simp
     rw[if_neg hk]at hn
     have nI:bB also (aE s)=([],1):=by rw[← hn];rfl
     rw[nI]
   ·have hk:dU also s[i]=true:=by unfold dU;rw[hq];simp
    (rcases ht.sl with⟨rfl,kU,ye⟩|⟨j,rfl,mM,hj⟩
     ·have ho:∀ X,(b++[X])[0]? = some (.cells [.ah] 243 true):=fun X=>ad l8 [X]
      have ud:∀ X Y,(b++[X]++[Y])[0]? = some (.cells [.ah] 243 true):=fun X Y=>ad (ho X) [Y]
      refine gN (zKT h0 (zKT h1 (zKT h6 (zKT h7 (zKT l8 (zKT @aO (zKT ho ud))))))) ?_
      refine⟨by omega,⟨by unfold maxLen;omega,by omega⟩,⟨by omega,by omega⟩,vj (i':=i+1) (x:=.o (b++[aw.own [dP (s[i])] 5 1 1 true]).length 1) (d:=d++[s[i]]) h0 h1 h6 (by simp only[lk,reduceIte,zLu.injEq,SV.int.injEq,true_and];omega) ⟨by omega,by simp;omega⟩ (by simp) (yB ht qN (s[i]) rfl) (mD hk) (by omega)⟩
     ·have hlj:d.length=d.length:=rfl
      have ho:∀ X,(b++[X])[j]? = some (.own (d.map dP) 5 1 d.length true):=fun X=>ad hj [X]
      have ud:∀ X Y,((b++[X]).set j .gone++[Y])[0]? = some (.cells [.o j d.length] 243 true):=fun X Y=>by
       rw[zK0 (by simp),zK1 (by omega)];exact ad l8 [X]
      refine gN (zKT h0 (zKT h1 (zKT h6 (zKT h7 (zKT l8 (zKT @aO (zKT ho ud))))))) ?_
      refine⟨by omega,⟨by unfold maxLen;omega,by omega⟩,⟨by omega,by omega⟩,vj (i':=i+1) (x:=.o (b++[aw.own [dP (s[i])] 5 1 1 true]).length (d.length+1)) (d:=d++[s[i]]) h0 h1 h6 (by simp only[lk,reduceIte,zLu.injEq,SV.int.injEq,true_and];omega) ⟨by omega,by simp;omega⟩ (by simp) (uz ht qN (s[i]) mM) (mD hk) (by omega)⟩)
 ·have j4:i=s.length:=by omega
  subst j4
  rw[List.drop_length,eO]at hn
  have nI:bB also (aE s)=(d,0):=by rw[← hn];simp[bB,comb]
  rw[nI]
  rcases ht.sl with⟨rfl,kU,ye⟩|⟨j,rfl,mM,hj⟩
  ·obtain rfl:d=[]:=by simpa using kU
   refine gN (zKT h0 (zKT h1 (zKT h6 (zKT h7 l8)))) ?_
   exact fun h=>(by simp at h)
  ·refine gN (zKT h0 (zKT h1 (zKT h6 (zKT h7 (zKT l8 hj))))) ?_
   refine⟨fun h=>absurd h (by simp),fun _=>⟨eK d,?_⟩⟩
   rw[jy]
def cR (u:cX):SV:=.agg [.str u.host,.int .i64 u.port,.str u.path,.str u.query,.str u.fragment,.bool u.aN,.bool u.aZ]
def Fair (u:cX):Prop:=u.host.length+u.path.length+u.query.length+u.fragment.length≤1000000∧-9223372036854775808≤u.port∧u.port≤9223372036854775807
theorem ie (x:Bytes){p:Int}(h0:-9223372036854775808≤p)(h1:p≤9223372036854775807):(aU x p).length≤x.length+22:=by
 have:=bP 19 p.natAbs (by omega)
 unfold aU
 split
 ·omega
 ·split <;> simp <;> omega
theorem hJ (u:cX):(bz u).length≤u.path.length+u.query.length+1:=by
 unfold bz
 split
 ·simp;omega
 ·omega
theorem qp (u:cX)(hk:Fair u):PC Tryz.V 41 [cR u] (.str (bz u)):=by
 obtain⟨hk,-⟩:=hk
 (refine aV 3000 Tryz.func41 rfl Tryz.ntmps41 Tryz.results41 Tryz.call41 (by simp) (by simp[flat,flat.af,cR]) (by simp[flat,flat.af,cR]) ?_
  unfold cR
  refine bo ?_)
 unfold bz
 refine⟨fun h=>?_,fun h=>?_⟩
 ·simp[h]
  refine⟨by omega,by omega⟩
 ·simp[h]
theorem qq (u:cX):PC Tryz.V 40 [cR u] (.agg [.str u.host,.int .i64 u.port]):=by
 (refine aV 3000 Tryz.func40 rfl Tryz.ntmps40 Tryz.results40 Tryz.call40 (by simp) (by simp[flat,flat.af,cR]) (by simp[flat,flat.af,cR]) ?_
  unfold cR
  exact bo True.intro)
theorem qs (u:cX)(hk:Fair u):PC Tryz.V 94 [cR u] (.str (aT u)):=by
 have hl:=hk.1
 have hx:=ie u.host hk.2.1 hk.2.2
 have ht:=hJ u
 have pt:=qp u hk
 have po:=qq u
 have pf:=oG u.host u.port (by omega) hk.2.1 hk.2.2
 (refine aV 3000 Tryz.func94 rfl Tryz.ntmps94 Tryz.results94 Tryz.call94 (by simp) (by simp[flat,flat.af,cR]) (by simp[flat,flat.af,cR]) ?_
  unfold cR
  refine bo ?_)
 unfold cR at pt po
 (refine aW (po) ?_;refine bo ?_)
 (refine aW (pf) ?_;refine bo ?_)
 refine⟨by omega,?_⟩
 (refine aW (pt) ?_;refine bo ?_)
 unfold aT
 refine⟨by omega,(av (by kernel_rfl)),fun h=>⟨by omega,by simp only[zLa];omega,?_⟩,fun h=>?_⟩
 ·rw[if_pos h];simp
 ·rw[if_neg (by simp[h])];simp
theorem nv (u:cX)(hk:Fair u):PC Tryz.V 92 [cR u] (.str (bz u)):=by
 obtain⟨hk,-⟩:=hk
 (refine aV 3000 Tryz.func92 rfl Tryz.ntmps92 Tryz.results92 Tryz.call92 (by simp) (by simp[flat,flat.af,cR]) (by simp[flat,flat.af,cR]) ?_
  unfold cR
  refine bo ?_)
 unfold bz
 refine⟨fun h=>?_,fun h=>?_⟩
 ·simp[h]
  refine⟨by omega,by omega⟩
 ·simp[h]
theorem Bm (u:cX):PC Tryz.V 54 [cR u] (.agg [.str u.host,.int .i64 u.port]):=by
 (refine aV 3000 Tryz.func54 rfl Tryz.ntmps54 Tryz.results54 Tryz.call54 (by simp) (by simp[flat,flat.af,cR]) (by simp[flat,flat.af,cR]) ?_
  unfold cR
  exact bo True.intro)
theorem eA (u:cX)(hk:Fair u):PC Tryz.V 38 [cR u] (.str (aT u)):=by
 have hl:=hk.1
 have hx:=ie u.host hk.2.1 hk.2.2
 have ht:=hJ u
 have pt:=nv u hk
 have po:=Bm u
 have pf:=Bp u.host u.port (by omega) hk.2.1 hk.2.2
 (refine aV 3000 Tryz.func38 rfl Tryz.ntmps38 Tryz.results38 Tryz.call38 (by simp) (by simp[flat,flat.af,cR]) (by simp[flat,flat.af,cR]) ?_
  unfold cR
  refine bo ?_)
 unfold cR at pt po
 (refine aW (po) ?_;refine bo ?_)
 (refine aW (pf) ?_;refine bo ?_)
 refine⟨by omega,?_⟩
 (refine aW (pt) ?_;refine bo ?_)
 unfold aT
 refine⟨by omega,(av (by kernel_rfl)),fun h=>⟨by omega,by simp only[zLa];omega,?_⟩,fun h=>?_⟩
 ·rw[if_pos h];simp
 ·rw[if_neg (by simp[h])];simp
theorem y7 (l:Bytes)(c:UInt8):pre (·==c) l<l.length↔c∈l:=by
 induction l with
 | nil=>simp[pre]
 | cons x l ih =>
   rw[bV]
   by_cases h:x=c
   ·simp[h]
   ·rw[if_neg (by simpa using h)]
    simp only[zLn,Nat.add_lt_add_iff_right,ih,zLm]
    exact⟨.inr,fun k=>k.resolve_left fun e=>h e.symm⟩
theorem zU (l:Bytes)(c:UInt8):decide (0≤Lib.indexByte l c)=decide (c∈l):=by
 rw[dD]
 by_cases h:c∈l
 ·rw[if_pos ((y7 l c).2 h)];simp[h]
 ·rw[if_neg (fun k=>h ((y7 l c).1 k))];simp[h]
theorem DN (l:Bytes)(c:UInt8):PC Tryz.V 156 [.str l,.str [c]] (.bool (decide (c∈l))) :=
 ⟨Tryz.call156,by simp[flat,flat.af],by simp[flat,flat.af],fun w hE=>(Tryz.strings_Contains_one ⟨zKS l⟩ c w).mono fun _ _ ⟨h,k⟩=>⟨by
  rw[h]
  have e:decide (0≤Lib.indexByte l c)=decide (c∈l):=zU l c
  rw[← e];rfl,dJ k.symm⟩⟩
open Go.RowKit Wf
attribute [local go_sem] dX dK get_list
theorem oZ {s:Bytes}(h:0<s.length)(ha:isAlpha s[0]=true):cO (s.take 1)=true:=by
 cases s with
 | nil=>simp at h
 | cons c r=>simp at ha;simp[cO,ha]
theorem oE {s:Bytes}(h:0<s.length)(ha:isAlpha s[0]=false):cO s=false:=by
 cases s with
 | nil=>simp at h
 | cons c r=>simp at ha;simp[cO,ha]
theorem j8 {s:Bytes}{k:Nat}(h0:0<k)(h:k<s.length)(ht:cO (s.take k)=true)(hc:eT s[k]=true):cO (s.take (k+1))=true:=by
 cases s with
 | nil=>simp at h
 | cons c r =>
   obtain⟨j,rfl⟩:∃ j,k=j+1:=⟨k - 1,by omega⟩
   rw[List.take_succ_cons]at ht ⊢
   unfold cO at ht ⊢
   simp only[zK5]at ht ⊢
   exact⟨ht.1,aX (by simpa using h) ht.2 (by simpa using hc)⟩
theorem xM {s:Bytes}{k:Nat}(h0:0<k)(h:k<s.length)(hc:eT s[k]=false):cO s=false:=by
 cases s with
 | nil=>simp at h
 | cons c r =>
   obtain⟨j,rfl⟩:∃ j,k=j+1:=⟨k - 1,by omega⟩
   have:=dj (p:=eT) (s:=r) (k:=j) (by simpa using h) (by simpa using hc)
   show (isAlpha c&&r.all eT)=false
   rw[this];simp
theorem HR (c:UInt8):([43,45,46].contains c=true→0≤Lib.indexByte [43,45,46] c)∧([43,45,46].contains c=false→Lib.indexByte [43,45,46] c=-1):=by
 have h:=cW (p:=fun c=>decide (([43,45,46].contains c=true→0≤Lib.indexByte [43,45,46] c)∧([43,45,46].contains c=false→Lib.indexByte [43,45,46] c=-1))) (by decide +kernel) c
 exact of_decide_eq_true h
theorem Dd (s:Bytes)(w:World)(hs:s.length≤9223372036854775807) :
 Calls Tryz.prog 207 #[(Value.string ⟨zKS (s)⟩)] w fun e w'=>e=.returned (.bool (cO s))∧w=w':=by
 go_enter Tryz.func207,Tryz.ntmps207
 go_wp2_with fail
 go_loop [6] (fun i=>∃ k:Nat,k≤s.length∧i=.int .i64 k∧(k=0∨cO (s.take k)=true)) (fun i=>s.length - (intOf i).toNat)
 case atStart=>exact⟨0,by omega,rfl,.inl rfl⟩
 case round =>
  obtain⟨k,hk,rfl,hr⟩:=hrel
  have Hr:=hid hr
  clear hr
  by_cases aC:k<s.length
  ·cases ha:isAlpha s[k]
   ·by_cases h0:k=0
    ·subst h0
     have Hq:=hid (oE aC ha)
     go_wp2_with (first
      | (go_at_call 251;refine(cS _ _).mono ?_;rintro e w' ⟨rfl,rfl⟩)
      | (go_at_call 252;refine(bH _ _).mono ?_;rintro e w' ⟨rfl,rfl⟩)
      | (go_at_call 209;refine(fX [43,45,46] _ _).mono ?_;rintro e w' ⟨rfl,rfl⟩))
     go_ret
     exact⟨bc Hq.out.symm,rfl⟩
    ·have lh:((k:Int)==0)=false:=by simp[h0]
     have Hr2:=hid (Hr.out.resolve_left h0)
     obtain⟨p1,p2⟩:=HR s[k]
     cases hd:isDigit s[k]
     ·cases hp:[43,45,46].contains s[k]
      ·have p3:=p2 hp
       have Hq:=hid (xM (by omega) aC (by unfold eT;rw[ha,hd,hp];rfl))
       clear p1 p2 hp
       go_wp2_with (first
        | (go_at_call 251;refine(cS _ _).mono ?_;rintro e w' ⟨rfl,rfl⟩)
        | (go_at_call 252;refine(bH _ _).mono ?_;rintro e w' ⟨rfl,rfl⟩)
        | (go_at_call 209;refine(fX [43,45,46] _ _).mono ?_;rintro e w' ⟨rfl,rfl⟩))
       go_ret
       exact⟨bc Hq.out.symm,rfl⟩
      ·have p3:=p1 hp
       have Hn:=hid (j8 (by omega) aC Hr2.out (by unfold eT;rw[hp];simp))
       clear p1 p2 hp
       go_wp2_with (first
        | (go_at_call 251;refine(cS _ _).mono ?_;rintro e w' ⟨rfl,rfl⟩)
        | (go_at_call 252;refine(bH _ _).mono ?_;rintro e w' ⟨rfl,rfl⟩)
        | (go_at_call 209;refine(fX [43,45,46] _ _).mono ?_;rintro e w' ⟨rfl,rfl⟩))
       go_round
       case rel=>exact⟨k+1,by omega,by go_num,.inr Hn.out⟩
       case measure=>simp[intOf];omega
     ·have Hn:=hid (j8 (by omega) aC Hr2.out (by unfold eT;rw[hd];simp))
      clear p1 p2
      go_wp2_with (first
       | (go_at_call 251;refine(cS _ _).mono ?_;rintro e w' ⟨rfl,rfl⟩)
       | (go_at_call 252;refine(bH _ _).mono ?_;rintro e w' ⟨rfl,rfl⟩)
       | (go_at_call 209;refine(fX [43,45,46] _ _).mono ?_;rintro e w' ⟨rfl,rfl⟩))
      go_round
      case rel=>exact⟨k+1,by omega,by go_num,.inr Hn.out⟩
      case measure=>simp[intOf];omega
   ·have Hn:Hid (cO (s.take (k+1))=true):=hid (by
     rcases Hr.out with rfl|hr
     ·exact oZ aC ha
     ·by_cases h0:k=0
      ·subst h0;exact oZ aC ha
      ·exact j8 (by omega) aC hr (by unfold eT;rw[ha];rfl))
    go_wp2_with (first
     | (go_at_call 251;refine(cS _ _).mono ?_;rintro e w' ⟨rfl,rfl⟩)
     | (go_at_call 252;refine(bH _ _).mono ?_;rintro e w' ⟨rfl,rfl⟩)
     | (go_at_call 209;refine(fX [43,45,46] _ _).mono ?_;rintro e w' ⟨rfl,rfl⟩))
    go_round
    case rel=>exact⟨k+1,by omega,by go_num,.inr Hn.out⟩
    case measure=>simp[intOf];omega
  ·cases hem:s.isEmpty
   ·have Hq:Hid (cO s=true):=hid (by
     rcases Hr.out with rfl|hr
     ·cases s <;> simp at hem aC
     ·rw[zKU (by omega)]at hr;exact hr)
    go_wp2_with fail
    go_ret
    exact⟨bc Hq.out.symm,rfl⟩
   ·have Hq:Hid (cO s=false):=hid (by cases s <;> simp at hem <;> rfl)
    go_wp2_with fail
    go_ret
    exact⟨bc Hq.out.symm,rfl⟩
open Go Vc Go.RowKit Wf
def rl (u:Uri):SV:=.agg [.str u.scheme,.str u.authority,.str u.path,.str u.query,.str u.fragment,.bool u.bX,.bool u.a8,.bool u.aN,.bool u.aZ]
theorem gl (s:Bytes):dg s=s.take (cF s - 1):=by
 unfold dg cF
 have h:=List.suffix_iff_eq_drop.1 (List.dropWhile_suffix (l:=s.reverse) (· != 47))
 have hle:=(List.dropWhile_suffix (l:=s.reverse) (· != 47)).length_le
 generalize (s.reverse.dropWhile (· != 47))=d at h hle
 rw[List.length_reverse]at hle
 rw[h,List.drop_drop,List.reverse_drop,List.reverse_reverse,List.length_reverse]
 congr 1
 simp
 omega
theorem nF (s:Bytes):qF s 47=(cF s:Int) - 1:=H7 s 47
theorem iW (s:Bytes):cF s≤s.length:=by
 have:=(List.dropWhile_suffix (l:=s.reverse) (· != 47)).length_le
 rw[List.length_reverse]at this
 exact this
theorem w8 (s:Bytes):s.take (max 0 (qF s 47)).toNat=dg s:=by
 rw[gl,nF]
 congr 1
 omega
theorem H6 (s:Bytes):qF s 47≤s.length:=by
 have:=iW s
 rw[nF]
 omega
theorem zf (s:Bytes)(hs:s.length≤9223372036854775807):PC Tryz.V 207 [.str s] (.bool (cO s)) :=
 ⟨Tryz.call207,by simp[flat,flat.af],by simp[flat,flat.af],fun w _=>(Dd s w hs).mono fun _ _ ⟨h,k⟩=>⟨h,dJ k⟩⟩
theorem cg {s:Bytes}(h:Lib.hasPrefix s [47,47]=false):aB s=([],false,s):=by
 unfold aB
 split
 ·simp[Lib.hasPrefix]at h
 ·rfl
theorem jf {s:Bytes}(h:Lib.hasPrefix s [47,47]=true):aB s=((Lib.trimPrefix s [47,47]).take (pre (·==47) (Lib.trimPrefix s [47,47])),true,(Lib.trimPrefix s [47,47]).drop (pre (·==47) (Lib.trimPrefix s [47,47]))):=by
 obtain⟨r,rfl⟩:=zKZ.1 h
 have ht:Lib.trimPrefix ([47,47]++r) [47,47]=r:=by simp[Lib.trimPrefix,Lib.hasPrefix]
 rw[ht]
 rfl
theorem Bj (s:Bytes):PC Tryz.V 154 [.str s] (.fF [rl (aM s).1,.int .i64 (aM s).2]):=by
 refine aV 3000 Tryz.func154 rfl Tryz.ntmps154 Tryz.results154 Tryz.call154 (by simp) (by simp[flat,flat.af]) (by simp[flat,flat.af,rl]) ?_
 refine bo ?_
 refine⟨fun h=>?_,fun h=>?_⟩
 ·have:aM s=(Uri.none,5):=if_pos (by simp at h;omega)
  rw[this];rfl
 ·have hl:s.length<4294967281:=by simp at h;omega
  have hq:aM s=aH (aL 63 (aL 35 s).1).1 (aL 35 s).2.1 (aL 63 (aL 35 s).1).2.1 (aL 35 s).2.2 (aL 63 (aL 35 s).1).2.2:=if_neg (by simp at h;omega)
  rw[hq]
  have l1:=iw 35 s
  have l2:=iw 63 (aL 35 s).1
  (refine aa (p_Cut s 35 hl) ?_;refine bo ?_)
  (refine aa (p_Cut _ 63 (by omega)) ?_;refine bo ?_)
  generalize aL 63 (aL 35 s).1=C2 at l2 ⊢
  generalize aL 35 s=C1 at l1 l2 ⊢
  obtain⟨s1,fr,hf⟩:=C1
  obtain⟨s2,qu,GX⟩:=C2
  simp only at l1 l2 ⊢
  have hix:Lib.indexAny s2 [58,47]=if pre aq s2<s2.length then(pre aq s2:Int) else -1:=lX s2 [58,47]
  have p3:=DM s2 [58,47] (by decide) (by decide) (by decide) (by omega)
  -- the end: the authority and the path
  by_cases hp:pre aq s2<s2.length
  ·rw[if_pos hp]at hix
   rw[hix]at p3
   (refine aa (p3) ?_;refine bo ?_)
   refine⟨fun _=>⟨⟨by omega,by omega⟩,fun h1=>⟨⟨by omega,by omega⟩,?_⟩,fun h1=>?_⟩,fun h1=>?_⟩
   ·have hh:(s2.drop (pre aq s2)).head? = some 58:=by
     rw[List.head?_drop,zKY hp]
     rw[cK (n:=58) hp 58 rfl]at h1
     rw[beq_iff_eq.1 h1]
    (refine aa (zf _ (by simp;omega)) ?_;refine bo ?_)
    refine⟨fun h2=>?_,fun h2=>⟨⟨by omega,by omega⟩,⟨by omega,by omega⟩,⟨by omega,by omega⟩,(av (by kernel_rfl)),?_⟩⟩
    ·have:aH s2 fr qu hf GX=(Uri.none,6):=by
      unfold aH
      rw[if_pos hh,if_neg (by simpa using h2)]
     rw[this];rfl
    ·have hs:aH s2 fr qu hf GX=(⟨s2.take (pre aq s2),(aB (s2.drop (pre aq s2+1))).1,(aB (s2.drop (pre aq s2+1))).2.2,qu,fr,true,(aB (s2.drop (pre aq s2+1))).2.1,GX,hf⟩,0):=by
      unfold aH
      rw[if_pos hh,if_pos (by simpa using h2)]
     have wG:(s2.drop (pre aq s2+1)).length≤s2.length:=by simp
     (
      (refine aa (ny (s2.drop (pre aq s2+1)) [47,47]) ?_;refine bo ?_)
      cases gx:Lib.hasPrefix (s2.drop (pre aq s2+1)) [47,47]
      ·refine⟨fun h=>(by cases h),fun _=>?_⟩
       have ht:Lib.trimPrefix (s2.drop (pre aq s2+1)) [47,47]=s2.drop (pre aq s2+1):=by unfold Lib.trimPrefix;rw[gx];rfl
       rw[hs,cg gx];rfl
      ·refine⟨fun _=>?_,fun h=>(by cases h)⟩
       have hl3:=uB (s2.drop (pre aq s2+1)) [47,47]
       have E4:=jf gx
       rw[hs,E4]
       generalize Lib.trimPrefix (s2.drop (pre aq s2+1)) [47,47]=rest at hl3 E4 ⊢
       have IJ:=dD rest 47
       have p4:=fZ rest 47
       rw[IJ]at p4
       have fP:=cw (·==47) rest
       by_cases hr:pre (·==47) rest<rest.length
       ·rw[if_pos hr]at p4
        (refine aa (p4) ?_;refine bo ?_)
        refine⟨fun h=>?_,fun _=>⟨⟨by omega,by omega⟩,⟨by omega,by omega⟩,(av (by kernel_rfl)),rfl⟩⟩
        simp at h;omega
       ·rw[if_neg hr]at p4
        (refine aa (p4) ?_;refine bo ?_)
        refine⟨fun _=>⟨⟨by omega,by omega⟩,⟨by omega,by omega⟩,(av (by kernel_rfl)),?_⟩,fun h=>?_⟩
        ·have:pre (·==47) rest=rest.length:=by omega
         rw[this];simp[rl]
        ·simp at h)
   ·have hs:aH s2 fr qu hf GX=(⟨[],(aB s2).1,(aB s2).2.2,qu,fr,false,(aB s2).2.1,GX,hf⟩,0):=by
     unfold aH
     rw[if_neg]
     rw[cK (n:=58) hp 58 rfl]at h1
     rw[List.head?_drop,zKY hp]
     simpa using h1
    (
     (refine aa (ny (s2) [47,47]) ?_;refine bo ?_)
     cases gx:Lib.hasPrefix (s2) [47,47]
     ·refine⟨fun h=>(by cases h),fun _=>?_⟩
      have ht:Lib.trimPrefix (s2) [47,47]=s2:=by unfold Lib.trimPrefix;rw[gx];rfl
      rw[hs,cg gx];rfl
     ·refine⟨fun _=>?_,fun h=>(by cases h)⟩
      have hl3:=uB (s2) [47,47]
      have E4:=jf gx
      rw[hs,E4]
      generalize Lib.trimPrefix (s2) [47,47]=rest at hl3 E4 ⊢
      have IJ:=dD rest 47
      have p4:=fZ rest 47
      rw[IJ]at p4
      have fP:=cw (·==47) rest
      by_cases hr:pre (·==47) rest<rest.length
      ·rw[if_pos hr]at p4
       (refine aa (p4) ?_;refine bo ?_)
       refine⟨fun h=>?_,fun _=>⟨⟨by omega,by omega⟩,⟨by omega,by omega⟩,(av (by kernel_rfl)),rfl⟩⟩
       simp at h;omega
      ·rw[if_neg hr]at p4
       (refine aa (p4) ?_;refine bo ?_)
       refine⟨fun _=>⟨⟨by omega,by omega⟩,⟨by omega,by omega⟩,(av (by kernel_rfl)),?_⟩,fun h=>?_⟩
       ·have:pre (·==47) rest=rest.length:=by omega
        rw[this];simp[rl]
       ·simp at h)
   ·simp at h1
  ·rw[if_neg hp]at hix
   rw[hix]at p3
   (refine aa (p3) ?_;refine bo ?_)
   refine⟨fun h1=>?_,fun h1=>?_⟩
   ·simp at h1
   ·have hs:aH s2 fr qu hf GX=(⟨[],(aB s2).1,(aB s2).2.2,qu,fr,false,(aB s2).2.1,GX,hf⟩,0):=by
     unfold aH
     rw[if_neg]
     rw[zLh (by omega)];simp
    (
     (refine aa (ny (s2) [47,47]) ?_;refine bo ?_)
     cases gx:Lib.hasPrefix (s2) [47,47]
     ·refine⟨fun h=>(by cases h),fun _=>?_⟩
      have ht:Lib.trimPrefix (s2) [47,47]=s2:=by unfold Lib.trimPrefix;rw[gx];rfl
      rw[hs,cg gx];rfl
     ·refine⟨fun _=>?_,fun h=>(by cases h)⟩
      have hl3:=uB (s2) [47,47]
      have E4:=jf gx
      rw[hs,E4]
      generalize Lib.trimPrefix (s2) [47,47]=rest at hl3 E4 ⊢
      have IJ:=dD rest 47
      have p4:=fZ rest 47
      rw[IJ]at p4
      have fP:=cw (·==47) rest
      by_cases hr:pre (·==47) rest<rest.length
      ·rw[if_pos hr]at p4
       (refine aa (p4) ?_;refine bo ?_)
       refine⟨fun h=>?_,fun _=>⟨⟨by omega,by omega⟩,⟨by omega,by omega⟩,(av (by kernel_rfl)),rfl⟩⟩
       simp at h;omega
      ·rw[if_neg hr]at p4
       (refine aa (p4) ?_;refine bo ?_)
       refine⟨fun _=>⟨⟨by omega,by omega⟩,⟨by omega,by omega⟩,(av (by kernel_rfl)),?_⟩,fun h=>?_⟩
       ·have:pre (·==47) rest=rest.length:=by omega
        rw[this];simp[rl]
       ·simp at h)
def RdI (s:Bytes)(σ:St):Prop:=∃ (p o:Bytes) (j f:Nat),lk 0 σ.t=some (.str p)∧lk 3 σ.t=some (.o j o.length)∧σ.b[j]? = some (.own (o.map dP) 5 1 o.length true)∧p.length+o.length≤s.length∧p.length≤f∧en f p o=aG s
def RdM (σ:St):Nat:=match lk 0 σ.t with
 | some (.str p)=>p.length
 | _=>0
theorem JH {σ:St}{p:Bytes}(h:lk 0 σ.t=some (.str p)):RdM σ=p.length:=by simp[RdM,h]
theorem ia {s p' o':Bytes}{j f n:Nat}{t:List (Nat × SV)}{b:List aw}(h0:lk 0 t=some (.str p'))(h3:lk 3 t=some (.o j o'.length))(hj:b[j]? = some (.own (o'.map dP) 5 1 o'.length true))(hlen:p'.length+o'.length≤s.length)(hf:p'.length≤f)(gX:en f p' o'=aG s)(aC:p'.length<n) :
 RdI s ⟨t,b⟩∧RdM ⟨t,b⟩<n:=⟨⟨p',o',j,f,h0,h3,hj,hlen,hf,gX⟩,by rw[JH h0];exact aC⟩
theorem HM (o:Bytes):∃ X:Int,(if 0<qF o 47 then qF o 47 else 0)=X∧0≤X∧X≤o.length∧o.take X.toNat=dg o:=by
 refine⟨_,rfl,by split <;> omega,?_,?_⟩
 ·have:=H6 o;split <;> omega
 ·rw[← w8 o]
  congr 2
  split <;> omega
theorem uU {o:Bytes}{X:Int}(h:X≤o.length):(o.take X.toNat).length=X.toNat:=by rw[zLg];omega
theorem rd_at {b:List aw}{j:Nat}{o:Bytes}{X:Int}(h:X≤o.length):(b.set j .gone++[.own ((o.map dP).take (X.toNat * 1)) 5 1 X.toNat true])[b.length]? = some (.own ((o.take X.toNat).map dP) 5 1 (o.take X.toNat).length true):=by
 rw[zK9 (by simp),uU h]
 simp[List.map_take]
theorem HN (b:List aw)(j:Nat)(o y:Bytes):(b.set j .gone++[.own (o.map dP++y.map dP) 5 1 (o.length+y.length) true])[b.length]? = some (.own ((o++y).map dP) 5 1 (o++y).length true):=by
 rw[zK9 (by simp)]
 simp
theorem rM (s:Bytes)(hs:s.length≤4294967281):PC Tryz.V 158 [.str s] (.str (aG s)):=by
 refine aV 3000 Tryz.func158 rfl Tryz.ntmps158 Tryz.results158 Tryz.call158 (by simp) (by simp[flat,flat.af]) (by simp[flat,flat.af]) ?_
 refine bo ?_
 refine⟨by omega,az (RdI s) RdM ⟨s,[],0,s.length,rfl,rfl,rfl,by simp,zKW _,rfl⟩ ?_⟩
 rintro⟨t,b⟩ ⟨p,o,j,f,h0,h3,hj,hlen,hf,gX⟩
 simp only at h0 h3 hj
 rw[JH h0]
 refine gN (zKT h0 (zKT h3 hj)) ?_
 have qL:p=[]→o=aG s:=fun hp=>by subst hp;cases f <;> simpa[en] using gX
 refine⟨fun hp=>?_,fun hp=>⟨eK o,?_⟩⟩
 rotate_left
 ·rw[jy,qL (by simpa using hp)]
 replace hp:p≠[]:=by simpa using hp
 have fP:0<p.length:=zLv.2 hp
 obtain⟨f,rfl⟩:∃ f',f=f'+1:=⟨f - 1,by omega⟩
 rw[en,if_neg hp]at gX
 (refine aa (ir p [46,46,47]) ?_
  refine gN (zKT h0 (zKT h3 hj)) ?_)
 refine⟨fun c1=>?_,fun c1=>?_⟩
 ·have h:=eg c1
  rw[show cJ p o=(p.drop 3,o) from if_pos c1]at gX
  exact⟨⟨by omega,by simp at h;omega⟩,ia rfl h3 hj (by simp;omega) (by simp at h ⊢;omega) gX (by simp at h ⊢;omega)⟩
 (refine aa (ir p [46,47]) ?_
  refine gN (zKT h0 (zKT h3 hj)) ?_)
 refine⟨fun c2=>?_,fun c2=>?_⟩
 ·have h:=eg c2
  rw[show cJ p o=(p.drop 2,o) by unfold cJ;rw[if_neg (kt c1)];exact if_pos c2]at gX
  exact⟨⟨by omega,by simp at h;omega⟩,ia rfl h3 hj (by simp;omega) (by simp at h ⊢;omega) gX (by simp at h ⊢;omega)⟩
 (refine aa (ir p [47,46,47]) ?_
  refine gN (zKT h0 (zKT h3 hj)) ?_)
 refine⟨fun c3=>?_,fun c3=>?_⟩
 ·have h:=eg c3
  rw[show cJ p o=(p.drop 2,o) by unfold cJ;rw[if_neg (kt c1),if_neg (kt c2)];exact if_pos c3]at gX
  exact⟨⟨by omega,by simp at h;omega⟩,ia rfl h3 hj (by simp;omega) (by simp at h ⊢;omega) gX (by simp at h ⊢;omega)⟩
 refine⟨fun c4=>?_,fun c4=>?_⟩
 ·have h:p=[47,46]:=by simpa using c4
  subst h
  exact ia (p':=[47]) rfl h3 hj (by simp at hlen ⊢;omega) (by simp at hf ⊢;omega) gX (by simp)
 have n4:¬ p=[47,46]:=by simpa using c4
 have Gd:cJ p o=if [47,46,46,47].isPrefixOf p then(p.drop 3,dg o)
  else if p=[47,46,46] then([47],dg o)
  else if p=[46]∨p=[46,46] then([],o)
  else(p.drop (1+pre (·==47) (p.drop 1)),o++p.take (1+pre (·==47) (p.drop 1))):=by
  unfold cJ;rw[if_neg (kt c1),if_neg (kt c2),if_neg (kt c3),if_neg n4]
 rw[Gd]at gX
 (refine aa (ir p [47,46,46,47]) ?_
  refine gN (zKT h0 (zKT h3 hj)) ?_)
 refine⟨fun c5=>⟨fun c6=>?_,fun c6=>⟨fun c7=>⟨fun c8=>?_,fun c8=>?_⟩,fun c7=>?_⟩⟩,fun c5=>?_⟩
 ·have h:p=[47,46,46]:=by simpa using c6
  subst h
  refine⟨by simp,?_⟩
  (refine aa (qy _ [47]) ?_
   refine gN (zKT h0 (zKT h3 hj)) ?_)
  refine⟨by decide,eK o,?_⟩
  rw[jy]
  (refine aa (mA o 47 (by omega)) ?_
   refine gN (zKT h0 (zKT h3 hj)) ?_)
  obtain⟨X,hX,x0,x1,hx⟩:=HM o
  rw[hX]
  refine⟨⟨x0,x1⟩,ia (p':=[47]) (o':=o.take X.toNat) (f:=f) rfl ?_ (rd_at x1) ?_ ?_ ?_ (by simp)⟩
  ·rw[uU x1];rfl
  ·rw[uU x1];simp at hlen ⊢;omega
  ·simp at hf ⊢;omega
  ·rw[hx];exact gX
 ·have h:p=[46,46]:=by simpa using c8
  subst h
  exact ia (p':=[]) rfl h3 hj (by simp at hlen ⊢;omega) (by simp at hf ⊢) gX (by simp)
 ·have n5:=kt c5
  have n6:¬ p=[47,46,46]:=by simpa using c6
  have n7:¬ (p=[46]∨p=[46,46]):=by rintro(h|h) <;> subst h <;> simp at c7 c8
  rw[if_neg n5,if_neg n6,if_neg n7]at gX
  simp only at gX
  have p4:=fZ (p.drop 1) 47
  rw[dD]at p4
  have hpr:=cw (·==47) (p.drop 1)
  generalize pre (·==47) (p.drop 1)=q at gX p4 hpr
  simp only[List.length_drop]at p4 hpr
  refine⟨by omega,?_⟩
  by_cases hq:q<p.length - 1
  ·rw[if_pos hq]at p4
   (refine aa (p4) ?_
    refine gN (zKT h0 (zKT h3 hj)) ?_)
   have e:(1+(q:Int)).toNat=1+q:=by omega
   have el:(p.take (1+q)).length=1+q:=by rw[zLg];omega
   rw[e]
   refine⟨by omega,fun h=>(by simp at h;omega),fun _=>⟨by omega,⟨iF _,by rw[el];unfold maxLen;omega,by rw[el];omega⟩,by omega,ia (p':=p.drop (1+q)) (o':=o++p.take (1+q)) (f:=f) rfl ?_ (HN ..) ?_ ?_ gX ?_⟩⟩
   ·rw[zLa];rfl
   ·simp;omega
   ·simp;omega
   ·simp;omega
  ·rw[if_neg hq]at p4
   have qH:1+q=p.length:=by omega
   rw[qH,List.drop_length,List.take_length]at gX
   (refine aa (p4) ?_
    refine gN (zKT h0 (zKT h3 hj)) ?_)
   refine⟨by omega,fun _=>⟨by omega,⟨iF _,by unfold maxLen;omega,by omega⟩,by omega,ia (p':=[]) (o':=o++p) (f:=f) ?_ ?_ (HN ..) ?_ ?_ gX ?_⟩,fun h=>(by simp at h)⟩
   ·simp[lk]
   ·rw[zLa];rfl
   ·simp;omega
   ·simp
   ·exact fP
 ·have h:p=[46]:=by simpa using c7
  subst h
  exact ia (p':=[]) rfl h3 hj (by simp at hlen ⊢;omega) (by simp at hf ⊢) gX (by simp)
 ·rw[if_pos (show zLl [47,46,46,47] p=true from c5)]at gX
  obtain⟨r,rfl⟩:=zKZ.1 c5
  refine⟨by simp;omega,?_⟩
  (refine aa (qy _ [47]) ?_
   refine gN (zKT h0 (zKT h3 hj)) ?_)
  have ht:Lib.trimPrefix (47::r) [47]=r:=by simp[Lib.trimPrefix,Lib.hasPrefix]
  have hd:(47::46::46::47::r:Bytes).drop (Int.toNat 3)=47::r:=rfl
  rw[hd,ht]
  refine⟨by simp at hlen;omega,eK o,?_⟩
  rw[jy]
  (refine aa (mA o 47 (by omega)) ?_
   refine gN (zKT h0 (zKT h3 hj)) ?_)
  obtain⟨X,hX,x0,x1,hx⟩:=HM o
  rw[hX]
  refine⟨⟨x0,x1⟩,ia (p':=47::r) (o':=o.take X.toNat) (f:=f) rfl ?_ (rd_at x1) ?_ ?_ ?_ (by simp)⟩
  ·rw[uU x1];rfl
  ·rw[uU x1];simp at hlen ⊢;omega
  ·simp at hf ⊢;omega
  ·rw[hx];exact gX
def adds (there:Bool)(l:Bytes)(parts:List Bytes):Bytes:=if there then l++parts.flatten else l
def AddI (bs:List aw)(i:Nat)(there:Bool)(l:Bytes)(parts:List Bytes)(j:Nat)(σ:St):Prop:=∃ k:Nat,k≤parts.length∧lk 0 σ.t=some (.bool there)∧lk 2 σ.t=some (.p i 0)∧lk 7 σ.t=some (.o j parts.length)∧lk 8 σ.t=some (.int .i64 parts.length)∧lk 9 σ.t=some (.int .i64 k) ∧
 σ.b=bs.set i (.ext (BldR 253 5 (adds there l (parts.take k))))
def AddM (parts:List Bytes)(σ:St):Nat:=match lk 9 σ.t with
 | some (.int _ k)=>parts.length - k.toNat
 | _=>0
def Uri.size (u:Uri):Nat:=u.scheme.length+u.authority.length+u.path.length+u.query.length+u.fragment.length
theorem uE (s:Bytes):(aM s).1.path.length≤s.length:=by
 have Gh:=iw 35 s
 have Gg:=iw 63 (aL 35 s).1
 have E4:∀ r:Bytes,(aB r).2.2.length≤r.length:=fun r=>by
  unfold aB;split
  ·simp;omega
  ·simp
 unfold aM
 split
 ·simp[Uri.none]
 ·unfold aH
  split
  ·split
   ·have:=E4 ((aL 63 (aL 35 s).1).1.drop (pre aq (aL 63 (aL 35 s).1).1+1))
    simp at this ⊢;omega
   ·simp[Uri.none]
  ·have:=E4 (aL 63 (aL 35 s).1).1
   simp;omega
theorem oU (s:Bytes):Uri.size (aM s).1≤6 * s.length:=by
 have Gh:=iw 35 s
 have Gg:=iw 63 (aL 35 s).1
 have E4:∀ r:Bytes,(aB r).2.2.length≤r.length∧(aB r).1.length≤r.length:=fun r=>by
  unfold aB;split
  ·simp;omega
  ·simp
 unfold aM
 split
 ·simp[Uri.none,Uri.size]
 ·unfold aH
  split
  ·split
   ·have:=E4 ((aL 63 (aL 35 s).1).1.drop (pre aq (aL 63 (aL 35 s).1).1+1))
    simp[Uri.size]at this ⊢;omega
   ·simp[Uri.none,Uri.size]
  ·have:=E4 (aL 63 (aL 35 s).1).1
   simp[Uri.size];omega
theorem Ct (p o:Bytes)(hp:p≠[]):(cJ p o).1.length+(cJ p o).2.length≤p.length+o.length:=by
 have fP:0<p.length:=zLv.2 hp
 have hs:(dg o).length≤o.length:=by rw[gl,zLg];exact Nat.min_le_right _ _
 have hq:=cw (·==47) (p.drop 1)
 unfold cJ
 split
 ·simp
 split
 ·simp
 split
 ·simp
 split
 ·rename_i h;subst h;simp
 split
 ·simp;omega
 split
 ·rename_i h;subst h;simp;omega
 split
 ·simp
 ·simp at hq ⊢
  omega
theorem vZ:∀ (f:Nat)(p o:Bytes),(en f p o).length≤p.length+o.length
 | 0,p,o=>by simp[en]
 | f+1,p,o=>by
   rw[en]
   split
   ·simp
   ·rename_i hp
    exact Nat.le_trans (vZ f _ _) (Ct p o hp)
theorem gq (s:Bytes):(aG s).length≤s.length:=by
 have:=vZ s.length s []
 simpa[aG] using this
theorem yz (b r:Uri):(kZ b r).length≤1+b.path.length+r.path.length:=by
 unfold kZ
 split
 ·omega
 split
 ·simp;omega
 ·simp;omega
end Go.Proofs.YtnmlimehgifadaaGreatDoor
