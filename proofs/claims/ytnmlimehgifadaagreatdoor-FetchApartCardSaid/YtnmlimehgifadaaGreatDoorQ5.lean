/- Texts of this claim, laid together: UrlW, Uri, UriW, wy, UriW3, UriN, UriW2, UrlW2, RefUri, RefUri2, RefUri3, RefPct, RefPct2, RefUrl, UrlW3, UrlW4, RedirW, WorldP, WorldW, WorldW2, WorldW3, OwnRow, DiceW. -/
import Derived.Shelf.SlicesE.Clone
import Derived.Test.YtnmlimehgifadaaGreatDoorQ4
open And renaming intro → zQ8
open List renaming getElem?_eq_some_iff → zQ9, length_cons → zRa, length_drop → zRb, length_nil → zRc, length_append → zRd, getElem?_append_left → zRe, getElem?_eq_getElem → zRf, getElem?_append_right → zRg, getElem?_set_ne → zRh, length_take → zRj, take_succ_eq_append_getElem → zRm, getElem?_set_self → zRn, head?_drop → zRp, getElem_mem → zRt, drop_of_length_le → zRu, take_length → zRx, drop_succ_cons → zRy, flatten_cons → zRz, toArray → zRA, flatten_nil → zRB, isPrefixOf_iff_prefix → zRC, length_pos_iff → zRE, append_nil → zRF
open Nat renaming lt_or_ge → zRq, le_refl → zRD
open Option renaming some → zRr
open Int renaming toNat_natCast → zRw
open Bool renaming eq_iff_iff → zRG
set_option linter.all false
set_option maxHeartbeats 16000000
set_option maxRecDepth 20000
namespace Go.Proofs.YtnmlimehgifadaaGreatDoor
open Go Vc Go.RowKit Wf
def cQ (u:bM):SV:=.agg [.str u.host,.int .i64 u.port,.str u.path,.str u.query,.str u.fragment,.bool u.aD,.bool u.aP]
def Fair (u:bM):Prop:=u.host.length+u.path.length+u.query.length+u.fragment.length≤1000000∧-9223372036854775808≤u.port∧u.port≤9223372036854775807
theorem nt (x:Bytes){p:Int}(h0:-9223372036854775808≤p)(h1:p≤9223372036854775807):(bt x p).length≤x.length+22:=by
 have:=cI 19 p.natAbs (by omega)
 unfold bt
 split
 ·omega
 ·split <;> simp <;> omega
theorem jN (u:bM):(bT u).length≤u.path.length+u.query.length+1:=by
 unfold bT
 split
 ·simp;omega
 ·omega
theorem tV (u:bM)(hk:Fair u):PC Tryz.V 41 [cQ u] (.str (bT u)):=by
 obtain⟨hk,-⟩:=hk
 (refine aZ 3000 Tryz.func41 rfl Tryz.ntmps41 Tryz.results41 Tryz.call41 (by simp) (by simp[flat,flat.ai,cQ]) (by simp[flat,flat.ai,cQ]) ?_
  unfold cQ
  refine bC ?_)
 unfold bT
 refine⟨fun h=>?_,fun h=>?_⟩
 ·simp[h]
  refine⟨by omega,by omega⟩
 ·simp[h]
theorem tW (u:bM):PC Tryz.V 40 [cQ u] (.agg [.str u.host,.int .i64 u.port]):=by
 (refine aZ 3000 Tryz.func40 rfl Tryz.ntmps40 Tryz.results40 Tryz.call40 (by simp) (by simp[flat,flat.ai,cQ]) (by simp[flat,flat.ai,cQ]) ?_
  unfold cQ
  exact bC True.intro)
theorem oD (u:bM)(hk:Fair u):PC Tryz.V 94 [cQ u] (.str (aX u)):=by
 have hl:=hk.1
 have hx:=nt u.host hk.2.1 hk.2.2
 have ht:=jN u
 have pt:=tV u hk
 have po:=tW u
 have pf:=A8 u.host u.port (by omega) hk.2.1 hk.2.2
 (refine aZ 3000 Tryz.func94 rfl Tryz.ntmps94 Tryz.results94 Tryz.call94 (by simp) (by simp[flat,flat.ai,cQ]) (by simp[flat,flat.ai,cQ]) ?_
  unfold cQ
  refine bC ?_)
 unfold cQ at pt po
 (refine aY (po) ?_;refine bC ?_)
 (refine aY (pf) ?_;refine bC ?_)
 refine⟨by omega,?_⟩
 (refine aY (pt) ?_;refine bC ?_)
 unfold aX
 refine⟨by omega,(aq (by kernel_rfl)),fun h=>⟨by omega,by simp only[zRd];omega,?_⟩,fun h=>?_⟩
 ·rw[if_pos h];simp
 ·rw[if_neg (by simp[h])];simp
theorem qy (u:bM)(hk:Fair u):PC Tryz.V 92 [cQ u] (.str (bT u)):=by
 obtain⟨hk,-⟩:=hk
 (refine aZ 3000 Tryz.func92 rfl Tryz.ntmps92 Tryz.results92 Tryz.call92 (by simp) (by simp[flat,flat.ai,cQ]) (by simp[flat,flat.ai,cQ]) ?_
  unfold cQ
  refine bC ?_)
 unfold bT
 refine⟨fun h=>?_,fun h=>?_⟩
 ·simp[h]
  refine⟨by omega,by omega⟩
 ·simp[h]
theorem wQ (u:bM):PC Tryz.V 54 [cQ u] (.agg [.str u.host,.int .i64 u.port]):=by
 (refine aZ 3000 Tryz.func54 rfl Tryz.ntmps54 Tryz.results54 Tryz.call54 (by simp) (by simp[flat,flat.ai,cQ]) (by simp[flat,flat.ai,cQ]) ?_
  unfold cQ
  exact bC True.intro)
theorem fM (u:bM)(hk:Fair u):PC Tryz.V 38 [cQ u] (.str (aX u)):=by
 have hl:=hk.1
 have hx:=nt u.host hk.2.1 hk.2.2
 have ht:=jN u
 have pt:=qy u hk
 have po:=wQ u
 have pf:=Fw u.host u.port (by omega) hk.2.1 hk.2.2
 (refine aZ 3000 Tryz.func38 rfl Tryz.ntmps38 Tryz.results38 Tryz.call38 (by simp) (by simp[flat,flat.ai,cQ]) (by simp[flat,flat.ai,cQ]) ?_
  unfold cQ
  refine bC ?_)
 unfold cQ at pt po
 (refine aY (po) ?_;refine bC ?_)
 (refine aY (pf) ?_;refine bC ?_)
 refine⟨by omega,?_⟩
 (refine aY (pt) ?_;refine bC ?_)
 unfold aX
 refine⟨by omega,(aq (by kernel_rfl)),fun h=>⟨by omega,by simp only[zRd];omega,?_⟩,fun h=>?_⟩
 ·rw[if_pos h];simp
 ·rw[if_neg (by simp[h])];simp
theorem Dj (l:Bytes)(c:UInt8):pre (·==c) l<l.length↔c∈l:=by
 induction l with
 | nil=>simp[pre]
 | cons x l ih =>
   rw[cT]
   by_cases h:x=c
   ·simp[h]
   ·rw[if_neg (by simpa using h)]
    simp only[zRa,Nat.add_lt_add_iff_right,ih,List.mem_cons]
    exact⟨.inr,fun k=>k.resolve_left fun e=>h e.symm⟩
theorem D9 (l:Bytes)(c:UInt8):decide (0≤Lib.indexByte l c)=decide (c∈l):=by
 rw[eQ]
 by_cases h:c∈l
 ·rw[if_pos ((Dj l c).2 h)];simp[h]
 ·rw[if_neg (fun k=>h ((Dj l c).1 k))];simp[h]
theorem Ie (l:Bytes)(c:UInt8):PC Tryz.V 156 [.str l,.str [c]] (.bool (decide (c∈l))) :=
 ⟨Tryz.call156,by simp[flat,flat.ai],by simp[flat,flat.ai],fun w hE=>(Tryz.strings_Contains_one ⟨zRA l⟩ c w).mono fun _ _ ⟨h,k⟩=>⟨by
  rw[h]
  have e:decide (0≤Lib.indexByte l c)=decide (c∈l):=D9 l c
  rw[← e];rfl,cD k.symm⟩⟩
open Go.RowKit Wf
attribute [local go_sem] fE eV get_list
theorem sw {s:Bytes}(h:0<s.length)(ha:isAlpha s[0]=true):dA (s.take 1)=true:=by
 cases s with
 | nil=>simp at h
 | cons c r=>simp at ha;simp[dA,ha]
theorem rR {s:Bytes}(h:0<s.length)(ha:isAlpha s[0]=false):dA s=false:=by
 cases s with
 | nil=>simp at h
 | cons c r=>simp at ha;simp[dA,ha]
theorem my {s:Bytes}{k:Nat}(h0:0<k)(h:k<s.length)(ht:dA (s.take k)=true)(hc:gr s[k]=true):dA (s.take (k+1))=true:=by
 cases s with
 | nil=>simp at h
 | cons c r =>
   obtain⟨j,rfl⟩:∃ j,k=j+1:=⟨k - 1,by omega⟩
   rw[List.take_succ_cons]at ht ⊢
   unfold dA at ht ⊢
   simp only[Bool.and_eq_true]at ht ⊢
   exact⟨ht.1,bn (by simpa using h) ht.2 (by simpa using hc)⟩
theorem BN {s:Bytes}{k:Nat}(h0:0<k)(h:k<s.length)(hc:gr s[k]=false):dA s=false:=by
 cases s with
 | nil=>simp at h
 | cons c r =>
   obtain⟨j,rfl⟩:∃ j,k=j+1:=⟨k - 1,by omega⟩
   have:=dC (p:=gr) (s:=r) (k:=j) (by simpa using h) (by simpa using hc)
   show (isAlpha c&&r.all gr)=false
   rw[this];simp
theorem M6 (c:UInt8):([43,45,46].contains c=true→0≤Lib.indexByte [43,45,46] c)∧([43,45,46].contains c=false→Lib.indexByte [43,45,46] c=-1):=by
 have h:=dz (p:=fun c=>decide (([43,45,46].contains c=true→0≤Lib.indexByte [43,45,46] c)∧([43,45,46].contains c=false→Lib.indexByte [43,45,46] c=-1))) (by decide +kernel) c
 exact of_decide_eq_true h
theorem HA (s:Bytes)(w:World)(hs:s.length≤9223372036854775807) :
 Calls Tryz.prog 207 #[(Value.string ⟨zRA (s)⟩)] w fun e w'=>e=.returned (.bool (dA s))∧w=w':=by
 go_enter Tryz.func207,Tryz.ntmps207
 go_wp2_with fail
 go_loop [6] (fun i=>∃ k:Nat,k≤s.length∧i=.int .i64 k∧(k=0∨dA (s.take k)=true)) (fun i=>s.length - (intOf i).toNat)
 case atStart=>exact⟨0,by omega,rfl,.inl rfl⟩
 case round =>
  obtain⟨k,hk,rfl,hr⟩:=hrel
  have Hr:=hid hr
  clear hr
  by_cases aA:k<s.length
  ·cases ha:isAlpha s[k]
   ·by_cases h0:k=0
    ·subst h0
     have Hq:=hid (rR aA ha)
     go_wp2_with (first
      | (go_at_call 251;refine(dG _ _).mono ?_;rintro e w' ⟨rfl,rfl⟩)
      | (go_at_call 252;refine(cn _ _).mono ?_;rintro e w' ⟨rfl,rfl⟩)
      | (go_at_call 209;refine(eM [43,45,46] _ _).mono ?_;rintro e w' ⟨rfl,rfl⟩))
     go_ret
     exact⟨bD Hq.out.symm,rfl⟩
    ·have l6:((k:Int)==0)=false:=by simp[h0]
     have Hr2:=hid (Hr.out.resolve_left h0)
     obtain⟨p1,p2⟩:=M6 s[k]
     cases hd:isDigit s[k]
     ·cases hp:[43,45,46].contains s[k]
      ·have p3:=p2 hp
       have Hq:=hid (BN (by omega) aA (by unfold gr;rw[ha,hd,hp];rfl))
       clear p1 p2 hp
       go_wp2_with (first
        | (go_at_call 251;refine(dG _ _).mono ?_;rintro e w' ⟨rfl,rfl⟩)
        | (go_at_call 252;refine(cn _ _).mono ?_;rintro e w' ⟨rfl,rfl⟩)
        | (go_at_call 209;refine(eM [43,45,46] _ _).mono ?_;rintro e w' ⟨rfl,rfl⟩))
       go_ret
       exact⟨bD Hq.out.symm,rfl⟩
      ·have p3:=p1 hp
       have Hn:=hid (my (by omega) aA Hr2.out (by unfold gr;rw[hp];simp))
       clear p1 p2 hp
       go_wp2_with (first
        | (go_at_call 251;refine(dG _ _).mono ?_;rintro e w' ⟨rfl,rfl⟩)
        | (go_at_call 252;refine(cn _ _).mono ?_;rintro e w' ⟨rfl,rfl⟩)
        | (go_at_call 209;refine(eM [43,45,46] _ _).mono ?_;rintro e w' ⟨rfl,rfl⟩))
       go_round
       case rel=>exact⟨k+1,by omega,by go_num,.inr Hn.out⟩
       case measure=>simp[intOf];omega
     ·have Hn:=hid (my (by omega) aA Hr2.out (by unfold gr;rw[hd];simp))
      clear p1 p2
      go_wp2_with (first
       | (go_at_call 251;refine(dG _ _).mono ?_;rintro e w' ⟨rfl,rfl⟩)
       | (go_at_call 252;refine(cn _ _).mono ?_;rintro e w' ⟨rfl,rfl⟩)
       | (go_at_call 209;refine(eM [43,45,46] _ _).mono ?_;rintro e w' ⟨rfl,rfl⟩))
      go_round
      case rel=>exact⟨k+1,by omega,by go_num,.inr Hn.out⟩
      case measure=>simp[intOf];omega
   ·have Hn:Hid (dA (s.take (k+1))=true):=hid (by
     rcases Hr.out with rfl|hr
     ·exact sw aA ha
     ·by_cases h0:k=0
      ·subst h0;exact sw aA ha
      ·exact my (by omega) aA hr (by unfold gr;rw[ha];rfl))
    go_wp2_with (first
     | (go_at_call 251;refine(dG _ _).mono ?_;rintro e w' ⟨rfl,rfl⟩)
     | (go_at_call 252;refine(cn _ _).mono ?_;rintro e w' ⟨rfl,rfl⟩)
     | (go_at_call 209;refine(eM [43,45,46] _ _).mono ?_;rintro e w' ⟨rfl,rfl⟩))
    go_round
    case rel=>exact⟨k+1,by omega,by go_num,.inr Hn.out⟩
    case measure=>simp[intOf];omega
  ·cases hem:s.isEmpty
   ·have Hq:Hid (dA s=true):=hid (by
     rcases Hr.out with rfl|hr
     ·cases s <;> simp at hem aA
     ·rw[List.take_of_length_le (by omega)]at hr;exact hr)
    go_wp2_with fail
    go_ret
    exact⟨bD Hq.out.symm,rfl⟩
   ·have Hq:Hid (dA s=false):=hid (by cases s <;> simp at hem <;> rfl)
    go_wp2_with fail
    go_ret
    exact⟨bD Hq.out.symm,rfl⟩
open Go Vc Go.RowKit Wf
def lZ (u:Uri):SV:=.agg [.str u.scheme,.str u.authority,.str u.path,.str u.query,.str u.fragment,.bool u.bR,.bool u.aT,.bool u.aD,.bool u.aP]
theorem iV (s:Bytes):dZ s=s.take (cK s - 1):=by
 unfold dZ cK
 have h:=List.suffix_iff_eq_drop.1 (List.dropWhile_suffix (l:=s.reverse) (· != 47))
 have hle:=(List.dropWhile_suffix (l:=s.reverse) (· != 47)).length_le
 generalize (s.reverse.dropWhile (· != 47))=d at h hle
 rw[List.length_reverse]at hle
 rw[h,List.drop_drop,List.reverse_drop,List.reverse_reverse,List.length_reverse]
 congr 1
 simp
 omega
theorem jZ (s:Bytes):uy s 47=(cK s:Int) - 1:=Np s 47
theorem gS (s:Bytes):cK s≤s.length:=by
 have:=(List.dropWhile_suffix (l:=s.reverse) (· != 47)).length_le
 rw[List.length_reverse]at this
 exact this
theorem Bd (s:Bytes):s.take (max 0 (uy s 47)).toNat=dZ s:=by
 rw[iV,jZ]
 congr 1
 omega
theorem Nn (s:Bytes):uy s 47≤s.length:=by
 have:=gS s
 rw[jZ]
 omega
theorem Dq (s:Bytes)(hs:s.length≤9223372036854775807):PC Tryz.V 207 [.str s] (.bool (dA s)) :=
 ⟨Tryz.call207,by simp[flat,flat.ai],by simp[flat,flat.ai],fun w _=>(HA s w hs).mono fun _ _ ⟨h,k⟩=>⟨h,cD k⟩⟩
theorem c9 {s:Bytes}(h:Lib.hasPrefix s [47,47]=false):aG s=([],false,s):=by
 unfold aG
 split
 ·simp[Lib.hasPrefix]at h
 ·rfl
theorem kR {s:Bytes}(h:Lib.hasPrefix s [47,47]=true):aG s=((Lib.trimPrefix s [47,47]).take (pre (·==47) (Lib.trimPrefix s [47,47])),true,(Lib.trimPrefix s [47,47]).drop (pre (·==47) (Lib.trimPrefix s [47,47]))):=by
 obtain⟨r,rfl⟩:=zRC.1 h
 have ht:Lib.trimPrefix ([47,47]++r) [47,47]=r:=by simp[Lib.trimPrefix,Lib.hasPrefix]
 rw[ht]
 rfl
theorem qx (s:Bytes):PC Tryz.V 154 [.str s] (.eW [lZ (aL s).1,.int .i64 (aL s).2]):=by
 refine aZ 3000 Tryz.func154 rfl Tryz.ntmps154 Tryz.results154 Tryz.call154 (by simp) (by simp[flat,flat.ai]) (by simp[flat,flat.ai,lZ]) ?_
 refine bC ?_
 refine⟨fun h=>?_,fun h=>?_⟩
 ·have:aL s=(Uri.none,5):=if_pos (by simp at h;omega)
  rw[this];rfl
 ·have hl:s.length<4294967281:=by simp at h;omega
  have hq:aL s=aR (aN 63 (aN 35 s).1).1 (aN 35 s).2.1 (aN 63 (aN 35 s).1).2.1 (aN 35 s).2.2 (aN 63 (aN 35 s).1).2.2:=if_neg (by simp at h;omega)
  rw[hq]
  have l1:=jn 35 s
  have l2:=jn 63 (aN 35 s).1
  (refine aa (Jq s 35 hl) ?_;refine bC ?_)
  (refine aa (Jq _ 63 (by omega)) ?_;refine bC ?_)
  generalize aN 63 (aN 35 s).1=C2 at l2 ⊢
  generalize aN 35 s=C1 at l1 l2 ⊢
  obtain⟨s1,fr,hf⟩:=C1
  obtain⟨s2,qu,L8⟩:=C2
  simp only at l1 l2 ⊢
  have Mg:Lib.indexAny s2 [58,47]=if pre ay s2<s2.length then(pre ay s2:Int) else -1:=kI s2 [58,47]
  have p3:=Ic s2 [58,47] (by decide) (by decide) (by decide) (by omega)
  -- the end: the authority and the path
  by_cases hp:pre ay s2<s2.length
  ·rw[if_pos hp]at Mg
   rw[Mg]at p3
   (refine aa (p3) ?_;refine bC ?_)
   refine⟨fun _=>⟨⟨by omega,by omega⟩,fun h1=>⟨⟨by omega,by omega⟩,?_⟩,fun h1=>?_⟩,fun h1=>?_⟩
   ·have hh:(s2.drop (pre ay s2)).head? = some 58:=by
     rw[zRp,zRf hp]
     rw[dw (n:=58) hp 58 rfl]at h1
     rw[beq_iff_eq.1 h1]
    (refine aa (Dq _ (by simp;omega)) ?_;refine bC ?_)
    refine⟨fun h2=>?_,fun h2=>⟨⟨by omega,by omega⟩,⟨by omega,by omega⟩,⟨by omega,by omega⟩,(aq (by kernel_rfl)),?_⟩⟩
    ·have:aR s2 fr qu hf L8=(Uri.none,6):=by
      unfold aR
      rw[if_pos hh,if_neg (by simpa using h2)]
     rw[this];rfl
    ·have hs:aR s2 fr qu hf L8=(⟨s2.take (pre ay s2),(aG (s2.drop (pre ay s2+1))).1,(aG (s2.drop (pre ay s2+1))).2.2,qu,fr,true,(aG (s2.drop (pre ay s2+1))).2.1,L8,hf⟩,0):=by
      unfold aR
      rw[if_pos hh,if_pos (by simpa using h2)]
     have AF:(s2.drop (pre ay s2+1)).length≤s2.length:=by simp
     (
      (refine aa (mG (s2.drop (pre ay s2+1)) [47,47]) ?_;refine bC ?_)
      cases jh:Lib.hasPrefix (s2.drop (pre ay s2+1)) [47,47]
      ·refine⟨fun h=>(by cases h),fun _=>?_⟩
       have ht:Lib.trimPrefix (s2.drop (pre ay s2+1)) [47,47]=s2.drop (pre ay s2+1):=by unfold Lib.trimPrefix;rw[jh];rfl
       rw[hs,c9 jh];rfl
      ·refine⟨fun _=>?_,fun h=>(by cases h)⟩
       have hl3:=tD (s2.drop (pre ay s2+1)) [47,47]
       have JM:=kR jh
       rw[hs,JM]
       generalize Lib.trimPrefix (s2.drop (pre ay s2+1)) [47,47]=rest at hl3 JM ⊢
       have Gk:=eQ rest 47
       have p4:=iK rest 47
       rw[Gk]at p4
       have gU:=cV (·==47) rest
       by_cases hr:pre (·==47) rest<rest.length
       ·rw[if_pos hr]at p4
        (refine aa (p4) ?_;refine bC ?_)
        refine⟨fun h=>?_,fun _=>⟨⟨by omega,by omega⟩,⟨by omega,by omega⟩,(aq (by kernel_rfl)),rfl⟩⟩
        simp at h;omega
       ·rw[if_neg hr]at p4
        (refine aa (p4) ?_;refine bC ?_)
        refine⟨fun _=>⟨⟨by omega,by omega⟩,⟨by omega,by omega⟩,(aq (by kernel_rfl)),?_⟩,fun h=>?_⟩
        ·have:pre (·==47) rest=rest.length:=by omega
         rw[this];simp[lZ]
        ·simp at h)
   ·have hs:aR s2 fr qu hf L8=(⟨[],(aG s2).1,(aG s2).2.2,qu,fr,false,(aG s2).2.1,L8,hf⟩,0):=by
     unfold aR
     rw[if_neg]
     rw[dw (n:=58) hp 58 rfl]at h1
     rw[zRp,zRf hp]
     simpa using h1
    (
     (refine aa (mG (s2) [47,47]) ?_;refine bC ?_)
     cases jh:Lib.hasPrefix (s2) [47,47]
     ·refine⟨fun h=>(by cases h),fun _=>?_⟩
      have ht:Lib.trimPrefix (s2) [47,47]=s2:=by unfold Lib.trimPrefix;rw[jh];rfl
      rw[hs,c9 jh];rfl
     ·refine⟨fun _=>?_,fun h=>(by cases h)⟩
      have hl3:=tD (s2) [47,47]
      have JM:=kR jh
      rw[hs,JM]
      generalize Lib.trimPrefix (s2) [47,47]=rest at hl3 JM ⊢
      have Gk:=eQ rest 47
      have p4:=iK rest 47
      rw[Gk]at p4
      have gU:=cV (·==47) rest
      by_cases hr:pre (·==47) rest<rest.length
      ·rw[if_pos hr]at p4
       (refine aa (p4) ?_;refine bC ?_)
       refine⟨fun h=>?_,fun _=>⟨⟨by omega,by omega⟩,⟨by omega,by omega⟩,(aq (by kernel_rfl)),rfl⟩⟩
       simp at h;omega
      ·rw[if_neg hr]at p4
       (refine aa (p4) ?_;refine bC ?_)
       refine⟨fun _=>⟨⟨by omega,by omega⟩,⟨by omega,by omega⟩,(aq (by kernel_rfl)),?_⟩,fun h=>?_⟩
       ·have:pre (·==47) rest=rest.length:=by omega
        rw[this];simp[lZ]
       ·simp at h)
   ·simp at h1
  ·rw[if_neg hp]at Mg
   rw[Mg]at p3
   (refine aa (p3) ?_;refine bC ?_)
   refine⟨fun h1=>?_,fun h1=>?_⟩
   ·simp at h1
   ·have hs:aR s2 fr qu hf L8=(⟨[],(aG s2).1,(aG s2).2.2,qu,fr,false,(aG s2).2.1,L8,hf⟩,0):=by
     unfold aR
     rw[if_neg]
     rw[zRu (by omega)];simp
    (
     (refine aa (mG (s2) [47,47]) ?_;refine bC ?_)
     cases jh:Lib.hasPrefix (s2) [47,47]
     ·refine⟨fun h=>(by cases h),fun _=>?_⟩
      have ht:Lib.trimPrefix (s2) [47,47]=s2:=by unfold Lib.trimPrefix;rw[jh];rfl
      rw[hs,c9 jh];rfl
     ·refine⟨fun _=>?_,fun h=>(by cases h)⟩
      have hl3:=tD (s2) [47,47]
      have JM:=kR jh
      rw[hs,JM]
      generalize Lib.trimPrefix (s2) [47,47]=rest at hl3 JM ⊢
      have Gk:=eQ rest 47
      have p4:=iK rest 47
      rw[Gk]at p4
      have gU:=cV (·==47) rest
      by_cases hr:pre (·==47) rest<rest.length
      ·rw[if_pos hr]at p4
       (refine aa (p4) ?_;refine bC ?_)
       refine⟨fun h=>?_,fun _=>⟨⟨by omega,by omega⟩,⟨by omega,by omega⟩,(aq (by kernel_rfl)),rfl⟩⟩
       simp at h;omega
      ·rw[if_neg hr]at p4
       (refine aa (p4) ?_;refine bC ?_)
       refine⟨fun _=>⟨⟨by omega,by omega⟩,⟨by omega,by omega⟩,(aq (by kernel_rfl)),?_⟩,fun h=>?_⟩
       ·have:pre (·==47) rest=rest.length:=by omega
        rw[this];simp[lZ]
       ·simp at h)
def RdI (s:Bytes)(σ:St):Prop:=∃ (p o:Bytes) (j f:Nat),lk 0 σ.t=some (.str p)∧lk 3 σ.t=some (.o j o.length)∧σ.b[j]? = some (.own (o.map dW) 5 1 o.length true)∧p.length+o.length≤s.length∧p.length≤f∧fH f p o=aM s
def RdM (σ:St):Nat:=match lk 0 σ.t with
 | some (.str p)=>p.length
 | _=>0
theorem Pd {σ:St}{p:Bytes}(h:lk 0 σ.t=some (.str p)):RdM σ=p.length:=by simp[RdM,h]
theorem jP {s p' o':Bytes}{j f n:Nat}{t:List (Nat × SV)}{b:List av}(h0:lk 0 t=some (.str p'))(h3:lk 3 t=some (.o j o'.length))(hj:b[j]? = some (.own (o'.map dW) 5 1 o'.length true))(hlen:p'.length+o'.length≤s.length)(hf:p'.length≤f)(jL:fH f p' o'=aM s)(aA:p'.length<n) :
 RdI s ⟨t,b⟩∧RdM ⟨t,b⟩<n:=⟨⟨p',o',j,f,h0,h3,hj,hlen,hf,jL⟩,by rw[Pd h0];exact aA⟩
theorem M0 (o:Bytes):∃ X:Int,(if 0<uy o 47 then uy o 47 else 0)=X∧0≤X∧X≤o.length∧o.take X.toNat=dZ o:=by
 refine⟨_,rfl,by split <;> omega,?_,?_⟩
 ·have:=Nn o;split <;> omega
 ·rw[← Bd o]
  congr 2
  split <;> omega
theorem yN {o:Bytes}{X:Int}(h:X≤o.length):(o.take X.toNat).length=X.toNat:=by rw[zRj];omega
theorem rd_at {b:List av}{j:Nat}{o:Bytes}{X:Int}(h:X≤o.length):(b.set j .gone++[.own ((o.map dW).take (X.toNat * 1)) 5 1 X.toNat true])[b.length]? = some (.own ((o.take X.toNat).map dW) 5 1 (o.take X.toNat).length true):=by
 rw[zRg (by simp),yN h]
 simp[List.map_take]
theorem M1 (b:List av)(j:Nat)(o y:Bytes):(b.set j .gone++[.own (o.map dW++y.map dW) 5 1 (o.length+y.length) true])[b.length]? = some (.own ((o++y).map dW) 5 1 (o++y).length true):=by
 rw[zRg (by simp)]
 simp
theorem gQ (s:Bytes)(hs:s.length≤4294967281):PC Tryz.V 158 [.str s] (.str (aM s)):=by
 refine aZ 3000 Tryz.func158 rfl Tryz.ntmps158 Tryz.results158 Tryz.call158 (by simp) (by simp[flat,flat.ai]) (by simp[flat,flat.ai]) ?_
 refine bC ?_
 refine⟨by omega,az (RdI s) RdM ⟨s,[],0,s.length,rfl,rfl,rfl,by simp,zRD _,rfl⟩ ?_⟩
 rintro⟨t,b⟩ ⟨p,o,j,f,h0,h3,hj,hlen,hf,jL⟩
 simp only at h0 h3 hj
 rw[Pd h0]
 refine gN (zQ8 h0 (zQ8 h3 hj)) ?_
 have kL:p=[]→o=aM s:=fun hp=>by subst hp;cases f <;> simpa[fH] using jL
 refine⟨fun hp=>?_,fun hp=>⟨gd o,?_⟩⟩
 rotate_left
 ·rw[ll,kL (by simpa using hp)]
 replace hp:p≠[]:=by simpa using hp
 have gU:0<p.length:=zRE.2 hp
 obtain⟨f,rfl⟩:∃ f',f=f'+1:=⟨f - 1,by omega⟩
 rw[fH,if_neg hp]at jL
 (refine aa (jX p [46,46,47]) ?_
  refine gN (zQ8 h0 (zQ8 h3 hj)) ?_)
 refine⟨fun c1=>?_,fun c1=>?_⟩
 ·have h:=fG c1
  rw[show dv p o=(p.drop 3,o) from if_pos c1]at jL
  exact⟨⟨by omega,by simp at h;omega⟩,jP rfl h3 hj (by simp;omega) (by simp at h ⊢;omega) jL (by simp at h ⊢;omega)⟩
 (refine aa (jX p [46,47]) ?_
  refine gN (zQ8 h0 (zQ8 h3 hj)) ?_)
 refine⟨fun c2=>?_,fun c2=>?_⟩
 ·have h:=fG c2
  rw[show dv p o=(p.drop 2,o) by unfold dv;rw[if_neg (mM c1)];exact if_pos c2]at jL
  exact⟨⟨by omega,by simp at h;omega⟩,jP rfl h3 hj (by simp;omega) (by simp at h ⊢;omega) jL (by simp at h ⊢;omega)⟩
 (refine aa (jX p [47,46,47]) ?_
  refine gN (zQ8 h0 (zQ8 h3 hj)) ?_)
 refine⟨fun c3=>?_,fun c3=>?_⟩
 ·have h:=fG c3
  rw[show dv p o=(p.drop 2,o) by unfold dv;rw[if_neg (mM c1),if_neg (mM c2)];exact if_pos c3]at jL
  exact⟨⟨by omega,by simp at h;omega⟩,jP rfl h3 hj (by simp;omega) (by simp at h ⊢;omega) jL (by simp at h ⊢;omega)⟩
 refine⟨fun c4=>?_,fun c4=>?_⟩
 ·have h:p=[47,46]:=by simpa using c4
  subst h
  exact jP (p':=[47]) rfl h3 hj (by simp at hlen ⊢;omega) (by simp at hf ⊢;omega) jL (by simp)
 have n4:¬ p=[47,46]:=by simpa using c4
 have Lg:dv p o=if [47,46,46,47].isPrefixOf p then(p.drop 3,dZ o)
  else if p=[47,46,46] then([47],dZ o)
  else if p=[46]∨p=[46,46] then([],o)
  else(p.drop (1+pre (·==47) (p.drop 1)),o++p.take (1+pre (·==47) (p.drop 1))):=by
  unfold dv;rw[if_neg (mM c1),if_neg (mM c2),if_neg (mM c3),if_neg n4]
 rw[Lg]at jL
 (refine aa (jX p [47,46,46,47]) ?_
  refine gN (zQ8 h0 (zQ8 h3 hj)) ?_)
 refine⟨fun c5=>⟨fun c6=>?_,fun c6=>⟨fun c7=>⟨fun c8=>?_,fun c8=>?_⟩,fun c7=>?_⟩⟩,fun c5=>?_⟩
 ·have h:p=[47,46,46]:=by simpa using c6
  subst h
  refine⟨by simp,?_⟩
  (refine aa (ub _ [47]) ?_
   refine gN (zQ8 h0 (zQ8 h3 hj)) ?_)
  refine⟨by decide,gd o,?_⟩
  rw[ll]
  (refine aa (ix o 47 (by omega)) ?_
   refine gN (zQ8 h0 (zQ8 h3 hj)) ?_)
  obtain⟨X,hX,x0,x1,hx⟩:=M0 o
  rw[hX]
  refine⟨⟨x0,x1⟩,jP (p':=[47]) (o':=o.take X.toNat) (f:=f) rfl ?_ (rd_at x1) ?_ ?_ ?_ (by simp)⟩
  ·rw[yN x1];rfl
  ·rw[yN x1];simp at hlen ⊢;omega
  ·simp at hf ⊢;omega
  ·rw[hx];exact jL
 ·have h:p=[46,46]:=by simpa using c8
  subst h
  exact jP (p':=[]) rfl h3 hj (by simp at hlen ⊢;omega) (by simp at hf ⊢) jL (by simp)
 ·have n5:=mM c5
  have n6:¬ p=[47,46,46]:=by simpa using c6
  have n7:¬ (p=[46]∨p=[46,46]):=by rintro(h|h) <;> subst h <;> simp at c7 c8
  rw[if_neg n5,if_neg n6,if_neg n7]at jL
  simp only at jL
  have p4:=iK (p.drop 1) 47
  rw[eQ]at p4
  have hpr:=cV (·==47) (p.drop 1)
  generalize pre (·==47) (p.drop 1)=q at jL p4 hpr
  simp only[zRb]at p4 hpr
  refine⟨by omega,?_⟩
  by_cases hq:q<p.length - 1
  ·rw[if_pos hq]at p4
   (refine aa (p4) ?_
    refine gN (zQ8 h0 (zQ8 h3 hj)) ?_)
   have e:(1+(q:Int)).toNat=1+q:=by omega
   have el:(p.take (1+q)).length=1+q:=by rw[zRj];omega
   rw[e]
   refine⟨by omega,fun h=>(by simp at h;omega),fun _=>⟨by omega,⟨jG _,by rw[el];unfold maxLen;omega,by rw[el];omega⟩,by omega,jP (p':=p.drop (1+q)) (o':=o++p.take (1+q)) (f:=f) rfl ?_ (M1 ..) ?_ ?_ jL ?_⟩⟩
   ·rw[zRd];rfl
   ·simp;omega
   ·simp;omega
   ·simp;omega
  ·rw[if_neg hq]at p4
   have nC:1+q=p.length:=by omega
   rw[nC,List.drop_length,zRx]at jL
   (refine aa (p4) ?_
    refine gN (zQ8 h0 (zQ8 h3 hj)) ?_)
   refine⟨by omega,fun _=>⟨by omega,⟨jG _,by unfold maxLen;omega,by omega⟩,by omega,jP (p':=[]) (o':=o++p) (f:=f) ?_ ?_ (M1 ..) ?_ ?_ jL ?_⟩,fun h=>(by simp at h)⟩
   ·simp[lk]
   ·rw[zRd];rfl
   ·simp;omega
   ·simp
   ·exact gU
 ·have h:p=[46]:=by simpa using c7
  subst h
  exact jP (p':=[]) rfl h3 hj (by simp at hlen ⊢;omega) (by simp at hf ⊢) jL (by simp)
 ·rw[if_pos (show List.isPrefixOf [47,46,46,47] p=true from c5)]at jL
  obtain⟨r,rfl⟩:=zRC.1 c5
  refine⟨by simp;omega,?_⟩
  (refine aa (ub _ [47]) ?_
   refine gN (zQ8 h0 (zQ8 h3 hj)) ?_)
  have ht:Lib.trimPrefix (47::r) [47]=r:=by simp[Lib.trimPrefix,Lib.hasPrefix]
  have hd:(47::46::46::47::r:Bytes).drop (Int.toNat 3)=47::r:=rfl
  rw[hd,ht]
  refine⟨by simp at hlen;omega,gd o,?_⟩
  rw[ll]
  (refine aa (ix o 47 (by omega)) ?_
   refine gN (zQ8 h0 (zQ8 h3 hj)) ?_)
  obtain⟨X,hX,x0,x1,hx⟩:=M0 o
  rw[hX]
  refine⟨⟨x0,x1⟩,jP (p':=47::r) (o':=o.take X.toNat) (f:=f) rfl ?_ (rd_at x1) ?_ ?_ ?_ (by simp)⟩
  ·rw[yN x1];rfl
  ·rw[yN x1];simp at hlen ⊢;omega
  ·simp at hf ⊢;omega
  ·rw[hx];exact jL
theorem CZ {bs:List av}{i:Nat}{x y:SV}(hi:bs[i]? = some (.cells [x,y] 253 true))(hx:x=.v (.pointer none)∨x=.p i 0) :
 SC Tryz.V 267 [.p i 0] bs (fun r bs'=>r=.eW []∧bs'=bs.set i (.cells [.p i 0,y] 253 true)):=by
 have dF:i<bs.length:=(zQ9.1 hi).1
 refine BO hi rfl Tryz.call267 rfl (fun β fp w hE hh=>?_)
 obtain⟨h0,⟨rest,fz,hd,rfl⟩,h3⟩:=hh β (cN.refl _ _)
 have ea:(a8 β [.p i 0]).toArray=#[.pointer (some ⟨(β i).fh,0,none⟩)]:=by simp[a8,ak,h0]
 rw[ea]
 have jT:w.cell? ⟨(β i).fh,0,none⟩=some (ak β x):=hd.vM 0 _ (by simp)
 rcases hx with rfl|rfl
 ·have mL:=hd.1
  have NU:=hd.2
  refine(Any.Builder_copyCheck_fresh { Tryz.Io with } Tryz.uI.toX72 (β i).fh w jT ?_ ?_).mono ?_
  ·simp[World.shape?,mL]
   rfl
  ·simp[World.frozen?,mL]
   simp at NU
   omega
  ·rintro e w' ⟨rfl,rfl⟩
   refine⟨rfl,?_,fp i,fun k hk=>hk,fun β' hβ=>?_⟩
   ·exact⟨rfl,rfl,rfl,by simp[World.setCell],fun k _ hn=>Below.heap_setCell _ _ _ _ (fun e=>hn ((h3 k).2 e))⟩
   ·have hb:=hβ i dF
    obtain⟨k0,⟨rest,fz',hd',rfl⟩,k3⟩:=hh β' hβ
    refine⟨k0,⟨[],fz',⟨?_,by simpa using hd'.2⟩,rfl⟩,k3⟩
    rw[hb,heap_set hd'.1]
    simp[ak,k0]
 ·refine(Any.Builder_copyCheck_used { Tryz.Io with } Tryz.uI.toX72 (β i).fh w ?_).mono ?_
  ·rw[jT];simp[ak,h0]
  ·rintro e w' ⟨rfl,rfl⟩
   exact⟨rfl,tz.refl _ _,fp i,fun k hk=>hk,hh⟩
theorem AK {bs:List av}{i j:Nat}{x:SV}{l s:Bytes}(hi:bs[i]? = some (.cells [x,.o j l.length] 253 true))(hx:x=.v (.pointer none)∨x=.p i 0)(hj:bs[j]? = some (.own (l.map dW) 5 1 l.length true))(Gj:i≠j)(hlen:l.length+s.length≤140737488355328) :
 SC Tryz.V 230 [.p i 0,.str s] bs (fun r bs'=>r=.eW [.int .i64 s.length,.v .nilIface]∧bs'[i]? = some (.cells [.p i 0,.o bs.length (l++s).length] 253 true)∧bs'[bs.length]? = some (.own ((l++s).map dW) 5 1 (l++s).length true)∧∀ k,k<bs.length→k≠i→k≠j→bs'[k]? = bs[k]?):=by
 have dF:i<bs.length:=(zQ9.1 hi).1
 refine bo 3000 Tryz.func230 rfl Tryz.ntmps230 Tryz.results230 Tryz.call230 (by simp) (ah bs.length _ (by simp[within,within.ax,dF])) ?_
 refine bC ?_
 refine ae (CZ hi hx) ?_
 rintro r bs1 ⟨rfl,rfl⟩
 have h1:(bs.set i (.cells [.p i 0,.o j l.length] 253 true))[i]? = some (.cells [.p i 0,.o j l.length] 253 true):=zRn dF
 have h2:(bs.set i (.cells [.p i 0,.o j l.length] 253 true))[j]? = some (.own (l.map dW) 5 1 l.length true):=by rw[zRh Gj];exact hj
 have h3:∀ k,k≠i→(bs.set i (.cells [.p i 0,.o j l.length] 253 true))[k]? = bs[k]? := fun k hk=>zRh (fun e=>hk e.symm)
 have h4:(bs.set i (.cells [.p i 0,.o j l.length] 253 true)).length=bs.length:=List.length_set ..
 generalize bs.set i (.cells [.p i 0,.o j l.length] 253 true)=bs1 at h1 h2 h3 h4 ⊢
 have h5:∀ X,(bs1.set j .gone++[X])[i]? = some (.cells [.p i 0,.o j l.length] 253 true):=fun X=>by
  rw[zRe (by simp;omega),zRh (fun e=>Gj e.symm)];exact h1
 refine gN (zQ8 h1 (zQ8 h2 h5)) ?_
 refine⟨⟨jG _,by unfold maxLen;omega,by omega⟩,?_,?_,fun k hk kv hkj=>?_⟩
 ·rw[zRn (by simp;omega),h4,zRd]
 ·rw[zRh (by omega),zRg (by simp;omega)]
  simp[h4]
 ·rw[zRh (fun e=>kv e.symm),zRe (by simp;omega),zRh (fun e=>hkj e.symm),h3 k kv]
theorem yF {bs:List av}{i:Nat}{l s:Bytes}(hi:bs[i]? = some (.ext (rO 253 5 l)))(hlen:l.length+s.length≤140737488355328) :
 SC Tryz.V 230 [.p i 0,.str s] bs (fun r bs'=>r=.eW [.int .i64 s.length,.v .nilIface]∧bs'=bs.set i (.ext (rO 253 5 (l++s)))):=by
 have dF:i<bs.length:=(zQ9.1 hi).1
 refine sc_open (R':=fun r bs'=>r=.eW [.int .i64 s.length,.v .nilIface]∧bs'[i]? = some (.cells [.p i 0,.o (bs.length+1) (l++s).length] 253 true)∧bs'[bs.length+1]? = some (.own ((l++s).map dW) 5 1 (l++s).length true)∧∀ k,k<bs.length→k≠i→bs'[k]? = bs[k]?) hi (fun x hx=>(AK (j:=bs.length) (l:=l) (s:=s) ?_ hx ?_ (by omega) hlen).mono ?_) ?_ (by simp[within,within.ax,dF])
 ·rw[zRe (by simpa using dF),zRn dF]
 ·rw[zRg (by simp)];simp
 ·rintro r bs' ⟨rfl,h1,h2,h3⟩
  simp only[zRd,List.length_set,zRa,zRc]at h1 h2 h3
  refine⟨rfl,by simpa using h1,by simpa using h2,fun k hk kv=>?_⟩
  rw[h3 k (by omega) kv (by omega),zRe (by simpa using hk),zRh (fun e=>kv e.symm)]
 ·rintro r bs' ⟨rfl,h1,h2,h3⟩
  exact⟨.p i 0,bs.length+1,l++s,rfl,.inr rfl,⟨rfl,rfl⟩,h1,h2,by omega,h3⟩
set_option maxRecDepth 100000 in
theorem Mq {b:Nat}{p:Value}{t2:Bt}{f2:Nat→Prop}{l:Bytes}{w:World}{fz:Nat × Nat}(hd:Head w b 253 [p,oV t2 l.length] [] fz)(hr:Holds me t2 f2 w (.own (l.map dW) 5 1 l.length true)) :
 Calls Tryz.prog 233 #[.pointer (some ⟨b,0,none⟩)] w fun e w'=>e=.returned (Value.string ⟨zRA (l)⟩)∧tz f2 w w':=by
 have mixed:Tryz.prog.follows .mixedOrders=true:=by kernel_rfl
 have hb:w.heap[b]? = some (.cells #[p,oV t2 l.length] 253 fz):=by simpa using hd.1
 have hdr:tz f2 w w.drew:=⟨rfl,rfl,rfl,zRD _,fun _ _ _=>rfl⟩
 have hUN:∀ (W:World) (q:Option Addr),(Builtin.unsafeString_ #[280,3] 9 #[.pointer q,.int .i64 0]).run Tryz.prog W=.ok (.string .empty) W:=fun W q=>Lib.run_unsafeString_none W _ _ _ q
 have iM:∀ (W:World),W.heap[b]? = w.heap[b]? → W.cell? ⟨b,1,none⟩=some (oV t2 l.length):=fun W hW=>by
  rw[Lib.cell_of_heap (hW.trans hb)];rfl
 rcases hr with⟨h1,h2,h3,h4⟩|⟨h1,h2,h3,h4,h5,h6,h7⟩
 ·have hl:l=[]:=by simpa using h3
  subst hl
  have hv:oV t2 ([]:Bytes).length=.slice none 0 0:=by simp[oV,h1]
  rw[hv]at hb iM
  have c1:w.drew.cell? ⟨b,1,none⟩=some (.slice none 0 0):=iM _ rfl
  have hSD:(Builtin.unsafeSliceData_ #[22] 280 #[.slice none 0 0]).run Tryz.prog w.drew=.ok (.pointer none) w.drew:=rfl
  go_enter Tryz.func233,Tryz.ntmps233
  go_wp2
  go_region_o
  all_goals (go_wp2;go_ret;exact⟨rfl,hdr⟩)
 ·obtain⟨h8,rest,fr,h9,de,eJ⟩:=h6 rfl
  obtain⟨fh,off,cap⟩:=t2
  simp only at h1 h2 h3 h8 h9 eJ h7
  subst h8
  obtain⟨cap,rfl⟩:∃ c,cap=c+1:=⟨cap - 1,by omega⟩
  have hv:oV ⟨fh,0,cap+1⟩ l.length=.slice (some ⟨fh,0,none⟩) l.length cap:=by simp[oV]
  rw[hv]at hb iM
  have hg:w.heap[fh]? = some (.cells ((l.map dW).map (ak me)++rest).toArray 5 fr):=h9.1
  have mL:((l.map dW).map (ak me)++rest).toArray.size=cap:=by
   simp at eJ ⊢;omega
  by_cases hl:l=[]
  ·subst hl
   simp only[List.map_nil,List.nil_append,zRc]at hb iM hg mL
   have c1:w.drew.cell? ⟨b,1,none⟩=some (.slice (some ⟨fh,0,none⟩) 0 cap):=iM _ rfl
   by_cases hc:cap=0
   ·subst hc
    have mh:b<w.heap.size:=(Array.getElem?_eq_some_iff.1 hb).1
    have hSD:(Builtin.unsafeSliceData_ #[22] 280 #[.slice (some ⟨fh,0,none⟩) 0 0]).run Tryz.prog w.drew=.ok (.pointer (some ⟨w.drew.heap.size,0,none⟩)) (w.drew.alloc (.view ⟨fh,0,none⟩ 5)) :=
     Lib.run_unsafeSliceData_zero w.drew _ _ 5 Tryz.underlying280 ⟨fh,0,none⟩ 0 (5,rest.toArray.size) (by have hg':w.drew.heap[fh]? = _:=hg;simp[World.shape?,hg'])
    have c2:(w.drew.alloc (.view ⟨fh,0,none⟩ 5)).cell? ⟨b,1,none⟩=some (.slice (some ⟨fh,0,none⟩) 0 0):=iM _ (Lib.alloc_old w.drew _ b mh)
    have c3:(w.alloc (.view ⟨fh,0,none⟩ 5)).drew.cell? ⟨b,1,none⟩=some (.slice (some ⟨fh,0,none⟩) 0 0):=c2
    have c0:w.cell? ⟨b,1,none⟩=some (.slice (some ⟨fh,0,none⟩) 0 0):=c1
    have zR:tz f2 w (w.drew.alloc (.view ⟨fh,0,none⟩ 5)):=⟨rfl,rfl,rfl,by simp,fun k hk _=>Lib.alloc_old w.drew _ k hk⟩
    go_enter Tryz.func233,Tryz.ntmps233
    go_wp2
    go_region_o
    all_goals (go_wp2;go_ret;exact⟨rfl,zR⟩)
   ·have hSD:(Builtin.unsafeSliceData_ #[22] 280 #[.slice (some ⟨fh,0,none⟩) 0 cap]).run Tryz.prog w.drew=.ok (.pointer (some ⟨fh,0,none⟩)) w.drew :=
     Lib.run_unsafeSliceData_row _ _ _ _ _ _ hc
    clear hc
    go_enter Tryz.func233,Tryz.ntmps233
    go_wp2
    go_region_o
    all_goals (go_wp2;go_ret;exact⟨rfl,hdr⟩)
  ·have NQ:l.length≠0:=by simpa using hl
   have c1:w.drew.cell? ⟨b,1,none⟩=some (.slice (some ⟨fh,0,none⟩) l.length cap):=iM _ rfl
   have hSD:(Builtin.unsafeSliceData_ #[22] 280 #[.slice (some ⟨fh,0,none⟩) l.length cap]).run Tryz.prog w.drew=.ok (.pointer (some ⟨fh,0,none⟩)) w.drew :=
    Lib.run_unsafeSliceData_row _ _ _ _ _ _ (by omega)
   have hUS:(Builtin.unsafeString_ #[280,3] 9 #[.pointer (some ⟨fh,0,none⟩),.int .i64 l.length]).run Tryz.prog w.drew=.ok (Value.string ⟨zRA (l)⟩) (w.drew.freeze ⟨fh,0,none⟩ l.length):=by
    refine Lib.run_unsafeString_row w.drew 280 3 9 5 Tryz.underlying280 Tryz.uI.cellsByte fh cap (by have hg':w.drew.heap[fh]? = _:=hg;simp only[World.shape?,hg'];simp only[mL]) l hl (by omega) (by unfold maxLen at h3;omega) ?_
    intro j x hx
    have:=h5 j (ak me (dW x)) (by simp[hx])
    rw[eY]
    simpa[dW,ak] using this
   have zR:tz f2 w (w.drew.freeze ⟨fh,0,none⟩ l.length):=by
    unfold World.freeze
    split
    ·exact hdr
    ·refine⟨rfl,rfl,rfl,by simp,fun k hk hn=>?_⟩
     have bK:k≠fh:=fun e=>hn ((h7 k).2 e)
     simp only[Array.getElem?_modify]
     rw[if_neg (fun e=>bK e.symm)]
     rfl
   go_enter Tryz.func233,Tryz.ntmps233
   go_wp2
   go_region_o
   all_goals (go_wp2;go_ret;exact⟨rfl,zR⟩)
theorem Ks {bs:List av}{i:Nat}{l:Bytes}(hi:bs[i]? = some (.ext (rO 253 5 l))) :
 SC Tryz.V 233 [.p i 0] bs (fun r bs'=>r=.str l∧bs'=bs.set i .gone):=by
 refine BO hi rfl Tryz.call233 rfl (fun β fp w hE hh=>?_)
 obtain⟨h0,p,t2,f2,hp,⟨fz,hd⟩,h3,h4,h5⟩:=hh β (cN.refl _ _)
 have ea:(a8 β [.p i 0]).toArray=#[.pointer (some ⟨(β i).fh,0,none⟩)]:=by simp[a8,ak,h0]
 rw[ea]
 refine(Mq hd h3).mono ?_
 rintro e w' ⟨rfl,hf⟩
 exact⟨rfl,hf.mono (fun k hk=>(h5 k).2 (.inr hk)),fun _=>False,fun _ h=>h.elim,fun _ _ _ h=>h⟩
def iS (there:Bool)(l:Bytes)(parts:List Bytes):Bytes:=if there then l++parts.flatten else l
theorem CE (there:Bool)(l:Bytes)(parts:List Bytes)(k:Nat)(hk:k<parts.length):iS there l (parts.take (k+1))=if there then iS there l (parts.take k)++parts[k] else l:=by
 unfold iS
 cases there
 ·rfl
 ·simp only[if_true]
  rw[zRm hk,List.flatten_append]
  simp
def AddI (bs:List av)(i:Nat)(there:Bool)(l:Bytes)(parts:List Bytes)(j:Nat)(σ:St):Prop:=∃ k:Nat,k≤parts.length∧lk 0 σ.t=some (.bool there)∧lk 2 σ.t=some (.p i 0)∧lk 7 σ.t=some (.o j parts.length)∧lk 8 σ.t=some (.int .i64 parts.length)∧lk 9 σ.t=some (.int .i64 k) ∧
 σ.b=bs.set i (.ext (rO 253 5 (iS there l (parts.take k))))
def AddM (parts:List Bytes)(σ:St):Nat:=match lk 9 σ.t with
 | some (.int _ k)=>parts.length - k.toNat
 | _=>0
theorem Ej {parts:List Bytes}{σ:St}{k:Nat}(h:lk 9 σ.t=some (.int .i64 k)):AddM parts σ=parts.length - k:=by simp[AddM,h]
theorem add_len {there:Bool}{l:Bytes}{parts:List Bytes}{k:Nat}(hk:k<parts.length):(iS there l (parts.take k)).length+parts[k].length≤l.length+parts.flatten.length:=by
 have e:(parts.take (k+1)).flatten.length≤parts.flatten.length:=by
  conv=>rhs;rw[← List.take_append_drop (k+1) parts,List.flatten_append,zRd]
  omega
 rw[zRm hk,List.flatten_append,zRd]at e
 unfold iS
 split
 ·simp at e ⊢;omega
 ·simp at e ⊢;omega
theorem yE {bs:List av}{i j:Nat}{l:Bytes}{there:Bool}{parts:List Bytes}{m:Bool}(hi:bs[i]? = some (.ext (rO 253 5 l)))(hj:bs[j]? = some (.own (parts.map SV.str) 9 1 parts.length m))(hlen:l.length+parts.flatten.length≤140737488355328)(hp:parts.length≤1000) :
 SC Tryz.V 238 [.bool there,.o j parts.length,.p i 0] bs (fun r bs'=>r=.eW []∧bs'=bs.set i (.ext (rO 253 5 (iS there l parts)))):=by
 have dF:i<bs.length:=(zQ9.1 hi).1
 have gw:j<bs.length:=(zQ9.1 hj).1
 have Gj:i≠j:=by rintro rfl;rw[hi]at hj;cases hj
 refine bo 3000 Tryz.func238 rfl Tryz.ntmps238 Tryz.results238 Tryz.call238 (by simp) (ah bs.length _ (by simp[within,within.ax,dF,gw])) ?_
 refine bC ?_
 refine az (AddI bs i there l parts j) (AddM parts) ⟨0,by simp,rfl,rfl,rfl,rfl,rfl,?_⟩ ?_
 ·apply List.ext_getElem?
  intro k
  have:iS there l (List.take 0 parts)=l:=by simp[iS]
  rw[this]
  by_cases hk:k=i
  ·subst hk;rw[zRn dF,hi]
  ·rw[zRh (fun e=>hk e.symm)]
 ·rintro⟨t,b⟩ ⟨k,hk,h0,h2,h7,h8,h9,hb⟩
  simp only at h0 h2 h7 h8 h9 hb
  rw[Ej h9]
  have pN:b[j]? = some (.own (parts.map SV.str) 9 1 parts.length m):=by rw[hb,zRh Gj];exact hj
  have ml:b[i]? = some (.ext (rO 253 5 (iS there l (parts.take k)))):=by rw[hb,zRn dF]
  by_cases aA:k<parts.length
  ·have eJ:(List.map SV.str parts)[k * 1]? = some (.str parts[k]):=by simp[aA]
   have hal:=add_len (there:=there) (l:=l) aA
   refine gN (zQ8 h0 (zQ8 h2 (zQ8 h7 (zQ8 h8 (zQ8 h9 (zQ8 pN eJ)))))) ?_
   refine⟨fun _=>⟨⟨by omega,by omega⟩,by simp;omega,fun ht=>?_,fun ht=>?_⟩,fun hc=>(by simp at hc;omega)⟩
   ·refine ae (yF ml (by omega)) ?_
    rintro r bs' ⟨rfl,rfl⟩
    refine gN (zQ8 h0 (zQ8 h2 (zQ8 h7 (zQ8 h8 h9)))) ?_
    refine⟨by omega,⟨k+1,by omega,h0,h2,h7,h8,by simp[lk],?_⟩,?_⟩
    ·simp only[hb,List.set_set]
     rw[CE _ _ _ _ aA,ht];rfl
    ·rw[Ej (k:=k+1) (by simp[lk])];omega
   ·refine⟨by omega,⟨k+1,by omega,h0,h2,h7,h8,by simp[lk],?_⟩,?_⟩
    ·simp only[hb]
     rw[CE _ _ _ _ aA,ht];simp[iS]
    ·rw[Ej (k:=k+1) (by simp[lk])];omega
  ·refine gN (zQ8 h0 (zQ8 h2 (zQ8 h7 (zQ8 h8 (zQ8 h9 pN))))) ?_
   refine⟨fun hc=>(by simp at hc;omega),fun _=>?_⟩
   have:k=parts.length:=by omega
   subst this
   rw[hb,zRx]
theorem yh (there:Bool)(l:Bytes)(parts:List Bytes):(iS there l parts).length≤l.length+parts.flatten.length:=by
 unfold iS;split
 ·simp
 ·omega
def Uri.size (u:Uri):Nat:=u.scheme.length+u.authority.length+u.path.length+u.query.length+u.fragment.length
theorem H6 (u:Uri)(hlen:Uri.size u≤140737488300000):PC Tryz.V 181 [lZ u] (.str (eZ u)):=by
 unfold Uri.size at hlen
 (refine aZ 3000 Tryz.func181 rfl Tryz.ntmps181 Tryz.results181 Tryz.call181 (by simp) (by simp[flat,flat.ai,lZ]) (by simp[flat,flat.ai,lZ]) ?_
  unfold lZ
  refine bC ?_)
 have e1:=yh u.bR [] [u.scheme,[58]]
 have e2:=yh u.aT (iS u.bR [] [u.scheme,[58]]) [[47,47],u.authority]
 have e3:=yh true (iS u.aT (iS u.bR [] [u.scheme,[58]]) [[47,47],u.authority]) [u.path]
 have e4:=yh u.aD (iS true (iS u.aT (iS u.bR [] [u.scheme,[58]]) [[47,47],u.authority]) [u.path]) [[63],u.query]
 have e5:eZ u=iS u.aP (iS u.aD (iS true (iS u.aT (iS u.bR [] [u.scheme,[58]]) [[47,47],u.authority]) [u.path]) [[63],u.query]) [[35],u.fragment]:=by
  unfold eZ iS
  cases u.bR <;> cases u.aT <;> cases u.aD <;> cases u.aP <;> simp
 rw[e5]
 simp only[zRz,zRB,zRF,zRd,zRa,zRc]at e1 e2 e3 e4
 refine⟨by omega,?_⟩
 refine ae (MM (i:=1) (TB:=253) (TU:=5) ?_ (yE (i:=1) (j:=2) (m:=true) (l:=[]) (parts:=[u.scheme,[58]]) ?_ ?_ ?_ ?_)) ?_
 ·rfl
 ·rfl
 ·rfl
 ·simp;omega
 ·simp
 rintro r bs' ⟨rfl,rfl⟩
 generalize iS u.bR [] [u.scheme,[58]]=l1 at e1 e2 e3 e4 ⊢
 refine bC ?_
 refine⟨by omega,?_⟩
 refine ae (yE (i:=1) (j:=3) (m:=true) (l:=l1) (parts:=[[47,47],u.authority]) ?_ ?_ ?_ ?_) ?_
 ·rfl
 ·rfl
 ·simp only[zRz,zRB,zRF,zRd,zRa,zRc];omega
 ·simp
 rintro r bs' ⟨rfl,rfl⟩
 generalize iS u.aT l1 [[47,47],u.authority]=l2 at e2 e3 e4 ⊢
 refine bC ?_
 refine⟨by omega,?_⟩
 refine ae (yE (i:=1) (j:=4) (m:=true) (l:=l2) (parts:=[u.path]) ?_ ?_ ?_ ?_) ?_
 ·rfl
 ·rfl
 ·simp only[zRz,zRB,zRF,zRd,zRa,zRc];omega
 ·simp
 rintro r bs' ⟨rfl,rfl⟩
 generalize iS true l2 [u.path]=l3 at e3 e4 ⊢
 refine bC ?_
 refine⟨by omega,?_⟩
 refine ae (yE (i:=1) (j:=5) (m:=true) (l:=l3) (parts:=[[63],u.query]) ?_ ?_ ?_ ?_) ?_
 ·rfl
 ·rfl
 ·simp only[zRz,zRB,zRF,zRd,zRa,zRc];omega
 ·simp
 rintro r bs' ⟨rfl,rfl⟩
 generalize iS u.aD l3 [[63],u.query]=l4 at e4 ⊢
 refine bC ?_
 refine⟨by omega,?_⟩
 refine ae (yE (i:=1) (j:=6) (m:=true) (l:=l4) (parts:=[[35],u.fragment]) ?_ ?_ ?_ ?_) ?_
 ·rfl
 ·rfl
 ·simp only[zRz,zRB,zRF,zRd,zRa,zRc];omega
 ·simp
 rintro r bs' ⟨rfl,rfl⟩
 refine bC ?_
 refine ae (Ks (i:=1) (l:=iS u.aP l4 [[35],u.fragment]) ?_) ?_
 ·rfl
 rintro r bs' ⟨rfl,rfl⟩
 exact bC True.intro
theorem yr (s:Bytes):(aL s).1.path.length≤s.length:=by
 have JK:=jn 35 s
 have mg:=jn 63 (aN 35 s).1
 have JM:∀ r:Bytes,(aG r).2.2.length≤r.length:=fun r=>by
  unfold aG;split
  ·simp;omega
  ·simp
 unfold aL
 split
 ·simp[Uri.none]
 ·unfold aR
  split
  ·split
   ·have:=JM ((aN 63 (aN 35 s).1).1.drop (pre ay (aN 63 (aN 35 s).1).1+1))
    simp at this ⊢;omega
   ·simp[Uri.none]
  ·have:=JM (aN 63 (aN 35 s).1).1
   simp;omega
theorem sm (s:Bytes):Uri.size (aL s).1≤6 * s.length:=by
 have JK:=jn 35 s
 have mg:=jn 63 (aN 35 s).1
 have JM:∀ r:Bytes,(aG r).2.2.length≤r.length∧(aG r).1.length≤r.length:=fun r=>by
  unfold aG;split
  ·simp;omega
  ·simp
 unfold aL
 split
 ·simp[Uri.none,Uri.size]
 ·unfold aR
  split
  ·split
   ·have:=JM ((aN 63 (aN 35 s).1).1.drop (pre ay (aN 63 (aN 35 s).1).1+1))
    simp[Uri.size]at this ⊢;omega
   ·simp[Uri.none,Uri.size]
  ·have:=JM (aN 63 (aN 35 s).1).1
   simp[Uri.size];omega
theorem hp_head (s:Bytes)(c:UInt8):Lib.hasPrefix s [c]=decide (s.head? = some c):=by
 unfold Lib.hasPrefix
 cases s with
 | nil=>simp
 | cons x l =>
   simp only[List.isPrefixOf,Bool.and_true,List.head?_cons,zRr.injEq]
   by_cases h:x=c
   ·subst h;simp
   ·rw[decide_eq_false h]
    simp
    exact fun e=>h e.symm
theorem Fp (b r:Uri)(hb:b.path.length≤4294967281)(hr:r.path.length≤4294967281):PC Tryz.V 237 [lZ b,lZ r] (.str (gz b r)):=by
 (refine aZ 3000 Tryz.func237 rfl Tryz.ntmps237 Tryz.results237 Tryz.call237 (by simp) (by simp[flat,flat.ai,lZ]) (by simp[flat,flat.ai,lZ]) ?_
  unfold lZ
  refine bC ?_)
 (refine aa (jX _ [47]) ?_;refine bC ?_)
 have Mb:=hp_head r.path 47
 refine⟨fun h=>?_,fun h=>⟨fun h2=>⟨fun h3=>?_,fun h3=>?_⟩,fun h2=>?_⟩⟩
 ·rw[gz,if_pos (by simpa[Mb] using h)]
 ·rw[gz,if_neg (by simpa[Mb] using h),if_pos ⟨h2,by simpa using h3⟩]
  exact⟨by omega,rfl⟩
 ·(
  have hls:=gS b.path
  have p5:=ix b.path 47 (by omega)
  rw[jZ]at p5
  (refine aY (p5) ?_;refine bC ?_)
  have e:((cK b.path:Int) - 1+1).toNat=cK b.path:=by omega
  rw[e]
  refine⟨by omega,by omega,by simp;omega,(aq (by kernel_rfl)),?_⟩)
  rw[gz,if_neg (by simpa[Mb] using h),if_neg (by rintro⟨-,h4⟩;simp[h4]at h3)]
 ·(
  have hls:=gS b.path
  have p5:=ix b.path 47 (by omega)
  rw[jZ]at p5
  (refine aY (p5) ?_;refine bC ?_)
  have e:((cK b.path:Int) - 1+1).toNat=cK b.path:=by omega
  rw[e]
  refine⟨by omega,by omega,by simp;omega,(aq (by kernel_rfl)),?_⟩)
  rw[gz,if_neg (by simpa[Mb] using h),if_neg (by simp[h2])]
theorem GF (p o:Bytes)(hp:p≠[]):(dv p o).1.length+(dv p o).2.length≤p.length+o.length:=by
 have gU:0<p.length:=zRE.2 hp
 have hs:(dZ o).length≤o.length:=by rw[iV,zRj];exact Nat.min_le_right _ _
 have hq:=cV (·==47) (p.drop 1)
 unfold dv
 split
 ·simp
 split
 ·simp
 split
 ·simp
 split
 ·rename_i h;subst h;simp
 split
 ·simp;omega
 split
 ·rename_i h;subst h;simp;omega
 split
 ·simp
 ·simp at hq ⊢
  omega
theorem Af:∀ (f:Nat)(p o:Bytes),(fH f p o).length≤p.length+o.length
 | 0,p,o=>by simp[fH]
 | f+1,p,o=>by
   rw[fH]
   split
   ·simp
   ·rename_i hp
    exact Nat.le_trans (Af f _ _) (GF p o hp)
theorem iZ (s:Bytes):(aM s).length≤s.length:=by
 have:=Af s.length s []
 simpa[aM] using this
theorem tC (b r:Uri):(gz b r).length≤1+b.path.length+r.path.length:=by
 unfold gz
 split
 ·omega
 split
 ·simp;omega
 ·simp;omega
theorem AY (b r:Uri)(hb:b.path.length≤2147480000)(hr:r.path.length≤2147480000):PC Tryz.V 180 [lZ b,lZ r] (lZ (eE b r)):=by
 have hml:=tC b r
 have pm:=Fp b r (by omega) (by omega)
 unfold lZ at pm
 (refine aZ 3000 Tryz.func180 rfl Tryz.ntmps180 Tryz.results180 Tryz.call180 (by simp) (by simp[flat,flat.ai,lZ]) (by simp[flat,flat.ai,lZ]) ?_
  unfold lZ
  refine bC ?_)
 generalize hR:eE b r=R
 rw[eE]at hR
 refine⟨fun h1=>?_,fun h1=>?_⟩
 ·rw[if_pos h1]at hR
  (refine aa (gQ r.path (by omega)) ?_;refine bC ?_)
  rw[← hR]
 rw[if_neg (by simpa using h1)]at hR
 refine⟨fun h2=>?_,fun h2=>?_⟩
 ·rw[if_pos h2]at hR
  (refine aa (gQ r.path (by omega)) ?_;refine bC ?_)
  rw[← hR]
  refine⟨(aq (by kernel_rfl)),fun h=>?_,fun h=>rfl⟩
  simp[h2]at h
 rw[if_neg (by simpa using h2)]at hR
 refine⟨fun h3=>?_,fun h3=>?_⟩
 ·rw[if_pos (by simpa using h3)]at hR
  refine⟨fun h4=>?_,fun h4=>?_⟩
  ·rw[if_neg (by simpa using h4)]at hR
   rw[← hR]
   refine⟨(aq (by kernel_rfl)),(aq (by kernel_rfl)),fun h=>⟨(aq (by kernel_rfl)),rfl⟩,fun h=>?_⟩
   simp[h2]at h
  ·rw[if_pos (by simpa using h4)]at hR
   rw[← hR]
   refine⟨(aq (by kernel_rfl)),fun h=>⟨(aq (by kernel_rfl)),rfl⟩,fun h=>?_⟩
   simp[h2]at h
 ·rw[if_neg (by simpa using h3)]at hR
  (refine aa (pm) ?_;refine bC ?_)
  (refine aa (gQ _ (by omega)) ?_;refine bC ?_)
  rw[← hR]
  refine⟨(aq (by kernel_rfl)),fun h=>⟨(aq (by kernel_rfl)),rfl⟩,fun h=>?_⟩
  simp[h2]at h
theorem xc (a:Bytes)(h:(aK a).2=0):(aK a).1.1.length≤253∧0≤(aK a).1.2∧(aK a).1.2≤65535:=by
 have:=cR (s:=a) (x:=(aK a).1.1) (p:=(aK a).1.2) (by rw[← h])
 omega
theorem wP (s:Bytes):PC Tryz.V 93 [.str s] (.eW [cQ (bz s).1,.int .i64 (bz s).2]):=by
 refine aZ 3000 Tryz.func93 rfl Tryz.ntmps93 Tryz.results93 Tryz.call93 (by simp) (by simp[flat,flat.ai]) (by simp[flat,flat.ai,cQ]) ?_
 refine bC ?_
 refine⟨fun h=>?_,fun h=>?_⟩
 ·have:bz s=(bM.none,5):=if_pos (by simp at h;omega)
  rw[this];rfl
 have hl:¬ 4096<s.length:=(by simp at h;omega)
 have hq:bz s=if (aL s).2≠0 then(bM.none,(aL s).2) else wB (aL s).1:=if_neg hl
 rw[hq]
 have ps:=qx s
 unfold lZ at ps
 have hp:=yr s
 have hz:=sm s
 revert ps hp hz
 generalize aL s=us
 obtain⟨r,c⟩:=us
 intro ps hp hz
 simp only at ps hp hz
 simp only
 unfold Uri.size at hz
 have pl:=DB r.scheme dT (by omega) (by decide)
 have pn:=Ie r.authority 64
 have ph:=Dz r.authority (by omega)
 have p1:=qz r.path dI (by decide)
 have p2:=qz r.query du (by decide)
 have p3:=qz r.fragment du (by decide)
 (refine aa (ps) ?_;refine bC ?_)
 refine⟨fun h1=>?_,fun h1=>?_⟩
 ·rw[if_pos (by simpa using h1)];rfl
 rw[if_neg (by simpa using h1)]
 unfold wB
 cases rH:r.bR
 ·refine gN rH ?_
  rw[if_pos (.inl trivial)];rfl
 refine gN rH ?_
 rw[show lower dT=dT by decide]at pl
 (refine aa pl ?_;refine gN rH ?_)
 refine⟨fun h2=>?_,fun h2=>?_⟩
 ·rw[if_pos (.inr (by simpa using h2))];rfl
 rw[if_neg (by simpa using h2)]
 cases Ok:r.aT
 ·refine gN Ok ?_
  rfl
 refine gN Ok ?_
 (refine aa pn ?_;refine gN Ok ?_)
 refine⟨fun h3=>?_,fun h3=>?_⟩
 ·rw[if_pos (by simpa using h3)];rfl
 rw[if_neg (by simpa using h3)]
 unfold nI
 (refine aa ph ?_;refine gN Ok ?_)
 refine⟨fun h4=>?_,fun h4=>?_⟩
 ·rw[if_pos (by simpa using h4)];rfl
 rw[if_neg (by simpa using h4)]
 have hN1:=gE dI r.path
 have hN2:=gE du r.query
 have hN3:=gE du r.fragment
 have hH:=xc r.authority (by simpa using h4)
 have p4:=gQ (bI dI r.path).1 (by omega)
 have hD:=iZ (bI dI r.path).1
 generalize bI dI r.path=n1 at p1 p4 hN1 hD ⊢
 generalize bI du r.query=n2 at p2 hN2 ⊢
 generalize bI du r.fragment=n3 at p3 hN3 ⊢
 generalize (aK r.authority).1=hp at hH ⊢
 obtain⟨n1,e1⟩:=n1
 obtain⟨n2,e2⟩:=n2
 obtain⟨n3,e3⟩:=n3
 obtain⟨hh,pp⟩:=hp
 simp only at p1 p2 p3 p4 hN1 hN2 hN3 hH hD ⊢
 (refine aa p1 ?_;refine bC ?_)
 refine⟨fun h5=>?_,fun h5=>?_⟩
 ·rw[if_pos (by simpa using h5)];rfl
 rw[if_neg (by simpa using h5)]
 (refine aa p2 ?_;refine bC ?_)
 refine⟨fun h6=>?_,fun h6=>?_⟩
 ·rw[if_pos (by simpa using h6)];rfl
 rw[if_neg (by simpa using h6)]
 (refine aa p3 ?_;refine bC ?_)
 refine⟨fun h7=>?_,fun h7=>?_⟩
 ·rw[if_pos (by simpa using h7)];rfl
 rw[if_neg (by simpa using h7)]
 unfold oh
 (refine aa p4 ?_;refine bC ?_)
 generalize aM n1=d at hD ⊢
 have fin:∀ d':Bytes,d'.length≤4096 * 6→PC Tryz.V 94 [cQ ⟨hh,pp,d',n2,n3,r.aD,r.aP⟩] (.str (aX ⟨hh,pp,d',n2,n3,r.aD,r.aP⟩)):=fun d' hd' =>
  oD _ ⟨by simp only;omega,by simp only;omega,by simp only;omega⟩
 unfold cQ at fin
 refine⟨fun h8=>?_,fun h8=>?_⟩
 ·have f1:=fin [47] (by decide)
  have h8':d=[]:=by simpa using h8
  rw[if_pos h8']
  (refine aa f1 ?_;refine bC ?_)
  refine⟨fun h9=>?_,fun h9=>?_⟩
  ·rw[if_pos (by simp at h9;omega)];rfl
  ·rw[if_neg (by simp at h9;omega)];rfl
 ·have f1:=fin d (by omega)
  have h8':¬ d=[]:=by simpa using h8
  rw[if_neg h8']
  (refine aa f1 ?_;refine bC ?_)
  refine⟨fun h9=>?_,fun h9=>?_⟩
  ·rw[if_pos (by simp at h9;omega)];rfl
  ·rw[if_neg (by simp at h9;omega)];rfl
theorem pre_hit {p:UInt8→Bool}{s:Bytes}{k:Nat}(hk:k<s.length)(h:k≤pre p s)(hp:p s[k]=true):pre p s=k:=by
 rcases zRq k (pre p s) with h1|h1
 ·rw[jc h1 hk]at hp;cases hp
 ·omega
theorem M4 {p:UInt8→Bool}{s:Bytes}{k:Nat}(hk:k<s.length)(h:k≤pre p s)(hp:p s[k]=false):k+1≤pre p s:=by
 rcases zRq k (pre p s) with h1|h1
 ·exact h1
 ·have e:pre p s=k:=by omega
  have h2:=iC (p:=p) (l:=s) (by omega)
  simp only[e]at h2
  rw[hp]at h2;cases h2
theorem yx (s:Bytes):(cK s=0∧∀ j (h:j<s.length),s[j]≠47)∨(∃ i,∃ h:i<s.length,cK s=i+1∧s[i]=47∧∀ j (hj:j<s.length),i<j→s[j]≠47):=by
 have e:∀ j (h:j<s.length),(⟨zRA s⟩:ByteArray).data[j]! = s[j]:=fun j h=>by simp[h]
 have hb:=jZ s
 have hz:(⟨zRA s⟩:ByteArray).size=s.length:=rfl
 rcases Lib.lastIndexByte_spec ⟨zRA s⟩ (UInt8.toNat 47) with⟨h1,h2⟩|⟨i,h1,h2,h3,h4⟩
 ·left
  refine⟨?_,fun j hj hs=>h2 j hj ?_⟩
  ·have:uy s 47=-1:=h1
   omega
  ·rw[e j hj,hs]
 ·right
  rw[hz]at h1
  refine⟨i,h1,?_,?_,fun j hj Gj hs=>h4 j Gj hj ?_⟩
  ·have:uy s 47=i:=h2
   omega
  ·rw[e i h1]at h3
   exact UInt8.toNat_inj.1 (by exact_mod_cast h3)
  ·rw[e j hj,hs]
theorem vp {s:Bytes}{k:Nat}(hk:k<s.length)(h:cK s≤k+1)(hs:s[k]=47):cK s=k+1:=by
 rcases yx s with⟨-,h2⟩|⟨i,hi,h1,h2,h3⟩
 ·exact absurd hs (h2 k hk)
 ·rcases zRq i k with h4|h4
  ·exact absurd hs (h3 k hk h4)
  ·omega
theorem sr {s:Bytes}{k:Nat}(hk:k<s.length)(h:cK s≤k+1)(hs:s[k]≠47):cK s≤k:=by
 rcases yx s with⟨h1,-⟩|⟨i,hi,h1,h2,h3⟩
 ·omega
 ·rcases zRq i k with h4|h4
  ·omega
  ·have:i=k:=by omega
   subst this
   exact absurd h2 hs
theorem kC (c:UInt8)(set:Bytes)(ht:set.length≤4294967281):PC Tryz.V 84 [.int .u8 c.toNat,.str set] (.bool (set.contains c)):=by
 refine aZ 3000 Tryz.func84 rfl Tryz.ntmps84 Tryz.results84 Tryz.call84 (by simp) (by simp[flat,flat.ai]) (by simp[flat,flat.ai]) ?_
 refine bC ?_
 refine az (fun σ=>∃ k:Nat,k≤set.length∧(set.take k).contains c=false∧lk 0 σ.t=some (.int .u8 c.toNat)∧lk 1 σ.t=some (.str set)∧lk 4 σ.t=some (.bool false)∧lk 5 σ.t=some (.int .i64 k)) (fun σ=>set.length - fX 5 σ) ⟨0,by omega,rfl,rfl,rfl,rfl,rfl⟩ ?_
 rintro⟨t,b⟩ ⟨k,hk,hc,h0,h1,h4,h5⟩
 simp only at h0 h1 h4 h5
 rw[ao h5]
 refine gN (zQ8 h0 (zQ8 h1 (zQ8 h4 h5))) ?_
 refine⟨fun h=>?_,fun h=>?_⟩
 ·have hk':k<set.length:=by simpa using h
  rw[dw (n:=c.toNat) hk' c rfl]
  refine⟨by omega,fun e=>?_,fun e=>⟨by omega,⟨k+1,by omega,?_,by simp⟩,by rw[ao rfl];omega⟩⟩
  ·rw[show set.contains c=true from List.contains_iff_mem.2 (by rw[← beq_iff_eq.1 e];exact zRt hk')]
  ·apply Bool.eq_false_iff.2
   intro hh
   rw[List.contains_iff_mem,zRm hk',List.mem_append]at hh
   rcases hh with hh|hh
   ·exact absurd (List.contains_iff_mem.2 hh) (by rw[hc];simp)
   ·have hh:=List.mem_singleton.1 hh
    rw[← hh]at e
    simp at e
 ·have:k=set.length:=by simp at h;omega
  subst this
  rw[zRx]at hc
  rw[hc]
theorem cB (s p:Bytes):PC Tryz.V 83 [.str s,.str p] (.bool (Lib.hasPrefix s p)):=by
 refine aZ 3000 Tryz.func83 rfl Tryz.ntmps83 Tryz.results83 Tryz.call83 (by simp) (by simp[flat,flat.ai]) (by simp[flat,flat.ai]) ?_
 refine bC ?_
 have e:Lib.hasPrefix s p=(s.take p.length==p):=by
  rw[zRG,Lib.hasPrefix,zRC,List.prefix_iff_eq_take,beq_iff_eq]
  exact eq_comm
 refine⟨fun h=>⟨by simp at h;omega,by rw[e]⟩,fun h=>?_⟩
 rw[e,show (s.take p.length==p)=false from beq_eq_false_iff_ne.2 fun q=>by
  have:=congrArg List.length q
  simp at h this
  omega]
theorem bH (s set:Bytes)(hs:s.length≤4294967281)(ht:set.length≤4294967281):PC Tryz.V 34 [.str s,.str set] (.int .i64 (pre (set.contains ·) s)):=by
 refine aZ 3000 Tryz.func34 rfl Tryz.ntmps34 Tryz.results34 Tryz.call34 (by simp) (by simp[flat,flat.ai]) (by simp[flat,flat.ai]) ?_
 refine bC ?_
 refine az (fun σ=>∃ k:Nat,k≤s.length∧k≤pre (set.contains ·) s∧lk 0 σ.t=some (.str s)∧lk 1 σ.t=some (.str set)∧lk 5 σ.t=some (.int .i64 k)) (fun σ=>s.length - fX 5 σ) ⟨0,by omega,by omega,rfl,rfl,rfl⟩ ?_
 rintro⟨t,b⟩ ⟨k,hk,hc,h0,h1,h5⟩
 simp only at h0 h1 h5
 rw[ao h5]
 refine gN (zQ8 h0 (zQ8 h1 h5)) ?_
 have gU:=cV (set.contains ·) s
 refine⟨fun h=>?_,fun h=>?_⟩
 ·have hk':k<s.length:=by simpa using h
  have rZ:=kC (s.getD k 0) set ht
  refine⟨by omega,?_⟩
  (refine aa (rZ) ?_;refine gN (zQ8 h0 (zQ8 h1 h5)) ?_)
  rw[show s.getD k 0=s[k] by simp[List.getD,hk']]
  refine⟨fun e=>?_,fun e=>⟨by omega,⟨k+1,by omega,M4 hk' hc e,by simp⟩,by rw[ao rfl];omega⟩⟩
  rw[pre_hit hk' hc e]
 ·have:k=s.length:=by simp at h;omega
  rw[show pre (set.contains ·) s=s.length by omega]
theorem tX (s:Bytes)(hs:s.length≤4294967281):PC Tryz.V 90 [.str s] (.str (dZ s)):=by
 refine aZ 3000 Tryz.func90 rfl Tryz.ntmps90 Tryz.results90 Tryz.call90 (by simp) (by simp[flat,flat.ai]) (by simp[flat,flat.ai]) ?_
 refine bC ?_
 refine⟨by omega,az (fun σ=>∃ k:Nat,k≤s.length∧cK s≤k∧lk 0 σ.t=some (.str s)∧lk 3 σ.t=some (.int .i64 ((k:Int) - 1))) (fun σ=>match lk 3 σ.t with|some (.int _ n)=>(n+1).toNat|_=>0) ⟨s.length,by omega,gS s,rfl,rfl⟩ ?_⟩
 rintro⟨t,b⟩ ⟨k,hk,hc,h0,h3⟩
 simp only at h0 h3
 refine gN (zQ8 h0 h3) ?_
 refine⟨fun h=>?_,fun h=>?_⟩
 ·have l6:0<k:=by simp at h;omega
  obtain⟨k,rfl⟩:∃ m,k=m+1:=⟨k - 1,by omega⟩
  have e:(((k+1:Nat):Int) - 1).toNat=k:=by omega
  rw[e,dw (n:=47) (by omega) 47 rfl]
  refine⟨by omega,fun q=>⟨by omega,?_⟩,fun q=>⟨by omega,⟨k,by omega,sr (by omega) hc (by simpa using q),?_⟩,by omega⟩⟩
  ·rw[iV,vp (by omega) hc (by simpa using q)];rfl
  ·congr 1;omega
 ·rw[iV,show cK s=0 by simp at h;omega]
  simp
theorem ga (s:Bytes)(hs:s.length≤4294967281):PC Tryz.V 37 [.str s] (.str (aM s)):=by
 refine aZ 3000 Tryz.func37 rfl Tryz.ntmps37 Tryz.results37 Tryz.call37 (by simp) (by simp[flat,flat.ai]) (by simp[flat,flat.ai]) ?_
 refine bC ?_
 refine az (fun σ=>∃ (p o:Bytes) (f:Nat),lk 3 σ.t=some (.str p)∧lk 4 σ.t=some (.str o)∧p.length+o.length≤s.length∧p.length≤f∧fH f p o=aM s) (fun σ=>match lk 3 σ.t with|some (.str p)=>p.length|_=>0) ⟨s,[],s.length,rfl,rfl,by simp,zRD _,rfl⟩ ?_
 rintro⟨t,b⟩ ⟨p,o,f,h3,h4,hlen,hf,jL⟩
 simp only at h3 h4
 refine gN (zQ8 h3 h4) ?_
 have kL:p=[]→o=aM s:=fun hp=>by subst hp;cases f <;> simpa[fH] using jL
 refine⟨fun hp=>?_,fun hp=>?_⟩
 rotate_left
 ·rw[kL (by simpa using hp)]
 replace hp:p≠[]:=by simpa using hp
 have gU:0<p.length:=zRE.2 hp
 obtain⟨f,rfl⟩:∃ f',f=f'+1:=⟨f - 1,by omega⟩
 rw[fH,if_neg hp]at jL
 (refine aa (cB p [46,46,47]) ?_;refine gN (zQ8 h3 h4) ?_)
 refine⟨fun c1=>?_,fun c1=>?_⟩
 ·have h:=fG c1
  rw[show dv p o=(p.drop 3,o) from if_pos c1]at jL
  exact⟨⟨by omega,by simp at h;omega⟩,⟨_,_,f,rfl,rfl,by simp;omega,by simp at h ⊢;omega,jL⟩,by simp at h ⊢;omega⟩
 (refine aa (cB p [46,47]) ?_;refine gN (zQ8 h3 h4) ?_)
 refine⟨fun c2=>?_,fun c2=>?_⟩
 ·have h:=fG c2
  rw[show dv p o=(p.drop 2,o) by unfold dv;rw[if_neg (mM c1)];exact if_pos c2]at jL
  exact⟨⟨by omega,by simp at h;omega⟩,⟨_,_,f,rfl,rfl,by simp;omega,by simp at h ⊢;omega,jL⟩,by simp at h ⊢;omega⟩
 (refine aa (cB p [47,46,47]) ?_;refine gN (zQ8 h3 h4) ?_)
 refine⟨fun c3=>?_,fun c3=>?_⟩
 ·have h:=fG c3
  rw[show dv p o=(p.drop 2,o) by unfold dv;rw[if_neg (mM c1),if_neg (mM c2)];exact if_pos c3]at jL
  exact⟨⟨by omega,by simp at h;omega⟩,⟨_,_,f,rfl,rfl,by simp;omega,by simp at h ⊢;omega,jL⟩,by simp at h ⊢;omega⟩
 refine⟨fun c4=>?_,fun c4=>?_⟩
 ·have h:p=[47,46]:=by simpa using c4
  subst h
  exact⟨⟨_,_,f,rfl,rfl,by simp at hlen ⊢;omega,by simp at hf ⊢;omega,jL⟩,by simp⟩
 have n4:¬ p=[47,46]:=by simpa using c4
 have Lg:dv p o=if [47,46,46,47].isPrefixOf p then(p.drop 3,dZ o)
  else if p=[47,46,46] then([47],dZ o)
  else if p=[46]∨p=[46,46] then([],o)
  else(p.drop (1+pre (·==47) (p.drop 1)),o++p.take (1+pre (·==47) (p.drop 1))):=by
  unfold dv;rw[if_neg (mM c1),if_neg (mM c2),if_neg (mM c3),if_neg n4]
 rw[Lg]at jL
 have fD:(dZ o).length≤o.length:=by rw[iV,zRj];exact Nat.min_le_right _ _
 (refine aa (cB p [47,46,46,47]) ?_;refine gN (zQ8 h3 h4) ?_)
 refine⟨fun c5=>?_,fun c5=>?_⟩
 ·have h:=fG c5
  rw[if_pos (show List.isPrefixOf [47,46,46,47] p=true from c5)]at jL
  refine⟨⟨by omega,by simp at h;omega⟩,?_⟩
  have pd:=tX o (by omega)
  (refine aY (pd) ?_;refine gN (zQ8 h3 h4) ?_)
  exact⟨(aq (by kernel_rfl)),⟨_,_,f,rfl,rfl,by simp;omega,by simp at h ⊢;omega,jL⟩,by simp at h ⊢;omega⟩
 rw[if_neg (mM c5)]at jL
 refine⟨fun c6=>?_,fun c6=>?_⟩
 ·have h:p=[47,46,46]:=by simpa using c6
  subst h
  have pd:=tX o (by omega)
  (refine aa (pd) ?_;refine gN (zQ8 h3 h4) ?_)
  exact⟨[47],dZ o,f,rfl,rfl,by simp at hlen ⊢;omega,by simp at hf ⊢;omega,jL⟩
 rw[if_neg (show ¬ p=[47,46,46] by simpa using c6)]at jL
 refine⟨fun c7=>⟨fun c8=>?_,fun c8=>?_⟩,fun c7=>?_⟩
 ·have h:p=[46,46]:=by simpa using c8
  subst h
  exact⟨⟨_,_,f,rfl,rfl,by simp at hlen ⊢;omega,by simp,jL⟩,by simp⟩
 ·rw[if_neg (show ¬ (p=[46]∨p=[46,46]) by rintro(h|h) <;> subst h <;> simp at c7 c8)]at jL
  have px:=bH (p.drop 1) [47] (by simp;omega) (by simp)
  have hpe:pre (([47]:Bytes).contains ·) (p.drop 1)=pre (·==47) (p.drop 1):=by
   congr 1
   funext c
   by_cases h:c=47
   ·subst h;rfl
   ·simp[h]
  rw[hpe]at px
  have hq:=cV (·==47) (p.drop 1)
  simp only[zRb]at hq
  generalize pre (·==47) (p.drop 1)=q at px jL hq
  refine⟨by omega,?_⟩
  (refine aa (px) ?_;refine gN (zQ8 h3 h4) ?_)
  have e:(1+(q:Int)).toNat=1+q:=by omega
  have el:(p.take (1+q)).length=1+q:=by rw[zRj];omega
  rw[e]
  exact⟨by omega,by omega,by omega,by rw[el];omega,(aq (by kernel_rfl)),⟨_,_,f,rfl,rfl,by simp;omega,by simp;omega,jL⟩,by simp;omega⟩
 ·have h:p=[46]:=by simpa using c7
  subst h
  exact⟨⟨_,_,f,rfl,rfl,by simp at hlen ⊢;omega,by simp,jL⟩,by simp⟩
theorem jf (c:UInt8):PC Tryz.V 147 [.int .u8 c.toNat] (.bool (isAlpha c)):=by
 refine aZ 3000 Tryz.func147 rfl Tryz.ntmps147 Tryz.results147 Tryz.call147 (by simp) (by simp[flat,flat.ai]) (by simp[flat,flat.ai]) ?_
 refine bC ?_
 unfold isAlpha
 by_cases h1:65≤c.toNat <;> by_cases h2:c.toNat≤90 <;> by_cases h3:97≤c.toNat <;> by_cases h4:c.toNat≤122 <;> simp[h1,h2,h3,h4] <;> omega
theorem gR (c:UInt8):PC Tryz.V 148 [.int .u8 c.toNat] (.bool (isDigit c)):=by
 refine aZ 3000 Tryz.func148 rfl Tryz.ntmps148 Tryz.results148 Tryz.call148 (by simp) (by simp[flat,flat.ai]) (by simp[flat,flat.ai]) ?_
 refine bC ?_
 unfold isDigit
 by_cases h1:48≤c.toNat <;> by_cases h2:c.toNat≤57 <;> simp[h1,h2] <;> omega
theorem qi {s:Bytes}{k:Nat}(hk:k<s.length)(hr:k=0∨dA (s.take k)=true)(hc:isAlpha s[k]=true∨(0<k∧gr s[k]=true)):k+1=0∨dA (s.take (k+1))=true:=by
 right
 rcases Nat.eq_zero_or_pos k with h0|h0
 ·subst h0
  rcases hc with hc|⟨hc,-⟩
  ·exact sw hk hc
  ·omega
 ·refine my h0 hk (hr.resolve_left (by omega)) ?_
  rcases hc with hc|⟨-,hc⟩
  ·simp[gr,hc]
  ·exact hc
theorem ur {b:Bool}(h:(!b)=true):b=false:=by cases b <;> simp at h ⊢
theorem uu {b:Bool}(h:(!b)=false):b=true:=by cases b <;> simp at h ⊢
theorem mC (s:Bytes)(hs:s.length≤4294967281):PC Tryz.V 82 [.str s] (.bool (dA s)):=by
 refine aZ 3000 Tryz.func82 rfl Tryz.ntmps82 Tryz.results82 Tryz.call82 (by simp) (by simp[flat,flat.ai]) (by simp[flat,flat.ai]) ?_
 refine bC ?_
 refine az (fun σ=>∃ k:Nat,k≤s.length∧(k=0∨dA (s.take k)=true)∧lk 0 σ.t=some (.str s)∧lk 3 σ.t=some (.int .i64 k)) (fun σ=>s.length - fX 3 σ) ⟨0,by omega,.inl rfl,rfl,rfl⟩ ?_
 rintro⟨t,b⟩ ⟨k,hk,hr,h0,h3⟩
 simp only at h0 h3
 rw[ao h3]
 refine gN (zQ8 h0 h3) ?_
 refine⟨fun h=>⟨by simpa using h,?_⟩,fun h=>?_⟩
 ·have hk':k<s.length:=by simpa using h
  rw[show s.getD k 0=s[k] by simp[List.getD,hk']]
  (refine aa (jf s[k]) ?_;refine gN (zQ8 h0 h3) ?_)
  refine⟨fun ca=>⟨fun c0=>?_,fun c0=>?_⟩,fun ca=>⟨by omega,⟨k+1,by omega,qi hk' hr (.inl (uu ca)),by simp⟩,by rw[ao rfl];omega⟩⟩
  ·rw[show s.getD k 0=s[k] by simp[List.getD,hk']]
   refine⟨by omega,?_⟩
   (refine aa (gR s[k]) ?_;refine gN (zQ8 h0 h3) ?_)
   refine⟨fun cd=>⟨by omega,?_⟩,fun cd=>?_⟩
   ·rw[show s.getD k 0=s[k] by simp[List.getD,hk']]
    (refine aa (kC s[k] [43,45,46] (by simp)) ?_;refine gN (zQ8 h0 h3) ?_)
    refine⟨fun ci=>?_,fun ci=>⟨by omega,⟨k+1,by omega,qi hk' hr (.inr ⟨by simp at c0;omega,by unfold gr;rw[uu ci];simp⟩),by simp⟩,by rw[ao rfl];omega⟩⟩
    rw[BN (by simp at c0;omega) hk' (by unfold gr;rw[ur ca,ur cd,ur ci];rfl)]
   ·exact⟨by omega,⟨k+1,by omega,qi hk' hr (.inr ⟨by simp at c0;omega,by unfold gr;rw[uu cd];simp⟩),by simp⟩,by rw[ao rfl];omega⟩
  ·have l6:k=0:=by simp at c0;omega
   subst l6
   rw[rR hk' (by simpa using ca)]
 ·rcases hr with hr|hr
  ·have:s=[]:=List.eq_nil_of_length_eq_zero (by simp at h;omega)
   subst this;rfl
  ·rw[List.take_of_length_le (by simp at h;omega)]at hr
   rw[hr]
   cases s with
   | nil=>simp[dA]at hr
   | cons=>rfl
def lz (b r:Uri):Bytes:=if b.aT∧b.path=[] then 47::r.path else b.path.take (cK b.path)++r.path
theorem CH (b r:Uri):gz b r=if r.path.head? = some 47 then r.path else lz b r:=rfl
theorem Fu (b r:Uri)(hb:b.path.length≤4294967281)(hr:r.path.length≤4294967281):PC Tryz.V 246 [lZ b,lZ r] (.str (lz b r)):=by
 (refine aZ 3000 Tryz.func246 rfl Tryz.ntmps246 Tryz.results246 Tryz.call246 (by simp) (by simp[flat,flat.ai,lZ]) (by simp[flat,flat.ai,lZ]) ?_
  unfold lZ
  refine bC ?_)
 refine⟨fun ha=>⟨fun hp=>⟨by omega,?_⟩,fun hp=>?_⟩,fun ha=>?_⟩
 ·rw[lz,if_pos ⟨ha,by simpa using hp⟩]
 ·have sX:¬ (b.aT=true∧b.path=[]):=by rintro⟨-,h4⟩;simp[h4]at hp
  (
   refine⟨by omega,az (fun σ=>∃ k:Nat,k≤b.path.length∧cK b.path≤k∧lk 2 σ.t=some (.p 0 0)∧lk 3 σ.t=some (.p 1 0)∧lk 5 σ.t=some (.int .i64 ((k:Int) - 1))∧σ.b=[.cells [.str b.scheme,.str b.authority,.str b.path,.str b.query,.str b.fragment,.bool b.bR,.bool b.aT,.bool b.aD,.bool b.aP] 82 true,.cells [.str r.scheme,.str r.authority,.str r.path,.str r.query,.str r.fragment,.bool r.bR,.bool r.aT,.bool r.aD,.bool r.aP] 82 true]) (fun σ=>match lk 5 σ.t with|some (.int _ n)=>(n+1).toNat|_=>0) ⟨b.path.length,by omega,gS _,rfl,rfl,rfl,rfl⟩ ?_⟩
   rintro⟨t,bx⟩ ⟨k,hk,hc,h2,h3,h5,nD⟩
   simp only at h2 h3 h5 nD
   subst nD
   refine gN (zQ8 h2 (zQ8 h3 h5)) ?_
   rw[lz,if_neg sX]
   refine⟨fun h=>?_,fun h=>?_⟩
   ·have l6:0<k:=by simp at h;omega
    obtain⟨k,rfl⟩:∃ m,k=m+1:=⟨k - 1,by omega⟩
    have e:(((k+1:Nat):Int) - 1).toNat=k:=by omega
    have e2:(((k+1:Nat):Int) - 1+1).toNat=k+1:=by omega
    rw[e,dw (n:=47) (by omega) 47 rfl]
    refine⟨by omega,fun q=>?_,fun q=>?_⟩
    ·rw[e2,vp (by omega) hc (by simpa using q)]
     exact⟨by omega,by omega,by simp;omega,(aq (by kernel_rfl)),rfl⟩
    ·exact⟨by omega,⟨k,by omega,sr (by omega) hc (by simpa using q),by congr 1;omega⟩,by omega⟩
   ·rw[show cK b.path=0 by simp at h;omega]
    simp)
 ·have sX:¬ (b.aT=true∧b.path=[]):=by simp[ha]
  (
   refine⟨by omega,az (fun σ=>∃ k:Nat,k≤b.path.length∧cK b.path≤k∧lk 2 σ.t=some (.p 0 0)∧lk 3 σ.t=some (.p 1 0)∧lk 5 σ.t=some (.int .i64 ((k:Int) - 1))∧σ.b=[.cells [.str b.scheme,.str b.authority,.str b.path,.str b.query,.str b.fragment,.bool b.bR,.bool b.aT,.bool b.aD,.bool b.aP] 82 true,.cells [.str r.scheme,.str r.authority,.str r.path,.str r.query,.str r.fragment,.bool r.bR,.bool r.aT,.bool r.aD,.bool r.aP] 82 true]) (fun σ=>match lk 5 σ.t with|some (.int _ n)=>(n+1).toNat|_=>0) ⟨b.path.length,by omega,gS _,rfl,rfl,rfl,rfl⟩ ?_⟩
   rintro⟨t,bx⟩ ⟨k,hk,hc,h2,h3,h5,nD⟩
   simp only at h2 h3 h5 nD
   subst nD
   refine gN (zQ8 h2 (zQ8 h3 h5)) ?_
   rw[lz,if_neg sX]
   refine⟨fun h=>?_,fun h=>?_⟩
   ·have l6:0<k:=by simp at h;omega
    obtain⟨k,rfl⟩:∃ m,k=m+1:=⟨k - 1,by omega⟩
    have e:(((k+1:Nat):Int) - 1).toNat=k:=by omega
    have e2:(((k+1:Nat):Int) - 1+1).toNat=k+1:=by omega
    rw[e,dw (n:=47) (by omega) 47 rfl]
    refine⟨by omega,fun q=>?_,fun q=>?_⟩
    ·rw[e2,vp (by omega) hc (by simpa using q)]
     exact⟨by omega,by omega,by simp;omega,(aq (by kernel_rfl)),rfl⟩
    ·exact⟨by omega,⟨k,by omega,sr (by omega) hc (by simpa using q),by congr 1;omega⟩,by omega⟩
   ·rw[show cK b.path=0 by simp at h;omega]
    simp)
theorem Dd (b r:Uri):(lz b r).length≤1+b.path.length+r.path.length:=by
 unfold lz
 split
 ·simp;omega
 ·simp;omega
theorem Dr (b r:Uri)(hb:b.path.length≤2147480000)(hr:r.path.length≤2147480000):PC Tryz.V 200 [lZ b,lZ r] (lZ (eE b r)):=by
 have hml:=Dd b r
 have pm:=Fu b r (by omega) (by omega)
 unfold lZ at pm
 (refine aZ 3000 Tryz.func200 rfl Tryz.ntmps200 Tryz.results200 Tryz.call200 (by simp) (by simp[flat,flat.ai,lZ]) (by simp[flat,flat.ai,lZ]) ?_
  unfold lZ
  refine bC ?_)
 generalize hR:eE b r=R
 rw[eE]at hR
 refine⟨fun h1=>?_,fun h1=>?_⟩
 ·rw[if_pos h1]at hR
  (refine aa (ga r.path (by omega)) ?_;refine bC ?_)
  rw[← hR]
 rw[if_neg (by simpa using h1)]at hR
 refine⟨fun h2=>?_,fun h2=>?_⟩
 ·rw[if_pos h2]at hR
  (refine aa (ga r.path (by omega)) ?_;refine bC ?_)
  rw[← hR]
  exact⟨(aq (by kernel_rfl)),rfl⟩
 rw[if_neg (by simpa using h2)]at hR
 refine⟨fun h3=>?_,fun h3=>?_⟩
 ·rw[if_pos (by simpa using h3)]at hR
  refine⟨fun h4=>?_,fun h4=>?_⟩
  ·rw[if_neg (by simpa using h4)]at hR
   rw[← hR]
   exact⟨(aq (by kernel_rfl)),(aq (by kernel_rfl)),(aq (by kernel_rfl)),rfl⟩
  ·rw[if_pos (by simpa using h4)]at hR
   rw[← hR]
   exact⟨(aq (by kernel_rfl)),(aq (by kernel_rfl)),rfl⟩
 ·rw[if_neg (by simpa using h3),CH]at hR
  (refine aa (pm) ?_;refine bC ?_)
  (refine aa (ga _ (by omega)) ?_;refine bC ?_)
  have hp0:0<r.path.length:=zRE.2 (by simpa using h3)
  rw[show Int.toNat 0=0 from rfl,dw (n:=47) hp0 47 rfl]
  have hh:r.path.head? = some r.path[0]:=by rw[List.head?_eq_getElem?,zRf hp0]
  rw[hh]at hR
  refine⟨by omega,fun h4=>?_,fun h4=>?_⟩
  ·rw[if_pos (by rw[beq_iff_eq.1 h4])]at hR
   (refine aa (ga r.path (by omega)) ?_;refine bC ?_)
   rw[← hR]
   exact⟨(aq (by kernel_rfl)),(aq (by kernel_rfl)),rfl⟩
  ·rw[if_neg (by simpa using h4)]at hR
   rw[← hR]
   exact⟨(aq (by kernel_rfl)),(aq (by kernel_rfl)),rfl⟩
theorem fC (c:UInt8)(s:Bytes):pre (([c]:Bytes).contains ·) s=pre (·==c) s:=by
 congr 1
 funext x
 by_cases h:x=c
 ·subst h;simp
 ·simp[h]
theorem KE (u:Uri)(h:u.scheme.length+u.authority.length+u.path.length+u.query.length+u.fragment.length≤4611686018427387904):PC Tryz.V 201 [lZ u] (.str (eZ u)):=by
 (refine aZ 3000 Tryz.func201 rfl Tryz.ntmps201 Tryz.results201 Tryz.call201 (by simp) (by simp[flat,flat.ai,lZ]) (by simp[flat,flat.ai,lZ]) ?_
  unfold lZ
  refine bC ?_)
 unfold eZ
 obtain⟨sc,au,pa,qu,fr,b1,b2,b3,b4⟩:=u
 simp only at h ⊢
 cases b1 <;> cases b2 <;> cases b3 <;> cases b4 <;> simp <;> omega
theorem dx {s:Bytes}(h:Lib.hasPrefix s [47,47]=true):aG s=((s.take (2+pre (·==47) (s.drop 2))).drop 2,true,s.drop (2+pre (·==47) (s.drop 2))):=by
 rw[kR h]
 have e:Lib.trimPrefix s [47,47]=s.drop 2:=by unfold Lib.trimPrefix;rw[if_pos h];rfl
 rw[e,List.drop_take,List.drop_drop]
 simp
theorem sJ (s:Bytes):PC Tryz.V 32 [.str s] (.eW [lZ (aL s).1,.int .i64 (aL s).2]):=by
 (refine aZ 3000 Tryz.func32 rfl Tryz.ntmps32 Tryz.results32 Tryz.call32 (by simp) (by simp[flat,flat.ai,lZ]) (by simp[flat,flat.ai,lZ]) ?_
  refine bC ?_)
 refine⟨fun h=>?_,fun h=>?_⟩
 ·have:aL s=(Uri.none,5):=if_pos (by simp at h;omega)
  rw[this];rfl
 ·have hq:aL s=aR (aN 63 (aN 35 s).1).1 (aN 35 s).2.1 (aN 63 (aN 35 s).1).2.1 (aN 35 s).2.2 (aN 63 (aN 35 s).1).2.2:=if_neg (by simp at h;omega)
  rw[hq]
  have hs:s.length≤4294967281:=by simp at h;omega
  have px:=bH s [35] hs (by simp)
  rw[fC]at px
  (refine aa (px) ?_;refine bC ?_)
  refine⟨fun cP=>?_,fun cP=>?_⟩
  ·have hk1':pre (·==35) s<s.length:=by simpa using cP
   rw[show aN 35 s=(s.take (pre (·==35) s),s.drop (pre (·==35) s+1),true) from if_pos hk1']
   simp only
   have xG:(s.take (pre (·==35) s)).length≤4294967281:=by rw[zRj];omega
   refine⟨by omega,by omega,by omega,(aq (by kernel_rfl)),?_⟩
   generalize s.take (pre (·==35) s)=s1 at xG ⊢
   generalize s.drop (pre (·==35) s+1)=fr
   (
    have px2:=bH s1 [63] (by omega) (by simp)
    rw[fC]at px2
    (refine aa (px2) ?_;refine bC ?_)
    refine⟨fun bJ=>?_,fun bJ=>?_⟩
    ·have hk2':pre (·==63) s1<s1.length:=by simpa using bJ
     rw[show aN 63 s1=(s1.take (pre (·==63) s1),s1.drop (pre (·==63) s1+1),true) from if_pos hk2']
     simp only
     have kJ:(s1.take (pre (·==63) s1)).length≤4294967281:=by rw[zRj];omega
     refine⟨by omega,by omega,by omega,(aq (by kernel_rfl)),?_⟩
     generalize s1.take (pre (·==63) s1)=s2 at kJ ⊢
     generalize s1.drop (pre (·==63) s1+1)=qu
     (
      have px3:=bH s2 [58,47] (by omega) (by simp)
      rw[show pre (([58,47]:Bytes).contains ·) s2=pre ay s2 from rfl]at px3
      (refine aa (px3) ?_;refine bC ?_)
      refine⟨fun eF=>?_,fun eF=>?_⟩
      ·have hp:pre ay s2<s2.length:=by simpa using eF
       rw[dw (n:=58) hp 58 rfl]
       refine⟨by omega,fun h1=>⟨by omega,?_⟩,fun h1=>?_⟩
       ·have hh:(s2.drop (pre ay s2)).head? = some 58:=by
         rw[zRp,zRf hp,beq_iff_eq.1 h1]
        (refine aa (mC _ (by rw[zRj];omega)) ?_;refine bC ?_)
        refine⟨fun h2=>?_,fun h2=>?_⟩
        ·have fA:∀ (f q:Bytes) (hf hq:Bool),aR s2 f q hf hq=(Uri.none,6):=fun f q hf hq=>by
          unfold aR
          rw[if_pos hh,if_neg (by rw[ur h2];simp)]
         rw[fA];rfl
        ·have fA:∀ (f q:Bytes) (hf hq:Bool),aR s2 f q hf hq=(⟨s2.take (pre ay s2),(aG (s2.drop (pre ay s2+1))).1,(aG (s2.drop (pre ay s2+1))).2.2,q,f,true,(aG (s2.drop (pre ay s2+1))).2.1,hq,hf⟩,0):=fun f q hf hq=>by
          unfold aR
          rw[if_pos hh,if_pos (uu h2)]
         have AF:(s2.drop (pre ay s2+1)).length≤4294967281:=by rw[zRb];omega
         refine⟨by omega,by omega,by omega,(aq (by kernel_rfl)),?_⟩
         (
          (refine aa (cB (s2.drop (pre ay s2+1)) [47,47]) ?_;refine bC ?_)
          cases jh:Lib.hasPrefix (s2.drop (pre ay s2+1)) [47,47]
          ·refine⟨fun h=>(by cases h),fun _=>?_⟩
           rw[fA,c9 jh];rfl
          ·refine⟨fun _=>?_,fun h=>(by cases h)⟩
           rw[fA,dx jh]
           have x8:=fG jh
           simp only[zRa,zRc]at x8
           have px4:=bH ((s2.drop (pre ay s2+1)).drop 2) [47] (by rw[zRb];omega) (by simp)
           rw[fC]at px4
           have gU:=cV (·==47) ((s2.drop (pre ay s2+1)).drop 2)
           rw[zRb]at gU
           generalize pre (·==47) ((s2.drop (pre ay s2+1)).drop 2)=q at px4 gU ⊢
           refine⟨by omega,?_⟩
           (refine aa (px4) ?_;refine bC ?_)
           rw[show (2+(q:Int)).toNat=2+q by omega]
           exact⟨by omega,by omega,by omega,(aq (by kernel_rfl)),rfl⟩)
       ·have fA:∀ (f q:Bytes) (hf hq:Bool),aR s2 f q hf hq=(⟨[],(aG s2).1,(aG s2).2.2,q,f,false,(aG s2).2.1,hq,hf⟩,0):=fun f q hf hq=>by
         unfold aR
         rw[if_neg (by rw[zRp,zRf hp];simpa using h1)]
        have AF:=kJ
        (
         (refine aa (cB (s2) [47,47]) ?_;refine bC ?_)
         cases jh:Lib.hasPrefix (s2) [47,47]
         ·refine⟨fun h=>(by cases h),fun _=>?_⟩
          rw[fA,c9 jh];rfl
         ·refine⟨fun _=>?_,fun h=>(by cases h)⟩
          rw[fA,dx jh]
          have x8:=fG jh
          simp only[zRa,zRc]at x8
          have px4:=bH ((s2).drop 2) [47] (by rw[zRb];omega) (by simp)
          rw[fC]at px4
          have gU:=cV (·==47) ((s2).drop 2)
          rw[zRb]at gU
          generalize pre (·==47) ((s2).drop 2)=q at px4 gU ⊢
          refine⟨by omega,?_⟩
          (refine aa (px4) ?_;refine bC ?_)
          rw[show (2+(q:Int)).toNat=2+q by omega]
          exact⟨by omega,by omega,by omega,(aq (by kernel_rfl)),rfl⟩)
      ·have fA:∀ (f q:Bytes) (hf hq:Bool),aR s2 f q hf hq=(⟨[],(aG s2).1,(aG s2).2.2,q,f,false,(aG s2).2.1,hq,hf⟩,0):=fun f q hf hq=>by
        unfold aR
        rw[if_neg (by rw[zRu (by simp at eF;omega)];simp)]
       have AF:=kJ
       (
        (refine aa (cB (s2) [47,47]) ?_;refine bC ?_)
        cases jh:Lib.hasPrefix (s2) [47,47]
        ·refine⟨fun h=>(by cases h),fun _=>?_⟩
         rw[fA,c9 jh];rfl
        ·refine⟨fun _=>?_,fun h=>(by cases h)⟩
         rw[fA,dx jh]
         have x8:=fG jh
         simp only[zRa,zRc]at x8
         have px4:=bH ((s2).drop 2) [47] (by rw[zRb];omega) (by simp)
         rw[fC]at px4
         have gU:=cV (·==47) ((s2).drop 2)
         rw[zRb]at gU
         generalize pre (·==47) ((s2).drop 2)=q at px4 gU ⊢
         refine⟨by omega,?_⟩
         (refine aa (px4) ?_;refine bC ?_)
         rw[show (2+(q:Int)).toNat=2+q by omega]
         exact⟨by omega,by omega,by omega,(aq (by kernel_rfl)),rfl⟩))
    ·have hk2':¬ pre (·==63) s1<s1.length:=by simpa using bJ
     rw[show aN 63 s1=(s1,[],false) from if_neg hk2']
     simp only
     have kJ:s1.length≤4294967281:=xG
     generalize s1=s2 at kJ ⊢
     (
      have px3:=bH s2 [58,47] (by omega) (by simp)
      rw[show pre (([58,47]:Bytes).contains ·) s2=pre ay s2 from rfl]at px3
      (refine aa (px3) ?_;refine bC ?_)
      refine⟨fun eF=>?_,fun eF=>?_⟩
      ·have hp:pre ay s2<s2.length:=by simpa using eF
       rw[dw (n:=58) hp 58 rfl]
       refine⟨by omega,fun h1=>⟨by omega,?_⟩,fun h1=>?_⟩
       ·have hh:(s2.drop (pre ay s2)).head? = some 58:=by
         rw[zRp,zRf hp,beq_iff_eq.1 h1]
        (refine aa (mC _ (by rw[zRj];omega)) ?_;refine bC ?_)
        refine⟨fun h2=>?_,fun h2=>?_⟩
        ·have fA:∀ (f q:Bytes) (hf hq:Bool),aR s2 f q hf hq=(Uri.none,6):=fun f q hf hq=>by
          unfold aR
          rw[if_pos hh,if_neg (by rw[ur h2];simp)]
         rw[fA];rfl
        ·have fA:∀ (f q:Bytes) (hf hq:Bool),aR s2 f q hf hq=(⟨s2.take (pre ay s2),(aG (s2.drop (pre ay s2+1))).1,(aG (s2.drop (pre ay s2+1))).2.2,q,f,true,(aG (s2.drop (pre ay s2+1))).2.1,hq,hf⟩,0):=fun f q hf hq=>by
          unfold aR
          rw[if_pos hh,if_pos (uu h2)]
         have AF:(s2.drop (pre ay s2+1)).length≤4294967281:=by rw[zRb];omega
         refine⟨by omega,by omega,by omega,(aq (by kernel_rfl)),?_⟩
         (
          (refine aa (cB (s2.drop (pre ay s2+1)) [47,47]) ?_;refine bC ?_)
          cases jh:Lib.hasPrefix (s2.drop (pre ay s2+1)) [47,47]
          ·refine⟨fun h=>(by cases h),fun _=>?_⟩
           rw[fA,c9 jh];rfl
          ·refine⟨fun _=>?_,fun h=>(by cases h)⟩
           rw[fA,dx jh]
           have x8:=fG jh
           simp only[zRa,zRc]at x8
           have px4:=bH ((s2.drop (pre ay s2+1)).drop 2) [47] (by rw[zRb];omega) (by simp)
           rw[fC]at px4
           have gU:=cV (·==47) ((s2.drop (pre ay s2+1)).drop 2)
           rw[zRb]at gU
           generalize pre (·==47) ((s2.drop (pre ay s2+1)).drop 2)=q at px4 gU ⊢
           refine⟨by omega,?_⟩
           (refine aa (px4) ?_;refine bC ?_)
           rw[show (2+(q:Int)).toNat=2+q by omega]
           exact⟨by omega,by omega,by omega,(aq (by kernel_rfl)),rfl⟩)
       ·have fA:∀ (f q:Bytes) (hf hq:Bool),aR s2 f q hf hq=(⟨[],(aG s2).1,(aG s2).2.2,q,f,false,(aG s2).2.1,hq,hf⟩,0):=fun f q hf hq=>by
         unfold aR
         rw[if_neg (by rw[zRp,zRf hp];simpa using h1)]
        have AF:=kJ
        (
         (refine aa (cB (s2) [47,47]) ?_;refine bC ?_)
         cases jh:Lib.hasPrefix (s2) [47,47]
         ·refine⟨fun h=>(by cases h),fun _=>?_⟩
          rw[fA,c9 jh];rfl
         ·refine⟨fun _=>?_,fun h=>(by cases h)⟩
          rw[fA,dx jh]
          have x8:=fG jh
          simp only[zRa,zRc]at x8
          have px4:=bH ((s2).drop 2) [47] (by rw[zRb];omega) (by simp)
          rw[fC]at px4
          have gU:=cV (·==47) ((s2).drop 2)
          rw[zRb]at gU
          generalize pre (·==47) ((s2).drop 2)=q at px4 gU ⊢
          refine⟨by omega,?_⟩
          (refine aa (px4) ?_;refine bC ?_)
          rw[show (2+(q:Int)).toNat=2+q by omega]
          exact⟨by omega,by omega,by omega,(aq (by kernel_rfl)),rfl⟩)
      ·have fA:∀ (f q:Bytes) (hf hq:Bool),aR s2 f q hf hq=(⟨[],(aG s2).1,(aG s2).2.2,q,f,false,(aG s2).2.1,hq,hf⟩,0):=fun f q hf hq=>by
        unfold aR
        rw[if_neg (by rw[zRu (by simp at eF;omega)];simp)]
       have AF:=kJ
       (
        (refine aa (cB (s2) [47,47]) ?_;refine bC ?_)
        cases jh:Lib.hasPrefix (s2) [47,47]
        ·refine⟨fun h=>(by cases h),fun _=>?_⟩
         rw[fA,c9 jh];rfl
        ·refine⟨fun _=>?_,fun h=>(by cases h)⟩
         rw[fA,dx jh]
         have x8:=fG jh
         simp only[zRa,zRc]at x8
         have px4:=bH ((s2).drop 2) [47] (by rw[zRb];omega) (by simp)
         rw[fC]at px4
         have gU:=cV (·==47) ((s2).drop 2)
         rw[zRb]at gU
         generalize pre (·==47) ((s2).drop 2)=q at px4 gU ⊢
         refine⟨by omega,?_⟩
         (refine aa (px4) ?_;refine bC ?_)
         rw[show (2+(q:Int)).toNat=2+q by omega]
         exact⟨by omega,by omega,by omega,(aq (by kernel_rfl)),rfl⟩)))
  ·have hk1':¬ pre (·==35) s<s.length:=by simpa using cP
   rw[show aN 35 s=(s,[],false) from if_neg hk1']
   simp only
   have xG:s.length≤4294967281:=hs
   generalize s=s1 at xG ⊢
   (
    have px2:=bH s1 [63] (by omega) (by simp)
    rw[fC]at px2
    (refine aa (px2) ?_;refine bC ?_)
    refine⟨fun bJ=>?_,fun bJ=>?_⟩
    ·have hk2':pre (·==63) s1<s1.length:=by simpa using bJ
     rw[show aN 63 s1=(s1.take (pre (·==63) s1),s1.drop (pre (·==63) s1+1),true) from if_pos hk2']
     simp only
     have kJ:(s1.take (pre (·==63) s1)).length≤4294967281:=by rw[zRj];omega
     refine⟨by omega,by omega,by omega,(aq (by kernel_rfl)),?_⟩
     generalize s1.take (pre (·==63) s1)=s2 at kJ ⊢
     generalize s1.drop (pre (·==63) s1+1)=qu
     (
      have px3:=bH s2 [58,47] (by omega) (by simp)
      rw[show pre (([58,47]:Bytes).contains ·) s2=pre ay s2 from rfl]at px3
      (refine aa (px3) ?_;refine bC ?_)
      refine⟨fun eF=>?_,fun eF=>?_⟩
      ·have hp:pre ay s2<s2.length:=by simpa using eF
       rw[dw (n:=58) hp 58 rfl]
       refine⟨by omega,fun h1=>⟨by omega,?_⟩,fun h1=>?_⟩
       ·have hh:(s2.drop (pre ay s2)).head? = some 58:=by
         rw[zRp,zRf hp,beq_iff_eq.1 h1]
        (refine aa (mC _ (by rw[zRj];omega)) ?_;refine bC ?_)
        refine⟨fun h2=>?_,fun h2=>?_⟩
        ·have fA:∀ (f q:Bytes) (hf hq:Bool),aR s2 f q hf hq=(Uri.none,6):=fun f q hf hq=>by
          unfold aR
          rw[if_pos hh,if_neg (by rw[ur h2];simp)]
         rw[fA];rfl
        ·have fA:∀ (f q:Bytes) (hf hq:Bool),aR s2 f q hf hq=(⟨s2.take (pre ay s2),(aG (s2.drop (pre ay s2+1))).1,(aG (s2.drop (pre ay s2+1))).2.2,q,f,true,(aG (s2.drop (pre ay s2+1))).2.1,hq,hf⟩,0):=fun f q hf hq=>by
          unfold aR
          rw[if_pos hh,if_pos (uu h2)]
         have AF:(s2.drop (pre ay s2+1)).length≤4294967281:=by rw[zRb];omega
         refine⟨by omega,by omega,by omega,(aq (by kernel_rfl)),?_⟩
         (
          (refine aa (cB (s2.drop (pre ay s2+1)) [47,47]) ?_;refine bC ?_)
          cases jh:Lib.hasPrefix (s2.drop (pre ay s2+1)) [47,47]
          ·refine⟨fun h=>(by cases h),fun _=>?_⟩
           rw[fA,c9 jh];rfl
          ·refine⟨fun _=>?_,fun h=>(by cases h)⟩
           rw[fA,dx jh]
           have x8:=fG jh
           simp only[zRa,zRc]at x8
           have px4:=bH ((s2.drop (pre ay s2+1)).drop 2) [47] (by rw[zRb];omega) (by simp)
           rw[fC]at px4
           have gU:=cV (·==47) ((s2.drop (pre ay s2+1)).drop 2)
           rw[zRb]at gU
           generalize pre (·==47) ((s2.drop (pre ay s2+1)).drop 2)=q at px4 gU ⊢
           refine⟨by omega,?_⟩
           (refine aa (px4) ?_;refine bC ?_)
           rw[show (2+(q:Int)).toNat=2+q by omega]
           exact⟨by omega,by omega,by omega,(aq (by kernel_rfl)),rfl⟩)
       ·have fA:∀ (f q:Bytes) (hf hq:Bool),aR s2 f q hf hq=(⟨[],(aG s2).1,(aG s2).2.2,q,f,false,(aG s2).2.1,hq,hf⟩,0):=fun f q hf hq=>by
         unfold aR
         rw[if_neg (by rw[zRp,zRf hp];simpa using h1)]
        have AF:=kJ
        (
         (refine aa (cB (s2) [47,47]) ?_;refine bC ?_)
         cases jh:Lib.hasPrefix (s2) [47,47]
         ·refine⟨fun h=>(by cases h),fun _=>?_⟩
          rw[fA,c9 jh];rfl
         ·refine⟨fun _=>?_,fun h=>(by cases h)⟩
          rw[fA,dx jh]
          have x8:=fG jh
          simp only[zRa,zRc]at x8
          have px4:=bH ((s2).drop 2) [47] (by rw[zRb];omega) (by simp)
          rw[fC]at px4
          have gU:=cV (·==47) ((s2).drop 2)
          rw[zRb]at gU
          generalize pre (·==47) ((s2).drop 2)=q at px4 gU ⊢
          refine⟨by omega,?_⟩
          (refine aa (px4) ?_;refine bC ?_)
          rw[show (2+(q:Int)).toNat=2+q by omega]
          exact⟨by omega,by omega,by omega,(aq (by kernel_rfl)),rfl⟩)
      ·have fA:∀ (f q:Bytes) (hf hq:Bool),aR s2 f q hf hq=(⟨[],(aG s2).1,(aG s2).2.2,q,f,false,(aG s2).2.1,hq,hf⟩,0):=fun f q hf hq=>by
        unfold aR
        rw[if_neg (by rw[zRu (by simp at eF;omega)];simp)]
       have AF:=kJ
       (
        (refine aa (cB (s2) [47,47]) ?_;refine bC ?_)
        cases jh:Lib.hasPrefix (s2) [47,47]
        ·refine⟨fun h=>(by cases h),fun _=>?_⟩
         rw[fA,c9 jh];rfl
        ·refine⟨fun _=>?_,fun h=>(by cases h)⟩
         rw[fA,dx jh]
         have x8:=fG jh
         simp only[zRa,zRc]at x8
         have px4:=bH ((s2).drop 2) [47] (by rw[zRb];omega) (by simp)
         rw[fC]at px4
         have gU:=cV (·==47) ((s2).drop 2)
         rw[zRb]at gU
         generalize pre (·==47) ((s2).drop 2)=q at px4 gU ⊢
         refine⟨by omega,?_⟩
         (refine aa (px4) ?_;refine bC ?_)
         rw[show (2+(q:Int)).toNat=2+q by omega]
         exact⟨by omega,by omega,by omega,(aq (by kernel_rfl)),rfl⟩))
    ·have hk2':¬ pre (·==63) s1<s1.length:=by simpa using bJ
     rw[show aN 63 s1=(s1,[],false) from if_neg hk2']
     simp only
     have kJ:s1.length≤4294967281:=xG
     generalize s1=s2 at kJ ⊢
     (
      have px3:=bH s2 [58,47] (by omega) (by simp)
      rw[show pre (([58,47]:Bytes).contains ·) s2=pre ay s2 from rfl]at px3
      (refine aa (px3) ?_;refine bC ?_)
      refine⟨fun eF=>?_,fun eF=>?_⟩
      ·have hp:pre ay s2<s2.length:=by simpa using eF
       rw[dw (n:=58) hp 58 rfl]
       refine⟨by omega,fun h1=>⟨by omega,?_⟩,fun h1=>?_⟩
       ·have hh:(s2.drop (pre ay s2)).head? = some 58:=by
         rw[zRp,zRf hp,beq_iff_eq.1 h1]
        (refine aa (mC _ (by rw[zRj];omega)) ?_;refine bC ?_)
        refine⟨fun h2=>?_,fun h2=>?_⟩
        ·have fA:∀ (f q:Bytes) (hf hq:Bool),aR s2 f q hf hq=(Uri.none,6):=fun f q hf hq=>by
          unfold aR
          rw[if_pos hh,if_neg (by rw[ur h2];simp)]
         rw[fA];rfl
        ·have fA:∀ (f q:Bytes) (hf hq:Bool),aR s2 f q hf hq=(⟨s2.take (pre ay s2),(aG (s2.drop (pre ay s2+1))).1,(aG (s2.drop (pre ay s2+1))).2.2,q,f,true,(aG (s2.drop (pre ay s2+1))).2.1,hq,hf⟩,0):=fun f q hf hq=>by
          unfold aR
          rw[if_pos hh,if_pos (uu h2)]
         have AF:(s2.drop (pre ay s2+1)).length≤4294967281:=by rw[zRb];omega
         refine⟨by omega,by omega,by omega,(aq (by kernel_rfl)),?_⟩
         (
          (refine aa (cB (s2.drop (pre ay s2+1)) [47,47]) ?_;refine bC ?_)
          cases jh:Lib.hasPrefix (s2.drop (pre ay s2+1)) [47,47]
          ·refine⟨fun h=>(by cases h),fun _=>?_⟩
           rw[fA,c9 jh];rfl
          ·refine⟨fun _=>?_,fun h=>(by cases h)⟩
           rw[fA,dx jh]
           have x8:=fG jh
           simp only[zRa,zRc]at x8
           have px4:=bH ((s2.drop (pre ay s2+1)).drop 2) [47] (by rw[zRb];omega) (by simp)
           rw[fC]at px4
           have gU:=cV (·==47) ((s2.drop (pre ay s2+1)).drop 2)
           rw[zRb]at gU
           generalize pre (·==47) ((s2.drop (pre ay s2+1)).drop 2)=q at px4 gU ⊢
           refine⟨by omega,?_⟩
           (refine aa (px4) ?_;refine bC ?_)
           rw[show (2+(q:Int)).toNat=2+q by omega]
           exact⟨by omega,by omega,by omega,(aq (by kernel_rfl)),rfl⟩)
       ·have fA:∀ (f q:Bytes) (hf hq:Bool),aR s2 f q hf hq=(⟨[],(aG s2).1,(aG s2).2.2,q,f,false,(aG s2).2.1,hq,hf⟩,0):=fun f q hf hq=>by
         unfold aR
         rw[if_neg (by rw[zRp,zRf hp];simpa using h1)]
        have AF:=kJ
        (
         (refine aa (cB (s2) [47,47]) ?_;refine bC ?_)
         cases jh:Lib.hasPrefix (s2) [47,47]
         ·refine⟨fun h=>(by cases h),fun _=>?_⟩
          rw[fA,c9 jh];rfl
         ·refine⟨fun _=>?_,fun h=>(by cases h)⟩
          rw[fA,dx jh]
          have x8:=fG jh
          simp only[zRa,zRc]at x8
          have px4:=bH ((s2).drop 2) [47] (by rw[zRb];omega) (by simp)
          rw[fC]at px4
          have gU:=cV (·==47) ((s2).drop 2)
          rw[zRb]at gU
          generalize pre (·==47) ((s2).drop 2)=q at px4 gU ⊢
          refine⟨by omega,?_⟩
          (refine aa (px4) ?_;refine bC ?_)
          rw[show (2+(q:Int)).toNat=2+q by omega]
          exact⟨by omega,by omega,by omega,(aq (by kernel_rfl)),rfl⟩)
      ·have fA:∀ (f q:Bytes) (hf hq:Bool),aR s2 f q hf hq=(⟨[],(aG s2).1,(aG s2).2.2,q,f,false,(aG s2).2.1,hq,hf⟩,0):=fun f q hf hq=>by
        unfold aR
        rw[if_neg (by rw[zRu (by simp at eF;omega)];simp)]
       have AF:=kJ
       (
        (refine aa (cB (s2) [47,47]) ?_;refine bC ?_)
        cases jh:Lib.hasPrefix (s2) [47,47]
        ·refine⟨fun h=>(by cases h),fun _=>?_⟩
         rw[fA,c9 jh];rfl
        ·refine⟨fun _=>?_,fun h=>(by cases h)⟩
         rw[fA,dx jh]
         have x8:=fG jh
         simp only[zRa,zRc]at x8
         have px4:=bH ((s2).drop 2) [47] (by rw[zRb];omega) (by simp)
         rw[fC]at px4
         have gU:=cV (·==47) ((s2).drop 2)
         rw[zRb]at gU
         generalize pre (·==47) ((s2).drop 2)=q at px4 gU ⊢
         refine⟨by omega,?_⟩
         (refine aa (px4) ?_;refine bC ?_)
         rw[show (2+(q:Int)).toNat=2+q by omega]
         exact⟨by omega,by omega,by omega,(aq (by kernel_rfl)),rfl⟩)))
theorem yX (c:UInt8):PC Tryz.V 151 [.int .u8 c.toNat] (.bool (bm c)) :=
 ⟨Tryz.call151,by simp[flat,flat.ai],by simp[flat,flat.ai],fun w _=>(Ff c w).mono fun _ _ ⟨h,k⟩=>⟨h,cD k⟩⟩
theorem eB (c:UInt8):PC Tryz.V 87 [.int .u8 c.toNat] (.bool (ia c)):=by
 refine aZ 3000 Tryz.func87 rfl Tryz.ntmps87 Tryz.results87 Tryz.call87 (by simp) (by simp[flat,flat.ai]) (by simp[flat,flat.ai]) ?_
 refine bC ?_
 (refine aa (jf c) ?_;refine bC ?_)
 refine⟨fun h=>?_,fun h=>?_⟩
 ·(refine aa (gR c) ?_;refine bC ?_)
  refine⟨fun h2=>?_,fun h2=>?_⟩
  ·(refine aa (kC c [45,46,95,126] (by simp)) ?_;refine bC ?_)
   unfold ia;rw[h,h2];rfl
  ·unfold ia;rw[h,h2];rfl
 ·unfold ia;rw[h];rfl
theorem yU (c:UInt8)(hc:bm c=true):PC Tryz.V 152 [.int .u8 c.toNat] (.int .u8 (di c)):=by
 have key:=dz (p:=fun c=>!bm c||(decide ((c.toNat≤57→IntKind.u8.wrap ((c.toNat:Int) - 48)=di c)∧(57<c.toNat→c.toNat≤70→IntKind.u8.wrap (IntKind.u8.wrap ((c.toNat:Int) - 65)+10)=di c)∧(70<c.toNat→IntKind.u8.wrap (IntKind.u8.wrap ((c.toNat:Int) - 97)+10)=di c)))) (by decide +kernel) c
 simp only[hc,Bool.not_true,Bool.false_or,decide_eq_true_eq]at key
 obtain⟨k1,k2,k3⟩:=key
 refine aZ 3000 Tryz.func152 rfl Tryz.ntmps152 Tryz.results152 Tryz.call152 (by simp) (by simp[flat,flat.ai]) (by simp[flat,flat.ai]) ?_
 refine bC ?_
 refine⟨fun h=>?_,fun h=>⟨fun h2=>?_,fun h2=>?_⟩⟩
 ·rw[k1 (by simp at h;omega)]
 ·rw[k2 (by simp at h;omega) (by simp at h2;omega)]
 ·rw[k3 (by simp at h2;omega)]
theorem EA (a b:UInt8)(ha:bm a=true)(hb:bm b=true):IntKind.u8.wrap (IntKind.u8.wrap (16 * (di a:Int))+di b)=((unhex a b).toNat:Int):=by
 have h1:=kZ ha
 have h2:=kZ hb
 have:∀ x,x<16→∀ y,y<16→IntKind.u8.wrap (IntKind.u8.wrap (16 * ((x:Nat):Int))+(y:Nat))=(((x * 16+y).toUInt8).toNat:Int):=by decide +kernel
 exact this _ (by omega) _ (by omega)
theorem wR (s:Bytes)(i:Nat)(hi:i<s.length)(hp:s[i]=37)(hs:s.length≤4294967281):PC Tryz.V 88 [.str s,.int .i64 i] (.eW [.int .u8 (((mR s i).getD 0).toNat:Int),.bool (mR s i).isSome]):=by
 have hg:((s.getD i 0).toNat:Int)=37:=by rw[show s.getD i 0=37 by rw[← hp];simp[List.getD,hi]];rfl
 refine aZ 3000 Tryz.func88 rfl Tryz.ntmps88 Tryz.results88 Tryz.call88 (by simp) (by simp[flat,flat.ai]) (by simp[flat,flat.ai]) ?_
 simp (config := { maxSteps := 2000000 }) only[cz,↓Xn,↓Xo,↓Xg,↓Xd,↓Xe,↓Xf,Tryz.VΓ,Tryz.Γs,Xp,Xi,Nat.reduceAdd,Nat.reduceSub,Nat.reduceLT,Nat.reduceLeDiff,reduceIte,reduceCtorEq,Nat.reduceEqDiff,implies_true,forall_const,cw,hg,zRw,beq_self_eq_true,bne_self_eq_false,Int.reduceBEq,Int.reduceBNe,Int.reduceLT,Int.reduceLE]
 unfold mR
 rw[uC]
 refine⟨⟨by omega,by omega⟩,fun hl=>?_,fun hl=>?_⟩
 ·have hl:i+2<s.length:=(by simp at hl;omega)
  rw[if_pos hl]
  refine⟨⟨by omega,by omega⟩,⟨by omega,by omega⟩,⟨by omega,by omega⟩,?_⟩
  ·skip
   (refine aa (yX _) ?_;refine bC ?_)
   refine⟨fun ha=>⟨⟨by omega,by omega⟩,⟨by omega,by omega⟩,?_⟩,fun ha=>?_⟩
   ·have ha:bm (s.getD (i+1) 0)=true:=by simpa using ha
    (refine aa (yX _) ?_;refine bC ?_)
    refine⟨fun hb=>?_,fun hb=>⟨⟨by omega,by omega⟩,⟨by omega,by omega⟩,?_⟩⟩
    ·have hb:bm (s.getD (i+2) 0)=false:=by simpa using hb
     rw[ha,hb];rfl
    ·have hb:bm (s.getD (i+2) 0)=true:=by simpa using hb
     (refine aY (yU _ ha) ?_;refine bC ?_)
     refine⟨⟨by omega,by omega⟩,⟨by omega,by omega⟩,?_⟩
     (refine aY (yU _ hb) ?_;refine bC ?_)
     refine⟨(aq (by kernel_rfl)),?_⟩
     rw[EA _ _ ha hb,ha,hb];rfl
   ·have ha:bm (s.getD (i+1) 0)=false:=by simpa using ha
    rw[ha];rfl
 ·have hl:¬ i+2<s.length:=(by simp at hl;omega)
  rw[if_neg hl];rfl
theorem mD (c:UInt8):PC Tryz.V 89 [.int .u8 c.toNat] (.str (nw c)):=by
 have hc:=c.toNat_lt
 have d1:=yc (c.toNat / 16) (by omega)
 have d2:=yc (c.toNat % 16) (by omega)
 have key:=dz (p:=fun c=>decide (kP .quo .u8 (c.toNat:Int) 16=((c.toNat / 16:Nat):Int)∧kP .rem .u8 (c.toNat:Int) 16=((c.toNat % 16:Nat):Int))) (by decide +kernel) c
 obtain⟨s1,s2⟩:=of_decide_eq_true key
 have ec:=Ct c
 have e1:([.int .u8 37,.int .u8 ((jt (c.toNat / 16)).toNat:Int),.int .u8 ((jt (c.toNat % 16)).toNat:Int)]:List SV).map vf=nw c:=by rw[← ec,ll]
 refine aZ 3000 Tryz.func89 rfl Tryz.ntmps89 Tryz.results89 Tryz.call89 (by simp) (by simp[flat,flat.ai]) (by simp[flat,flat.ai]) ?_
 refine gN (zQ8 s1 (zQ8 s2 (zQ8 zRw (zQ8 d1 d2)))) ?_
 have e2:([.int .u8 37,.int .u8 ((jt (c.toNat / 16)).toNat:Int),.int .u8 ((jt (c.toNat % 16)).toNat:Int)]:List SV).all Be=true:=by rw[← ec,gd]
 simp only[List.map_cons,List.map_nil]at e1
 simp only[List.all_cons,List.all_nil,Bool.and_true]at e2
 exact⟨by decide,⟨by omega,by omega⟩,by decide,⟨by omega,by omega⟩,by omega,e2,(aq (by kernel_rfl)),by rw[e1]⟩
def RnI (also s:Bytes)(σ:St):Prop:=∃ (i:Nat) (x:SV) (d:Bytes),lk 0 σ.t=some (.str s)∧lk 1 σ.t=some (.str also)∧lk 6 σ.t=some x∧lk 7 σ.t=some (.int .i64 i)∧i≤s.length∧d.length≤3 * i∧Sl 5 1 0 x σ.b (d.map dW) d.length∧comb d (bX also (aJ (s.drop i)))=bX also (aJ s)
theorem wM {also s:Bytes}{t:List (Nat × SV)}{b:List av}{i i':Nat}{x:SV}{d:Bytes}(h0:lk 0 t=some (.str s))(h1:lk 1 t=some (.str also))(h6:lk 6 t=some x)(h7:lk 7 t=some (.int .i64 i'))(h:i'≤s.length∧d.length≤3 * i')(ht:Sl 5 1 0 x b (d.map dW) d.length)
 (hn:comb d (bX also (aJ (s.drop i')))=bX also (aJ s)) (aA:i<i'):RnI also s ⟨t,b⟩∧NoM s ⟨t,b⟩<s.length - i :=
 ⟨⟨i',x,d,h0,h1,h6,h7,h.1,h.2,ht,hn⟩,by rw[Eh h7];omega⟩
theorem jd (s also:Bytes)(ha:also.length≤1000):PC Tryz.V 36 [.str s,.str also] (.eW [.str (bI also s).1,.int .i64 (bI also s).2]):=by
 refine aZ 3000 Tryz.func36 rfl Tryz.ntmps36 Tryz.results36 Tryz.call36 (by simp) (by simp[flat,flat.ai]) (by simp[flat,flat.ai]) ?_
 refine bC ?_
 unfold bI
 refine⟨fun hl=>?_,fun hl=>?_⟩
 ·have hl:16384<s.length:=(by simp at hl;omega)
  rw[if_pos hl]
 have hl:s.length≤16384:=(by simp at hl;omega)
 rw[if_neg (by omega)]
 refine az (RnI also s) (NoM s) ⟨0,.aj,[],rfl,rfl,rfl,rfl,by omega,by simp,.inl ⟨rfl,rfl,rfl⟩,An _ (BZ also _)⟩ ?_
 rintro⟨t,b⟩ ⟨i,x,d,h0,h1,h6,h7,hi,hd,ht,hn⟩
 simp only at h0 h1 h6 h7 ht
 rw[Eh h7]
 by_cases aA:i<s.length
 ·have hu:=si aA
  have hg:s.getD i 0=s[i]:=by simp[List.getD,aA]
  refine gN (zQ8 h0 (zQ8 h1 (zQ8 h6 h7))) ?_
  refine⟨fun _=>⟨⟨by omega,by omega⟩,fun hc=>⟨⟨by omega,by omega⟩,?_⟩,fun hc=>?_⟩,fun h=>absurd h (by simp;omega)⟩
  ·have hc:¬ s[i]=37:=by
    intro e
    rw[hg,e]at hc
    simp at hc
   rw[if_neg hc]at hu
   rw[hu,bX]at hn
   rw[hg]
   have jI:fw also s[i]=true→comb (d++[s[i]]) (bX also (aJ (s.drop (i+1))))=bX also (aJ s):=fun hk=>by
    rw[← hn,if_pos hk,lg]
   (refine aa (eB s[i]) ?_;refine gN (zQ8 h0 (zQ8 h1 (zQ8 h6 (zQ8 h7 hg)))) ?_)
   refine⟨fun hq=>⟨⟨by omega,by omega⟩,?_⟩,fun hq=>⟨⟨by omega,by omega⟩,?_⟩⟩
   ·have hq:=ur hq
    (refine aa (kC s[i] also (by omega)) ?_;refine gN (zQ8 h0 (zQ8 h1 (zQ8 h6 (zQ8 h7 hg)))) ?_)
    refine⟨fun nC=>?_,fun nC=>⟨⟨by omega,by omega⟩,?_⟩⟩
    ·have nC:=ur nC
     have hk:¬ fw also s[i]=true:=by unfold fw;rw[hq,nC];simp
     rw[if_neg hk]at hn
     have qJ:bX also (aJ s)=([],1):=by rw[← hn];rfl
     rw[qJ]
    ·have nC:=uu nC
     have hk:fw also s[i]=true:=by unfold fw;rw[nC];simp
     (rcases ht with⟨rfl,jT,mO⟩|⟨j,rfl,nU,hj⟩
      ·obtain rfl:d=[]:=by simpa using jT
       refine gN (zQ8 h0 (zQ8 h1 (zQ8 h6 (zQ8 h7 (zQ8 hg @aC))))) ?_
       refine⟨by omega,⟨by unfold maxLen;omega,by omega⟩,⟨by omega,by omega⟩,wM (i':=i+1) (x:=.o (b++[av.own [dW (s[i])] 5 1 1 true]).length 1) (d:=[]++[s[i]]) h0 h1 rfl (by simp only[lk,reduceIte,zRr.injEq,SV.int.injEq,true_and];omega) ⟨by omega,by simp;omega⟩ (.inr ⟨_,rfl,by omega,aC _ _⟩) (jI hk) (by omega)⟩
      ·have gw:j<b.length:=(zQ9.1 hj).1
       have ho:∀ X,(b++[X])[j]? = some (.own (d.map dW) 5 1 d.length true):=fun X=>ad hj [X]
       refine gN (zQ8 h0 (zQ8 h1 (zQ8 h6 (zQ8 h7 (zQ8 hg (zQ8 @aC ho)))))) ?_
       refine⟨by omega,⟨by unfold maxLen;omega,by omega⟩,⟨by omega,by omega⟩,wM (i':=i+1) (x:=.o (b++[av.own [dW (s[i])] 5 1 1 true]).length (d.length+1)) (d:=d++[s[i]]) h0 h1 rfl (by simp only[lk,reduceIte,zRr.injEq,SV.int.injEq,true_and];omega) ⟨by omega,by simp;omega⟩ (.inr ⟨(b++[av.own [dW (s[i])] 5 1 1 true]).length,by simp,by omega,by rw[zRg (by simp)];simp[dW]⟩) (jI hk) (by omega)⟩)
   ·have hq:=uu hq
    have hk:fw also s[i]=true:=by unfold fw;rw[hq];simp
    (rcases ht with⟨rfl,jT,mO⟩|⟨j,rfl,nU,hj⟩
     ·obtain rfl:d=[]:=by simpa using jT
      refine gN (zQ8 h0 (zQ8 h1 (zQ8 h6 (zQ8 h7 (zQ8 hg @aC))))) ?_
      refine⟨by omega,⟨by unfold maxLen;omega,by omega⟩,⟨by omega,by omega⟩,wM (i':=i+1) (x:=.o (b++[av.own [dW (s[i])] 5 1 1 true]).length 1) (d:=[]++[s[i]]) h0 h1 rfl (by simp only[lk,reduceIte,zRr.injEq,SV.int.injEq,true_and];omega) ⟨by omega,by simp;omega⟩ (.inr ⟨_,rfl,by omega,aC _ _⟩) (jI hk) (by omega)⟩
     ·have gw:j<b.length:=(zQ9.1 hj).1
      have ho:∀ X,(b++[X])[j]? = some (.own (d.map dW) 5 1 d.length true):=fun X=>ad hj [X]
      refine gN (zQ8 h0 (zQ8 h1 (zQ8 h6 (zQ8 h7 (zQ8 hg (zQ8 @aC ho)))))) ?_
      refine⟨by omega,⟨by unfold maxLen;omega,by omega⟩,⟨by omega,by omega⟩,wM (i':=i+1) (x:=.o (b++[av.own [dW (s[i])] 5 1 1 true]).length (d.length+1)) (d:=d++[s[i]]) h0 h1 rfl (by simp only[lk,reduceIte,zRr.injEq,SV.int.injEq,true_and];omega) ⟨by omega,by simp;omega⟩ (.inr ⟨(b++[av.own [dW (s[i])] 5 1 1 true]).length,by simp,by omega,by rw[zRg (by simp)];simp[dW]⟩) (jI hk) (by omega)⟩)
  ·have hc:s[i]=37:=by
    have:s.getD i 0=37:=by
     rw[← UInt8.toNat_inj]
     have e37:(37:UInt8).toNat=37:=rfl
     have h2:=bne_eq_false_iff_eq.1 hc
     omega
    rw[← hg];exact this
   rw[if_pos hc]at hu
   have pe:=wR s i aA hc (by omega)
   cases he:mR s i with
   | none =>
     rw[he]at pe hu
     simp only at hu
     rw[hu]at hn
     have qJ:bX also (aJ s)=([],2):=by rw[← hn];rfl
     rw[qJ]
     (refine aa pe ?_;simp only[cz,↓Xn,↓Xo,↓Xg,↓Xd,↓Xe,↓Xf,Tryz.VΓ,Tryz.Γs,Xp,Xi,Nat.reduceAdd,Nat.reduceSub,Nat.reduceLT,Nat.reduceLeDiff,reduceIte,reduceCtorEq,Nat.reduceEqDiff,implies_true,forall_const,cw,h0,h1,h6,h7,Option.isSome_none])
   | some v =>
     rw[he]at pe hu
     have hx:=he
     unfold mR at hx
     obtain⟨⟨a,bb,r⟩,hp,hv⟩:=Option.map_eq_some_iff.1 hx
     simp only at hv
     rw[hp]at hu
     simp only at hu
     have hi3:i+3≤s.length:=by
      obtain⟨h1,-,-⟩:=eh hp
      have:=congrArg List.length h1
      simp at this
      omega
     have jI:comb (d++qC v) (bX also (aJ (s.drop (i+2+1))))=bX also (aJ s):=by
      rw[← hn,hu,bX,lg,hv]
     simp only[Option.getD_some,Option.isSome_some]at pe
     (refine aa pe ?_;refine gN (zQ8 h0 (zQ8 h1 (zQ8 h6 h7))) ?_)
     (refine aa (eB v) ?_;refine gN (zQ8 h0 (zQ8 h1 (zQ8 h6 h7))) ?_)
     refine⟨fun hq=>?_,fun hq=>?_⟩
     ·have uA:comb (d++[v]) (bX also (aJ (s.drop (i+2+1))))=bX also (aJ s):=by
       rw[← jI];unfold qC;rw[if_pos hq]
      (rcases ht with⟨rfl,jT,mO⟩|⟨j,rfl,nU,hj⟩
       ·obtain rfl:d=[]:=by simpa using jT
        refine gN (zQ8 h0 (zQ8 h1 (zQ8 h6 (zQ8 h7 (zQ8 hg @aC))))) ?_
        refine⟨by omega,⟨by unfold maxLen;omega,by omega⟩,⟨by omega,by omega⟩,⟨by omega,by omega⟩,wM (i':=i+2+1) (x:=.o (b++[av.own [dW (v)] 5 1 1 true]).length 1) (d:=[]++[v]) h0 h1 rfl (by simp only[lk,reduceIte,zRr.injEq,SV.int.injEq,true_and];omega) ⟨by omega,by simp;omega⟩ (.inr ⟨_,rfl,by omega,aC _ _⟩) (uA) (by omega)⟩
       ·have gw:j<b.length:=(zQ9.1 hj).1
        have ho:∀ X,(b++[X])[j]? = some (.own (d.map dW) 5 1 d.length true):=fun X=>ad hj [X]
        refine gN (zQ8 h0 (zQ8 h1 (zQ8 h6 (zQ8 h7 (zQ8 hg (zQ8 @aC ho)))))) ?_
        refine⟨by omega,⟨by unfold maxLen;omega,by omega⟩,⟨by omega,by omega⟩,⟨by omega,by omega⟩,wM (i':=i+2+1) (x:=.o (b++[av.own [dW (v)] 5 1 1 true]).length (d.length+1)) (d:=d++[v]) h0 h1 rfl (by simp only[lk,reduceIte,zRr.injEq,SV.int.injEq,true_and];omega) ⟨by omega,by simp;omega⟩ (.inr ⟨(b++[av.own [dW (v)] 5 1 1 true]).length,by simp,by omega,by rw[zRg (by simp)];simp[dW]⟩) (uA) (by omega)⟩)
     ·have uA:comb (d++nw v) (bX also (aJ (s.drop (i+2+1))))=bX also (aJ s):=by
       rw[← jI];unfold qC;rw[if_neg (by simp[hq])]
      (refine aa (mD v) ?_;refine gN (zQ8 h0 (zQ8 h1 (zQ8 h6 h7))) ?_)
      rcases ht with⟨rfl,jT,mO⟩|⟨j,rfl,nU,hj⟩
      ·obtain rfl:d=[]:=by simpa using jT
       refine gN (zQ8 h0 (zQ8 h1 (zQ8 h6 h7))) ?_
       exact⟨⟨jG _,by simp[nw];unfold maxLen;omega,by simp[nw]⟩,⟨by omega,by omega⟩,⟨by omega,by omega⟩,wM (i':=i+2+1) (d:=[]++nw v) h0 h1 rfl (by simp only[lk,reduceIte,zRr.injEq,SV.int.injEq,true_and];omega) ⟨by omega,by simp[nw];omega⟩ (.inr ⟨b.length,rfl,by omega,aC _ _⟩) uA (by omega)⟩
      ·refine gN (zQ8 h0 (zQ8 h1 (zQ8 h6 (zQ8 h7 hj)))) ?_
       exact⟨⟨jG _,by simp[nw];unfold maxLen;omega,by simp[nw];omega⟩,⟨by omega,by omega⟩,⟨by omega,by omega⟩,wM (i':=i+2+1) (d:=d++nw v) h0 h1 rfl (by simp only[lk,reduceIte,zRr.injEq,SV.int.injEq,true_and];omega) ⟨by omega,by simp[nw];omega⟩ (.inr ⟨b.length,by simp,by omega,by rw[zRg (by simp)];simp⟩) uA (by omega)⟩
 ·have js:i=s.length:=by omega
  subst js
  rw[List.drop_length,gi]at hn
  have qJ:bX also (aJ s)=(d,0):=by rw[← hn];simp[bX,comb]
  rw[qJ]
  rcases ht with⟨rfl,jT,mO⟩|⟨j,rfl,nU,hj⟩
  ·obtain rfl:d=[]:=by simpa using jT
   refine gN (zQ8 h0 (zQ8 h1 (zQ8 h6 h7))) ?_
   exact fun h=>absurd h (by simp)
  ·refine gN (zQ8 h0 (zQ8 h1 (zQ8 h6 (zQ8 h7 hj)))) ?_
   refine⟨fun h=>absurd h (by simp),fun _=>⟨gd d,?_⟩⟩
   rw[ll]
theorem lD (s:Bytes):PC Tryz.V 11 [.str s] (.eW [cQ (bz s).1,.int .i64 (bz s).2]):=by
 refine aZ 3000 Tryz.func11 rfl Tryz.ntmps11 Tryz.results11 Tryz.call11 (by simp) (by simp[flat,flat.ai]) (by simp[flat,flat.ai,cQ]) ?_
 refine bC ?_
 refine⟨fun h=>?_,fun h=>?_⟩
 ·have:bz s=(bM.none,5):=if_pos (by simp at h;omega)
  rw[this];rfl
 have hl:¬ 4096<s.length:=(by simp at h;omega)
 have hq:bz s=if (aL s).2≠0 then(bM.none,(aL s).2) else wB (aL s).1:=if_neg hl
 rw[hq]
 have ps:=sJ s
 unfold lZ at ps
 have hp:=yr s
 have hz:=sm s
 revert ps hp hz
 generalize aL s=us
 obtain⟨r,c⟩:=us
 intro ps hp hz
 simp only at ps hp hz
 simp only
 unfold Uri.size at hz
 have pl:=jF r.scheme dT (by omega) (by decide)
 have pn:=bH r.authority [64] (by omega) (by decide)
 have hpm:=Dj r.authority 64
 have gU:=cV (·==64) r.authority
 rw[show (List.contains [64] ·:UInt8→Bool)=(·==64) from by funext c;simp;exact(Bool.beq_eq_decide_eq _ _).symm]at pn
 have ph:=yT r.authority (by omega)
 have p1:=jd r.path dI (by decide)
 have p2:=jd r.query du (by decide)
 have p3:=jd r.fragment du (by decide)
 (refine aa (ps) ?_;refine bC ?_)
 refine⟨fun h1=>?_,fun h1=>?_⟩
 ·rw[if_pos (by simpa using h1)];rfl
 rw[if_neg (by simpa using h1)]
 unfold wB
 cases rH:r.bR
 ·refine gN rH ?_
  rw[if_pos (.inl trivial)];rfl
 refine gN rH ?_
 rw[show lower dT=dT by decide]at pl
 (refine aa pl ?_;refine gN rH ?_)
 refine⟨fun h2=>?_,fun h2=>?_⟩
 ·rw[if_pos (.inr (by simpa using h2))];rfl
 rw[if_neg (by simpa using h2)]
 cases Ok:r.aT
 ·refine gN Ok ?_
  rfl
 refine gN Ok ?_
 (refine aY pn ?_;refine gN Ok ?_)
 refine⟨(aq (by kernel_rfl)),fun h3=>?_,fun h3=>?_⟩
 ·rw[if_pos (hpm.1 (by simp at h3;omega))];rfl
 rw[if_neg (fun k=>absurd (hpm.2 k) (by simp at h3;omega))]
 unfold nI
 (refine aa ph ?_;refine gN Ok ?_)
 refine⟨fun h4=>?_,fun h4=>?_⟩
 ·rw[if_pos (by simpa using h4)];rfl
 rw[if_neg (by simpa using h4)]
 have hN1:=gE dI r.path
 have hN2:=gE du r.query
 have hN3:=gE du r.fragment
 have hH:=xc r.authority (by simpa using h4)
 have p4:=ga (bI dI r.path).1 (by omega)
 have hD:=iZ (bI dI r.path).1
 generalize bI dI r.path=n1 at p1 p4 hN1 hD ⊢
 generalize bI du r.query=n2 at p2 hN2 ⊢
 generalize bI du r.fragment=n3 at p3 hN3 ⊢
 generalize (aK r.authority).1=hp at hH ⊢
 obtain⟨n1,e1⟩:=n1
 obtain⟨n2,e2⟩:=n2
 obtain⟨n3,e3⟩:=n3
 obtain⟨hh,pp⟩:=hp
 simp only at p1 p2 p3 p4 hN1 hN2 hN3 hH hD ⊢
 (refine aa p1 ?_;refine bC ?_)
 refine⟨fun h5=>?_,fun h5=>?_⟩
 ·rw[if_pos (by simpa using h5)];rfl
 rw[if_neg (by simpa using h5)]
 (refine aa p2 ?_;refine bC ?_)
 refine⟨fun h6=>?_,fun h6=>?_⟩
 ·rw[if_pos (by simpa using h6)];rfl
 rw[if_neg (by simpa using h6)]
 (refine aa p3 ?_;refine bC ?_)
 refine⟨fun h7=>?_,fun h7=>?_⟩
 ·rw[if_pos (by simpa using h7)];rfl
 rw[if_neg (by simpa using h7)]
 unfold oh
 (refine aa p4 ?_;refine bC ?_)
 generalize aM n1=d at hD ⊢
 have fin:∀ d':Bytes,d'.length≤4096 * 6→PC Tryz.V 38 [cQ ⟨hh,pp,d',n2,n3,r.aD,r.aP⟩] (.str (aX ⟨hh,pp,d',n2,n3,r.aD,r.aP⟩)):=fun d' hd' =>
  fM _ ⟨by simp only;omega,by simp only;omega,by simp only;omega⟩
 unfold cQ at fin
 refine⟨fun h8=>?_,fun h8=>?_⟩
 ·have f1:=fin [47] (by decide)
  have h8':d=[]:=by simpa using h8
  rw[if_pos h8']
  (refine aa f1 ?_;refine bC ?_)
  refine⟨fun h9=>?_,fun h9=>?_⟩
  ·rw[if_pos (by simp at h9;omega)];rfl
  ·rw[if_neg (by simp at h9;omega)];rfl
 ·have f1:=fin d (by omega)
  have h8':¬ d=[]:=by simpa using h8
  rw[if_neg h8']
  (refine aa f1 ?_;refine bC ?_)
  refine⟨fun h9=>?_,fun h9=>?_⟩
  ·rw[if_pos (by simp at h9;omega)];rfl
  ·rw[if_neg (by simp at h9;omega)];rfl
theorem qw (u:bM)(hk:Fair u):PC Tryz.V 39 [cQ u] (.bool (bQ u)):=by
 have pf:=oD u hk
 have pp:=wP (aX u)
 unfold cQ at pf pp
 (refine aZ 3000 Tryz.func39 rfl Tryz.ntmps39 Tryz.results39 Tryz.call39 (by simp) (by simp[flat,flat.ai,cQ]) (by simp[flat,flat.ai,cQ]) ?_
  unfold cQ
  refine bC ?_)
 (refine aa (pf) ?_;refine bC ?_)
 (refine aa (pp) ?_;refine bC ?_)
 unfold bQ
 generalize bz (aX u)=x
 obtain⟨⟨a,b,c,d,e,f,g⟩,y⟩:=x
 obtain⟨a',b',c',d',e',f',g'⟩:=u
 simp only[eqS,IU,GA,GA.eqF]
 refine⟨fun h=>?_,fun h=>?_⟩
 ·obtain rfl:y=0:=by simpa using h
  congr 1
  rw[zRG]
  simp only[Bool.and_eq_true,beq_iff_eq,decide_eq_true_eq,Prod.mk.injEq,bM.mk.injEq,and_true]
  constructor <;> (rintro⟨rfl,rfl,rfl,rfl,rfl,rfl,rfl⟩;exact⟨rfl,rfl,rfl,rfl,rfl,rfl,rfl⟩)
 ·congr 1
  exact(decide_eq_false (fun k=>by rw[(Prod.mk.inj k).2]at h;simp at h)).symm
theorem sH (u:bM)(hk:Fair u):PC Tryz.V 21 [cQ u] (.bool (bQ u)):=by
 have pf:=fM u hk
 have pp:=lD (aX u)
 unfold cQ at pf pp
 (refine aZ 3000 Tryz.func21 rfl Tryz.ntmps21 Tryz.results21 Tryz.call21 (by simp) (by simp[flat,flat.ai,cQ]) (by simp[flat,flat.ai,cQ]) ?_
  unfold cQ
  refine bC ?_)
 (refine aa (pf) ?_;refine bC ?_)
 (refine aa (pp) ?_;refine bC ?_)
 unfold bQ
 generalize bz (aX u)=x
 obtain⟨⟨a,b,c,d,e,f,g⟩,y⟩:=x
 obtain⟨a',b',c',d',e',f',g'⟩:=u
 simp only[eqS,IU,GA,GA.eqF]
 refine⟨fun h=>?_,fun h=>?_⟩
 ·obtain rfl:y=0:=by simpa using h
  congr 1
  rw[zRG]
  simp only[Bool.and_eq_true,beq_iff_eq,decide_eq_true_eq,Prod.mk.injEq,bM.mk.injEq,and_true]
  constructor <;> (rintro⟨rfl,rfl,rfl,rfl,rfl,rfl,rfl⟩;exact⟨rfl,rfl,rfl,rfl,rfl,rfl,rfl⟩)
 ·congr 1
  exact(decide_eq_false (fun k=>by rw[(Prod.mk.inj k).2]at h;simp at h)).symm
def wsvR (u:bM):SV:=cQ u
theorem rh (s:Bytes):Uri.size (aL s).1≤100000:=by
 by_cases h:16384<s.length
 ·rw[show aL s=(Uri.none,5) from if_pos h];decide
 ·have:=sm s;omega
theorem tQ (b r:Uri):Uri.size (eE b r)≤2 * (Uri.size b+Uri.size r)+2:=by
 have h1:=iZ r.path
 have h2:=iZ (gz b r)
 have h3:(gz b r).length≤b.path.length+r.path.length+1:=by
  have:=tC b r
  omega
 unfold eE
 split
 ·simp[Uri.size];omega
 split
 ·simp[Uri.size];omega
 split
 ·split <;> (simp[Uri.size];omega)
 ·simp[Uri.size];omega
theorem yR (u:bM)(ref:Bytes)(hk:Fair u):PC Tryz.V 111 [cQ u,.str ref] (.eW [cQ (cG u ref).1,.int .i64 (cG u ref).2]):=by
 show PC _ _ _ (.eW [wsvR (cG u ref).1,.int .i64 (cG u ref).2])
 have pf:=oD u hk
 have hvd:=qw u hk
 have s1:=qx (aX u)
 have s2:=qx ref
 have z1:=rh (aX u)
 have z2:=rh ref
 have pr:=AY (aL (aX u)).1 (aL ref).1 (by unfold Uri.size at z1;omega) (by unfold Uri.size at z2;omega)
 have hz:=tQ (aL (aX u)).1 (aL ref).1
 unfold cQ at pf hvd
 unfold lZ at s1 s2 pr
 (refine aZ 3000 Tryz.func111 rfl Tryz.ntmps111 Tryz.results111 Tryz.call111 (by simp) (by simp[flat,flat.ai,cQ]) (by simp[flat,flat.ai,cQ,wsvR]) ?_
  unfold cQ
  refine bC ?_)
 unfold cG
 (refine aa (hvd) ?_;refine bC ?_)
 cases hv:bQ u
 ·refine bC ?_
  rfl
 refine bC ?_
 (refine aa (pf) ?_;refine bC ?_)
 (refine aa (s1) ?_;refine bC ?_)
 (refine aa (s2) ?_;refine bC ?_)
 refine⟨fun h1=>?_,fun h1=>?_⟩
 ·rw[if_pos (by simpa using h1)];rfl
 rw[if_neg (by simpa using h1)]
 generalize aL (aX u)=b at *
 generalize aL ref=r at *
 (refine aa (pr) ?_;refine bC ?_)
 generalize eE b.1 r.1=q at *
 have pl:=DB q.scheme dT (by unfold Uri.size at hz z1 z2;omega) (by decide)
 rw[show lower dT=dT by decide]at pl
 have pj:=H6 q (by unfold Uri.size at *;omega)
 have pp:=wP (eZ q)
 unfold lZ at pj
 unfold cQ at pp
 (refine aa (pl) ?_;refine bC ?_)
 refine⟨fun h2=>?_,fun h2=>?_⟩
 ·rw[if_pos (by simpa using h2)];rfl
 rw[if_neg (by simpa using h2)]
 (refine aa (pj) ?_;refine bC ?_)
 (refine aa (pp) ?_;refine bC ?_)
 rfl
theorem AZ (u:bM)(ref:Bytes)(hk:Fair u):PC Tryz.V 146 [cQ u,.str ref] (.eW [cQ (cG u ref).1,.int .i64 (cG u ref).2]):=by
 show PC _ _ _ (.eW [wsvR (cG u ref).1,.int .i64 (cG u ref).2])
 have pf:=fM u hk
 have hvd:=sH u hk
 have s1:=sJ (aX u)
 have s2:=sJ ref
 have z1:=rh (aX u)
 have z2:=rh ref
 have pr:=Dr (aL (aX u)).1 (aL ref).1 (by unfold Uri.size at z1;omega) (by unfold Uri.size at z2;omega)
 have hz:=tQ (aL (aX u)).1 (aL ref).1
 unfold cQ at pf hvd
 unfold lZ at s1 s2 pr
 (refine aZ 3000 Tryz.func146 rfl Tryz.ntmps146 Tryz.results146 Tryz.call146 (by simp) (by simp[flat,flat.ai,cQ]) (by simp[flat,flat.ai,cQ,wsvR]) ?_
  unfold cQ
  refine bC ?_)
 unfold cG
 (refine aa (hvd) ?_;refine bC ?_)
 cases hv:bQ u
 ·refine bC ?_
  rfl
 refine bC ?_
 (refine aa (pf) ?_;refine bC ?_)
 (refine aa (s1) ?_;refine bC ?_)
 (refine aa (s2) ?_;refine bC ?_)
 refine⟨fun h1=>?_,fun h1=>?_⟩
 ·rw[if_pos (by simpa using h1)];rfl
 rw[if_neg (by simpa using h1)]
 generalize aL (aX u)=b at *
 generalize aL ref=r at *
 (refine aa (pr) ?_;refine bC ?_)
 generalize eE b.1 r.1=q at *
 have pl:=jF q.scheme dT (by unfold Uri.size at hz z1 z2;omega) (by decide)
 rw[show lower dT=dT by decide]at pl
 have pj:=KE q (by unfold Uri.size at *;omega)
 have pp:=lD (eZ q)
 unfold lZ at pj
 unfold cQ at pp
 (refine aa (pl) ?_;refine bC ?_)
 refine⟨fun h2=>?_,fun h2=>?_⟩
 ·rw[if_pos (by simpa using h2)];rfl
 rw[if_neg (by simpa using h2)]
 (refine aa (pj) ?_;refine bC ?_)
 (refine aa (pp) ?_;refine bC ?_)
 rfl
theorem uc_at (L:List bM)(k:Nat)(h:k<L.length):((L.flatMap uc).drop (k * 7)).take 7=uc L[k]:=kz uc 7 (fun _=>rfl) L k h
theorem Ms (L:List bM):(L.flatMap uc).length=L.length * 7:=ie uc 7 (fun _=>rfl) L
def Sq (e s:Nat)(x:SV)(b:List av)(c:List SV)(n:Nat):Prop:=(x=.aj∧c=[]∧n=0)∨∃ j m,x=.o j n∧b[j]? = some (.own c e s n m)
theorem yS (n:Int):PC Tryz.V 52 [.int .i64 n] (.bool (iv n)):=by
 unfold iv
 refine aZ 3000 Tryz.func52 rfl Tryz.ntmps52 Tryz.results52 Tryz.call52 (by simp) (by simp[flat,flat.ai]) (by simp[flat,flat.ai]) ?_
 refine bC ?_
 cases h1:n==301 <;> cases h2:n==302 <;> cases h3:n==303 <;> cases h4:n==307 <;> cases h5:n==308 <;> simp
theorem Nc (n:Int):PC Tryz.V 22 [.int .i64 n] (.bool (iv n)):=by
 have h:iv n=(decide (301≤n)&&decide (n≤303)||n==307||n==308):=by
  unfold iv
  rw[zRG]
  simp
  omega
 rw[h]
 refine aZ 3000 Tryz.func22 rfl Tryz.ntmps22 Tryz.results22 Tryz.call22 (by simp) (by simp[flat,flat.ai]) (by simp[flat,flat.ai]) ?_
 refine bC ?_
 cases h1:decide (301≤n) <;> cases h2:decide (n≤303) <;> cases h4:n==307 <;> cases h5:n==308 <;> simp
theorem uc_eq (u v:bM):(u.host==v.host&&(u.port==v.port&&(u.path==v.path&&(u.query==v.query&&(u.fragment==v.fragment&&(u.aD==v.aD&&u.aP==v.aP))))))=decide (u=v):=by
 obtain⟨a1,a2,a3,a4,a5,a6,a7⟩:=u
 obtain⟨b1,b2,b3,b4,b5,b6,b7⟩:=v
 rw[zRG]
 simp
theorem xy {bs:List av}{j:Nat}{L:List bM}{m:Bool}(hj:bs[j]? = some (.own (L.flatMap uc) 35 7 L.length m))(hn:L.length≤1000000)(u:bM) :
 SC Tryz.V 182 [.o j L.length,cQ u] bs (fun r b=>(∃ k:Int,r=.int .i64 k∧(decide (0≤k)=decide (u∈L)))∧Kp bs b):=by
 have gw:j<bs.length:=(zQ9.1 hj).1
 refine bo 3000 Tryz.func182 rfl Tryz.ntmps182 Tryz.results182 Tryz.call182 (by simp) (ah bs.length _ (by simp[within,within.ax,gw,cQ])) ?_
 unfold cQ
 refine bC ?_
 have gm:=ad hj [.cells (uc u) 35 true]
 refine az (fun σ=>∃ k:Nat,k≤L.length∧lk 0 σ.t=some (.o j L.length)∧lk 3 σ.t=some (.p bs.length 0)∧lk 6 σ.t=some (.o j L.length)∧lk 7 σ.t=some (.int .i64 L.length)∧lk 8 σ.t=some (.int .i64 k)∧σ.b=bs++[.cells (uc u) 35 true]∧¬ u∈L.take k) (fun σ=>L.length - fX 8 σ) ⟨0,by omega,rfl,rfl,rfl,rfl,rfl,rfl,by simp⟩ ?_
 rintro⟨t,b⟩ ⟨k,hk,h0,h3,h6,h7,h8,hb,da⟩
 simp only at h0 h3 h6 h7 h8 hb
 subst hb
 rw[ao h8]
 by_cases aA:k<L.length
 ·have hu:=uc_at L k aA
  have oI:=Ms L
  unfold uc at gm hu oI ⊢
  refine gC (zQ8 h0 (zQ8 h3 (zQ8 h6 (zQ8 h7 (zQ8 h8 (zQ8 gm (zQ8 hu (zQ8 oI (zQ8 zRw @uc_eq))))))))) ?_
  refine⟨fun _=>⟨⟨by omega,by omega⟩,by omega,(aq (by kernel_rfl)),fun h=>?_,fun h=>?_⟩,fun h=>absurd h (by simp;omega)⟩
  ·refine⟨⟨k,rfl,?_⟩,(Kp.refl _).app _⟩
   rw[decide_eq_true (by omega),decide_eq_true (by rw[of_decide_eq_true h];exact zRt aA)]
  ·refine⟨⟨by omega,by omega⟩,⟨k+1,by omega,rfl,?_⟩,?_⟩
   ·rw[zRm aA]
    simp only[List.mem_append,List.mem_singleton,not_or]
    exact⟨da,of_decide_eq_false h⟩
   ·rw[ao (k:=.i64) (n:=(k:Int)+1) rfl];omega
 ·have js:k=L.length:=by omega
  subst js
  rw[zRx]at da
  refine gN (zQ8 h0 (zQ8 h3 (zQ8 h6 (zQ8 h7 (zQ8 h8 gm))))) ?_
  exact⟨fun h=>absurd h (by simp),fun _=>⟨⟨-1,rfl,by simp[da]⟩,(Kp.refl _).app _⟩⟩
theorem sB {bs:List av}{j:Nat}{L:List bM}{m:Bool}(hj:bs[j]? = some (.own (L.flatMap uc) 35 7 L.length m))(hn:L.length≤1000000)(u:bM) :
 SC Tryz.V 112 [.o j L.length,cQ u] bs (fun r b=>r=.bool (decide (u∈L))∧Kp bs b):=by
 have gw:j<bs.length:=(zQ9.1 hj).1
 refine bo 3000 Tryz.func112 rfl Tryz.ntmps112 Tryz.results112 Tryz.call112 (by simp) (ah bs.length _ (by simp[within,within.ax,gw,cQ])) ?_
 have gm:=ad hj [.cells (uc u) 35 true]
 have s1:=xy gm hn u
 unfold cQ at s1 ⊢
 refine Ou ?_
 refine ae s1 ?_
 rintro r b ⟨⟨k,rfl,hk⟩,bc⟩
 rw[← hk]
 refine bC ?_
 exact(Kp.refl _).app _ |>.trans bc
theorem vq {bs:List av}(u:bM) :
 SC Tryz.V 182 [.aj,cQ u] bs (fun r b=>r=.int .i64 (-1)∧Kp bs b):=by
 refine bo 3000 Tryz.func182 rfl Tryz.ntmps182 Tryz.results182 Tryz.call182 (by simp) (ah bs.length _ (by simp[within,within.ax,cQ])) ?_
 unfold cQ
 refine bC ?_
 refine az (fun σ=>lk 7 σ.t=some (.int .i64 0)∧lk 8 σ.t=some (.int .i64 0)∧Kp bs σ.b) (fun σ=>0) ⟨rfl,rfl,(Kp.refl _).app _⟩ ?_
 rintro⟨t,b⟩ ⟨h7,h8,bc⟩
 simp only at h7 h8 bc
 refine gN (zQ8 h7 h8) ?_
 exact⟨fun h=>absurd h (by simp),fun _=>bc⟩
theorem rE {bs:List av}(u:bM) :
 SC Tryz.V 112 [.aj,cQ u] bs (fun r b=>r=.bool false∧Kp bs b):=by
 refine bo 3000 Tryz.func112 rfl Tryz.ntmps112 Tryz.results112 Tryz.call112 (by simp) (ah bs.length _ (by simp[within,within.ax,cQ])) ?_
 have s1:=vq (bs:=bs++[.cells (uc u) 35 true]) u
 unfold cQ at s1 ⊢
 refine Ou ?_
 refine ae s1 ?_
 rintro r b ⟨rfl,bc⟩
 refine bC ?_
 exact⟨rfl,(Kp.refl _).app _ |>.trans bc⟩
theorem E3 {bs:List av}{x:SV}{L:List bM}(h:Sq 35 7 x bs (L.flatMap uc) L.length)(hL:L.length≤1000000)(u:bM) :
 SC Tryz.V 112 [x,cQ u] bs (fun r b=>r=.bool (decide (u∈L))∧Kp bs b):=by
 rcases h with⟨rfl,-,hn⟩|⟨j,m,rfl,hj⟩
 ·obtain rfl:=List.length_eq_zero_iff.1 hn
  simpa using rE u
 ·exact sB hj hL u
theorem KD (u:bM):PC Tryz.V 23 [cQ u] (cQ u.bare):=by
 refine aZ 3000 Tryz.func23 rfl Tryz.ntmps23 Tryz.results23 Tryz.call23 (by simp) (by simp[flat,flat.ai,cQ]) (by simp[flat,flat.ai,cQ]) ?_
 unfold cQ bM.bare
 exact bC True.intro
theorem Sq.app {e s:Nat}{x:SV}{b:List av}{c:List SV}{n:Nat}(h:Sq e s x b c n)(X:List av):Sq e s x (b++X) c n:=by
 rcases h with h|⟨j,m,h,k⟩
 ·exact .inl h
 ·exact .inr ⟨j,m,h,ad k X⟩
theorem Sq.kp {e s:Nat}{x:SV}{bs b:List av}{c:List SV}{n:Nat}(h:Sq e s x bs c n)(k:Kp bs b):Sq e s x b c n:=by
 rcases h with h|⟨j,m,h,hj⟩
 ·exact .inl h
 ·exact .inr ⟨j,m,h,k.at hj⟩
theorem Sq.within {e s:Nat}{x:SV}{b:List av}{c:List SV}{n:Nat}(h:Sq e s x b c n):Vc.within b.length x=true:=by
 rcases h with⟨rfl,-⟩|⟨j,m,rfl,hj⟩
 ·rfl
 ·have:=(zQ9.1 hj).1
  simp[Vc.within,this]
theorem rS {bs:List av}{j:Nat}{fs:List (Bytes × Bytes)}{m:Bool}(hj:bs[j]? = some (.own (fs.flatMap fc) 100 2 fs.length m))(hn:fs.length≤1000000)(hl:∀ f∈fs,f.1.length≤9223372036854775807)(a c:Int)
 {sn:SV} {L:List bM} (hi:Sq 35 7 sn bs (L.flatMap uc) L.length) (hL:L.length≤1000000) (u:bM) (fu:Fair u) (fk:Int) :
 SC Tryz.V 53 [cQ u,.agg [.int .i64 a,.int .i64 c,.o j fs.length],sn,.int .i64 fk] bs (fun r b=>r=.eW [cQ (dK u fs L fk).1,.int .i64 (dK u fs L fk).2]∧Kp bs b):=by
 have gw:j<bs.length:=(zQ9.1 hj).1
 have dF:=hi.within
 refine bo 3000 Tryz.func53 rfl Tryz.ntmps53 Tryz.results53 Tryz.call53 (by simp) (ah bs.length _ (by simp[within,within.ax,gw,dF,cQ])) ?_
 unfold cQ
 refine Ou ?_
 refine⟨fun h5=>?_,fun h5=>?_⟩
 ·have h5:5≤fk:=by simpa using h5
  unfold dK
  rw[if_pos h5]
  exact⟨rfl,(((Kp.refl _).app _).app _).app _⟩
 ·have h5:¬ 5≤fk:=by simpa using h5
  unfold dK
  rw[if_neg h5]
  refine ae (qm (ad (ad (ad hj _) _) _) hn hl zu (by decide) a c) ?_
  rintro r b ⟨bc,fD⟩
  have Mc:=mP fs zu
  have kg:Kp bs b:=(((Kp.refl bs).app _).app _).app _ |>.trans bc
  have h8:=bc.at (aC _ _)
  have h4:=bc.at (q7 _ _ _ _)
  have hn8:bs.length≤(bs++[av.cells [.str u.host,.int .i64 u.port,.str u.path,.str u.query,.str u.fragment,.bool u.aD,.bool u.aP] 35 true]++[av.cells [.int .i64 a,.int .i64 c,.o j fs.length] 48 true]).length:=by simp
  generalize (bs++[av.cells [.str u.host,.int .i64 u.port,.str u.path,.str u.query,.str u.fragment,.bool u.aD,.bool u.aP] 35 true]++[av.cells [.int .i64 a,.int .i64 c,.o j fs.length] 48 true]).length=n8 at h8 hn8 ⊢
  have hl8:n8<b.length:=(zQ9.1 h8).1
  have s8:∀ X,(b.set n8 X)[n8]? = some X:=fun X=>by simp[hl8]
  generalize bP fs zu=l at fD Mc ⊢
  rcases fD with⟨rfl,jT,mO⟩|⟨q,rfl,hLq,hq⟩
  ·obtain rfl:l=[]:=List.length_eq_zero_iff.1 mO
   simp only[cz,↓Xn,↓Xo,↓Xg,↓Xd,↓Xe,↓Xf,Tryz.VΓ,Tryz.Γs,Xp,Xi,Nat.reduceAdd,Nat.reduceSub,Nat.reduceLT,Nat.reduceLeDiff,reduceIte,reduceCtorEq,Nat.reduceEqDiff,implies_true,forall_const,cw,nO,beq_self_eq_true,bne_self_eq_false,Int.reduceBEq,Int.reduceBNe,Int.reduceLT,Int.reduceLE,h8,s8,List.drop_nil,zRy]
   exact⟨rfl,kg.set hn8 _⟩
  ·by_cases h1:l.length=1
   ·obtain⟨x,rfl⟩:=List.length_eq_one_iff.1 h1
    have s1:=yR u x fu
    unfold cQ at s1
    simp only[List.map_cons,List.map_nil]at hq
    generalize hz:cG u x=z at s1
    obtain⟨v,e⟩:=z
    simp only at s1
    simp only[cz,↓Xn,↓Xo,↓Xg,↓Xd,↓Xe,↓Xf,Tryz.VΓ,Tryz.Γs,Xp,Xi,Nat.reduceAdd,Nat.reduceSub,Nat.reduceLT,Nat.reduceLeDiff,reduceIte,reduceCtorEq,Nat.reduceEqDiff,implies_true,forall_const,cw,nO,beq_self_eq_true,bne_self_eq_false,Int.reduceBEq,Int.reduceBNe,Int.reduceLT,Int.reduceLE,h8,s8,h4,hq,List.drop_nil,zRy,zRa,zRc,Int.reduceToNat,Nat.zero_mul,List.getElem?_cons_zero]
    refine⟨fun h=>absurd h (by simp),fun _=>⟨by omega,?_⟩⟩
    have h8a:=fun X=>ad h8 [X]
    have s8a:∀ X Y,((b++[X]).set n8 Y)[n8]? = some Y:=fun X Y=>by rw[zRn (by simp;omega)]
    have kf:¬ q=b.length:=by have:=(zQ9.1 hq).1;omega
    have mh:¬ bs.length=b.length:=by omega
    (refine aY (s1) ?_;simp only[cz,↓Xn,↓Xo,↓Xg,↓Xd,↓Xe,↓Xf,Tryz.VΓ,Tryz.Γs,Xp,Xi,Nat.reduceAdd,Nat.reduceSub,Nat.reduceLT,Nat.reduceLeDiff,reduceIte,reduceCtorEq,Nat.reduceEqDiff,implies_true,forall_const,cw,nO,beq_self_eq_true,bne_self_eq_false,Int.reduceBEq,Int.reduceBNe,Int.reduceLT,Int.reduceLE,h8,s8,h4,hq,h8a,s8a,List.drop_nil,zRy])
    refine⟨(by
     refine bO (fun n=>if n=b.length then 0 else 1) ?_
     simp only[List.map_cons,List.map_nil,cW,eS,reduceIte,kf,mh]
     exact aq (by kernel_rfl)),fun h2=>?_,fun h2=>⟨fun h3=>?_,fun h3=>?_⟩⟩
    ·refine⟨?_,(kg.app _).set hn8 _⟩
     obtain rfl:e=253:=by simpa using h2
     simp[oB,nM,hz,bM.none]
    ·refine⟨?_,(kg.app _).set hn8 _⟩
     have h2:¬ e=253:=by simpa using h2
     have h3:¬ e=0:=by simpa using h3
     simp[oB,nM,hz,h2,h3,bM.none]
    ·obtain rfl:e=0:=by simpa using h3
     refine ae (E3 ((hi.kp kg).app [.cells (uc v.bare) 35 true]) hL v.bare) ?_
     rintro r b3 ⟨rfl,eF⟩
     have g8:=eF.at (h8a _)
     have gl8:n8<b3.length:=(zQ9.1 g8).1
     have t8:∀ X,(b3.set n8 X)[n8]? = some X:=fun X=>by simp[gl8]
     have gu:=eF.at (aC _ _)
     have hkb3:=(kg.app _).trans eF
     unfold uc bM.bare at gu
     simp only[cz,↓Xn,↓Xo,↓Xg,↓Xd,↓Xe,↓Xf,Tryz.VΓ,Tryz.Γs,Xp,Xi,Nat.reduceAdd,Nat.reduceSub,Nat.reduceLT,Nat.reduceLeDiff,reduceIte,reduceCtorEq,Nat.reduceEqDiff,implies_true,forall_const,cw,nO,beq_self_eq_true,bne_self_eq_false,Int.reduceBEq,Int.reduceBNe,Int.reduceLT,Int.reduceLE,g8,t8,gu,List.drop_nil,zRy]
     refine⟨fun h4=>⟨?_,hkb3.set hn8 _⟩,fun h4=>?_⟩
     ·have h4:v.bare∈L:=by simpa using h4
      simp[oB,nM,hz,h4,bM.none]
     ·have h4:v.bare ∉ L:=by simpa using h4
      refine⟨?_,hkb3.set hn8 _⟩
      unfold oB nM
      simp[hz,h4]
      simp[bM.bare]
   ·simp only[cz,↓Xn,↓Xo,↓Xg,↓Xd,↓Xe,↓Xf,Tryz.VΓ,Tryz.Γs,Xp,Xi,Nat.reduceAdd,Nat.reduceSub,Nat.reduceLT,Nat.reduceLeDiff,reduceIte,reduceCtorEq,Nat.reduceEqDiff,implies_true,forall_const,cw,nO,beq_self_eq_true,bne_self_eq_false,Int.reduceBEq,Int.reduceBNe,Int.reduceLT,Int.reduceLE,h8,s8,List.drop_nil,zRy]
    refine⟨fun _=>⟨?_,kg.set hn8 _⟩,fun h=>absurd h (by simp;omega)⟩
    unfold oB
    rw[if_pos h1]
    rfl
end Go.Proofs.YtnmlimehgifadaaGreatDoor
namespace Wf
open Go Go.RowKit
structure fK where
 host:Bytes
 port:Int
 target:Bytes
 raw:Bytes
 fail:Int
 since:Int
 yo:Int
 deriving DecidableEq
def fK.none:fK:=⟨[],0,[],[],0,0,0⟩
def kS (h:Bytes)(p:Int)(t:Bytes)(now:Int)(a:fK):Bool :=
 (a.host==h&&a.port==p)&&a.target==t&&decide (a.since≤now)&&(a.yo==0||decide (now<a.yo))
def Az (a:fK):Bytes × Int :=
 if a.fail=1 then([],240) else if a.fail=2 then([],241) else if a.fail=3 then([],242) else if a.fail=4 then([],243) else(a.raw,0)
def xw:Option fK→Bytes × Int
 | Option.none=>([],241)
 | zRr a=>Az a
def bw (L:List fK)(u:bM)(now:Int):Bytes × Int :=
 if bQ u=false then([],8) else xw (L.find? (kS u.host u.port (bT u) now))
theorem wi {α:Type}{p:α→Bool}{L:List α}(h:∀ a∈L,p a=false):L.find? p=none:=by
 rw[List.find?_eq_none]
 intro a ha
 rw[h a ha];simp
theorem find_at {α:Type}{p:α→Bool}{L:List α}{k:Nat}(hk:k<L.length)(h:∀ a∈L.take k,p a=false)(hp:p L[k]=true):L.find? p=some L[k]:=by
 have e:L=L.take k++L[k]::L.drop (k+1):=by
  rw[← List.drop_eq_getElem_cons hk,List.take_append_drop]
 generalize L[k]=x at e hp
 rw[e,List.find?_append,wi h]
 simp[List.find?_cons,hp]
def F3 {α:Type}(p:α→Bool)(L:List α):Int:=if L.any p then(L.findIdx p:Int) else -1
theorem Ce {α:Type}{p:α→Bool}{L:List α}(h:∀ a∈L,p a=false):F3 p L=-1:=by
 unfold F3
 rw[if_neg]
 intro q
 obtain⟨a,ha,hp⟩:=List.any_eq_true.1 q
 rw[h a ha]at hp
 cases hp
theorem idxI_at {α:Type}{p:α→Bool}{L:List α}{k:Nat}(hk:k<L.length)(h:∀ a∈L.take k,p a=false)(hp:p L[k]=true):F3 p L=k:=by
 unfold F3
 rw[if_pos (List.any_eq_true.2 ⟨_,zRt hk,hp⟩)]
 congr 1
 refine(List.findIdx_eq hk).2 ⟨hp,fun j hj=>?_⟩
 have:=h L[j] (by rw[List.mem_take_iff_getElem];exact⟨j,by omega,rfl⟩)
 exact this
theorem Ir {α:Type}(p:α→Bool)(L:List α):(F3 p L=-1∧L.any p=false∧L.find? p=none)∨∃ (k:Nat) (h:k<L.length),F3 p L=k∧L.any p=true∧L.find? p=some L[k]:=by
 by_cases h:L.any p=true
 ·right
  obtain⟨a,ha,hpa⟩:=List.any_eq_true.1 h
  have hk:L.findIdx p<L.length:=List.findIdx_lt_length_of_exists ⟨a,ha,hpa⟩
  refine⟨L.findIdx p,hk,by unfold F3;rw[if_pos h],h,?_⟩
  refine find_at hk (fun b hb=>?_) (List.findIdx_getElem (w:=hk))
  obtain⟨j,hj,rfl⟩:=List.mem_take_iff_getElem.1 hb
  exact by simpa using List.not_of_lt_findIdx (p:=p) (xs:=L) (i:=j) (by omega)
 ·left
  have h:=Bool.not_eq_true _ ▸ h
  have h2:∀ a∈L,p a=false:=by simpa using h
  exact⟨Ce h2,h,wi h2⟩
end Wf
namespace Go.Proofs.YtnmlimehgifadaaGreatDoor
open Go Vc Go.RowKit Wf
def ac (a:fK):List SV:=[.str a.host,.int .i64 a.port,.str a.target,.str a.raw,.int .i64 a.fail,.int .u64 a.since,.int .u64 a.yo]
theorem CF (L:List fK)(k:Nat)(h:k<L.length):((L.flatMap ac).drop (k * 7)).take 7=ac L[k]:=kz ac 7 (fun _=>rfl) L k h
theorem ep (L:List fK):(L.flatMap ac).length=L.length * 7:=ie ac 7 (fun _=>rfl) L
theorem J0 (L:List fK)(a:fK):(L++[a]).flatMap ac=L.flatMap ac++ac a:=by simp
def J5 (a:fK):Prop:=a.host.length≤140737488355328∧a.target.length≤140737488355328∧a.raw.length≤140737488355328
theorem AR {bs:List av}{j:Nat}{L:List fK}{m:Bool}(hj:bs[j]? = some (.own (L.flatMap ac) 33 7 L.length m))(hL:L.length≤9223372036854775807)(hl:∀ a∈L,J5 a)(n:Int) :
 SC Tryz.V 24 [.o j L.length,.int .i64 n] bs (fun r b=>r=.bool (decide ((L.length:Int)≤n∧∀ a∈L,a.host.length+a.target.length+a.raw.length≤1500))∧Kp bs b):=by
 have gw:j<bs.length:=(zQ9.1 hj).1
 refine bo 3000 Tryz.func24 rfl Tryz.ntmps24 Tryz.results24 Tryz.call24 (by simp) (ah bs.length _ (by simp[within,within.ax,gw])) ?_
 refine Ou ?_
 refine⟨fun h=>⟨?_,Kp.refl _⟩,fun h=>?_⟩
 ·have h:=of_decide_eq_true h
  rw[decide_eq_false (fun q=>by have:=q.1;omega)]
 have h:=of_decide_eq_false h
 refine az (fun σ=>∃ q:Nat,q≤L.length∧lk 11 σ.t=some (.o j L.length)∧lk 12 σ.t=some (.int .i64 L.length)∧lk 13 σ.t=some (.int .i64 q)∧σ.b[j]? = some (.own (L.flatMap ac) 33 7 L.length m)∧Kp bs σ.b∧∀ a∈L.take q,a.host.length+a.target.length+a.raw.length≤1500) (fun σ=>L.length - fX 13 σ) ⟨0,by omega,rfl,rfl,rfl,hj,Kp.refl _,by simp⟩ ?_
 rintro⟨t,b⟩ ⟨q,hq,eJ,iN,gy,hb,bc,da⟩
 simp only at eJ iN gy hb bc
 rw[ao gy]
 by_cases aA:q<L.length
 ·have bg:decide ((q:Int)<L.length)=true:=decide_eq_true (by omega)
  have hu:=CF L q aA
  have oI:=ep L
  have eX:=fun X=>ad hb [X]
  obtain⟨Gr,p6,hf3⟩:=hl _ (zRt aA)
  unfold ac at hb eX hu oI
  refine gC (zQ8 eJ (zQ8 iN (zQ8 gy (zQ8 hb (zQ8 hu (zQ8 oI (zQ8 bg zRw))))))) ?_
  refine⟨⟨by omega,by omega⟩,by omega,⟨by omega,by omega⟩,⟨by omega,by omega⟩,fun nC=>⟨?_,bc.app _⟩,fun nC=>⟨⟨by omega,by omega⟩,⟨q+1,by omega,rfl,eX _,bc.app _,?_⟩,?_⟩⟩
  ·have nC:=of_decide_eq_true nC
   rw[decide_eq_false (fun p=>by have:=p.2 _ (zRt aA);omega)]
  ·intro s hs
   rw[zRm aA]at hs
   rcases List.mem_append.1 hs with hs|hs
   ·exact da s hs
   ·rw[List.mem_singleton.1 hs];have:=of_decide_eq_false nC;omega
  ·rw[ao (k:=.i64) (n:=(q:Int)+1) rfl];omega
 ·have js:q=L.length:=by omega
  subst js
  rw[zRx]at da
  have bg:decide ((L.length:Int)<L.length)=false:=by simp
  refine gN (zQ8 eJ (zQ8 iN (zQ8 gy (zQ8 hb bg)))) ?_
  exact⟨by rw[decide_eq_true ⟨by omega,da⟩],bc⟩
theorem yQ (a:fK):PC Tryz.V 95 [.agg (ac a)] (.agg [.str a.host,.int .i64 a.port]):=by
 refine aZ 3000 Tryz.func95 rfl Tryz.ntmps95 Tryz.results95 Tryz.call95 (by simp) (by simp[flat,flat.ai,ac]) (by simp[flat,flat.ai,ac]) ?_
 unfold ac
 exact bC True.intro
theorem Dp (h:Bytes)(p:Int)(t:Bytes)(now:Int)(a:fK):PC Tryz.V 43 [.agg [.str h,.int .i64 p,.str t,.int .u64 now],.agg (ac a)] (.bool (kS h p t now a)):=by
 have p1:=yQ a
 refine aZ 3000 Tryz.func43 rfl Tryz.ntmps43 Tryz.results43 Tryz.call43 (by simp) (by simp[flat,flat.ai,ac]) (by simp[flat,flat.ai,ac]) ?_
 unfold ac at p1 ⊢
 refine bC ?_
 (refine aY (p1) ?_;refine se ?_)
 refine⟨fun h1=>⟨fun h2=>⟨fun h3=>⟨fun h4=>⟨(aq (by kernel_rfl)),?_⟩,fun h4=>⟨(aq (by kernel_rfl)),?_⟩⟩,fun h3=>⟨(aq (by kernel_rfl)),?_⟩⟩,fun h2=>⟨(aq (by kernel_rfl)),?_⟩⟩,fun h1=>⟨(aq (by kernel_rfl)),?_⟩⟩
 all_goals unfold kS
 ·rw[h1,h2,h3,h4];simp
 ·rw[h1,h2,h3,h4];simp
 ·rw[h1,h2,h3];simp
 ·rw[h1,h2];simp
 ·rw[h1];simp
theorem AV {bs:List av}{j:Nat}{L:List fK}{m:Bool}(g:FuncId)(v:SV)(fv:flat v=true)(p:fK→Bool)(hp:∀ a∈L,PC Tryz.V g [v,.agg (ac a)] (.bool (p a)))(hj:bs[j]? = some (.own (L.flatMap ac) 33 7 L.length m))(hL:L.length≤9223372036854775807) :
 SC Tryz.V 42 [.o j L.length,.mv g [v]] bs (fun r b=>r=.int .i64 (F3 p L)∧b=bs):=by
 have gw:j<bs.length:=(zQ9.1 hj).1
 have hv:∀ β β',ak β v=ak β' v:=gV v fv
 refine bo 3000 Tryz.func42 rfl Tryz.ntmps42 Tryz.results42 Tryz.call42 (by simp) (fun β β' hb=>by simp[a8,ak,hv β β',hb j gw]) ?_
 refine Ou ?_
 refine az (fun σ=>∃ q:Nat,q≤L.length∧lk 0 σ.t=some (.o j L.length)∧lk 1 σ.t=some (.mv g [v])∧lk 6 σ.t=some (.o j L.length)∧lk 7 σ.t=some (.int .i64 L.length)∧lk 8 σ.t=some (.int .i64 q)∧σ.b=bs∧∀ a∈L.take q,p a=false) (fun σ=>L.length - fX 8 σ) ⟨0,by omega,rfl,rfl,rfl,rfl,rfl,rfl,by simp⟩ ?_
 rintro⟨t,b⟩ ⟨q,hq,h0,h1,h6,h7,h8,hb,da⟩
 simp only at h0 h1 h6 h7 h8 hb
 subst hb
 rw[ao h8]
 by_cases aA:q<L.length
 ·have bg:decide ((q:Int)<L.length)=true:=decide_eq_true (by omega)
  have hu:=CF L q aA
  have oI:=ep L
  have hc:=hp _ (zRt aA)
  unfold ac at hj hu oI hc
  have ht:=zRm aA
  refine gC (zQ8 h0 (zQ8 h1 (zQ8 h6 (zQ8 h7 (zQ8 h8 (zQ8 hj (zQ8 hu (zQ8 oI (zQ8 bg zRw))))))))) ?_
  refine⟨⟨by omega,by omega⟩,by omega,?_⟩
  (refine aa (hc) ?_;refine gN (zQ8 h0 (zQ8 h1 (zQ8 h6 (zQ8 h7 (zQ8 h8 (zQ8 hj (zQ8 oI bg))))))) ?_)
  refine⟨fun hpq=>by rw[idxI_at aA da hpq],fun hpq=>⟨⟨by omega,by omega⟩,⟨q+1,by omega,rfl,?_⟩,?_⟩⟩
  ·intro s hs
   rw[ht]at hs
   rcases List.mem_append.1 hs with hs|hs
   ·exact da s hs
   ·rw[List.mem_singleton.1 hs];exact hpq
  ·rw[ao (k:=.i64) (n:=(q:Int)+1) rfl];omega
 ·have js:q=L.length:=by omega
  subst js
  rw[zRx]at da
  have bg:decide ((L.length:Int)<L.length)=false:=by simp
  refine gN (zQ8 h0 (zQ8 h1 (zQ8 h6 (zQ8 h7 (zQ8 h8 (zQ8 hj bg)))))) ?_
  rw[Ce da]
theorem ab_at (L:List fK)(k:Nat)(h:k<L.length)(i:Nat)(x:SV)(hx:(ac L[k])[i]? = some x):(L.flatMap ac)[k * 7+i]? = some x:=by
 have h1:=CF L k h
 have h2:i<7:=(zQ9.1 hx).1
 rw[← h1,List.getElem?_take_of_lt h2,List.getElem?_drop]at hx
 exact hx
theorem CS {bs:List av}{j:Nat}{L:List fK}{m:Bool}(hj:bs[j]? = some (.own (L.flatMap ac) 33 7 L.length m))(hL:L.length≤9223372036854775807)(u:bM)(hu:Fair u)(now:Int) :
 SC Tryz.V 12 [.o j L.length,cQ u,.int .u64 now] bs (fun r b=>r=.eW [.str (bw L u now).1,.int .i64 (bw L u now).2]∧Kp bs b):=by
 have gw:j<bs.length:=(zQ9.1 hj).1
 have p1:=qw u hu
 have p2:=tW u
 have p3:=tV u hu
 have pf:=fun a=>Dp u.host u.port (bT u) now a
 refine bo 3000 Tryz.func12 rfl Tryz.ntmps12 Tryz.results12 Tryz.call12 (by simp) (ah bs.length _ (by simp[within,within.ax,gw,cQ])) ?_
 unfold cQ at p1 p2 p3 ⊢
 refine Ou ?_
 (refine aa (p1) ?_;refine Ou ?_)
 refine⟨fun h=>⟨?_,(Kp.refl _).app _⟩,fun h=>?_⟩
 ·have h:bQ u=false:=by simpa using h
  unfold bw
  rw[if_pos h]
 have h:bQ u=true:=by simpa using h
 have ea:bw L u now=xw (L.find? (kS u.host u.port (bT u) now)):=by unfold bw;rw[if_neg (by rw[h];simp)]
 rw[ea]
 (refine aY (p2) ?_;refine Ou ?_)
 (refine aY (p3) ?_;refine Ou ?_)
 have gm:=fun X=>ad hj [X]
 have JJ:=fun X Y=>ad (gm X) [Y]
 have s2:=fun X Y=>AV (bs:=bs++[X]++[Y]) _ _ (by simp[flat,flat.ai]) _ (fun a _=>pf a) (JJ X Y) hL
 have hz:∀ X:av,((bs++[X]).length=bs.length)=False:=fun X=>by simp
 refine⟨(by
  refine bO (fun n=>if n=bs.length then 0 else 1) ?_
  simp only[List.map_cons,List.map_nil,cW,eS,reduceIte,hz]
  exact aq (by kernel_rfl)),?_⟩
 refine ae (s2 _ _) ?_
 rintro r b ⟨rfl,rfl⟩
 rcases Ir (kS u.host u.port (bT u) now) L with⟨e,-,e2⟩|⟨k,hk,e,-,e2⟩
 ·rw[e,e2]
  refine mc ?_
  exact⟨rfl,((Kp.refl _).app _).app _⟩
 ·rw[e,e2]
  have bJ:decide ((k:Int)<0)=false:=decide_eq_false (by omega)
  have h4:=ab_at L k hk 4 _ rfl
  have h3:=ab_at L k hk 3 _ rfl
  have oI:=ep L
  refine gC (zQ8 bJ (zQ8 h3 (zQ8 h4 (zQ8 oI (zQ8 JJ zRw))))) ?_
  refine⟨⟨by omega,by omega⟩,by omega,fun q1=>⟨?_,((Kp.refl _).app _).app _⟩,fun q1=>⟨fun q2=>⟨?_,((Kp.refl _).app _).app _⟩,fun q2=>⟨fun q3=>⟨?_,((Kp.refl _).app _).app _⟩,fun q3=>⟨fun q4=>⟨?_,((Kp.refl _).app _).app _⟩,fun q4=>⟨⟨by omega,by omega⟩,by omega,?_,((Kp.refl _).app _).app _⟩⟩⟩⟩⟩
  all_goals simp only[beq_iff_eq,beq_eq_false_iff_ne,ne_eq]at *
  ·simp[xw,Az,q1]
  ·simp[xw,Az,q2]
  ·simp[xw,Az,q3]
  ·simp[xw,Az,q4]
  ·simp[xw,Az,q1,q2,q3,q4]
def jW (e s L:Nat)(x:SV)(b:List av)(c:List SV)(n:Nat):Prop:=(x=.aj∧c=[]∧n=0)∨∃ j,x=.o j n∧0<n∧L≤j∧b[j]? = some (.own c e s n true)
theorem jW.low {e s L L':Nat}{x:SV}{b:List av}{c:List SV}{n:Nat}(h:jW e s L x b c n)(hl:L'≤L):jW e s L' x b c n:=by
 rcases h with h|⟨j,h1,h0,h2,h3⟩
 ·exact .inl h
 ·exact .inr ⟨j,h1,h0,Nat.le_trans hl h2,h3⟩
def ln (bs:List av)(n:Nat):SV:=if n=0 then .aj else .o bs.length n
def qf (e s:Nat)(bs:List av)(c:List SV)(n:Nat):List av:=if n=0 then bs else bs++[.own c e s n true]
open Go Vc Go.RowKit
theorem vv {V:Cx}{f:FuncId}{args:List SV}{bs:List av}{c:List SV}{e s n:Nat}(qM:Vc.Enters V f)(hn:0<n)(iU:c.length=n * s)(hc:flat.ai c=true)
 (h:∀ β fp w,Hf β fp w bs→V.E w→Calls V.P f (a8 β args).toArray w fun ex w'=>∃ v',ex=.returned v'∧w'.ownsRow w.heap.size e s v' n (c.map (ak β))∧Below w.heap.size w w') :
 SC V f args bs (fun r b=>r=.o bs.length n∧b=bs++[.own c e s n true]):=by
 refine⟨qM,fun β fp w nD hG hE=>?_⟩
 refine(h β fp w (nD β (cN.refl _ _)) hE).mono ?_
 rintro ex w' ⟨v',rfl,⟨hl,rI⟩,hb⟩
 rcases rI with⟨-,h0⟩|⟨g,cap,cur,rfl,hg,hheap,hnc,hcm,hcs,htake⟩
 ·omega
 have hgl:g<w'.heap.size:=(Array.getElem?_eq_some_iff.1 hheap).1
 refine⟨.o bs.length n,bs++[.own c e s n true],fun i=>if i<bs.length then β i else⟨g,0,cap+1⟩,
  fun i k=>if i<bs.length then fp i k else(i=bs.length∧k=g),⟨rfl,rfl⟩,fun i hi=>by simp[hi],by simp,fun β' hβ=>?_,tz.jY hb,?_⟩
 ·have hAgr:cN bs.length β β':=fun i hi=>by
   have:=hβ i (by rw[zRd];omega)
   simpa[hi] using this
  have oK:β' bs.length=⟨g,0,cap+1⟩:=by
   have:=hβ bs.length (by simp)
   simpa using this.symm
  have Lj:=nD β' hAgr
  refine⟨?_,?_,?_,?_⟩
  ·simp[ak,oK,oV]
  ·intro i r hi
   rcases zRq i bs.length with aA|qL
   ·rw[zRe aA]at hi
    have:=(Lj.holds i r hi).stays (w':=w') (fun k hk=>hb.block k (Lj.lt i r hi k hk))
    simpa[aA] using this
   ·rw[zRg qL]at hi
    obtain rfl:i=bs.length:=by
     rcases Nat.eq_or_lt_of_le qL with e|e
     ·exact e.symm
     ·rw[List.getElem?_eq_none (by simp;omega)]at hi;cases hi
    simp only[Nat.sub_self,List.getElem?_cons_zero,zRr.injEq]at hi
    subst hi
    right
    have Oc:c.map (ak β)=c.map (ak β'):=by rw[← cp,← cp];exact eG c hc β β'
    have hcur:cur=(c.map (ak β')++cur.toList.drop (n * s)).toArray:=by
     rw[← Oc,← htake,List.take_append_drop]
    have hhd:Head w' g e (c.map (ak β')) (cur.toList.drop (n * s)) (0,0):=⟨by rw[← hcur];exact hheap,.inr (zRD _)⟩
    have hle:n * s≤cap * s:=Nat.mul_le_mul_right _ hnc
    rw[oK]
    exact⟨by simp,by simpa using hnc,by simpa using hcm,iU,hhd.vM,fun _=>⟨rfl,_,(0,0),hhd,.inr (zRD _),by rw[zRb,iU];simp[hcs];omega⟩,fun k=>by simp⟩
  ·intro i r hi k hk
   rcases zRq i bs.length with aA|qL
   ·rw[zRe aA]at hi
    simp only[aA,if_true]at hk
    exact Nat.lt_of_lt_of_le (Lj.lt i r hi k hk) hb.size
   ·simp only[show ¬ i<bs.length by omega,if_false]at hk
    rw[hk.2]
    exact hgl
  ·intro i j r r' hi hj Gj hm k hk hk'
   rcases zRq i bs.length with aA|qL
   ·rw[zRe aA]at hi
    simp only[aA,if_true]at hk
    rcases zRq j bs.length with u9|hjg
    ·rw[zRe u9]at hj
     simp only[u9,if_true]at hk'
     exact Lj.sep i j r r' hi hj Gj hm k hk hk'
    ·simp only[show ¬ j<bs.length by omega,if_false]at hk'
     have:=Lj.lt i r hi k hk
     omega
   ·simp only[show ¬ i<bs.length by omega,if_false]at hk
    rcases zRq j bs.length with u9|hjg
    ·rw[zRe u9]at hj
     simp only[u9,if_true]at hk'
     have:=Lj.lt j r' hj k hk'
     omega
    ·simp only[show ¬ j<bs.length by omega,if_false]at hk'
     have h1:=(zQ9.1 hi).1
     have h2:=(zQ9.1 hj).1
     simp only[zRd,zRa,zRc]at h1 h2
     omega
 ·refine⟨fun i r' hi hm k hk=>?_,fun i r' hi k hk=>?_⟩
  ·rcases zRq i bs.length with aA|qL
   ·rw[zRe aA]at hi
    simp only[aA,if_true]at hk
    exact .inr ⟨i,r',hi,hm,hk⟩
   ·simp only[show ¬ i<bs.length by omega,if_false]at hk
    exact .inl (by omega)
  ·rcases zRq i bs.length with aA|qL
   ·rw[zRe aA]at hi
    simp only[aA,if_true]at hk
    exact .inr ⟨i,r',hi,hk⟩
   ·simp only[show ¬ i<bs.length by omega,if_false]at hk
    exact .inl (by omega)
theorem yC {V:Cx}{f:FuncId}{args args':List SV}{bs:List av}{e s:Nat}{m:Bool}{R:SV→List av→Prop}(h:SC V f args' (bs++[.own [] e s 0 m]) R)(ha:∀ β,a8 (re β bs.length ⟨0,0,0⟩) args'=a8 β args):SC V f args bs R:=by
 refine⟨h.1,fun β fp w nD hG hE=>?_⟩
 have old:∀ {j r},(bs++[av.own [] e s 0 m])[j]? = some r→(j<bs.length∧bs[j]? = some r)∨(j=bs.length∧r=.own [] e s 0 m):=fun {j r} hj=>by
  rcases zRq j bs.length with aA|qL
  ·rw[zRe aA]at hj
   exact .inl ⟨aA,hj⟩
  ·have gw:=(zQ9.1 hj).1
   simp only[zRd,zRa,zRc]at gw
   obtain rfl:j=bs.length:=by omega
   rw[zRg (zRD _)]at hj
   simp only[Nat.sub_self,List.getElem?_cons_zero,zRr.injEq]at hj
   exact .inr ⟨rfl,hj.symm⟩
 let fp':Nat→Nat→Prop:=fun i k=>if i=bs.length then False else fp i k
 have Jt:∀ k,¬ fp' bs.length k:=fun k hk=>by simp[fp']at hk
 have same:∀ {j},j<bs.length→fp' j=fp j:=fun {j} hj=>by funext k;simp[fp',Nat.ne_of_lt hj]
 have back:∀ {j r k},(bs++[av.own [] e s 0 m])[j]? = some r→fp' j k→bs[j]? = some r∧fp j k:=fun {j r k} hj hk=>by
  rcases old hj with⟨h1,h2⟩|⟨rfl,-⟩
  ·exact⟨h2,by rw[← same h1];exact hk⟩
  ·exact absurd hk (Jt k)
 rw[← ha β]
 refine(h.2 (re β bs.length ⟨0,0,0⟩) fp' w (fun β' hβ=>?_) (fun i r hi hm k hk=>?_) hE).mono ?_
 ·have hβ:cN (bs.length+1) (re β bs.length ⟨0,0,0⟩) β':=by simpa using hβ
  have hb:=nD β' (cN.fP hβ)
  refine⟨fun j r hj=>?_,fun j r hj k hk=>?_,fun i j r r' hi hj bK jJ k hk bJ=>?_⟩
  ·rcases old hj with⟨h1,h2⟩|⟨rfl,rfl⟩
   ·rw[same h1];exact hb.holds j r h2
   ·have:β' bs.length=⟨0,0,0⟩:=by rw[← hβ bs.length (by omega),jB]
    rw[this]
    exact .inl ⟨rfl,rfl,rfl,Jt⟩
  ·obtain⟨h1,h2⟩:=back hj hk
   exact hb.lt j r h1 k h2
  ·obtain⟨h1,h2⟩:=back hi hk
   obtain⟨h3,h4⟩:=back hj bJ
   exact hb.sep i j r r' h1 h3 bK jJ k h2 h4
 ·obtain⟨h1,h2⟩:=back hi hk
  exact hG i r h1 hm k h2
 ·rintro ex w' ⟨r,bs',β₂,fp₂,hR,AH,hlen,bp,kK,j0,jx⟩
  rw[zRd]at AH hlen
  refine⟨r,bs',β₂,fp₂,hR,cN.fP AH,by simp at hlen;omega,bp,kK.mono (fun k ⟨i,r,hi,hm,hk⟩=>?_),fun i r' hi hm k hk=>?_,fun i r' hi k hk=>?_⟩
  ·obtain⟨h1,h2⟩:=back hi hk
   exact⟨i,r,h1,hm,h2⟩
  ·rcases j0 i r' hi hm k hk with h1|⟨j,r,hj,hm',hk'⟩
   ·exact .inl h1
   ·obtain⟨h1,h2⟩:=back hj hk'
    exact .inr ⟨j,r,h1,hm',h2⟩
  ·rcases jx i r' hi k hk with h1|⟨j,r,hj,hk'⟩
   ·exact .inl h1
   ·obtain⟨h1,h2⟩:=back hj hk'
    exact .inr ⟨j,r,h1,h2⟩
theorem Kp.BF {bs b:List av}{X:av}(h:Kp (bs++[X]) b):Kp bs b:=((Kp.refl bs).app [X]).trans h
def Sx (e s:Nat)(x:SV)(b:List av)(c:List SV)(n:Nat):Prop:=(x=.aj∧c=[]∧n=0)∨∃ j m,x=.o j n∧0<n∧b[j]? = some (.own c e s n m)
theorem Sx.app {e s:Nat}{x:SV}{b:List av}{c:List SV}{n:Nat}(h:Sx e s x b c n)(X:List av):Sx e s x (b++X) c n:=by
 rcases h with h|⟨j,m,h,h0,k⟩
 ·exact .inl h
 ·exact .inr ⟨j,m,h,h0,ad k X⟩
theorem Sx.kp {e s:Nat}{x:SV}{bs b:List av}{c:List SV}{n:Nat}(h:Sx e s x bs c n)(k:Kp bs b):Sx e s x b c n:=by
 rcases h with h|⟨j,m,h,h0,hj⟩
 ·exact .inl h
 ·exact .inr ⟨j,m,h,h0,k.at hj⟩
theorem Sx.within {e s:Nat}{x:SV}{b:List av}{c:List SV}{n:Nat}(h:Sx e s x b c n):Vc.within b.length x=true:=by
 rcases h with⟨rfl,-⟩|⟨j,m,rfl,-,hj⟩
 ·rfl
 ·have:=(zQ9.1 hj).1
  simp[Vc.within,this]
theorem jW.kp {e s L:Nat}{x:SV}{bs b:List av}{c:List SV}{n:Nat}(h:jW e s L x bs c n)(k:Kp bs b):jW e s L x b c n:=by
 rcases h with h|⟨j,h1,h0,h2,h3⟩
 ·exact .inl h
 ·exact .inr ⟨j,h1,h0,h2,k.at h3⟩
theorem jW.sx {e s L:Nat}{x:SV}{b:List av}{c:List SV}{n:Nat}(h:jW e s L x b c n):Sx e s x b c n:=by
 rcases h with h|⟨j,h1,h0,-,h3⟩
 ·exact .inl h
 ·exact .inr ⟨j,true,h1,h0,h3⟩
theorem lQ {β:Nat→Bt}{c:List SV}(h:c.all Vc.one=true):∀ u∈c.map (ak β),u.oneCell'=true:=by
 intro u hu
 obtain⟨x,hx,rfl⟩:=List.mem_map.1 hu
 have:=List.all_eq_true.1 h x hx
 have hov:∀ (b:Bt) (n:Nat),(oV b n).oneCell'=true:=fun b n=>by unfold oV;by_cases h:b.cap=0 <;> simp[h,Value.oneCell']
 have hfv:∀ (b:Bt) (n:Nat),(fV b n).oneCell'=true:=fun b n=>by unfold fV;by_cases h:b.cap=0 <;> simp[h,Value.oneCell']
 cases x <;> simp[Vc.one]at this <;> first|exact hov _ _|exact hfv _ _|simp[ak,Value.oneCell']
def I1:Go.Shelf.Ren:=⟨fun|41=>105|n=>n,fun|4=>4|22=>56|23=>35|n=>n,fun n=>n⟩
theorem Ao:SlLaysE0.n41 Tryz.prog I1:={
 mixed:=by kernel_rfl
 f41 := ⟨Tryz.f105.name, by kernel_rfl, Tryz.func105.trans (congrArg some (by kernel_rfl))⟩
 t4:=Tryz.underlying4
 a4:=Tryz.isAgg4
 z4:=Tryz.sizeOf4
 v4:=Tryz.zeroValue4
 t22:=Tryz.underlying56
 a22:=Tryz.isAgg56
 z22:=Tryz.sizeOf56
 v22:=Tryz.zeroValue56 }
theorem Kt {bs:List av}{x:SV}{c:List SV}{n:Nat}(hx:Sx 35 7 x bs c n)(hc:flat.ai c=true)(h1:c.all Vc.one=true)(hl:c.length=n * 7)(hn:n≤1000000) :
 SC Tryz.V 105 [x] bs (fun r b=>r=ln bs n∧b=qf 35 7 bs c n):=by
 rcases hx with⟨rfl,rfl,rfl⟩|⟨j,m,rfl,h0,hj⟩
 ·refine nL Tryz.call105 (by simp[flat,ln]) (fun β fp w hb=>?_)
  exact(AnyE.slices_Clone_nil Ao 0 0 w).mono fun e w' h=>⟨by rw[h.1];simp[ln,ak],cD h.2.symm⟩
 ·have mO:n≠0:=by omega
  unfold ln qf
  rw[if_neg mO,if_neg mO]
  refine vv Tryz.call105 h0 hl hc (fun β fp w hb _=>?_)
  have hh:=hb.holds j _ hj
  rcases hh with⟨-,h,-,-⟩|⟨g1,g2,g3,g4,g5,-,-⟩
  ·omega
  obtain⟨i0,z,hi,hz,his,Gk,Hl⟩:=Tryz.ty35.info
  have Oc:=AnyE.slices_Clone Ao i0 z 7 80 hi hz his Gk (by rw[Hl];rfl) (by omega) Tryz.sizeOf35 (β j).fh (β j).off n ((β j).cap - 1) (c.map (ak β)) w (by simpa using hl) (by unfold maxLen;omega) (by omega) g5 (lQ h1)
  have e2:(a8 β [.o j n]).toArray=#[.slice (some ⟨(β j).fh,(β j).off,none⟩) n ((β j).cap - 1)]:=by simp[a8,ak,oV,g1]
  rw[e2]
  exact Oc.mono fun e w' ⟨v',h1,h2,_,h4⟩=>⟨v',h1,h2,h4⟩
def I3:Go.Shelf.Ren:=⟨fun|41=>106|n=>n,fun|4=>4|22=>49|23=>62|n=>n,fun n=>n⟩
theorem Aq:SlLaysE0.n41 Tryz.prog I3:={
 mixed:=by kernel_rfl
 f41 := ⟨Tryz.f106.name, by kernel_rfl, Tryz.func106.trans (congrArg some (by kernel_rfl))⟩
 t4:=Tryz.underlying4
 a4:=Tryz.isAgg4
 z4:=Tryz.sizeOf4
 v4:=Tryz.zeroValue4
 t22:=Tryz.underlying49
 a22:=Tryz.isAgg49
 z22:=Tryz.sizeOf49
 v22:=Tryz.zeroValue49 }
theorem Kv {bs:List av}{x:SV}{c:List SV}{n:Nat}(hx:Sx 62 9 x bs c n)(hc:flat.ai c=true)(h1:c.all Vc.one=true)(hl:c.length=n * 9)(hn:n≤1000000) :
 SC Tryz.V 106 [x] bs (fun r b=>r=ln bs n∧b=qf 62 9 bs c n):=by
 rcases hx with⟨rfl,rfl,rfl⟩|⟨j,m,rfl,h0,hj⟩
 ·refine nL Tryz.call106 (by simp[flat,ln]) (fun β fp w hb=>?_)
  exact(AnyE.slices_Clone_nil Aq 0 0 w).mono fun e w' h=>⟨by rw[h.1];simp[ln,ak],cD h.2.symm⟩
 ·have mO:n≠0:=by omega
  unfold ln qf
  rw[if_neg mO,if_neg mO]
  refine vv Tryz.call106 h0 hl hc (fun β fp w hb _=>?_)
  have hh:=hb.holds j _ hj
  rcases hh with⟨-,h,-,-⟩|⟨g1,g2,g3,g4,g5,-,-⟩
  ·omega
  obtain⟨i0,z,hi,hz,his,Gk,Hl⟩:=Tryz.ty62.info
  have Oc:=AnyE.slices_Clone Aq i0 z 9 96 hi hz his Gk (by rw[Hl];rfl) (by omega) Tryz.sizeOf62 (β j).fh (β j).off n ((β j).cap - 1) (c.map (ak β)) w (by simpa using hl) (by unfold maxLen;omega) (by omega) g5 (lQ h1)
  have e2:(a8 β [.o j n]).toArray=#[.slice (some ⟨(β j).fh,(β j).off,none⟩) n ((β j).cap - 1)]:=by simp[a8,ak,oV,g1]
  rw[e2]
  exact Oc.mono fun e w' ⟨v',h1,h2,_,h4⟩=>⟨v',h1,h2,h4⟩
def I2:Go.Shelf.Ren:=⟨fun|41=>107|n=>n,fun|4=>4|22=>46|23=>100|n=>n,fun n=>n⟩
theorem Ap:SlLaysE0.n41 Tryz.prog I2:={
 mixed:=by kernel_rfl
 f41 := ⟨Tryz.f107.name, by kernel_rfl, Tryz.func107.trans (congrArg some (by kernel_rfl))⟩
 t4:=Tryz.underlying4
 a4:=Tryz.isAgg4
 z4:=Tryz.sizeOf4
 v4:=Tryz.zeroValue4
 t22:=Tryz.underlying46
 a22:=Tryz.isAgg46
 z22:=Tryz.sizeOf46
 v22:=Tryz.zeroValue46 }
theorem Ku {bs:List av}{x:SV}{c:List SV}{n:Nat}(hx:Sx 100 2 x bs c n)(hc:flat.ai c=true)(h1:c.all Vc.one=true)(hl:c.length=n * 2)(hn:n≤1000000) :
 SC Tryz.V 107 [x] bs (fun r b=>r=ln bs n∧b=qf 100 2 bs c n):=by
 rcases hx with⟨rfl,rfl,rfl⟩|⟨j,m,rfl,h0,hj⟩
 ·refine nL Tryz.call107 (by simp[flat,ln]) (fun β fp w hb=>?_)
  exact(AnyE.slices_Clone_nil Ap 0 0 w).mono fun e w' h=>⟨by rw[h.1];simp[ln,ak],cD h.2.symm⟩
 ·have mO:n≠0:=by omega
  unfold ln qf
  rw[if_neg mO,if_neg mO]
  refine vv Tryz.call107 h0 hl hc (fun β fp w hb _=>?_)
  have hh:=hb.holds j _ hj
  rcases hh with⟨-,h,-,-⟩|⟨g1,g2,g3,g4,g5,-,-⟩
  ·omega
  obtain⟨i0,z,hi,hz,his,Gk,Hl⟩:=Tryz.ty100.info
  have Oc:=AnyE.slices_Clone Ap i0 z 2 32 hi hz his Gk (by rw[Hl];rfl) (by omega) Tryz.sizeOf100 (β j).fh (β j).off n ((β j).cap - 1) (c.map (ak β)) w (by simpa using hl) (by unfold maxLen;omega) (by omega) g5 (lQ h1)
  have e2:(a8 β [.o j n]).toArray=#[.slice (some ⟨(β j).fh,(β j).off,none⟩) n ((β j).cap - 1)]:=by simp[a8,ak,oV,g1]
  rw[e2]
  exact Oc.mono fun e w' ⟨v',h1,h2,_,h4⟩=>⟨v',h1,h2,h4⟩
open Go Vc Go.RowKit Wf
def rp (c:Int):List SV:=[.int .u8 c]
theorem MR (a:Int)(L:List Int):((a::L).flatMap rp).drop 1=L.flatMap rp:=by rw[List.flatMap_cons];rfl
def fI (i:Nat)(bs b:List av):Prop:=bs.length≤b.length∧∀ k,k<bs.length→k≠i→b[k]? = bs[k]?
theorem fI.refl (i:Nat)(bs:List av):fI i bs bs:=⟨zRD _,fun _ _ _=>rfl⟩
theorem fI.trans {i:Nat}{a b c:List av}(h:fI i a b)(k:fI i b c):fI i a c:=⟨Nat.le_trans h.1 k.1,fun q hq hn=>(k.2 q (Nat.lt_of_lt_of_le hq h.1) hn).trans (h.2 q hq hn)⟩
theorem fI.app {i:Nat}{a b:List av}(h:fI i a b)(X:List av):fI i a (b++X):=⟨by simp;have:=h.1;omega,fun q hq hn=>by rw[zRe (Nat.lt_of_lt_of_le hq h.1)];exact h.2 q hq hn⟩
theorem fI.of {i:Nat}{a b:List av}(h:Kp a b):fI i a b:=⟨h.1,fun q hq _=>h.2 q hq⟩
theorem fI.at {i:Nat}{a b:List av}(h:fI i a b){k:Nat}{r:av}(hk:a[k]? = some r)(hn:k≠i):b[k]? = some r:=(h.2 k (zQ9.1 hk).1 hn).trans hk
def aW (b:List av)(i:Nat)(L:List Int):Prop:=∃ x,b[i]? = some (.cells [x] 80 true)∧((x=.aj∧L=[])∨∃ j,x=.o j L.length∧j≠i∧b[j]? = some (.own (L.flatMap rp) 5 1 L.length false))∧∀ r∈L,0≤r∧r≤255
def jv (L:List Int)(n:Int):Int:=match L with
 | []=>0
 | a::_=>if n≤1 then 0 else a % n
def zg (L:List Int)(n:Int):List Int:=match L with
 | []=>[]
 | a::L=>if n≤1 then a::L else L
theorem qD (L:List Int){n:Int}(h:0<n):0≤jv L n∧jv L n<n:=by
 unfold jv
 split
 ·omega
 ·split
  ·omega
  ·exact⟨Int.emod_nonneg _ (by omega),Int.emod_lt_of_pos _ h⟩
theorem tl {bs:List av}{i:Nat}{L:List Int}(h:aW bs i L)(n:Int)(hn:n≤1000000):∃ nB,nB.length≤bs.length+1∧aW nB i (zg L n)∧fI i bs nB∧SC Tryz.V 30 [.p i 0,.int .i64 n] bs (fun r b=>r=.int .i64 (jv L n)∧b=nB):=by
 obtain⟨x,hi,hx,hr⟩:=h
 have dF:i<bs.length:=(zQ9.1 hi).1
 have sc:=fun nB=>bo (V:=Tryz.V) (f:=30) (bs:=bs) 3000 Tryz.func30 rfl Tryz.ntmps30 Tryz.results30 Tryz.call30 (args:=[.p i 0,.int .i64 n]) (R:=fun r b=>r=.int .i64 (jv L n)∧b=nB) (by simp) (ah bs.length _ (by simp[within,within.ax,dF]))
 rcases hx with⟨rfl,rfl⟩|⟨j,rfl,nR,hj⟩
 ·refine⟨bs,by omega,⟨.aj,hi,.inl ⟨rfl,rfl⟩,hr⟩,fI.refl _ _,sc _ ?_⟩
  refine gB hi ?_
  rfl
 ·cases L with
  | nil =>
    simp only[zRc]at hi hj
    refine⟨bs,by omega,⟨_,hi,.inr ⟨j,rfl,nR,hj⟩,hr⟩,fI.refl _ _,sc _ ?_⟩
    have h0:(((0:Nat):Int)==0)=true:=rfl
    refine gB (zQ8 hi (zQ8 hj h0)) ?_
    rfl
  | cons a L =>
    have h0:((((a::L).length:Nat):Int)==0)=false:=by rw[beq_eq_false_iff_ne,zRa];omega
    simp only[zRa]at h0
    have ha:=hr a List.mem_cons_self
    have gw:j<bs.length:=(zQ9.1 hj).1
    by_cases h1:n≤1
    ·refine⟨bs,by omega,?_,fI.refl _ _,sc _ ?_⟩
     ·simp only[zg,if_pos h1]
      exact⟨_,hi,.inr ⟨j,rfl,nR,hj⟩,hr⟩
     ·have hd:decide (n≤1)=true:=decide_eq_true h1
      have hv:jv (a::L) n=0:=by simp only[jv,if_pos h1]
      rw[hv]
      exact gB (zQ8 hi (zQ8 hj (zQ8 hd h0))) True.intro
    ·have hd:decide (n≤1)=false:=decide_eq_false h1
     have hv:jv (a::L) n=a % n:=by simp only[jv,if_neg h1]
     have hL:zg (a::L) n=L:=by simp only[zg,if_neg h1]
     have jT:((a::L).flatMap rp)[Int.toNat 0 * 1]? = some (.int .u8 a):=rfl
     have eg:bs.set j (.own ((a::L).flatMap rp) 5 1 (L.length+1) false)=bs:=by
      apply List.ext_getElem?
      intro k
      by_cases hk:k=j
      ·subst hk;rw[zRn gw];exact hj.symm
      ·rw[zRh (fun e=>hk e.symm)]
     have eX:∀ X,(bs++[X])[i]? = some (.cells [.o j (L.length+1)] 80 true):=fun X=>ad hi [X]
     have hrem:kP .rem .i64 a n=a % n:=Int.tmod_eq_emod_of_nonneg ha.1
     have hw:IntKind.i64.wrap a=a:=by simp[IntKind.wrap,IntKind.bits,IntKind.signed];omega
     have hlen:=ie rp 1 (fun _=>rfl) (a::L)
     have KY:(((a::L).flatMap rp).take ((L.length+1) * 1)).drop (Int.toNat 1 * 1)=L.flatMap rp:=by
      rw[List.take_of_length_le (by rw[hlen];simp)]
      exact MR a L
     rw[hL]
     refine⟨(bs++[av.own (L.flatMap rp) 5 1 L.length false]).set i (.cells [.o bs.length L.length] 80 true),by simp,⟨_,zRn (by simp;omega),.inr ⟨_,rfl,by omega,by rw[zRh (by omega)];exact aC _ _⟩,fun r h=>hr r (List.mem_cons_of_mem _ h)⟩,⟨by simp,fun k hk hn=>by rw[zRh (fun e=>hn e.symm),zRe hk]⟩,sc _ ?_⟩
     rw[hv]
     refine gB (zQ8 hi (zQ8 hj (zQ8 hd (zQ8 h0 (zQ8 jT (zQ8 eg (zQ8 eX (zQ8 hrem (zQ8 hw KY))))))))) ?_
     exact⟨by omega,by rw[hlen];simp[Int.toNat],by omega,by omega,by simp[Int.toNat]⟩
theorem Cw {bs:List av}{i:Nat}{L:List Int}(h:aW bs i L)(n:Int)(hn:n≤1000000):∃ nB,aW nB i (zg L n)∧fI i bs nB∧SC Tryz.V 30 [.p i 0,.int .i64 n] bs (fun r b=>r=.int .i64 (jv L n)∧b=nB):=by
 obtain⟨nB,_,h⟩:=tl h n hn
 exact⟨nB,h⟩
theorem fI.outs {i:Nat}{bs nB:List av}(h:fI i bs nB)(hl:nB.length≤bs.length+1):G6 [(i,0,0),(bs.length,0,0)] nB bs:=by
 refine DC (fun j hj=>?_) (fun y hy=>by simp at hy;rcases hy with rfl|rfl <;> rfl)
 have h1:j≠i:=fun e=>hj (i,0,0) (by simp) e.symm
 have h2:j≠bs.length:=fun e=>hj (bs.length,0,0) (by simp) e.symm
 by_cases aA:j<bs.length
 ·exact h.2 j aA h1
 ·rw[List.getElem?_eq_none (by omega),List.getElem?_eq_none (by omega)]
theorem aW.app {b:List av}{i:Nat}{L:List Int}(h:aW b i L)(X:List av):aW (b++X) i L:=by
 obtain⟨x,hi,hx,hr⟩:=h
 refine⟨x,ad hi X,?_,hr⟩
 rcases hx with h|⟨j,h1,h2,h3⟩
 ·exact .inl h
 ·exact .inr ⟨j,h1,h2,ad h3 X⟩
theorem Ah {bs:List av}{i:Nat}{L:List Int}(h:aW bs i L){q m:Nat}{T:List Bytes}{mm:Bool}(hm:0<m∧m≤1000)(hT:T.length=m)(hq:bs[q]? = some (.own (T.map .str) 9 1 m mm))(JF:q≠i) :
 ∃ nB,aW nB i (zg L m)∧fI i bs nB∧SC Tryz.V 59 [.p i 0,.o q m] bs (fun r b=>r=.str (T.getD (jv L m).toNat [])∧b=nB):=by
 obtain⟨nB,h1,h2,h3⟩:=Cw h m (by omega)
 have dF:i<bs.length:=by obtain⟨x,hi,-⟩:=h;exact(zQ9.1 hi).1
 have kf:q<bs.length:=(zQ9.1 hq).1
 have hv:=qD L (n:=m) (by omega)
 have nC:=h2.at hq JF
 refine⟨nB,h1,h2,bo 3000 Tryz.func59 rfl Tryz.ntmps59 Tryz.results59 Tryz.call59 (by simp) (ah bs.length _ (by simp[within,within.ax,dF,kf])) ?_⟩
 have hat:(T.map SV.str)[(jv L m).toNat * 1]? = some (.str (T.getD (jv L m).toNat [])):=by
  rw[Nat.mul_one,List.getElem?_map,List.getD_eq_getElem?_getD,zRf (by omega)]
  rfl
 refine gB hq ?_
 refine ae h3 ?_
 rintro r b ⟨rfl,rfl⟩
 refine gB (zQ8 nC hat) ?_
 exact⟨hv,by rw[List.length_map,hT];omega⟩
theorem DD {T:List Bytes}{L:List Int}(h:0<T.length):T.getD (jv L T.length).toNat []∈T:=by
 have hv:=qD L (n:=T.length) (by omega)
 rw[List.getD_eq_getElem?_getD,zRf (by omega)]
 exact zRt _
def zM:List Bytes:=[([97,46,101,120,97,109,112,108,101]:List UInt8),([98,46,101,120,97,109,112,108,101]:List UInt8),([99,46,101,120,97,109,112,108,101,58,56,52,52,51]:List UInt8),([100,46,101,120,97,109,112,108,101]:List UInt8)]
theorem LJ {bs:List av}{i:Nat}{L:List Int}(h:aW bs i L):∃ nB,aW nB i (zg L 4)∧fI i bs nB∧SC Tryz.V 58 [.p i 0] bs (fun r b=>r=.str (zM.getD (jv L 4).toNat [])∧b=nB):=by
 have dF:i<bs.length:=by obtain⟨x,hi,-⟩:=h;exact(zQ9.1 hi).1
 obtain⟨nB,h1,h2,h3⟩:=Ah (h.app [.own (zM.map .str) 9 1 4 true]) (q:=bs.length) (m:=4) (T:=zM) (by omega) rfl (aC _ _) (by omega)
 refine⟨nB,h1,(fI.of ((Kp.refl bs).app _)).trans h2,bo 3000 Tryz.func58 rfl Tryz.ntmps58 Tryz.results58 Tryz.call58 (by simp) (ah bs.length _ (by simp[within,within.ax,dF])) ?_⟩
 refine mc ?_
 refine⟨by omega,ae h3 ?_⟩
 rintro r b ⟨rfl,rfl⟩
 refine mc ?_
 rfl
theorem iB {bs:List av}{i:Nat}{L:List Int}(h:aW bs i L)(T:List Bytes){n m:Nat}(hn:T.length=n)(hm:0<n∧n≤1000)(hT:∀ s∈T,s.length≤m){X:av}(hX:X=.own (T.map .str) 9 1 n true) :
 SC Tryz.V 59 [.p i 0,.o bs.length n] (bs++[X]) (fun r b=>∃ s L',r=.str s∧s.length≤m∧aW b i L'∧fI i bs b):=by
 subst hX
 have dF:i<bs.length:=by obtain⟨x,hi,-⟩:=h;exact(zQ9.1 hi).1
 obtain⟨nB,h1,h2,h3⟩:=Ah (h.app [.own (T.map .str) 9 1 n true]) (q:=bs.length) (m:=n) (T:=T) hm hn (aC _ _) (by omega)
 refine h3.mono ?_
 rintro r b ⟨rfl,rfl⟩
 have oL:=DD (T:=T) (L:=L) (by omega)
 rw[hn]at oL
 exact⟨_,_,rfl,hT _ oL,h1,(fI.of ((Kp.refl bs).app _)).trans h2⟩
theorem eA {bs:List av}{i:Nat}{L:List Int}(h:aW bs i L)(n:Int)(hn:0<n∧n≤1000000):SC Tryz.V 30 [.p i 0,.int .i64 n] bs (fun r b=>∃ v L',r=.int .i64 v∧(0≤v∧v<n)∧aW b i L'∧fI i bs b):=by
 obtain⟨nB,h1,h2,h3⟩:=Cw h n hn.2
 refine h3.mono ?_
 rintro r b ⟨rfl,rfl⟩
 exact⟨_,_,rfl,qD L hn.1,h1,h2⟩
theorem sc_host {bs:List av}{i:Nat}{L:List Int}(h:aW bs i L):SC Tryz.V 58 [.p i 0] bs (fun r b=>∃ s L',r=.str s∧s.length≤20∧aW b i L'∧fI i bs b):=by
 obtain⟨nB,h1,h2,h3⟩:=LJ h
 refine h3.mono ?_
 rintro r b ⟨rfl,rfl⟩
 have oL:=DD (T:=zM) (L:=L) (by decide)
 exact⟨_,_,rfl,(by decide:∀ s∈zM,s.length≤20) _ oL,h1,h2⟩
theorem Cv {bs:List av}{i:Nat}{L:List Int}(h:aW bs i L):SC Tryz.V 28 [.p i 0] bs (fun r b=>∃ s L',r=.str s∧s.length≤100∧aW b i L'∧fI i bs b):=by
 have dF:i<bs.length:=by obtain⟨x,hi,-⟩:=h;exact(zQ9.1 hi).1
 refine bo 3000 Tryz.func28 rfl Tryz.ntmps28 Tryz.results28 Tryz.call28 (by simp) (ah bs.length _ (by simp[within,within.ax,dF])) ?_
 refine mc ?_
 refine ae (sc_host h) ?_
 rintro r b ⟨x,L1,rfl,hx,h,hk⟩
 refine mc ?_
 refine ae (eA h 6 (by omega)) ?_
 rintro r b ⟨v,L2,rfl,hv,h,bJ⟩
 replace hk:=hk.trans bJ
 clear bJ
 have hv6:(v=0∨v=1)∨v=2∨v=3∨4≤v:=by omega
 have fin:∀ {b s L'},s.length≤100→aW b i L'→fI i bs b→∃ s' L',SV.str s=.str s'∧s'.length≤100∧aW b i L'∧fI i bs b:=fun h1 h2 h3=>⟨_,_,rfl,h1,h2,h3⟩
 rcases hv6 with hv01|rfl|rfl|hv4
 ·have e1:(v==0||v==1)=true:=by rcases hv01 with rfl|rfl <;> rfl
  rcases hv01 with rfl|rfl
  all_goals
   refine mc ?_
   refine⟨by omega,ae (iB h [([97,99,99,116,58]:List UInt8),([65,67,67,84,58]:List UInt8)] (n:=2) (m:=10) rfl (by omega) (by decide) rfl) ?_⟩
   rintro r b ⟨s1,L3,rfl,xF,h,bJ⟩
   replace hk:=hk.trans bJ
   clear bJ
   refine mc ?_
   refine⟨by omega,ae (iB h [([98,111,98]:List UInt8),([97,109,121]:List UInt8),([120,37,50,102,121]:List UInt8),([99,43,100]:List UInt8)] (n:=4) (m:=10) rfl (by omega) (by decide) rfl) ?_⟩
   rintro r b ⟨s2,L4,rfl,fA,h,bJ⟩
   replace hk:=hk.trans bJ
   clear bJ
   refine mc ?_
   refine⟨by omega,by first|omega | (simp only[zRd,zRa,zRc];omega),by omega,ae (iB h [([97,46,101,120,97,109,112,108,101]:List UInt8),([66,46,101,120,97,109,112,108,101]:List UInt8),([99,46,101,120,97,109,112,108,101]:List UInt8)] (n:=3) (m:=10) rfl (by omega) (by decide) rfl) ?_⟩
   rintro r b ⟨s3,L5,rfl,Ch,h,bJ⟩
   replace hk:=hk.trans bJ
   clear bJ
   refine mc ?_
   exact⟨by first|omega | (simp only[zRd,zRa,zRc];omega),fin (by first|omega | (simp only[zRd,zRa,zRc];omega)) h hk⟩
 ·refine mc ?_
  refine⟨by omega,ae (iB h [([98,111,98]:List UInt8),([37,54,49,109,121]:List UInt8),([99,43,100]:List UInt8)] (n:=3) (m:=10) rfl (by omega) (by decide) rfl) ?_⟩
  rintro r b ⟨s1,L3,rfl,xF,h,bJ⟩
  replace hk:=hk.trans bJ
  clear bJ
  refine mc ?_
  refine⟨by omega,by first|omega | (simp only[zRd,zRa,zRc];omega),by omega,ae (iB h [([97,46,101,120,97,109,112,108,101]:List UInt8),([98,46,69,120,97,109,112,108,101]:List UInt8)] (n:=2) (m:=10) rfl (by omega) (by decide) rfl) ?_⟩
  rintro r b ⟨s3,L5,rfl,Ch,h,bJ⟩
  replace hk:=hk.trans bJ
  clear bJ
  refine mc ?_
  exact⟨by first|omega | (simp only[zRd,zRa,zRc];omega),fin (by first|omega | (simp only[zRd,zRa,zRc];omega)) h hk⟩
 ·refine mc ?_
  refine⟨by omega,by omega,ae (iB h [([]:List UInt8),([47]:List UInt8),([47,117,47,98,111,98]:List UInt8),([47,46,47,120,63,121,61,49]:List UInt8),([47,126,97,35,109,101]:List UInt8)] (n:=5) (m:=10) rfl (by omega) (by decide) rfl) ?_⟩
  rintro r b ⟨s3,L5,rfl,Ch,h,bJ⟩
  replace hk:=hk.trans bJ
  clear bJ
  refine mc ?_
  exact⟨by first|omega | (simp only[zRd,zRa,zRc];omega),fin (by first|omega | (simp only[zRd,zRa,zRc];omega)) h hk⟩
 ·have e0:(v==0)=false:=beq_eq_false_iff_ne.2 (by omega)
  have e1:(v==1)=false:=beq_eq_false_iff_ne.2 (by omega)
  have e2:(v==2)=false:=beq_eq_false_iff_ne.2 (by omega)
  have e3:(v==3)=false:=beq_eq_false_iff_ne.2 (by omega)
  refine gB (zQ8 e0 (zQ8 e1 (zQ8 e2 e3))) ?_
  refine⟨fun _=>⟨by omega,ae (iB h [([]:List UInt8),([58,117]:List UInt8),([58,117,58,98,111,98]:List UInt8),([58,97,37,55,101,98]:List UInt8)] (n:=4) (m:=10) rfl (by omega) (by decide) rfl) ?_⟩,fun _=>⟨by omega,by omega,ae (iB h [([]:List UInt8),([58,117]:List UInt8),([58,117,58,98,111,98]:List UInt8),([58,97,37,55,101,98]:List UInt8)] (n:=4) (m:=10) rfl (by omega) (by decide) rfl) ?_⟩⟩
  all_goals
   rintro r b ⟨s3,L5,rfl,Ch,h,bJ⟩
   replace hk:=hk.trans bJ
   clear bJ
   refine mc ?_
   exact⟨by first|omega | (simp only[zRd,zRa,zRc];omega),fin (by first|omega | (simp only[zRd,zRa,zRc];omega)) h hk⟩
end Go.Proofs.YtnmlimehgifadaaGreatDoor
