/- R5 -/
import Derived.Shelf.SlicesE.Clone
import Derived.Test.YtnmlimehgifadaaGreatDoorR4
open And renaming intro→zSc
open List renaming getElem?_eq_some_iff→zSd,length_drop→zSe,length_cons→zSf,length_nil→zSg,length_append→zSh,getElem?_append_left→zSi,getElem?_append_right→zSj,getElem?_eq_getElem→zSk,length_take→zSm,take_succ_eq_append_getElem→zSn,drop_succ_cons→zSo,getElem?_set_ne→zSp,getElem?_set_self→zSr,head?_drop→zSs,length_eq_zero_iff→zSw,append_nil→zSz,drop_nil→zSB,take_length→zSD,drop_of_length_le→zSE,getElem_mem→zSF,getElem?_cons_zero→zSG,flatten_cons→zSH,toArray→zSI,map_nil→zSJ,flatten_nil→zSK,isPrefixOf_iff_prefix→zSL,map_cons→zSM,length_pos_iff→zSN
open Nat renaming lt_or_ge→zSu
open Int renaming toNat_natCast→zSy
open Option renaming some→zSA
open Bool renaming eq_iff_iff→zSO
open Go.Proofs.Tryz
set_option linter.all false
set_option maxHeartbeats 16000000
set_option maxRecDepth 20000
namespace Go.Proofs.YtnmlimehgifadaaGreatDoor
open Go Vc Go.RowKit Wf
def cA (u:bN):SV:=.agg [.str u.host,.int .i64 u.port,.str u.path,.str u.query,.str u.fragment,.bool u.aJ,.bool u.a8]
def Fair (u:bN):Prop:=u.host.length+u.path.length+u.query.length+u.fragment.length≤1000000∧-9223372036854775808≤u.port∧u.port≤9223372036854775807
theorem nK (x:Bytes){p:Int}(h0:-9223372036854775808≤p)(h1:p≤9223372036854775807):(bu x p).length≤x.length+22:=by
 have:=cJ 19 p.natAbs QA
 unfold bu;split
 ·omega
 ·split <;> simp <;> omega
theorem j4 (u:bN):(bK u).length≤u.path.length+u.query.length+1:=by
 unfold bK;split
 ·simp;omega
 ·omega
theorem uG (u:bN)(hk:Fair u):PC QH 41 [cA u] (.str (bK u)):=by
 obtain⟨hk,-⟩:=hk
 (refine aU 3000 func41 rfl ntmps41 results41 call41 QB (by simp[flat,flat.ah,cA]) (by simp[flat,flat.ah,cA]) ?_
  unfold cA;refine bw ?_)
 unfold bK;refine⟨fun h=>?_,fun h=>?_⟩
 ·simp[h]
  refine⟨QA,QA⟩
 ·simp[h]
theorem uH (u:bN):PC QH 40 [cA u] (.agg [.str u.host,.int .i64 u.port]):=by
 (refine aU 3000 func40 rfl ntmps40 results40 call40 QB (by simp[flat,flat.ah,cA]) (by simp[flat,flat.ah,cA]) ?_
  unfold cA;exact bw True.intro)
theorem oW (u:bN)(hk:Fair u):PC QH 94 [cA u] (.str (bh u)):=by
 have hl:=hk.1;have hx:=nK u.host hk.2.1 hk.2.2;have ht:=j4 u;have pt:=uG u hk;have po:=uH u;have pf:=By u.host u.port QA hk.2.1 hk.2.2
 (refine aU 3000 func94 rfl ntmps94 results94 call94 QB (by simp[flat,flat.ah,cA]) (by simp[flat,flat.ah,cA]) ?_
  unfold cA;refine bw ?_)
 unfold cA at pt po
 (refine aW (po) ?_;refine bw ?_)
 (refine aW (pf) ?_;refine bw ?_)
 refine⟨QA,?_⟩
 (refine aW (pt) ?_;refine bw ?_)
 unfold bh;refine⟨QA,(ao QE),fun h=>⟨QA,by simp only[zSh];omega,?_⟩,fun h=>?_⟩
 ·rw[if_pos h];simp
 ·rw[if_neg (by simp[h])];simp
theorem mT (u:bN)(hk:Fair u):PC QH 92 [cA u] (.str (bK u)):=by
 obtain⟨hk,-⟩:=hk
 (refine aU 3000 func92 rfl ntmps92 results92 call92 QB (by simp[flat,flat.ah,cA]) (by simp[flat,flat.ah,cA]) ?_
  unfold cA;refine bw ?_)
 unfold bK;refine⟨fun h=>?_,fun h=>?_⟩
 ·simp[h]
  refine⟨QA,QA⟩
 ·simp[h]
theorem Gi (u:bN):PC QH 54 [cA u] (.agg [.str u.host,.int .i64 u.port]):=by
 (refine aU 3000 func54 rfl ntmps54 results54 call54 QB (by simp[flat,flat.ah,cA]) (by simp[flat,flat.ah,cA]) ?_
  unfold cA;exact bw True.intro)
theorem fX (u:bN)(hk:Fair u):PC QH 38 [cA u] (.str (bh u)):=by
 have hl:=hk.1;have hx:=nK u.host hk.2.1 hk.2.2;have ht:=j4 u;have pt:=mT u hk;have po:=Gi u;have pf:=Gl u.host u.port QA hk.2.1 hk.2.2
 (refine aU 3000 func38 rfl ntmps38 results38 call38 QB (by simp[flat,flat.ah,cA]) (by simp[flat,flat.ah,cA]) ?_
  unfold cA;refine bw ?_)
 unfold cA at pt po
 (refine aW (po) ?_;refine bw ?_)
 (refine aW (pf) ?_;refine bw ?_)
 refine⟨QA,?_⟩
 (refine aW (pt) ?_;refine bw ?_)
 unfold bh;refine⟨QA,(ao QE),fun h=>⟨QA,by simp only[zSh];omega,?_⟩,fun h=>?_⟩
 ·rw[if_pos h];simp
 ·rw[if_neg (by simp[h])];simp
theorem DR (l:Bytes)(c:UInt8):pre (·==c) l<l.length↔c∈l:=by
 induction l with
 | nil=>simp[pre]
 | cons x l ih =>
   rw[bY];by_cases h:x=c
   ·simp[h]
   ·rw[if_neg (by simpa using h)]
    simp only[zSf,Nat.add_lt_add_iff_right,ih,List.mem_cons];exact⟨.inr,fun k=>k.resolve_left fun e=>h e.symm⟩
theorem EN (l:Bytes)(c:UInt8):decide (0≤Lib.indexByte l c)=decide (c∈l):=by
 rw[eR];by_cases h:c∈l
 ·rw[if_pos ((DR l c).2 h)];simp[h]
 ·rw[if_neg (fun k=>h ((DR l c).1 k))];simp[h]
theorem Jj (l:Bytes)(c:UInt8):PC QH 156 [.str l,.str [c]] (.bool (decide (c∈l))) :=
 ⟨call156,by simp[flat,flat.ah],by simp[flat,flat.ah],fun w hE=>(Tryz.strings_Contains_one ⟨zSI l⟩ c w).mono fun _ _ ⟨h,k⟩=>⟨by
  rw[h];have e:decide (0≤Lib.indexByte l c)=decide (c∈l):=EN l c;rw[← e];rfl,cG k.symm⟩⟩
open Go.RowKit Wf
attribute [local go_sem] fN eY get_list
theorem tc {s:Bytes}(h:0<s.length)(ha:isAlpha s[0]=true):dI (s.take 1)=true:=by
 cases s with
 | nil=>simp at h
 | cons c r=>simp at ha;simp[dI,ha]
theorem su {s:Bytes}(h:0<s.length)(ha:isAlpha s[0]=false):dI s=false:=by
 cases s with
 | nil=>simp at h
 | cons c r=>simp at ha;simp[dI,ha]
theorem mO {s:Bytes}{k:Nat}(h0:0<k)(h:k<s.length)(ht:dI (s.take k)=true)(hc:gJ s[k]=true):dI (s.take (k+1))=true:=by
 cases s with
 | nil=>simp at h
 | cons c r =>
   obtain⟨j,rfl⟩:∃ j,k=j+1:=⟨k - 1,QA⟩;rw[List.take_succ_cons]at ht ⊢;unfold dI at ht ⊢;simp only[Bool.and_eq_true]at ht ⊢;exact⟨ht.1,bq (by simpa using h) ht.2 (by simpa using hc)⟩
theorem Cn {s:Bytes}{k:Nat}(h0:0<k)(h:k<s.length)(hc:gJ s[k]=false):dI s=false:=by
 cases s with
 | nil=>simp at h
 | cons c r =>
   obtain⟨j,rfl⟩:∃ j,k=j+1:=⟨k - 1,QA⟩;have:=cX (p:=gJ) (s:=r) (k:=j) (by simpa using h) (by simpa using hc)
   show (isAlpha c&&r.all gJ)=false
   rw[this];simp
theorem Og (c:UInt8):([43,45,46].contains c=true→0≤Lib.indexByte [43,45,46] c)∧([43,45,46].contains c=false→Lib.indexByte [43,45,46] c=-1):=by
 have h:=du (p:=fun c=>decide (([43,45,46].contains c=true→0≤Lib.indexByte [43,45,46] c)∧([43,45,46].contains c=false→Lib.indexByte [43,45,46] c=-1))) (by decide +kernel) c;exact of_decide_eq_true h
theorem IB (s:Bytes)(w:World)(hs:s.length≤9223372036854775807) :
 Calls Tryz.prog 207 #[(Value.string ⟨zSI (s)⟩)] w fun e w'=>e=.returned (.bool (dI s))∧w=w':=by
 go_enter func207,ntmps207
 go_wp2_with fail
 go_loop [6] (fun i=>∃ k:Nat,k≤s.length∧i=.int .i64 k∧(k=0∨dI (s.take k)=true)) (fun i=>s.length - (intOf i).toNat)
 case atStart=>exact⟨0,QA,rfl,.inl rfl⟩
 case round =>
  obtain⟨k,hk,rfl,hr⟩:=hrel;have Hr:=hid hr;clear hr;by_cases az:k<s.length
  ·cases ha:isAlpha s[k]
   ·by_cases h0:k=0
    ·subst h0
     have Hq:=hid (su az ha);go_wp2_with (first
      | (go_at_call 251;refine(dM _ _).mono ?_;rintro e w' ⟨rfl,rfl⟩)
      | (go_at_call 252;refine(ct _ _).mono ?_;rintro e w' ⟨rfl,rfl⟩)
      | (go_at_call 209;refine(eM [43,45,46] _ _).mono ?_;rintro e w' ⟨rfl,rfl⟩))
     go_ret
     exact⟨bB Hq.out.symm,rfl⟩
    ·have kD:((k:Int)==0)=false:=by simp[h0]
     have Hr2:=hid (Hr.out.resolve_left h0);obtain⟨p1,p2⟩:=Og s[k];cases hd:isDigit s[k]
     ·cases hp:[43,45,46].contains s[k]
      ·have p3:=p2 hp
       have Hq:=hid (Cn QA az (by unfold gJ;rw[ha,hd,hp];rfl));clear p1 p2 hp;go_wp2_with (first
        | (go_at_call 251;refine(dM _ _).mono ?_;rintro e w' ⟨rfl,rfl⟩)
        | (go_at_call 252;refine(ct _ _).mono ?_;rintro e w' ⟨rfl,rfl⟩)
        | (go_at_call 209;refine(eM [43,45,46] _ _).mono ?_;rintro e w' ⟨rfl,rfl⟩))
       go_ret
       exact⟨bB Hq.out.symm,rfl⟩
      ·have p3:=p1 hp
       have Hn:=hid (mO QA az Hr2.out (by unfold gJ;rw[hp];simp));clear p1 p2 hp;go_wp2_with (first
        | (go_at_call 251;refine(dM _ _).mono ?_;rintro e w' ⟨rfl,rfl⟩)
        | (go_at_call 252;refine(ct _ _).mono ?_;rintro e w' ⟨rfl,rfl⟩)
        | (go_at_call 209;refine(eM [43,45,46] _ _).mono ?_;rintro e w' ⟨rfl,rfl⟩))
       go_round
       case rel=>exact⟨k+1,QA,by go_num,.inr Hn.out⟩
       case measure=>simp[intOf];omega
     ·have Hn:=hid (mO QA az Hr2.out (by unfold gJ;rw[hd];simp))
      clear p1 p2;go_wp2_with (first
       | (go_at_call 251;refine(dM _ _).mono ?_;rintro e w' ⟨rfl,rfl⟩)
       | (go_at_call 252;refine(ct _ _).mono ?_;rintro e w' ⟨rfl,rfl⟩)
       | (go_at_call 209;refine(eM [43,45,46] _ _).mono ?_;rintro e w' ⟨rfl,rfl⟩))
      go_round
      case rel=>exact⟨k+1,QA,by go_num,.inr Hn.out⟩
      case measure=>simp[intOf];omega
   ·have Hn:Hid (dI (s.take (k+1))=true):=hid (by
     rcases Hr.out with rfl|hr
     ·exact tc az ha
     ·by_cases h0:k=0
      ·subst h0;exact tc az ha
      ·exact mO QA az hr (by unfold gJ;rw[ha];rfl))
    go_wp2_with (first
     | (go_at_call 251;refine(dM _ _).mono ?_;rintro e w' ⟨rfl,rfl⟩)
     | (go_at_call 252;refine(ct _ _).mono ?_;rintro e w' ⟨rfl,rfl⟩)
     | (go_at_call 209;refine(eM [43,45,46] _ _).mono ?_;rintro e w' ⟨rfl,rfl⟩))
    go_round
    case rel=>exact⟨k+1,QA,by go_num,.inr Hn.out⟩
    case measure=>simp[intOf];omega
  ·cases hem:s.isEmpty
   ·have Hq:Hid (dI s=true):=hid (by
     rcases Hr.out with rfl|hr
     ·cases s <;> simp at hem az
     ·rw[List.take_of_length_le QA]at hr;exact hr)
    go_wp2_with fail
    go_ret
    exact⟨bB Hq.out.symm,rfl⟩
   ·have Hq:Hid (dI s=false):=hid (by cases s <;> simp at hem <;> rfl)
    go_wp2_with fail
    go_ret
    exact⟨bB Hq.out.symm,rfl⟩
open Go Vc Go.RowKit Wf
def mE (u:Uri):SV:=.agg [.str u.scheme,.str u.authority,.str u.path,.str u.query,.str u.fragment,.bool u.bU,.bool u.bc,.bool u.aJ,.bool u.a8]
theorem jl (s:Bytes):ep s=s.take (cL s - 1):=by
 unfold ep cL;have h:=List.suffix_iff_eq_drop.1 (List.dropWhile_suffix (l:=s.reverse) (· != 47));have hle:=(List.dropWhile_suffix (l:=s.reverse) (· != 47)).length_le;generalize (s.reverse.dropWhile (· != 47))=d at h hle;rw[List.length_reverse]at hle;rw[h,List.drop_drop,List.reverse_drop,List.reverse_reverse,List.length_reverse];congr 1
 simp
 omega
theorem ki (s:Bytes):uW s 47=(cL s:Int) - 1:=OF s 47
theorem ib (s:Bytes):cL s≤s.length:=by
 have:=(List.dropWhile_suffix (l:=s.reverse) (· != 47)).length_le
 rw[List.length_reverse]at this;exact this
theorem BD (s:Bytes):s.take (max 0 (uW s 47)).toNat=ep s:=by
 rw[jl,ki];congr 1
 omega
theorem OE (s:Bytes):uW s 47≤s.length:=by
 have:=ib s
 rw[ki];omega
theorem DY (s:Bytes)(hs:s.length≤9223372036854775807):PC QH 207 [.str s] (.bool (dI s)) :=
 ⟨call207,by simp[flat,flat.ah],by simp[flat,flat.ah],fun w _=>(IB s w hs).mono fun _ _ ⟨h,k⟩=>⟨h,cG k⟩⟩
theorem dh {s:Bytes}(h:Lib.hasPrefix s [47,47]=false):aG s=([],false,s):=by
 unfold aG;split
 ·simp[Lib.hasPrefix]at h
 ·rfl
theorem ll {s:Bytes}(h:Lib.hasPrefix s [47,47]=true):aG s=((Lib.trimPrefix s [47,47]).take (pre (·==47) (Lib.trimPrefix s [47,47])),true,(Lib.trimPrefix s [47,47]).drop (pre (·==47) (Lib.trimPrefix s [47,47]))):=by
 obtain⟨r,rfl⟩:=zSL.1 h;have ht:Lib.trimPrefix ([47,47]++r) [47,47]=r:=by simp[Lib.trimPrefix,Lib.hasPrefix]
 rw[ht];rfl
theorem qQ (s:Bytes):PC QH 154 [.str s] (.eh [mE (aP s).1,.int .i64 (aP s).2]):=by
 refine aU 3000 func154 rfl ntmps154 results154 call154 QB (by simp[flat,flat.ah]) (by simp[flat,flat.ah,mE]) ?_;refine bw ?_;refine⟨fun h=>?_,fun h=>?_⟩
 ·have:aP s=(Uri.none,5):=if_pos (by simp at h;omega)
  rw[this];rfl
 ·have hl:s.length<4294967281:=by simp at h;omega
  have hq:aP s=aT (aL 63 (aL 35 s).1).1 (aL 35 s).2.1 (aL 63 (aL 35 s).1).2.1 (aL 35 s).2.2 (aL 63 (aL 35 s).1).2.2:=if_neg (by simp at h;omega);rw[hq];have l1:=jB 35 s;have l2:=jB 63 (aL 35 s).1
  (refine aa (Ky s 35 hl) ?_;refine bw ?_)
  (refine aa (Ky _ 63 QA) ?_;refine bw ?_)
  generalize aL 63 (aL 35 s).1=C2 at l2 ⊢;generalize aL 35 s=C1 at l1 l2 ⊢;obtain⟨s1,fr,hf⟩:=C1;obtain⟨s2,qu,Nh⟩:=C2;simp only at l1 l2 ⊢;have BP:Lib.indexAny s2 [58,47]=if pre ay s2<s2.length then(pre ay s2:Int) else -1:=lb s2 [58,47]
  have p3:=Ji s2 [58,47] QD QD QD QA
  -- the end: the authority and the path
  by_cases hp:pre ay s2<s2.length
  ·rw[if_pos hp]at BP
   rw[BP]at p3
   (refine aa (p3) ?_;refine bw ?_)
   refine⟨fun _=>⟨⟨QA,QA⟩,fun h1=>⟨⟨QA,QA⟩,?_⟩,fun h1=>?_⟩,fun h1=>?_⟩
   ·have hh:(s2.drop (pre ay s2)).head? = some 58:=by
     rw[zSs,zSk hp];rw[dG (n:=58) hp 58 rfl]at h1;rw[beq_iff_eq.1 h1]
    (refine aa (DY _ QC) ?_;refine bw ?_)
    refine⟨fun h2=>?_,fun h2=>⟨⟨QA,QA⟩,⟨QA,QA⟩,⟨QA,QA⟩,(ao QE),?_⟩⟩
    ·have:aT s2 fr qu hf Nh=(Uri.none,6):=by
      unfold aT;rw[if_pos hh,if_neg (by simpa using h2)]
     rw[this];rfl
    ·have hs:aT s2 fr qu hf Nh=(⟨s2.take (pre ay s2),(aG (s2.drop (pre ay s2+1))).1,(aG (s2.drop (pre ay s2+1))).2.2,qu,fr,true,(aG (s2.drop (pre ay s2+1))).2.1,Nh,hf⟩,0):=by
      unfold aT;rw[if_pos hh,if_pos (by simpa using h2)]
     have Bb:(s2.drop (pre ay s2+1)).length≤s2.length:=by simp
     (
      (refine aa (mY (s2.drop (pre ay s2+1)) [47,47]) ?_;refine bw ?_)
      cases jz:Lib.hasPrefix (s2.drop (pre ay s2+1)) [47,47]
      ·refine⟨fun h=>(by cases h),fun _=>?_⟩
       have ht:Lib.trimPrefix (s2.drop (pre ay s2+1)) [47,47]=s2.drop (pre ay s2+1):=by unfold Lib.trimPrefix;rw[jz];rfl
       rw[hs,dh jz];rfl
      ·refine⟨fun _=>?_,fun h=>(by cases h)⟩
       have hl3:=ua (s2.drop (pre ay s2+1)) [47,47];have KX:=ll jz;rw[hs,KX];generalize Lib.trimPrefix (s2.drop (pre ay s2+1)) [47,47]=rest at hl3 KX ⊢;have Hk:=eR rest 47;have p4:=iX rest 47;rw[Hk]at p4;have gz:=cO (·==47) rest;by_cases hr:pre (·==47) rest<rest.length
       ·rw[if_pos hr]at p4
        (refine aa (p4) ?_;refine bw ?_)
        refine⟨fun h=>?_,fun _=>⟨⟨QA,QA⟩,⟨QA,QA⟩,(ao QE),rfl⟩⟩;simp at h;omega
       ·rw[if_neg hr]at p4
        (refine aa (p4) ?_;refine bw ?_)
        refine⟨fun _=>⟨⟨QA,QA⟩,⟨QA,QA⟩,(ao QE),?_⟩,fun h=>?_⟩
        ·have:pre (·==47) rest=rest.length:=QA
         rw[this];simp[mE]
        ·simp at h)
   ·have hs:aT s2 fr qu hf Nh=(⟨[],(aG s2).1,(aG s2).2.2,qu,fr,false,(aG s2).2.1,Nh,hf⟩,0):=by
     unfold aT;rw[if_neg];rw[dG (n:=58) hp 58 rfl]at h1;rw[zSs,zSk hp];simpa using h1
    (
     (refine aa (mY (s2) [47,47]) ?_;refine bw ?_)
     cases jz:Lib.hasPrefix (s2) [47,47]
     ·refine⟨fun h=>(by cases h),fun _=>?_⟩
      have ht:Lib.trimPrefix (s2) [47,47]=s2:=by unfold Lib.trimPrefix;rw[jz];rfl
      rw[hs,dh jz];rfl
     ·refine⟨fun _=>?_,fun h=>(by cases h)⟩
      have hl3:=ua (s2) [47,47];have KX:=ll jz;rw[hs,KX];generalize Lib.trimPrefix (s2) [47,47]=rest at hl3 KX ⊢;have Hk:=eR rest 47;have p4:=iX rest 47;rw[Hk]at p4;have gz:=cO (·==47) rest;by_cases hr:pre (·==47) rest<rest.length
      ·rw[if_pos hr]at p4
       (refine aa (p4) ?_;refine bw ?_)
       refine⟨fun h=>?_,fun _=>⟨⟨QA,QA⟩,⟨QA,QA⟩,(ao QE),rfl⟩⟩;simp at h;omega
      ·rw[if_neg hr]at p4
       (refine aa (p4) ?_;refine bw ?_)
       refine⟨fun _=>⟨⟨QA,QA⟩,⟨QA,QA⟩,(ao QE),?_⟩,fun h=>?_⟩
       ·have:pre (·==47) rest=rest.length:=QA
        rw[this];simp[mE]
       ·simp at h)
   ·simp at h1
  ·rw[if_neg hp]at BP
   rw[BP]at p3
   (refine aa (p3) ?_;refine bw ?_)
   refine⟨fun h1=>?_,fun h1=>?_⟩
   ·simp at h1
   ·have hs:aT s2 fr qu hf Nh=(⟨[],(aG s2).1,(aG s2).2.2,qu,fr,false,(aG s2).2.1,Nh,hf⟩,0):=by
     unfold aT;rw[if_neg];rw[zSE QA];simp
    (
     (refine aa (mY (s2) [47,47]) ?_;refine bw ?_)
     cases jz:Lib.hasPrefix (s2) [47,47]
     ·refine⟨fun h=>(by cases h),fun _=>?_⟩
      have ht:Lib.trimPrefix (s2) [47,47]=s2:=by unfold Lib.trimPrefix;rw[jz];rfl
      rw[hs,dh jz];rfl
     ·refine⟨fun _=>?_,fun h=>(by cases h)⟩
      have hl3:=ua (s2) [47,47];have KX:=ll jz;rw[hs,KX];generalize Lib.trimPrefix (s2) [47,47]=rest at hl3 KX ⊢;have Hk:=eR rest 47;have p4:=iX rest 47;rw[Hk]at p4;have gz:=cO (·==47) rest;by_cases hr:pre (·==47) rest<rest.length
      ·rw[if_pos hr]at p4
       (refine aa (p4) ?_;refine bw ?_)
       refine⟨fun h=>?_,fun _=>⟨⟨QA,QA⟩,⟨QA,QA⟩,(ao QE),rfl⟩⟩;simp at h;omega
      ·rw[if_neg hr]at p4
       (refine aa (p4) ?_;refine bw ?_)
       refine⟨fun _=>⟨⟨QA,QA⟩,⟨QA,QA⟩,(ao QE),?_⟩,fun h=>?_⟩
       ·have:pre (·==47) rest=rest.length:=QA
        rw[this];simp[mE]
       ·simp at h)
def RdI (s:Bytes)(σ:St):Prop:=∃ (p o:Bytes) (j f:Nat),lk 0 σ.t=some (.str p)∧lk 3 σ.t=some (.o j o.length)∧σ.b[j]? = some (.own (o.map eb) 5 1 o.length true)∧p.length+o.length≤s.length∧p.length≤f∧fR f p o=aS s
def RdM (σ:St):Nat:=match lk 0 σ.t with
 | some (.str p)=>p.length
 | _=>0
theorem Qg {σ:St}{p:Bytes}(h:lk 0 σ.t=some (.str p)):RdM σ=p.length:=by simp[RdM,h]
theorem j6 {s p' o':Bytes}{j f n:Nat}{t:List (Nat × SV)}{b:List aq}(h0:lk 0 t=some (.str p'))(h3:lk 3 t=some (.o j o'.length))(hj:b[j]? = some (.own (o'.map eb) 5 1 o'.length true))(hlen:p'.length+o'.length≤s.length)(hf:p'.length≤f)(iR:fR f p' o'=aS s)(az:p'.length<n) :
 RdI s ⟨t,b⟩∧RdM ⟨t,b⟩<n:=⟨⟨p',o',j,f,h0,h3,hj,hlen,hf,iR⟩,by rw[Qg h0];exact az⟩
theorem Oc (o:Bytes):∃ X:Int,(if 0<uW o 47 then uW o 47 else 0)=X∧0≤X∧X≤o.length∧o.take X.toNat=ep o:=by
 refine⟨_,rfl,by split <;> omega,?_,?_⟩
 ·have:=OE o;split <;> omega
 ·rw[← BD o]
  congr 2
  split <;> omega
theorem zl {o:Bytes}{X:Int}(h:X≤o.length):(o.take X.toNat).length=X.toNat:=by rw[zSm];omega
theorem rd_at {b:List aq}{j:Nat}{o:Bytes}{X:Int}(h:X≤o.length):(b.set j .gone++[.own ((o.map eb).take (X.toNat * 1)) 5 1 X.toNat true])[b.length]? = some (.own ((o.take X.toNat).map eb) 5 1 (o.take X.toNat).length true):=by
 rw[zSj QB,zl h];simp[List.map_take]
theorem Od (b:List aq)(j:Nat)(o y:Bytes):(b.set j .gone++[.own (o.map eb++y.map eb) 5 1 (o.length+y.length) true])[b.length]? = some (.own ((o++y).map eb) 5 1 (o++y).length true):=by
 rw[zSj QB];simp
theorem ia (s:Bytes)(hs:s.length≤4294967281):PC QH 158 [.str s] (.str (aS s)):=by
 refine aU 3000 func158 rfl ntmps158 results158 call158 QB (by simp[flat,flat.ah]) (by simp[flat,flat.ah]) ?_;refine bw ?_;refine⟨QA,ax (RdI s) RdM ⟨s,[],0,s.length,rfl,rfl,rfl,QB,Nat.le_refl _,rfl⟩ ?_⟩;rintro⟨t,b⟩ ⟨p,o,j,f,h0,h3,hj,hlen,hf,iR⟩;simp only at h0 h3 hj;rw[Qg h0];refine gN (zSc h0 (zSc h3 hj)) ?_;have kE:p=[]→o=aS s:=fun hp=>by subst hp;cases f <;> simpa[fR] using iR
 refine⟨fun hp=>?_,fun hp=>⟨gw o,?_⟩⟩;rotate_left
 ·rw[lH,kE (by simpa using hp)]
 replace hp:p≠[]:=by simpa using hp
 have gz:0<p.length:=zSN.2 hp;obtain⟨f,rfl⟩:∃ f',f=f'+1:=⟨f - 1,QA⟩;rw[fR,if_neg hp]at iR
 (refine aa (kf p [46,46,47]) ?_
  refine gN (zSc h0 (zSc h3 hj)) ?_)
 refine⟨fun c1=>?_,fun c1=>?_⟩
 ·have h:=fP c1
  rw[show dF p o=(p.drop 3,o) from if_pos c1]at iR;exact⟨⟨QA,by simp at h;omega⟩,j6 rfl h3 hj QC (by simp at h ⊢;omega) iR (by simp at h ⊢;omega)⟩
 (refine aa (kf p [46,47]) ?_
  refine gN (zSc h0 (zSc h3 hj)) ?_)
 refine⟨fun c2=>?_,fun c2=>?_⟩
 ·have h:=fP c2
  rw[show dF p o=(p.drop 2,o) by unfold dF;rw[if_neg (nj c1)];exact if_pos c2]at iR;exact⟨⟨QA,by simp at h;omega⟩,j6 rfl h3 hj QC (by simp at h ⊢;omega) iR (by simp at h ⊢;omega)⟩
 (refine aa (kf p [47,46,47]) ?_
  refine gN (zSc h0 (zSc h3 hj)) ?_)
 refine⟨fun c3=>?_,fun c3=>?_⟩
 ·have h:=fP c3
  rw[show dF p o=(p.drop 2,o) by unfold dF;rw[if_neg (nj c1),if_neg (nj c2)];exact if_pos c3]at iR;exact⟨⟨QA,by simp at h;omega⟩,j6 rfl h3 hj QC (by simp at h ⊢;omega) iR (by simp at h ⊢;omega)⟩
 refine⟨fun c4=>?_,fun c4=>?_⟩
 ·have h:p=[47,46]:=by simpa using c4
  subst h;exact j6 (p':=[47]) rfl h3 hj (by simp at hlen ⊢;omega) (by simp at hf ⊢;omega) iR QB
 have n4:¬ p=[47,46]:=by simpa using c4
 have Mv:dF p o=if [47,46,46,47].isPrefixOf p then(p.drop 3,ep o)
  else if p=[47,46,46] then([47],ep o)
  else if p=[46]∨p=[46,46] then([],o)
  else(p.drop (1+pre (·==47) (p.drop 1)),o++p.take (1+pre (·==47) (p.drop 1))):=by
  unfold dF;rw[if_neg (nj c1),if_neg (nj c2),if_neg (nj c3),if_neg n4]
 rw[Mv]at iR
 (refine aa (kf p [47,46,46,47]) ?_
  refine gN (zSc h0 (zSc h3 hj)) ?_)
 refine⟨fun c5=>⟨fun c6=>?_,fun c6=>⟨fun c7=>⟨fun c8=>?_,fun c8=>?_⟩,fun c7=>?_⟩⟩,fun c5=>?_⟩
 ·have h:p=[47,46,46]:=by simpa using c6
  subst h;refine⟨QB,?_⟩
  (refine aa (uL _ [47]) ?_
   refine gN (zSc h0 (zSc h3 hj)) ?_)
  refine⟨by decide,gw o,?_⟩;rw[lH]
  (refine aa (iI o 47 QA) ?_
   refine gN (zSc h0 (zSc h3 hj)) ?_)
  obtain⟨X,hX,x0,x1,hx⟩:=Oc o;rw[hX];refine⟨⟨x0,x1⟩,j6 (p':=[47]) (o':=o.take X.toNat) (f:=f) rfl ?_ (rd_at x1) ?_ ?_ ?_ QB⟩
  ·rw[zl x1];rfl
  ·rw[zl x1];simp at hlen ⊢;omega
  ·simp at hf ⊢;omega
  ·rw[hx];exact iR
 ·have h:p=[46,46]:=by simpa using c8
  subst h;exact j6 (p':=[]) rfl h3 hj (by simp at hlen ⊢;omega) (by simp at hf ⊢) iR QB
 ·have n5:=nj c5
  have n6:¬ p=[47,46,46]:=by simpa using c6
  have n7:¬ (p=[46]∨p=[46,46]):=by rintro(h|h) <;> subst h <;> simp at c7 c8
  rw[if_neg n5,if_neg n6,if_neg n7]at iR;simp only at iR;have p4:=iX (p.drop 1) 47;rw[eR]at p4;have hpr:=cO (·==47) (p.drop 1);generalize pre (·==47) (p.drop 1)=q at iR p4 hpr;simp only[zSe]at p4 hpr;refine⟨QA,?_⟩;by_cases hq:q<p.length - 1
  ·rw[if_pos hq]at p4
   (refine aa (p4) ?_
    refine gN (zSc h0 (zSc h3 hj)) ?_)
   have e:(1+(q:Int)).toNat=1+q:=QA;have el:(p.take (1+q)).length=1+q:=by rw[zSm];omega
   rw[e];refine⟨QA,fun h=>(by simp at h;omega),fun _=>⟨QA,⟨jT _,by rw[el];unfold maxLen;omega,by rw[el];omega⟩,QA,j6 (p':=p.drop (1+q)) (o':=o++p.take (1+q)) (f:=f) rfl ?_ (Od ..) ?_ ?_ iR ?_⟩⟩
   ·rw[zSh];rfl
   ·simp;omega
   ·simp;omega
   ·simp;omega
  ·rw[if_neg hq]at p4
   have p7:1+q=p.length:=QA;rw[p7,List.drop_length,zSD]at iR
   (refine aa (p4) ?_
    refine gN (zSc h0 (zSc h3 hj)) ?_)
   refine⟨QA,fun _=>⟨QA,⟨jT _,by unfold maxLen;omega,QA⟩,QA,j6 (p':=[]) (o':=o++p) (f:=f) ?_ ?_ (Od ..) ?_ ?_ iR ?_⟩,fun h=>(by simp at h)⟩
   ·simp[lk]
   ·rw[zSh];rfl
   ·simp;omega
   ·simp
   ·exact gz
 ·have h:p=[46]:=by simpa using c7
  subst h;exact j6 (p':=[]) rfl h3 hj (by simp at hlen ⊢;omega) (by simp at hf ⊢) iR QB
 ·rw[if_pos (show List.isPrefixOf [47,46,46,47] p=true from c5)]at iR
  obtain⟨r,rfl⟩:=zSL.1 c5;refine⟨QC,?_⟩
  (refine aa (uL _ [47]) ?_
   refine gN (zSc h0 (zSc h3 hj)) ?_)
  have ht:Lib.trimPrefix (47::r) [47]=r:=by simp[Lib.trimPrefix,Lib.hasPrefix]
  have hd:(47::46::46::47::r:Bytes).drop (Int.toNat 3)=47::r:=rfl;rw[hd,ht];refine⟨by simp at hlen;omega,gw o,?_⟩;rw[lH]
  (refine aa (iI o 47 QA) ?_
   refine gN (zSc h0 (zSc h3 hj)) ?_)
  obtain⟨X,hX,x0,x1,hx⟩:=Oc o;rw[hX];refine⟨⟨x0,x1⟩,j6 (p':=47::r) (o':=o.take X.toNat) (f:=f) rfl ?_ (rd_at x1) ?_ ?_ ?_ QB⟩
  ·rw[zl x1];rfl
  ·rw[zl x1];simp at hlen ⊢;omega
  ·simp at hf ⊢;omega
  ·rw[hx];exact iR
theorem DD {bs:List aq}{i:Nat}{x y:SV}(hi:bs[i]? = some (.cells [x,y] 253 true))(hx:x=.v (.pointer none)∨x=.p i 0) :
 SC QH 267 [.p i 0] bs (fun r bs'=>r=.eh []∧bs'=bs.set i (.cells [.p i 0,y] 253 true)):=by
 have dJ:i<bs.length:=(zSd.1 hi).1;refine Co hi rfl call267 rfl (fun β fp w hE hh=>?_);obtain⟨h0,⟨rest,fz,hd,rfl⟩,h3⟩:=hh β (cP.refl _ _);have ea:(aZ β [.p i 0]).toArray=#[.pointer (some ⟨(β i).fy,0,none⟩)]:=by simp[aZ,aj,h0]
 rw[ea];have kn:w.cell? ⟨(β i).fy,0,none⟩=some (aj β x):=hd.wE 0 _ QB;rcases hx with rfl|rfl
 ·have lZ:=hd.1
  have hfz:=hd.2;refine(Any.Builder_copyCheck_fresh { Tryz.Js with } Tryz.vp.toX72 (β i).fy w kn ?_ ?_).mono ?_
  ·simp[World.shape?,lZ]
   rfl
  ·simp[World.frozen?,lZ]
   simp at hfz
   omega
  ·rintro e w' ⟨rfl,rfl⟩
   refine⟨rfl,?_,fp i,fun k hk=>hk,fun β' hβ=>?_⟩
   ·exact⟨rfl,rfl,rfl,by simp[World.setCell],fun k _ hn=>Below.heap_setCell _ _ _ _ (fun e=>hn ((h3 k).2 e))⟩
   ·have hb:=hβ i dJ
    obtain⟨k0,⟨rest,fz',hd',rfl⟩,k3⟩:=hh β' hβ;refine⟨k0,⟨[],fz',⟨?_,by simpa using hd'.2⟩,rfl⟩,k3⟩;rw[hb,heap_set hd'.1];simp[aj,k0]
 ·refine(Any.Builder_copyCheck_used { Tryz.Js with } Tryz.vp.toX72 (β i).fy w ?_).mono ?_
  ·rw[kn];simp[aj,h0]
  ·rintro e w' ⟨rfl,rfl⟩
   exact⟨rfl,tW.refl _ _,fp i,fun k hk=>hk,hh⟩
theorem Be {bs:List aq}{i j:Nat}{x:SV}{l s:Bytes}(hi:bs[i]? = some (.cells [x,.o j l.length] 253 true))(hx:x=.v (.pointer none)∨x=.p i 0)(hj:bs[j]? = some (.own (l.map eb) 5 1 l.length true))(Hj:i≠j)(hlen:l.length+s.length≤140737488355328) :
 SC QH 230 [.p i 0,.str s] bs (fun r bs'=>r=.eh [.int .i64 s.length,.v .nilIface]∧bs'[i]? = some (.cells [.p i 0,.o bs.length (l++s).length] 253 true)∧bs'[bs.length]? = some (.own ((l++s).map eb) 5 1 (l++s).length true)∧∀ k,k<bs.length→k≠i→k≠j→bs'[k]? = bs[k]?):=by
 have dJ:i<bs.length:=(zSd.1 hi).1;refine bp 3000 func230 rfl ntmps230 results230 call230 QB (af bs.length _ (by simp[within,within.av,dJ])) ?_;refine bw ?_;refine ae (DD hi hx) ?_;rintro r bs1 ⟨rfl,rfl⟩;have h1:(bs.set i (.cells [.p i 0,.o j l.length] 253 true))[i]? = some (.cells [.p i 0,.o j l.length] 253 true):=zSr dJ;have h2:(bs.set i (.cells [.p i 0,.o j l.length] 253 true))[j]? = some (.own (l.map eb) 5 1 l.length true):=by rw[zSp Hj];exact hj
 have h3:∀ k,k≠i→(bs.set i (.cells [.p i 0,.o j l.length] 253 true))[k]? = bs[k]? := fun k hk=>zSp (fun e=>hk e.symm)
 have h4:(bs.set i (.cells [.p i 0,.o j l.length] 253 true)).length=bs.length:=List.length_set ..;generalize bs.set i (.cells [.p i 0,.o j l.length] 253 true)=bs1 at h1 h2 h3 h4 ⊢;have h5:∀ X,(bs1.set j .gone++[X])[i]? = some (.cells [.p i 0,.o j l.length] 253 true):=fun X=>by
  rw[zSi QC,zSp (fun e=>Hj e.symm)];exact h1
 refine gN (zSc h1 (zSc h2 h5)) ?_;refine⟨⟨jT _,by unfold maxLen;omega,QA⟩,?_,?_,fun k hk kO hkj=>?_⟩
 ·rw[zSr QC,h4,zSh]
 ·rw[zSp QA,zSj QC]
  simp[h4]
 ·rw[zSp (fun e=>kO e.symm),zSi QC,zSp (fun e=>hkj e.symm),h3 k kO]
theorem zc {bs:List aq}{i:Nat}{l s:Bytes}(hi:bs[i]? = some (.ext (si 253 5 l)))(hlen:l.length+s.length≤140737488355328) :
 SC QH 230 [.p i 0,.str s] bs (fun r bs'=>r=.eh [.int .i64 s.length,.v .nilIface]∧bs'=bs.set i (.ext (si 253 5 (l++s)))):=by
 have dJ:i<bs.length:=(zSd.1 hi).1;refine sc_open (R':=fun r bs'=>r=.eh [.int .i64 s.length,.v .nilIface]∧bs'[i]? = some (.cells [.p i 0,.o (bs.length+1) (l++s).length] 253 true)∧bs'[bs.length+1]? = some (.own ((l++s).map eb) 5 1 (l++s).length true)∧∀ k,k<bs.length→k≠i→bs'[k]? = bs[k]?) hi (fun x hx=>(Be (j:=bs.length) (l:=l) (s:=s) ?_ hx ?_ QA hlen).mono ?_) ?_ (by simp[within,within.av,dJ])
 ·rw[zSi (by simpa using dJ),zSr dJ]
 ·rw[zSj QB];simp
 ·rintro r bs' ⟨rfl,h1,h2,h3⟩
  simp only[zSh,List.length_set,zSf,zSg]at h1 h2 h3;refine⟨rfl,by simpa using h1,by simpa using h2,fun k hk kO=>?_⟩;rw[h3 k QA kO QA,zSi (by simpa using hk),zSp (fun e=>kO e.symm)]
 ·rintro r bs' ⟨rfl,h1,h2,h3⟩
  exact⟨.p i 0,bs.length+1,l++s,rfl,.inr rfl,⟨rfl,rfl⟩,h1,h2,QA,h3⟩
set_option maxRecDepth 100000 in
theorem Nx {b:Nat}{p:Value}{t2:Bt}{f2:Nat→Prop}{l:Bytes}{w:World}{fz:Nat × Nat}(hd:Head w b 253 [p,oV t2 l.length] [] fz)(hr:Holds nX t2 f2 w (.own (l.map eb) 5 1 l.length true)) :
 Calls Tryz.prog 233 #[.pointer (some ⟨b,0,none⟩)] w fun e w'=>e=.returned (Value.string ⟨zSI (l)⟩)∧tW f2 w w':=by
 have mixed:Tryz.prog.follows .mixedOrders=true:=by kernel_rfl
 have hb:w.heap[b]? = some (.cells #[p,oV t2 l.length] 253 fz):=by simpa using hd.1
 have hdr:tW f2 w w.drew:=⟨rfl,rfl,rfl,Nat.le_refl _,fun _ _ _=>rfl⟩;have hUN:∀ (W:World) (q:Option Addr),(Builtin.unsafeString_ #[280,3] 9 #[.pointer q,.int .i64 0]).run Tryz.prog W=.ok (.string .empty) W:=fun W q=>Lib.run_unsafeString_none W _ _ _ q
 have jc:∀ (W:World),W.heap[b]? = w.heap[b]? → W.cell? ⟨b,1,none⟩=some (oV t2 l.length):=fun W hW=>by
  rw[Lib.cell_of_heap (hW.trans hb)];rfl
 rcases hr with⟨h1,h2,h3,h4⟩|⟨h1,h2,h3,h4,h5,h6,h7⟩
 ·have hl:l=[]:=by simpa using h3
  subst hl;have hv:oV t2 ([]:Bytes).length=.slice none 0 0:=by simp[oV,h1]
  rw[hv]at hb jc;have c1:w.drew.cell? ⟨b,1,none⟩=some (.slice none 0 0):=jc _ rfl;have hSD:(Builtin.unsafeSliceData_ #[22] 280 #[.slice none 0 0]).run Tryz.prog w.drew=.ok (.pointer none) w.drew:=rfl;go_enter func233,ntmps233
  go_wp2
  go_region_o
  all_goals (go_wp2;go_ret;exact⟨rfl,hdr⟩)
 ·obtain⟨h8,rest,fr,h9,eB,fM⟩:=h6 rfl
  obtain⟨fy,off,cap⟩:=t2;simp only at h1 h2 h3 h8 h9 fM h7;subst h8;obtain⟨cap,rfl⟩:∃ c,cap=c+1:=⟨cap - 1,QA⟩;have hv:oV ⟨fy,0,cap+1⟩ l.length=.slice (some ⟨fy,0,none⟩) l.length cap:=by simp[oV]
  rw[hv]at hb jc;have hg:w.heap[fy]? = some (.cells ((l.map eb).map (aj nX)++rest).toArray 5 fr):=h9.1;have lZ:((l.map eb).map (aj nX)++rest).toArray.size=cap:=by
   simp at fM ⊢;omega
  by_cases hl:l=[]
  ·subst hl
   simp only[zSJ,List.nil_append,zSg]at hb jc hg lZ;have c1:w.drew.cell? ⟨b,1,none⟩=some (.slice (some ⟨fy,0,none⟩) 0 cap):=jc _ rfl;by_cases hc:cap=0
   ·subst hc
    have jF:b<w.heap.size:=(Array.getElem?_eq_some_iff.1 hb).1;have hSD:(Builtin.unsafeSliceData_ #[22] 280 #[.slice (some ⟨fy,0,none⟩) 0 0]).run Tryz.prog w.drew=.ok (.pointer (some ⟨w.drew.heap.size,0,none⟩)) (w.drew.alloc (.view ⟨fy,0,none⟩ 5)) :=
     Lib.run_unsafeSliceData_zero w.drew _ _ 5 underlying280 ⟨fy,0,none⟩ 0 (5,rest.toArray.size) (by have hg':w.drew.heap[fy]? = _:=hg;simp[World.shape?,hg'])
    have c2:(w.drew.alloc (.view ⟨fy,0,none⟩ 5)).cell? ⟨b,1,none⟩=some (.slice (some ⟨fy,0,none⟩) 0 0):=jc _ (Lib.alloc_old w.drew _ b jF);have c3:(w.alloc (.view ⟨fy,0,none⟩ 5)).drew.cell? ⟨b,1,none⟩=some (.slice (some ⟨fy,0,none⟩) 0 0):=c2;have c0:w.cell? ⟨b,1,none⟩=some (.slice (some ⟨fy,0,none⟩) 0 0):=c1;have tG:tW f2 w (w.drew.alloc (.view ⟨fy,0,none⟩ 5)):=⟨rfl,rfl,rfl,QB,fun k hk _=>Lib.alloc_old w.drew _ k hk⟩;go_enter func233,ntmps233
    go_wp2
    go_region_o
    all_goals (go_wp2;go_ret;exact⟨rfl,tG⟩)
   ·have hSD:(Builtin.unsafeSliceData_ #[22] 280 #[.slice (some ⟨fy,0,none⟩) 0 cap]).run Tryz.prog w.drew=.ok (.pointer (some ⟨fy,0,none⟩)) w.drew :=
     Lib.run_unsafeSliceData_row _ _ _ _ _ _ hc
    clear hc;go_enter func233,ntmps233
    go_wp2
    go_region_o
    all_goals (go_wp2;go_ret;exact⟨rfl,hdr⟩)
  ·have hl0:l.length≠0:=by simpa using hl
   have c1:w.drew.cell? ⟨b,1,none⟩=some (.slice (some ⟨fy,0,none⟩) l.length cap):=jc _ rfl;have hSD:(Builtin.unsafeSliceData_ #[22] 280 #[.slice (some ⟨fy,0,none⟩) l.length cap]).run Tryz.prog w.drew=.ok (.pointer (some ⟨fy,0,none⟩)) w.drew :=
    Lib.run_unsafeSliceData_row _ _ _ _ _ _ QA
   have hUS:(Builtin.unsafeString_ #[280,3] 9 #[.pointer (some ⟨fy,0,none⟩),.int .i64 l.length]).run Tryz.prog w.drew=.ok (Value.string ⟨zSI (l)⟩) (w.drew.freeze ⟨fy,0,none⟩ l.length):=by
    refine Lib.run_unsafeString_row w.drew 280 3 9 5 underlying280 Tryz.vp.cellsByte fy cap (by have hg':w.drew.heap[fy]? = _:=hg;simp only[World.shape?,hg'];simp only[lZ]) l hl QA (by unfold maxLen at h3;omega) ?_;intro j x hx;have:=h5 j (aj nX (eb x)) (by simp[hx])
    rw[fe];simpa[eb,aj] using this
   have tG:tW f2 w (w.drew.freeze ⟨fy,0,none⟩ l.length):=by
    unfold World.freeze;split
    ·exact hdr
    ·refine⟨rfl,rfl,rfl,QB,fun k hk hn=>?_⟩
     have bF:k≠fy:=fun e=>hn ((h7 k).2 e)
     simp only[Array.getElem?_modify];rw[if_neg (fun e=>bF e.symm)];rfl
   go_enter func233,ntmps233
   go_wp2
   go_region_o
   all_goals (go_wp2;go_ret;exact⟨rfl,tG⟩)
theorem LG {bs:List aq}{i:Nat}{l:Bytes}(hi:bs[i]? = some (.ext (si 253 5 l))) :
 SC QH 233 [.p i 0] bs (fun r bs'=>r=.str l∧bs'=bs.set i .gone):=by
 refine Co hi rfl call233 rfl (fun β fp w hE hh=>?_);obtain⟨h0,p,t2,f2,hp,⟨fz,hd⟩,h3,h4,h5⟩:=hh β (cP.refl _ _);have ea:(aZ β [.p i 0]).toArray=#[.pointer (some ⟨(β i).fy,0,none⟩)]:=by simp[aZ,aj,h0]
 rw[ea];refine(Nx hd h3).mono ?_;rintro e w' ⟨rfl,hf⟩;exact⟨rfl,hf.mono (fun k hk=>(h5 k).2 (.inr hk)),fun _=>False,fun _ h=>h.elim,fun _ _ _ h=>h⟩
def jh (there:Bool)(l:Bytes)(parts:List Bytes):Bytes:=if there then l++parts.flatten else l
theorem Dd (there:Bool)(l:Bytes)(parts:List Bytes)(k:Nat)(hk:k<parts.length):jh there l (parts.take (k+1))=if there then jh there l (parts.take k)++parts[k] else l:=by
 unfold jh;cases there
 ·rfl
 ·simp only[if_true]
  rw[zSn hk,List.flatten_append];simp
def AddI (bs:List aq)(i:Nat)(there:Bool)(l:Bytes)(parts:List Bytes)(j:Nat)(σ:St):Prop:=∃ k:Nat,k≤parts.length∧lk 0 σ.t=some (.bool there)∧lk 2 σ.t=some (.p i 0)∧lk 7 σ.t=some (.o j parts.length)∧lk 8 σ.t=some (.int .i64 parts.length)∧lk 9 σ.t=some (.int .i64 k) ∧
 σ.b=bs.set i (.ext (si 253 5 (jh there l (parts.take k))))
def AddM (parts:List Bytes)(σ:St):Nat:=match lk 9 σ.t with
 | some (.int _ k)=>parts.length - k.toNat
 | _=>0
theorem E0 {parts:List Bytes}{σ:St}{k:Nat}(h:lk 9 σ.t=some (.int .i64 k)):AddM parts σ=parts.length - k:=by simp[AddM,h]
theorem add_len {there:Bool}{l:Bytes}{parts:List Bytes}{k:Nat}(hk:k<parts.length):(jh there l (parts.take k)).length+parts[k].length≤l.length+parts.flatten.length:=by
 have e:(parts.take (k+1)).flatten.length≤parts.flatten.length:=by
  conv=>rhs;rw[← List.take_append_drop (k+1) parts,List.flatten_append,zSh]
  omega
 rw[zSn hk,List.flatten_append,zSh]at e;unfold jh;split
 ·simp at e ⊢;omega
 ·simp at e ⊢;omega
theorem zb {bs:List aq}{i j:Nat}{l:Bytes}{there:Bool}{parts:List Bytes}{m:Bool}(hi:bs[i]? = some (.ext (si 253 5 l)))(hj:bs[j]? = some (.own (parts.map SV.str) 9 1 parts.length m))(hlen:l.length+parts.flatten.length≤140737488355328)(hp:parts.length≤1000) :
 SC QH 238 [.bool there,.o j parts.length,.p i 0] bs (fun r bs'=>r=.eh []∧bs'=bs.set i (.ext (si 253 5 (jh there l parts)))):=by
 have dJ:i<bs.length:=(zSd.1 hi).1;have e9:j<bs.length:=(zSd.1 hj).1;have Hj:i≠j:=by rintro rfl;rw[hi]at hj;cases hj
 refine bp 3000 func238 rfl ntmps238 results238 call238 QB (af bs.length _ (by simp[within,within.av,dJ,e9])) ?_;refine bw ?_;refine ax (AddI bs i there l parts j) (AddM parts) ⟨0,QB,rfl,rfl,rfl,rfl,rfl,?_⟩ ?_
 ·apply List.ext_getElem?
  intro k;have:jh there l (List.take 0 parts)=l:=by simp[jh]
  rw[this];by_cases hk:k=i
  ·subst hk;rw[zSr dJ,hi]
  ·rw[zSp (fun e=>hk e.symm)]
 ·rintro⟨t,b⟩ ⟨k,hk,h0,h2,h7,h8,h9,hb⟩
  simp only at h0 h2 h7 h8 h9 hb;rw[E0 h9];have r9:b[j]? = some (.own (parts.map SV.str) 9 1 parts.length m):=by rw[hb,zSp Hj];exact hj
  have mL:b[i]? = some (.ext (si 253 5 (jh there l (parts.take k)))):=by rw[hb,zSr dJ]
  by_cases az:k<parts.length
  ·have fM:(List.map SV.str parts)[k * 1]? = some (.str parts[k]):=by simp[az]
   have hal:=add_len (there:=there) (l:=l) az;refine gN (zSc h0 (zSc h2 (zSc h7 (zSc h8 (zSc h9 (zSc r9 fM)))))) ?_;refine⟨fun _=>⟨⟨QA,QA⟩,QC,fun ht=>?_,fun ht=>?_⟩,fun hc=>(by simp at hc;omega)⟩
   ·refine ae (zc mL QA) ?_
    rintro r bs' ⟨rfl,rfl⟩;refine gN (zSc h0 (zSc h2 (zSc h7 (zSc h8 h9)))) ?_;refine⟨QA,⟨k+1,QA,h0,h2,h7,h8,by simp[lk],?_⟩,?_⟩
    ·simp only[hb,List.set_set]
     rw[Dd _ _ _ _ az,ht];rfl
    ·rw[E0 (k:=k+1) (by simp[lk])];omega
   ·refine⟨QA,⟨k+1,QA,h0,h2,h7,h8,by simp[lk],?_⟩,?_⟩
    ·simp only[hb]
     rw[Dd _ _ _ _ az,ht];simp[jh]
    ·rw[E0 (k:=k+1) (by simp[lk])];omega
  ·refine gN (zSc h0 (zSc h2 (zSc h7 (zSc h8 (zSc h9 r9))))) ?_
   refine⟨fun hc=>(by simp at hc;omega),fun _=>?_⟩;have:k=parts.length:=QA
   subst this;rw[hb,zSD]
theorem yM (there:Bool)(l:Bytes)(parts:List Bytes):(jh there l parts).length≤l.length+parts.flatten.length:=by
 unfold jh;split
 ·simp
 ·omega
def Uri.size (u:Uri):Nat:=u.scheme.length+u.authority.length+u.path.length+u.query.length+u.fragment.length
theorem Ja (u:Uri)(hlen:Uri.size u≤140737488300000):PC QH 181 [mE u] (.str (fg u)):=by
 unfold Uri.size at hlen
 (refine aU 3000 func181 rfl ntmps181 results181 call181 QB (by simp[flat,flat.ah,mE]) (by simp[flat,flat.ah,mE]) ?_
  unfold mE;refine bw ?_)
 have e1:=yM u.bU [] [u.scheme,[58]];have e2:=yM u.bc (jh u.bU [] [u.scheme,[58]]) [[47,47],u.authority];have e3:=yM true (jh u.bc (jh u.bU [] [u.scheme,[58]]) [[47,47],u.authority]) [u.path];have e4:=yM u.aJ (jh true (jh u.bc (jh u.bU [] [u.scheme,[58]]) [[47,47],u.authority]) [u.path]) [[63],u.query];have e5:fg u=jh u.a8 (jh u.aJ (jh true (jh u.bc (jh u.bU [] [u.scheme,[58]]) [[47,47],u.authority]) [u.path]) [[63],u.query]) [[35],u.fragment]:=by
  unfold fg jh;cases u.bU <;> cases u.bc <;> cases u.aJ <;> cases u.a8 <;> simp
 rw[e5];simp only[zSH,zSK,zSz,zSh,zSf,zSg]at e1 e2 e3 e4;refine⟨QA,?_⟩;refine ae (NV (i:=1) (TB:=253) (TU:=5) ?_ (zb (i:=1) (j:=2) (m:=true) (l:=[]) (parts:=[u.scheme,[58]]) ?_ ?_ ?_ ?_)) ?_
 ·rfl
 ·rfl
 ·rfl
 ·simp;omega
 ·simp
 rintro r bs' ⟨rfl,rfl⟩;generalize jh u.bU [] [u.scheme,[58]]=l1 at e1 e2 e3 e4 ⊢;refine bw ?_;refine⟨QA,?_⟩;refine ae (zb (i:=1) (j:=3) (m:=true) (l:=l1) (parts:=[[47,47],u.authority]) ?_ ?_ ?_ ?_) ?_
 ·rfl
 ·rfl
 ·simp only[zSH,zSK,zSz,zSh,zSf,zSg];omega
 ·simp
 rintro r bs' ⟨rfl,rfl⟩;generalize jh u.bc l1 [[47,47],u.authority]=l2 at e2 e3 e4 ⊢;refine bw ?_;refine⟨QA,?_⟩;refine ae (zb (i:=1) (j:=4) (m:=true) (l:=l2) (parts:=[u.path]) ?_ ?_ ?_ ?_) ?_
 ·rfl
 ·rfl
 ·simp only[zSH,zSK,zSz,zSh,zSf,zSg];omega
 ·simp
 rintro r bs' ⟨rfl,rfl⟩;generalize jh true l2 [u.path]=l3 at e3 e4 ⊢;refine bw ?_;refine⟨QA,?_⟩;refine ae (zb (i:=1) (j:=5) (m:=true) (l:=l3) (parts:=[[63],u.query]) ?_ ?_ ?_ ?_) ?_
 ·rfl
 ·rfl
 ·simp only[zSH,zSK,zSz,zSh,zSf,zSg];omega
 ·simp
 rintro r bs' ⟨rfl,rfl⟩;generalize jh u.aJ l3 [[63],u.query]=l4 at e4 ⊢;refine bw ?_;refine⟨QA,?_⟩;refine ae (zb (i:=1) (j:=6) (m:=true) (l:=l4) (parts:=[[35],u.fragment]) ?_ ?_ ?_ ?_) ?_
 ·rfl
 ·rfl
 ·simp only[zSH,zSK,zSz,zSh,zSf,zSg];omega
 ·simp
 rintro r bs' ⟨rfl,rfl⟩;refine bw ?_;refine ae (LG (i:=1) (l:=jh u.a8 l4 [[35],u.fragment]) ?_) ?_
 ·rfl
 rintro r bs' ⟨rfl,rfl⟩;exact bw True.intro
theorem yU (s:Bytes):(aP s).1.path.length≤s.length:=by
 have HB:=jB 35 s;have mK:=jB 63 (aL 35 s).1;have KX:∀ r:Bytes,(aG r).2.2.length≤r.length:=fun r=>by
  unfold aG;split
  ·simp;omega
  ·simp
 unfold aP;split
 ·simp[Uri.none]
 ·unfold aT
  split
  ·split
   ·have:=KX ((aL 63 (aL 35 s).1).1.drop (pre ay (aL 63 (aL 35 s).1).1+1))
    simp at this ⊢;omega
   ·simp[Uri.none]
  ·have:=KX (aL 63 (aL 35 s).1).1
   simp;omega
theorem sX (s:Bytes):Uri.size (aP s).1≤6 * s.length:=by
 have HB:=jB 35 s;have mK:=jB 63 (aL 35 s).1;have KX:∀ r:Bytes,(aG r).2.2.length≤r.length∧(aG r).1.length≤r.length:=fun r=>by
  unfold aG;split
  ·simp;omega
  ·simp
 unfold aP;split
 ·simp[Uri.none,Uri.size]
 ·unfold aT
  split
  ·split
   ·have:=KX ((aL 63 (aL 35 s).1).1.drop (pre ay (aL 63 (aL 35 s).1).1+1))
    simp[Uri.size]at this ⊢;omega
   ·simp[Uri.none,Uri.size]
  ·have:=KX (aL 63 (aL 35 s).1).1
   simp[Uri.size];omega
theorem hp_head (s:Bytes)(c:UInt8):Lib.hasPrefix s [c]=decide (s.head? = some c):=by
 unfold Lib.hasPrefix;cases s with
 | nil=>simp
 | cons x l =>
   simp only[List.isPrefixOf,Bool.and_true,List.head?_cons,zSA.injEq];by_cases h:x=c
   ·subst h;simp
   ·rw[decide_eq_false h]
    simp
    exact fun e=>h e.symm
theorem Gf (b r:Uri)(hb:b.path.length≤4294967281)(hr:r.path.length≤4294967281):PC QH 237 [mE b,mE r] (.str (gR b r)):=by
 (refine aU 3000 func237 rfl ntmps237 results237 call237 QB (by simp[flat,flat.ah,mE]) (by simp[flat,flat.ah,mE]) ?_
  unfold mE;refine bw ?_)
 (refine aa (kf _ [47]) ?_;refine bw ?_)
 have JG:=hp_head r.path 47;refine⟨fun h=>?_,fun h=>⟨fun h2=>⟨fun h3=>?_,fun h3=>?_⟩,fun h2=>?_⟩⟩
 ·rw[gR,if_pos (by simpa[JG] using h)]
 ·rw[gR,if_neg (by simpa[JG] using h),if_pos ⟨h2,by simpa using h3⟩]
  exact⟨QA,rfl⟩
 ·(
  have hls:=ib b.path;have p5:=iI b.path 47 QA;rw[ki]at p5
  (refine aW (p5) ?_;refine bw ?_)
  have e:((cL b.path:Int) - 1+1).toNat=cL b.path:=QA;rw[e];refine⟨QA,QA,QC,(ao QE),?_⟩)
  rw[gR,if_neg (by simpa[JG] using h),if_neg (by rintro⟨-,h4⟩;simp[h4]at h3)]
 ·(
  have hls:=ib b.path;have p5:=iI b.path 47 QA;rw[ki]at p5
  (refine aW (p5) ?_;refine bw ?_)
  have e:((cL b.path:Int) - 1+1).toNat=cL b.path:=QA;rw[e];refine⟨QA,QA,QC,(ao QE),?_⟩)
  rw[gR,if_neg (by simpa[JG] using h),if_neg (by simp[h2])]
theorem HO (p o:Bytes)(hp:p≠[]):(dF p o).1.length+(dF p o).2.length≤p.length+o.length:=by
 have gz:0<p.length:=zSN.2 hp;have hs:(ep o).length≤o.length:=by rw[jl,zSm];exact Nat.min_le_right _ _
 have hq:=cO (·==47) (p.drop 1);unfold dF;split
 ·simp
 split
 ·simp
 split
 ·simp
 split
 ·rename_i h;subst h;simp
 split
 ·simp;omega
 split
 ·rename_i h;subst h;simp;omega
 split
 ·simp
 ·simp at hq ⊢
  omega
theorem AA:∀ (f:Nat)(p o:Bytes),(fR f p o).length≤p.length+o.length
 | 0,p,o=>by simp[fR]
 | f+1,p,o=>by
   rw[fR];split
   ·simp
   ·rename_i hp
    exact Nat.le_trans (AA f _ _) (HO p o hp)
theorem jr (s:Bytes):(aS s).length≤s.length:=by
 have:=AA s.length s []
 simpa[aS] using this
theorem tZ (b r:Uri):(gR b r).length≤1+b.path.length+r.path.length:=by
 unfold gR;split
 ·omega
 split
 ·simp;omega
 ·simp;omega
theorem Bu (b r:Uri)(hb:b.path.length≤2147480000)(hr:r.path.length≤2147480000):PC QH 180 [mE b,mE r] (mE (eI b r)):=by
 have hml:=tZ b r;have pm:=Gf b r QA QA;unfold mE at pm
 (refine aU 3000 func180 rfl ntmps180 results180 call180 QB (by simp[flat,flat.ah,mE]) (by simp[flat,flat.ah,mE]) ?_
  unfold mE;refine bw ?_)
 generalize hR:eI b r=R;rw[eI]at hR;refine⟨fun h1=>?_,fun h1=>?_⟩
 ·rw[if_pos h1]at hR
  (refine aa (ia r.path QA) ?_;refine bw ?_)
  rw[← hR]
 rw[if_neg (by simpa using h1)]at hR;refine⟨fun h2=>?_,fun h2=>?_⟩
 ·rw[if_pos h2]at hR
  (refine aa (ia r.path QA) ?_;refine bw ?_)
  rw[← hR];refine⟨(ao QE),fun h=>?_,fun h=>rfl⟩;simp[h2]at h
 rw[if_neg (by simpa using h2)]at hR;refine⟨fun h3=>?_,fun h3=>?_⟩
 ·rw[if_pos (by simpa using h3)]at hR
  refine⟨fun h4=>?_,fun h4=>?_⟩
  ·rw[if_neg (by simpa using h4)]at hR
   rw[← hR];refine⟨(ao QE),(ao QE),fun h=>⟨(ao QE),rfl⟩,fun h=>?_⟩;simp[h2]at h
  ·rw[if_pos (by simpa using h4)]at hR
   rw[← hR];refine⟨(ao QE),fun h=>⟨(ao QE),rfl⟩,fun h=>?_⟩;simp[h2]at h
 ·rw[if_neg (by simpa using h3)]at hR
  (refine aa (pm) ?_;refine bw ?_)
  (refine aa (ia _ QA) ?_;refine bw ?_)
  rw[← hR];refine⟨(ao QE),fun h=>⟨(ao QE),rfl⟩,fun h=>?_⟩;simp[h2]at h
theorem xQ (a:Bytes)(h:(aN a).2=0):(aN a).1.1.length≤253∧0≤(aN a).1.2∧(aN a).1.2≤65535:=by
 have:=cS (s:=a) (x:=(aN a).1.1) (p:=(aN a).1.2) (by rw[← h])
 omega
theorem xB (s:Bytes):PC QH 93 [.str s] (.eh [cA (bz s).1,.int .i64 (bz s).2]):=by
 refine aU 3000 func93 rfl ntmps93 results93 call93 QB (by simp[flat,flat.ah]) (by simp[flat,flat.ah,cA]) ?_;refine bw ?_;refine⟨fun h=>?_,fun h=>?_⟩
 ·have:bz s=(bN.none,5):=if_pos (by simp at h;omega)
  rw[this];rfl
 have hl:¬ 4096<s.length:=(by simp at h;omega);have hq:bz s=if (aP s).2≠0 then(bN.none,(aP s).2) else xh (aP s).1:=if_neg hl
 rw[hq];have ps:=qQ s;unfold mE at ps;have hp:=yU s;have hz:=sX s;revert ps hp hz
 generalize aP s=us;obtain⟨r,c⟩:=us;intro ps hp hz;simp only at ps hp hz;simp only;unfold Uri.size at hz;have pl:=Ed r.scheme dX QA QD;have pn:=Jj r.authority 64;have ph:=Eb r.authority QA;have p1:=qR r.path dP QD;have p2:=qR r.query dE QD;have p3:=qR r.fragment dE QD
 (refine aa (ps) ?_;refine bw ?_)
 refine⟨fun h1=>?_,fun h1=>?_⟩
 ·rw[if_pos (by simpa using h1)];rfl
 rw[if_neg (by simpa using h1)];unfold xh;cases tC:r.bU
 ·refine gN tC ?_
  rw[if_pos (.inl trivial)];rfl
 refine gN tC ?_;rw[show lower dX=dX by decide]at pl
 (refine aa pl ?_;refine gN tC ?_)
 refine⟨fun h2=>?_,fun h2=>?_⟩
 ·rw[if_pos (.inr (by simpa using h2))];rfl
 rw[if_neg (by simpa using h2)];cases Pt:r.bc
 ·refine gN Pt ?_
  rfl
 refine gN Pt ?_
 (refine aa pn ?_;refine gN Pt ?_)
 refine⟨fun h3=>?_,fun h3=>?_⟩
 ·rw[if_pos (by simpa using h3)];rfl
 rw[if_neg (by simpa using h3)];unfold n9
 (refine aa ph ?_;refine gN Pt ?_)
 refine⟨fun h4=>?_,fun h4=>?_⟩
 ·rw[if_pos (by simpa using h4)];rfl
 rw[if_neg (by simpa using h4)];have hN1:=gS dP r.path;have hN2:=gS dE r.query;have hN3:=gS dE r.fragment;have hH:=xQ r.authority (by simpa using h4);have p4:=ia (bM dP r.path).1 QA;have hD:=jr (bM dP r.path).1;generalize bM dP r.path=n1 at p1 p4 hN1 hD ⊢;generalize bM dE r.query=n2 at p2 hN2 ⊢;generalize bM dE r.fragment=n3 at p3 hN3 ⊢;generalize (aN r.authority).1=hp at hH ⊢;obtain⟨n1,e1⟩:=n1;obtain⟨n2,e2⟩:=n2;obtain⟨n3,e3⟩:=n3;obtain⟨hh,pp⟩:=hp;simp only at p1 p2 p3 p4 hN1 hN2 hN3 hH hD ⊢
 (refine aa p1 ?_;refine bw ?_)
 refine⟨fun h5=>?_,fun h5=>?_⟩
 ·rw[if_pos (by simpa using h5)];rfl
 rw[if_neg (by simpa using h5)]
 (refine aa p2 ?_;refine bw ?_)
 refine⟨fun h6=>?_,fun h6=>?_⟩
 ·rw[if_pos (by simpa using h6)];rfl
 rw[if_neg (by simpa using h6)]
 (refine aa p3 ?_;refine bw ?_)
 refine⟨fun h7=>?_,fun h7=>?_⟩
 ·rw[if_pos (by simpa using h7)];rfl
 rw[if_neg (by simpa using h7)];unfold oF
 (refine aa p4 ?_;refine bw ?_)
 generalize aS n1=d at hD ⊢;have fin:∀ d':Bytes,d'.length≤4096 * 6→PC QH 94 [cA ⟨hh,pp,d',n2,n3,r.aJ,r.a8⟩] (.str (bh ⟨hh,pp,d',n2,n3,r.aJ,r.a8⟩)):=fun d' hd' =>
  oW _ ⟨by simp only;omega,by simp only;omega,by simp only;omega⟩
 unfold cA at fin;refine⟨fun h8=>?_,fun h8=>?_⟩
 ·have f1:=fin [47] QD
  have h8':d=[]:=by simpa using h8
  rw[if_pos h8']
  (refine aa f1 ?_;refine bw ?_)
  refine⟨fun h9=>?_,fun h9=>?_⟩
  ·rw[if_pos (by simp at h9;omega)];rfl
  ·rw[if_neg (by simp at h9;omega)];rfl
 ·have f1:=fin d QA
  have h8':¬ d=[]:=by simpa using h8
  rw[if_neg h8']
  (refine aa f1 ?_;refine bw ?_)
  refine⟨fun h9=>?_,fun h9=>?_⟩
  ·rw[if_pos (by simp at h9;omega)];rfl
  ·rw[if_neg (by simp at h9;omega)];rfl
theorem DS {p:UInt8→Bool}{s:Bytes}{k:Nat}(hk:k<s.length)(h:k≤pre p s)(hp:p s[k]=true):pre p s=k:=by
 rcases zSu k (pre p s) with h1|h1
 ·rw[ju h1 hk]at hp;cases hp
 ·omega
theorem zm {p:UInt8→Bool}{s:Bytes}{k:Nat}(hk:k<s.length)(h:k≤pre p s)(hp:p s[k]=false):k+1≤pre p s:=by
 rcases zSu k (pre p s) with h1|h1
 ·exact h1
 ·have e:pre p s=k:=QA
  have h2:=iM (p:=p) (l:=s) QA;simp only[e]at h2;rw[hp]at h2;cases h2
theorem yY (s:Bytes):(cL s=0∧∀ j (h:j<s.length),s[j]≠47)∨(∃ i,∃ h:i<s.length,cL s=i+1∧s[i]=47∧∀ j (hj:j<s.length),i<j→s[j]≠47):=by
 have e:∀ j (h:j<s.length),(⟨zSI s⟩:ByteArray).data[j]! = s[j]:=fun j h=>by simp[h]
 have hb:=ki s;have hz:(⟨zSI s⟩:ByteArray).size=s.length:=rfl;rcases Lib.lastIndexByte_spec ⟨zSI s⟩ (UInt8.toNat 47) with⟨h1,h2⟩|⟨i,h1,h2,h3,h4⟩
 ·left
  refine⟨?_,fun j hj hs=>h2 j hj ?_⟩
  ·have:uW s 47=-1:=h1
   omega
  ·rw[e j hj,hs]
 ·right
  rw[hz]at h1;refine⟨i,h1,?_,?_,fun j hj Hj hs=>h4 j Hj hj ?_⟩
  ·have:uW s 47=i:=h2
   omega
  ·rw[e i h1]at h3
   exact UInt8.toNat_inj.1 (by exact_mod_cast h3)
  ·rw[e j hj,hs]
theorem vV {s:Bytes}{k:Nat}(hk:k<s.length)(h:cL s≤k+1)(hs:s[k]=47):cL s=k+1:=by
 rcases yY s with⟨-,h2⟩|⟨i,hi,h1,h2,h3⟩
 ·exact absurd hs (h2 k hk)
 ·rcases zSu i k with h4|h4
  ·exact absurd hs (h3 k hk h4)
  ·omega
theorem sZ {s:Bytes}{k:Nat}(hk:k<s.length)(h:cL s≤k+1)(hs:s[k]≠47):cL s≤k:=by
 rcases yY s with⟨h1,-⟩|⟨i,hi,h1,h2,h3⟩
 ·omega
 ·rcases zSu i k with h4|h4
  ·omega
  ·have:i=k:=QA
   subst this;exact absurd h2 hs
theorem kV (c:UInt8)(set:Bytes)(ht:set.length≤4294967281):PC QH 84 [.int .u8 c.toNat,.str set] (.bool (set.contains c)):=by
 refine aU 3000 func84 rfl ntmps84 results84 call84 QB (by simp[flat,flat.ah]) (by simp[flat,flat.ah]) ?_;refine bw ?_;refine ax (fun σ=>∃ k:Nat,k≤set.length∧(set.take k).contains c=false∧lk 0 σ.t=some (.int .u8 c.toNat)∧lk 1 σ.t=some (.str set)∧lk 4 σ.t=some (.bool false)∧lk 5 σ.t=some (.int .i64 k)) (fun σ=>set.length - fA 5 σ) ⟨0,QA,rfl,rfl,rfl,rfl,rfl⟩ ?_;rintro⟨t,b⟩ ⟨k,hk,hc,h0,h1,h4,h5⟩;simp only at h0 h1 h4 h5;rw[ak h5];refine gN (zSc h0 (zSc h1 (zSc h4 h5))) ?_;refine⟨fun h=>?_,fun h=>?_⟩
 ·have hk':k<set.length:=by simpa using h
  rw[dG (n:=c.toNat) hk' c rfl];refine⟨QA,fun e=>?_,fun e=>⟨QA,⟨k+1,QA,?_,QB⟩,by rw[ak rfl];omega⟩⟩
  ·rw[show set.contains c=true from List.contains_iff_mem.2 (by rw[← beq_iff_eq.1 e];exact zSF hk')]
  ·apply Bool.eq_false_iff.2
   intro hh;rw[List.contains_iff_mem,zSn hk',List.mem_append]at hh;rcases hh with hh|hh
   ·exact absurd (List.contains_iff_mem.2 hh) (by rw[hc];simp)
   ·have hh:=List.mem_singleton.1 hh
    rw[← hh]at e;simp at e
 ·have:k=set.length:=by simp at h;omega
  subst this;rw[zSD]at hc;rw[hc]
theorem cD (s p:Bytes):PC QH 83 [.str s,.str p] (.bool (Lib.hasPrefix s p)):=by
 refine aU 3000 func83 rfl ntmps83 results83 call83 QB (by simp[flat,flat.ah]) (by simp[flat,flat.ah]) ?_;refine bw ?_;have e:Lib.hasPrefix s p=(s.take p.length==p):=by
  rw[zSO,Lib.hasPrefix,zSL,List.prefix_iff_eq_take,beq_iff_eq];exact eq_comm
 refine⟨fun h=>⟨by simp at h;omega,by rw[e]⟩,fun h=>?_⟩;rw[e,show (s.take p.length==p)=false from beq_eq_false_iff_ne.2 fun q=>by
  have:=congrArg List.length q
  simp at h this
  omega]
theorem bG (s set:Bytes)(hs:s.length≤4294967281)(ht:set.length≤4294967281):PC QH 34 [.str s,.str set] (.int .i64 (pre (set.contains ·) s)):=by
 refine aU 3000 func34 rfl ntmps34 results34 call34 QB (by simp[flat,flat.ah]) (by simp[flat,flat.ah]) ?_;refine bw ?_;refine ax (fun σ=>∃ k:Nat,k≤s.length∧k≤pre (set.contains ·) s∧lk 0 σ.t=some (.str s)∧lk 1 σ.t=some (.str set)∧lk 5 σ.t=some (.int .i64 k)) (fun σ=>s.length - fA 5 σ) ⟨0,QA,QA,rfl,rfl,rfl⟩ ?_;rintro⟨t,b⟩ ⟨k,hk,hc,h0,h1,h5⟩;simp only at h0 h1 h5;rw[ak h5];refine gN (zSc h0 (zSc h1 h5)) ?_;have gz:=cO (set.contains ·) s;refine⟨fun h=>?_,fun h=>?_⟩
 ·have hk':k<s.length:=by simpa using h
  have xS:=kV (s.getD k 0) set ht;refine⟨QA,?_⟩
  (refine aa (xS) ?_;refine gN (zSc h0 (zSc h1 h5)) ?_)
  rw[show s.getD k 0=s[k] by simp[List.getD,hk']];refine⟨fun e=>?_,fun e=>⟨QA,⟨k+1,QA,zm hk' hc e,QB⟩,by rw[ak rfl];omega⟩⟩;rw[DS hk' hc e]
 ·have:k=s.length:=by simp at h;omega
  rw[show pre (set.contains ·) s=s.length by omega]
theorem uI (s:Bytes)(hs:s.length≤4294967281):PC QH 90 [.str s] (.str (ep s)):=by
 refine aU 3000 func90 rfl ntmps90 results90 call90 QB (by simp[flat,flat.ah]) (by simp[flat,flat.ah]) ?_;refine bw ?_;refine⟨QA,ax (fun σ=>∃ k:Nat,k≤s.length∧cL s≤k∧lk 0 σ.t=some (.str s)∧lk 3 σ.t=some (.int .i64 ((k:Int) - 1))) (fun σ=>match lk 3 σ.t with|some (.int _ n)=>(n+1).toNat|_=>0) ⟨s.length,QA,ib s,rfl,rfl⟩ ?_⟩;rintro⟨t,b⟩ ⟨k,hk,hc,h0,h3⟩;simp only at h0 h3;refine gN (zSc h0 h3) ?_;refine⟨fun h=>?_,fun h=>?_⟩
 ·have kD:0<k:=by simp at h;omega
  obtain⟨k,rfl⟩:∃ m,k=m+1:=⟨k - 1,QA⟩;have e:(((k+1:Nat):Int) - 1).toNat=k:=QA;rw[e,dG (n:=47) QA 47 rfl];refine⟨QA,fun q=>⟨QA,?_⟩,fun q=>⟨QA,⟨k,QA,sZ QA hc (by simpa using q),?_⟩,QA⟩⟩
  ·rw[jl,vV QA hc (by simpa using q)];rfl
  ·congr 1;omega
 ·rw[jl,show cL s=0 by simp at h;omega]
  simp
theorem gv (s:Bytes)(hs:s.length≤4294967281):PC QH 37 [.str s] (.str (aS s)):=by
 refine aU 3000 func37 rfl ntmps37 results37 call37 QB (by simp[flat,flat.ah]) (by simp[flat,flat.ah]) ?_;refine bw ?_;refine ax (fun σ=>∃ (p o:Bytes) (f:Nat),lk 3 σ.t=some (.str p)∧lk 4 σ.t=some (.str o)∧p.length+o.length≤s.length∧p.length≤f∧fR f p o=aS s) (fun σ=>match lk 3 σ.t with|some (.str p)=>p.length|_=>0) ⟨s,[],s.length,rfl,rfl,QB,Nat.le_refl _,rfl⟩ ?_;rintro⟨t,b⟩ ⟨p,o,f,h3,h4,hlen,hf,iR⟩;simp only at h3 h4;refine gN (zSc h3 h4) ?_;have kE:p=[]→o=aS s:=fun hp=>by subst hp;cases f <;> simpa[fR] using iR
 refine⟨fun hp=>?_,fun hp=>?_⟩;rotate_left
 ·rw[kE (by simpa using hp)]
 replace hp:p≠[]:=by simpa using hp
 have gz:0<p.length:=zSN.2 hp;obtain⟨f,rfl⟩:∃ f',f=f'+1:=⟨f - 1,QA⟩;rw[fR,if_neg hp]at iR
 (refine aa (cD p [46,46,47]) ?_;refine gN (zSc h3 h4) ?_)
 refine⟨fun c1=>?_,fun c1=>?_⟩
 ·have h:=fP c1
  rw[show dF p o=(p.drop 3,o) from if_pos c1]at iR;exact⟨⟨QA,by simp at h;omega⟩,⟨_,_,f,rfl,rfl,QC,by simp at h ⊢;omega,iR⟩,by simp at h ⊢;omega⟩
 (refine aa (cD p [46,47]) ?_;refine gN (zSc h3 h4) ?_)
 refine⟨fun c2=>?_,fun c2=>?_⟩
 ·have h:=fP c2
  rw[show dF p o=(p.drop 2,o) by unfold dF;rw[if_neg (nj c1)];exact if_pos c2]at iR;exact⟨⟨QA,by simp at h;omega⟩,⟨_,_,f,rfl,rfl,QC,by simp at h ⊢;omega,iR⟩,by simp at h ⊢;omega⟩
 (refine aa (cD p [47,46,47]) ?_;refine gN (zSc h3 h4) ?_)
 refine⟨fun c3=>?_,fun c3=>?_⟩
 ·have h:=fP c3
  rw[show dF p o=(p.drop 2,o) by unfold dF;rw[if_neg (nj c1),if_neg (nj c2)];exact if_pos c3]at iR;exact⟨⟨QA,by simp at h;omega⟩,⟨_,_,f,rfl,rfl,QC,by simp at h ⊢;omega,iR⟩,by simp at h ⊢;omega⟩
 refine⟨fun c4=>?_,fun c4=>?_⟩
 ·have h:p=[47,46]:=by simpa using c4
  subst h;exact⟨⟨_,_,f,rfl,rfl,by simp at hlen ⊢;omega,by simp at hf ⊢;omega,iR⟩,QB⟩
 have n4:¬ p=[47,46]:=by simpa using c4
 have Mv:dF p o=if [47,46,46,47].isPrefixOf p then(p.drop 3,ep o)
  else if p=[47,46,46] then([47],ep o)
  else if p=[46]∨p=[46,46] then([],o)
  else(p.drop (1+pre (·==47) (p.drop 1)),o++p.take (1+pre (·==47) (p.drop 1))):=by
  unfold dF;rw[if_neg (nj c1),if_neg (nj c2),if_neg (nj c3),if_neg n4]
 rw[Mv]at iR;have fH:(ep o).length≤o.length:=by rw[jl,zSm];exact Nat.min_le_right _ _
 (refine aa (cD p [47,46,46,47]) ?_;refine gN (zSc h3 h4) ?_)
 refine⟨fun c5=>?_,fun c5=>?_⟩
 ·have h:=fP c5
  rw[if_pos (show List.isPrefixOf [47,46,46,47] p=true from c5)]at iR;refine⟨⟨QA,by simp at h;omega⟩,?_⟩;have pd:=uI o QA
  (refine aW (pd) ?_;refine gN (zSc h3 h4) ?_)
  exact⟨(ao QE),⟨_,_,f,rfl,rfl,QC,by simp at h ⊢;omega,iR⟩,by simp at h ⊢;omega⟩
 rw[if_neg (nj c5)]at iR;refine⟨fun c6=>?_,fun c6=>?_⟩
 ·have h:p=[47,46,46]:=by simpa using c6
  subst h;have pd:=uI o QA
  (refine aa (pd) ?_;refine gN (zSc h3 h4) ?_)
  exact⟨[47],ep o,f,rfl,rfl,by simp at hlen ⊢;omega,by simp at hf ⊢;omega,iR⟩
 rw[if_neg (show ¬ p=[47,46,46] by simpa using c6)]at iR;refine⟨fun c7=>⟨fun c8=>?_,fun c8=>?_⟩,fun c7=>?_⟩
 ·have h:p=[46,46]:=by simpa using c8
  subst h;exact⟨⟨_,_,f,rfl,rfl,by simp at hlen ⊢;omega,QB,iR⟩,QB⟩
 ·rw[if_neg (show ¬ (p=[46]∨p=[46,46]) by rintro(h|h) <;> subst h <;> simp at c7 c8)]at iR
  have px:=bG (p.drop 1) [47] QC QB;have hpe:pre (([47]:Bytes).contains ·) (p.drop 1)=pre (·==47) (p.drop 1):=by
   congr 1
   funext c
   by_cases h:c=47
   ·subst h;rfl
   ·simp[h]
  rw[hpe]at px;have hq:=cO (·==47) (p.drop 1);simp only[zSe]at hq;generalize pre (·==47) (p.drop 1)=q at px iR hq;refine⟨QA,?_⟩
  (refine aa (px) ?_;refine gN (zSc h3 h4) ?_)
  have e:(1+(q:Int)).toNat=1+q:=QA;have el:(p.take (1+q)).length=1+q:=by rw[zSm];omega
  rw[e];exact⟨QA,QA,QA,by rw[el];omega,(ao QE),⟨_,_,f,rfl,rfl,QC,QC,iR⟩,QC⟩
 ·have h:p=[46]:=by simpa using c7
  subst h;exact⟨⟨_,_,f,rfl,rfl,by simp at hlen ⊢;omega,QB,iR⟩,QB⟩
theorem jw (c:UInt8):PC QH 147 [.int .u8 c.toNat] (.bool (isAlpha c)):=by
 refine aU 3000 func147 rfl ntmps147 results147 call147 QB (by simp[flat,flat.ah]) (by simp[flat,flat.ah]) ?_;refine bw ?_;unfold isAlpha;by_cases h1:65≤c.toNat <;> by_cases h2:c.toNat≤90 <;> by_cases h3:97≤c.toNat <;> by_cases h4:c.toNat≤122 <;> simp[h1,h2,h3,h4] <;> omega
theorem fm (c:UInt8):PC QH 148 [.int .u8 c.toNat] (.bool (isDigit c)):=by
 refine aU 3000 func148 rfl ntmps148 results148 call148 QB (by simp[flat,flat.ah]) (by simp[flat,flat.ah]) ?_;refine bw ?_;unfold isDigit;by_cases h1:48≤c.toNat <;> by_cases h2:c.toNat≤57 <;> simp[h1,h2] <;> omega
theorem qF {s:Bytes}{k:Nat}(hk:k<s.length)(hr:k=0∨dI (s.take k)=true)(hc:isAlpha s[k]=true∨(0<k∧gJ s[k]=true)):k+1=0∨dI (s.take (k+1))=true:=by
 right
 rcases Nat.eq_zero_or_pos k with h0|h0
 ·subst h0
  rcases hc with hc|⟨hc,-⟩
  ·exact tc hk hc
  ·omega
 ·refine mO h0 hk (hr.resolve_left QA) ?_
  rcases hc with hc|⟨-,hc⟩
  ·simp[gJ,hc]
  ·exact hc
theorem uP {b:Bool}(h:(!b)=true):b=false:=by cases b <;> simp at h ⊢
theorem uQ {b:Bool}(h:(!b)=false):b=true:=by cases b <;> simp at h ⊢
theorem mU (s:Bytes)(hs:s.length≤4294967281):PC QH 82 [.str s] (.bool (dI s)):=by
 refine aU 3000 func82 rfl ntmps82 results82 call82 QB (by simp[flat,flat.ah]) (by simp[flat,flat.ah]) ?_;refine bw ?_;refine ax (fun σ=>∃ k:Nat,k≤s.length∧(k=0∨dI (s.take k)=true)∧lk 0 σ.t=some (.str s)∧lk 3 σ.t=some (.int .i64 k)) (fun σ=>s.length - fA 3 σ) ⟨0,QA,.inl rfl,rfl,rfl⟩ ?_;rintro⟨t,b⟩ ⟨k,hk,hr,h0,h3⟩;simp only at h0 h3;rw[ak h3];refine gN (zSc h0 h3) ?_;refine⟨fun h=>⟨by simpa using h,?_⟩,fun h=>?_⟩
 ·have hk':k<s.length:=by simpa using h
  rw[show s.getD k 0=s[k] by simp[List.getD,hk']]
  (refine aa (jw s[k]) ?_;refine gN (zSc h0 h3) ?_)
  refine⟨fun ca=>⟨fun c0=>?_,fun c0=>?_⟩,fun ca=>⟨QA,⟨k+1,QA,qF hk' hr (.inl (uQ ca)),QB⟩,by rw[ak rfl];omega⟩⟩
  ·rw[show s.getD k 0=s[k] by simp[List.getD,hk']]
   refine⟨QA,?_⟩
   (refine aa (fm s[k]) ?_;refine gN (zSc h0 h3) ?_)
   refine⟨fun cd=>⟨QA,?_⟩,fun cd=>?_⟩
   ·rw[show s.getD k 0=s[k] by simp[List.getD,hk']]
    (refine aa (kV s[k] [43,45,46] QB) ?_;refine gN (zSc h0 h3) ?_)
    refine⟨fun ci=>?_,fun ci=>⟨QA,⟨k+1,QA,qF hk' hr (.inr ⟨by simp at c0;omega,by unfold gJ;rw[uQ ci];simp⟩),QB⟩,by rw[ak rfl];omega⟩⟩;rw[Cn (by simp at c0;omega) hk' (by unfold gJ;rw[uP ca,uP cd,uP ci];rfl)]
   ·exact⟨QA,⟨k+1,QA,qF hk' hr (.inr ⟨by simp at c0;omega,by unfold gJ;rw[uQ cd];simp⟩),QB⟩,by rw[ak rfl];omega⟩
  ·have kD:k=0:=by simp at c0;omega
   subst kD;rw[su hk' (by simpa using ca)]
 ·rcases hr with hr|hr
  ·have:s=[]:=List.eq_nil_of_length_eq_zero (by simp at h;omega)
   subst this;rfl
  ·rw[List.take_of_length_le (by simp at h;omega)]at hr
   rw[hr];cases s with
   | nil=>simp[dI]at hr
   | cons=>rfl
def lU (b r:Uri):Bytes:=if b.bc∧b.path=[] then 47::r.path else b.path.take (cL b.path)++r.path
theorem Df (b r:Uri):gR b r=if r.path.head? = some 47 then r.path else lU b r:=rfl
theorem Gj (b r:Uri)(hb:b.path.length≤4294967281)(hr:r.path.length≤4294967281):PC QH 246 [mE b,mE r] (.str (lU b r)):=by
 (refine aU 3000 func246 rfl ntmps246 results246 call246 QB (by simp[flat,flat.ah,mE]) (by simp[flat,flat.ah,mE]) ?_
  unfold mE;refine bw ?_)
 refine⟨fun ha=>⟨fun hp=>⟨QA,?_⟩,fun hp=>?_⟩,fun ha=>?_⟩
 ·rw[lU,if_pos ⟨ha,by simpa using hp⟩]
 ·have tE:¬ (b.bc=true∧b.path=[]):=by rintro⟨-,h4⟩;simp[h4]at hp
  (
   refine⟨QA,ax (fun σ=>∃ k:Nat,k≤b.path.length∧cL b.path≤k∧lk 2 σ.t=some (.p 0 0)∧lk 3 σ.t=some (.p 1 0)∧lk 5 σ.t=some (.int .i64 ((k:Int) - 1))∧σ.b=[.cells [.str b.scheme,.str b.authority,.str b.path,.str b.query,.str b.fragment,.bool b.bU,.bool b.bc,.bool b.aJ,.bool b.a8] 82 true,.cells [.str r.scheme,.str r.authority,.str r.path,.str r.query,.str r.fragment,.bool r.bU,.bool r.bc,.bool r.aJ,.bool r.a8] 82 true]) (fun σ=>match lk 5 σ.t with|some (.int _ n)=>(n+1).toNat|_=>0) ⟨b.path.length,QA,ib _,rfl,rfl,rfl,rfl⟩ ?_⟩;rintro⟨t,bx⟩ ⟨k,hk,hc,h2,h3,h5,nU⟩;simp only at h2 h3 h5 nU;subst nU;refine gN (zSc h2 (zSc h3 h5)) ?_;rw[lU,if_neg tE];refine⟨fun h=>?_,fun h=>?_⟩
   ·have kD:0<k:=by simp at h;omega
    obtain⟨k,rfl⟩:∃ m,k=m+1:=⟨k - 1,QA⟩;have e:(((k+1:Nat):Int) - 1).toNat=k:=QA;have e2:(((k+1:Nat):Int) - 1+1).toNat=k+1:=QA;rw[e,dG (n:=47) QA 47 rfl];refine⟨QA,fun q=>?_,fun q=>?_⟩
    ·rw[e2,vV QA hc (by simpa using q)]
     exact⟨QA,QA,QC,(ao QE),rfl⟩
    ·exact⟨QA,⟨k,QA,sZ QA hc (by simpa using q),by congr 1;omega⟩,QA⟩
   ·rw[show cL b.path=0 by simp at h;omega]
    simp)
 ·have tE:¬ (b.bc=true∧b.path=[]):=by simp[ha]
  (
   refine⟨QA,ax (fun σ=>∃ k:Nat,k≤b.path.length∧cL b.path≤k∧lk 2 σ.t=some (.p 0 0)∧lk 3 σ.t=some (.p 1 0)∧lk 5 σ.t=some (.int .i64 ((k:Int) - 1))∧σ.b=[.cells [.str b.scheme,.str b.authority,.str b.path,.str b.query,.str b.fragment,.bool b.bU,.bool b.bc,.bool b.aJ,.bool b.a8] 82 true,.cells [.str r.scheme,.str r.authority,.str r.path,.str r.query,.str r.fragment,.bool r.bU,.bool r.bc,.bool r.aJ,.bool r.a8] 82 true]) (fun σ=>match lk 5 σ.t with|some (.int _ n)=>(n+1).toNat|_=>0) ⟨b.path.length,QA,ib _,rfl,rfl,rfl,rfl⟩ ?_⟩;rintro⟨t,bx⟩ ⟨k,hk,hc,h2,h3,h5,nU⟩;simp only at h2 h3 h5 nU;subst nU;refine gN (zSc h2 (zSc h3 h5)) ?_;rw[lU,if_neg tE];refine⟨fun h=>?_,fun h=>?_⟩
   ·have kD:0<k:=by simp at h;omega
    obtain⟨k,rfl⟩:∃ m,k=m+1:=⟨k - 1,QA⟩;have e:(((k+1:Nat):Int) - 1).toNat=k:=QA;have e2:(((k+1:Nat):Int) - 1+1).toNat=k+1:=QA;rw[e,dG (n:=47) QA 47 rfl];refine⟨QA,fun q=>?_,fun q=>?_⟩
    ·rw[e2,vV QA hc (by simpa using q)]
     exact⟨QA,QA,QC,(ao QE),rfl⟩
    ·exact⟨QA,⟨k,QA,sZ QA hc (by simpa using q),by congr 1;omega⟩,QA⟩
   ·rw[show cL b.path=0 by simp at h;omega]
    simp)
theorem DL (b r:Uri):(lU b r).length≤1+b.path.length+r.path.length:=by
 unfold lU;split
 ·simp;omega
 ·simp;omega
theorem DZ (b r:Uri)(hb:b.path.length≤2147480000)(hr:r.path.length≤2147480000):PC QH 200 [mE b,mE r] (mE (eI b r)):=by
 have hml:=DL b r;have pm:=Gj b r QA QA;unfold mE at pm
 (refine aU 3000 func200 rfl ntmps200 results200 call200 QB (by simp[flat,flat.ah,mE]) (by simp[flat,flat.ah,mE]) ?_
  unfold mE;refine bw ?_)
 generalize hR:eI b r=R;rw[eI]at hR;refine⟨fun h1=>?_,fun h1=>?_⟩
 ·rw[if_pos h1]at hR
  (refine aa (gv r.path QA) ?_;refine bw ?_)
  rw[← hR]
 rw[if_neg (by simpa using h1)]at hR;refine⟨fun h2=>?_,fun h2=>?_⟩
 ·rw[if_pos h2]at hR
  (refine aa (gv r.path QA) ?_;refine bw ?_)
  rw[← hR];exact⟨(ao QE),rfl⟩
 rw[if_neg (by simpa using h2)]at hR;refine⟨fun h3=>?_,fun h3=>?_⟩
 ·rw[if_pos (by simpa using h3)]at hR
  refine⟨fun h4=>?_,fun h4=>?_⟩
  ·rw[if_neg (by simpa using h4)]at hR
   rw[← hR];exact⟨(ao QE),(ao QE),(ao QE),rfl⟩
  ·rw[if_pos (by simpa using h4)]at hR
   rw[← hR];exact⟨(ao QE),(ao QE),rfl⟩
 ·rw[if_neg (by simpa using h3),Df]at hR
  (refine aa (pm) ?_;refine bw ?_)
  (refine aa (gv _ QA) ?_;refine bw ?_)
  have hp0:0<r.path.length:=zSN.2 (by simpa using h3);rw[show Int.toNat 0=0 from rfl,dG (n:=47) hp0 47 rfl];have hh:r.path.head? = some r.path[0]:=by rw[List.head?_eq_getElem?,zSk hp0]
  rw[hh]at hR;refine⟨QA,fun h4=>?_,fun h4=>?_⟩
  ·rw[if_pos (by rw[beq_iff_eq.1 h4])]at hR
   (refine aa (gv r.path QA) ?_;refine bw ?_)
   rw[← hR];exact⟨(ao QE),(ao QE),rfl⟩
  ·rw[if_neg (by simpa using h4)]at hR
   rw[← hR];exact⟨(ao QE),(ao QE),rfl⟩
theorem fL (c:UInt8)(s:Bytes):pre (([c]:Bytes).contains ·) s=pre (·==c) s:=by
 congr 1
 funext x
 by_cases h:x=c
 ·subst h;simp
 ·simp[h]
theorem LR (u:Uri)(h:u.scheme.length+u.authority.length+u.path.length+u.query.length+u.fragment.length≤4611686018427387904):PC QH 201 [mE u] (.str (fg u)):=by
 (refine aU 3000 func201 rfl ntmps201 results201 call201 QB (by simp[flat,flat.ah,mE]) (by simp[flat,flat.ah,mE]) ?_
  unfold mE;refine bw ?_)
 unfold fg;obtain⟨sc,au,pa,qu,fr,b1,b2,b3,b4⟩:=u;simp only at h ⊢;cases b1 <;> cases b2 <;> cases b3 <;> cases b4 <;> simp <;> omega
theorem dH {s:Bytes}(h:Lib.hasPrefix s [47,47]=true):aG s=((s.take (2+pre (·==47) (s.drop 2))).drop 2,true,s.drop (2+pre (·==47) (s.drop 2))):=by
 rw[ll h];have e:Lib.trimPrefix s [47,47]=s.drop 2:=by unfold Lib.trimPrefix;rw[if_pos h];rfl
 rw[e,List.drop_take,List.drop_drop];simp
theorem tp (s:Bytes):PC QH 32 [.str s] (.eh [mE (aP s).1,.int .i64 (aP s).2]):=by
 (refine aU 3000 func32 rfl ntmps32 results32 call32 QB (by simp[flat,flat.ah,mE]) (by simp[flat,flat.ah,mE]) ?_
  refine bw ?_)
 refine⟨fun h=>?_,fun h=>?_⟩
 ·have:aP s=(Uri.none,5):=if_pos (by simp at h;omega)
  rw[this];rfl
 ·have hq:aP s=aT (aL 63 (aL 35 s).1).1 (aL 35 s).2.1 (aL 63 (aL 35 s).1).2.1 (aL 35 s).2.2 (aL 63 (aL 35 s).1).2.2:=if_neg (by simp at h;omega)
  rw[hq];have hs:s.length≤4294967281:=by simp at h;omega
  have px:=bG s [35] hs QB;rw[fL]at px
  (refine aa (px) ?_;refine bw ?_)
  refine⟨fun cV=>?_,fun cV=>?_⟩
  ·have hk1':pre (·==35) s<s.length:=by simpa using cV
   rw[show aL 35 s=(s.take (pre (·==35) s),s.drop (pre (·==35) s+1),true) from if_pos hk1'];simp only;have u3:(s.take (pre (·==35) s)).length≤4294967281:=by rw[zSm];omega
   refine⟨QA,QA,QA,(ao QE),?_⟩;generalize s.take (pre (·==35) s)=s1 at u3 ⊢;generalize s.drop (pre (·==35) s+1)=fr
   (
    have px2:=bG s1 [63] QA QB;rw[fL]at px2
    (refine aa (px2) ?_;refine bw ?_)
    refine⟨fun bS=>?_,fun bS=>?_⟩
    ·have hk2':pre (·==63) s1<s1.length:=by simpa using bS
     rw[show aL 63 s1=(s1.take (pre (·==63) s1),s1.drop (pre (·==63) s1+1),true) from if_pos hk2'];simp only;have mF:(s1.take (pre (·==63) s1)).length≤4294967281:=by rw[zSm];omega
     refine⟨QA,QA,QA,(ao QE),?_⟩;generalize s1.take (pre (·==63) s1)=s2 at mF ⊢;generalize s1.drop (pre (·==63) s1+1)=qu
     (
      have px3:=bG s2 [58,47] QA QB;rw[show pre (([58,47]:Bytes).contains ·) s2=pre ay s2 from rfl]at px3
      (refine aa (px3) ?_;refine bw ?_)
      refine⟨fun eL=>?_,fun eL=>?_⟩
      ·have hp:pre ay s2<s2.length:=by simpa using eL
       rw[dG (n:=58) hp 58 rfl];refine⟨QA,fun h1=>⟨QA,?_⟩,fun h1=>?_⟩
       ·have hh:(s2.drop (pre ay s2)).head? = some 58:=by
         rw[zSs,zSk hp,beq_iff_eq.1 h1]
        (refine aa (mU _ (by rw[zSm];omega)) ?_;refine bw ?_)
        refine⟨fun h2=>?_,fun h2=>?_⟩
        ·have fI:∀ (f q:Bytes) (hf hq:Bool),aT s2 f q hf hq=(Uri.none,6):=fun f q hf hq=>by
          unfold aT;rw[if_pos hh,if_neg (by rw[uP h2];simp)]
         rw[fI];rfl
        ·have fI:∀ (f q:Bytes) (hf hq:Bool),aT s2 f q hf hq=(⟨s2.take (pre ay s2),(aG (s2.drop (pre ay s2+1))).1,(aG (s2.drop (pre ay s2+1))).2.2,q,f,true,(aG (s2.drop (pre ay s2+1))).2.1,hq,hf⟩,0):=fun f q hf hq=>by
          unfold aT;rw[if_pos hh,if_pos (uQ h2)]
         have Bb:(s2.drop (pre ay s2+1)).length≤4294967281:=by rw[zSe];omega
         refine⟨QA,QA,QA,(ao QE),?_⟩
         (
          (refine aa (cD (s2.drop (pre ay s2+1)) [47,47]) ?_;refine bw ?_)
          cases jz:Lib.hasPrefix (s2.drop (pre ay s2+1)) [47,47]
          ·refine⟨fun h=>(by cases h),fun _=>?_⟩
           rw[fI,dh jz];rfl
          ·refine⟨fun _=>?_,fun h=>(by cases h)⟩
           rw[fI,dH jz];have Ak:=fP jz;simp only[zSf,zSg]at Ak;have px4:=bG ((s2.drop (pre ay s2+1)).drop 2) [47] (by rw[zSe];omega) QB;rw[fL]at px4;have gz:=cO (·==47) ((s2.drop (pre ay s2+1)).drop 2);rw[zSe]at gz;generalize pre (·==47) ((s2.drop (pre ay s2+1)).drop 2)=q at px4 gz ⊢;refine⟨QA,?_⟩
           (refine aa (px4) ?_;refine bw ?_)
           rw[show (2+(q:Int)).toNat=2+q by omega];exact⟨QA,QA,QA,(ao QE),rfl⟩)
       ·have fI:∀ (f q:Bytes) (hf hq:Bool),aT s2 f q hf hq=(⟨[],(aG s2).1,(aG s2).2.2,q,f,false,(aG s2).2.1,hq,hf⟩,0):=fun f q hf hq=>by
         unfold aT;rw[if_neg (by rw[zSs,zSk hp];simpa using h1)]
        have Bb:=mF
        (
         (refine aa (cD (s2) [47,47]) ?_;refine bw ?_)
         cases jz:Lib.hasPrefix (s2) [47,47]
         ·refine⟨fun h=>(by cases h),fun _=>?_⟩
          rw[fI,dh jz];rfl
         ·refine⟨fun _=>?_,fun h=>(by cases h)⟩
          rw[fI,dH jz];have Ak:=fP jz;simp only[zSf,zSg]at Ak;have px4:=bG ((s2).drop 2) [47] (by rw[zSe];omega) QB;rw[fL]at px4;have gz:=cO (·==47) ((s2).drop 2);rw[zSe]at gz;generalize pre (·==47) ((s2).drop 2)=q at px4 gz ⊢;refine⟨QA,?_⟩
          (refine aa (px4) ?_;refine bw ?_)
          rw[show (2+(q:Int)).toNat=2+q by omega];exact⟨QA,QA,QA,(ao QE),rfl⟩)
      ·have fI:∀ (f q:Bytes) (hf hq:Bool),aT s2 f q hf hq=(⟨[],(aG s2).1,(aG s2).2.2,q,f,false,(aG s2).2.1,hq,hf⟩,0):=fun f q hf hq=>by
        unfold aT;rw[if_neg (by rw[zSE (by simp at eL;omega)];simp)]
       have Bb:=mF
       (
        (refine aa (cD (s2) [47,47]) ?_;refine bw ?_)
        cases jz:Lib.hasPrefix (s2) [47,47]
        ·refine⟨fun h=>(by cases h),fun _=>?_⟩
         rw[fI,dh jz];rfl
        ·refine⟨fun _=>?_,fun h=>(by cases h)⟩
         rw[fI,dH jz];have Ak:=fP jz;simp only[zSf,zSg]at Ak;have px4:=bG ((s2).drop 2) [47] (by rw[zSe];omega) QB;rw[fL]at px4;have gz:=cO (·==47) ((s2).drop 2);rw[zSe]at gz;generalize pre (·==47) ((s2).drop 2)=q at px4 gz ⊢;refine⟨QA,?_⟩
         (refine aa (px4) ?_;refine bw ?_)
         rw[show (2+(q:Int)).toNat=2+q by omega];exact⟨QA,QA,QA,(ao QE),rfl⟩))
    ·have hk2':¬ pre (·==63) s1<s1.length:=by simpa using bS
     rw[show aL 63 s1=(s1,[],false) from if_neg hk2'];simp only;have mF:s1.length≤4294967281:=u3;generalize s1=s2 at mF ⊢
     (
      have px3:=bG s2 [58,47] QA QB;rw[show pre (([58,47]:Bytes).contains ·) s2=pre ay s2 from rfl]at px3
      (refine aa (px3) ?_;refine bw ?_)
      refine⟨fun eL=>?_,fun eL=>?_⟩
      ·have hp:pre ay s2<s2.length:=by simpa using eL
       rw[dG (n:=58) hp 58 rfl];refine⟨QA,fun h1=>⟨QA,?_⟩,fun h1=>?_⟩
       ·have hh:(s2.drop (pre ay s2)).head? = some 58:=by
         rw[zSs,zSk hp,beq_iff_eq.1 h1]
        (refine aa (mU _ (by rw[zSm];omega)) ?_;refine bw ?_)
        refine⟨fun h2=>?_,fun h2=>?_⟩
        ·have fI:∀ (f q:Bytes) (hf hq:Bool),aT s2 f q hf hq=(Uri.none,6):=fun f q hf hq=>by
          unfold aT;rw[if_pos hh,if_neg (by rw[uP h2];simp)]
         rw[fI];rfl
        ·have fI:∀ (f q:Bytes) (hf hq:Bool),aT s2 f q hf hq=(⟨s2.take (pre ay s2),(aG (s2.drop (pre ay s2+1))).1,(aG (s2.drop (pre ay s2+1))).2.2,q,f,true,(aG (s2.drop (pre ay s2+1))).2.1,hq,hf⟩,0):=fun f q hf hq=>by
          unfold aT;rw[if_pos hh,if_pos (uQ h2)]
         have Bb:(s2.drop (pre ay s2+1)).length≤4294967281:=by rw[zSe];omega
         refine⟨QA,QA,QA,(ao QE),?_⟩
         (
          (refine aa (cD (s2.drop (pre ay s2+1)) [47,47]) ?_;refine bw ?_)
          cases jz:Lib.hasPrefix (s2.drop (pre ay s2+1)) [47,47]
          ·refine⟨fun h=>(by cases h),fun _=>?_⟩
           rw[fI,dh jz];rfl
          ·refine⟨fun _=>?_,fun h=>(by cases h)⟩
           rw[fI,dH jz];have Ak:=fP jz;simp only[zSf,zSg]at Ak;have px4:=bG ((s2.drop (pre ay s2+1)).drop 2) [47] (by rw[zSe];omega) QB;rw[fL]at px4;have gz:=cO (·==47) ((s2.drop (pre ay s2+1)).drop 2);rw[zSe]at gz;generalize pre (·==47) ((s2.drop (pre ay s2+1)).drop 2)=q at px4 gz ⊢;refine⟨QA,?_⟩
           (refine aa (px4) ?_;refine bw ?_)
           rw[show (2+(q:Int)).toNat=2+q by omega];exact⟨QA,QA,QA,(ao QE),rfl⟩)
       ·have fI:∀ (f q:Bytes) (hf hq:Bool),aT s2 f q hf hq=(⟨[],(aG s2).1,(aG s2).2.2,q,f,false,(aG s2).2.1,hq,hf⟩,0):=fun f q hf hq=>by
         unfold aT;rw[if_neg (by rw[zSs,zSk hp];simpa using h1)]
        have Bb:=mF
        (
         (refine aa (cD (s2) [47,47]) ?_;refine bw ?_)
         cases jz:Lib.hasPrefix (s2) [47,47]
         ·refine⟨fun h=>(by cases h),fun _=>?_⟩
          rw[fI,dh jz];rfl
         ·refine⟨fun _=>?_,fun h=>(by cases h)⟩
          rw[fI,dH jz];have Ak:=fP jz;simp only[zSf,zSg]at Ak;have px4:=bG ((s2).drop 2) [47] (by rw[zSe];omega) QB;rw[fL]at px4;have gz:=cO (·==47) ((s2).drop 2);rw[zSe]at gz;generalize pre (·==47) ((s2).drop 2)=q at px4 gz ⊢;refine⟨QA,?_⟩
          (refine aa (px4) ?_;refine bw ?_)
          rw[show (2+(q:Int)).toNat=2+q by omega];exact⟨QA,QA,QA,(ao QE),rfl⟩)
      ·have fI:∀ (f q:Bytes) (hf hq:Bool),aT s2 f q hf hq=(⟨[],(aG s2).1,(aG s2).2.2,q,f,false,(aG s2).2.1,hq,hf⟩,0):=fun f q hf hq=>by
        unfold aT;rw[if_neg (by rw[zSE (by simp at eL;omega)];simp)]
       have Bb:=mF
       (
        (refine aa (cD (s2) [47,47]) ?_;refine bw ?_)
        cases jz:Lib.hasPrefix (s2) [47,47]
        ·refine⟨fun h=>(by cases h),fun _=>?_⟩
         rw[fI,dh jz];rfl
        ·refine⟨fun _=>?_,fun h=>(by cases h)⟩
         rw[fI,dH jz];have Ak:=fP jz;simp only[zSf,zSg]at Ak;have px4:=bG ((s2).drop 2) [47] (by rw[zSe];omega) QB;rw[fL]at px4;have gz:=cO (·==47) ((s2).drop 2);rw[zSe]at gz;generalize pre (·==47) ((s2).drop 2)=q at px4 gz ⊢;refine⟨QA,?_⟩
         (refine aa (px4) ?_;refine bw ?_)
         rw[show (2+(q:Int)).toNat=2+q by omega];exact⟨QA,QA,QA,(ao QE),rfl⟩)))
  ·have hk1':¬ pre (·==35) s<s.length:=by simpa using cV
   rw[show aL 35 s=(s,[],false) from if_neg hk1'];simp only;have u3:s.length≤4294967281:=hs;generalize s=s1 at u3 ⊢
   (
    have px2:=bG s1 [63] QA QB;rw[fL]at px2
    (refine aa (px2) ?_;refine bw ?_)
    refine⟨fun bS=>?_,fun bS=>?_⟩
    ·have hk2':pre (·==63) s1<s1.length:=by simpa using bS
     rw[show aL 63 s1=(s1.take (pre (·==63) s1),s1.drop (pre (·==63) s1+1),true) from if_pos hk2'];simp only;have mF:(s1.take (pre (·==63) s1)).length≤4294967281:=by rw[zSm];omega
     refine⟨QA,QA,QA,(ao QE),?_⟩;generalize s1.take (pre (·==63) s1)=s2 at mF ⊢;generalize s1.drop (pre (·==63) s1+1)=qu
     (
      have px3:=bG s2 [58,47] QA QB;rw[show pre (([58,47]:Bytes).contains ·) s2=pre ay s2 from rfl]at px3
      (refine aa (px3) ?_;refine bw ?_)
      refine⟨fun eL=>?_,fun eL=>?_⟩
      ·have hp:pre ay s2<s2.length:=by simpa using eL
       rw[dG (n:=58) hp 58 rfl];refine⟨QA,fun h1=>⟨QA,?_⟩,fun h1=>?_⟩
       ·have hh:(s2.drop (pre ay s2)).head? = some 58:=by
         rw[zSs,zSk hp,beq_iff_eq.1 h1]
        (refine aa (mU _ (by rw[zSm];omega)) ?_;refine bw ?_)
        refine⟨fun h2=>?_,fun h2=>?_⟩
        ·have fI:∀ (f q:Bytes) (hf hq:Bool),aT s2 f q hf hq=(Uri.none,6):=fun f q hf hq=>by
          unfold aT;rw[if_pos hh,if_neg (by rw[uP h2];simp)]
         rw[fI];rfl
        ·have fI:∀ (f q:Bytes) (hf hq:Bool),aT s2 f q hf hq=(⟨s2.take (pre ay s2),(aG (s2.drop (pre ay s2+1))).1,(aG (s2.drop (pre ay s2+1))).2.2,q,f,true,(aG (s2.drop (pre ay s2+1))).2.1,hq,hf⟩,0):=fun f q hf hq=>by
          unfold aT;rw[if_pos hh,if_pos (uQ h2)]
         have Bb:(s2.drop (pre ay s2+1)).length≤4294967281:=by rw[zSe];omega
         refine⟨QA,QA,QA,(ao QE),?_⟩
         (
          (refine aa (cD (s2.drop (pre ay s2+1)) [47,47]) ?_;refine bw ?_)
          cases jz:Lib.hasPrefix (s2.drop (pre ay s2+1)) [47,47]
          ·refine⟨fun h=>(by cases h),fun _=>?_⟩
           rw[fI,dh jz];rfl
          ·refine⟨fun _=>?_,fun h=>(by cases h)⟩
           rw[fI,dH jz];have Ak:=fP jz;simp only[zSf,zSg]at Ak;have px4:=bG ((s2.drop (pre ay s2+1)).drop 2) [47] (by rw[zSe];omega) QB;rw[fL]at px4;have gz:=cO (·==47) ((s2.drop (pre ay s2+1)).drop 2);rw[zSe]at gz;generalize pre (·==47) ((s2.drop (pre ay s2+1)).drop 2)=q at px4 gz ⊢;refine⟨QA,?_⟩
           (refine aa (px4) ?_;refine bw ?_)
           rw[show (2+(q:Int)).toNat=2+q by omega];exact⟨QA,QA,QA,(ao QE),rfl⟩)
       ·have fI:∀ (f q:Bytes) (hf hq:Bool),aT s2 f q hf hq=(⟨[],(aG s2).1,(aG s2).2.2,q,f,false,(aG s2).2.1,hq,hf⟩,0):=fun f q hf hq=>by
         unfold aT;rw[if_neg (by rw[zSs,zSk hp];simpa using h1)]
        have Bb:=mF
        (
         (refine aa (cD (s2) [47,47]) ?_;refine bw ?_)
         cases jz:Lib.hasPrefix (s2) [47,47]
         ·refine⟨fun h=>(by cases h),fun _=>?_⟩
          rw[fI,dh jz];rfl
         ·refine⟨fun _=>?_,fun h=>(by cases h)⟩
          rw[fI,dH jz];have Ak:=fP jz;simp only[zSf,zSg]at Ak;have px4:=bG ((s2).drop 2) [47] (by rw[zSe];omega) QB;rw[fL]at px4;have gz:=cO (·==47) ((s2).drop 2);rw[zSe]at gz;generalize pre (·==47) ((s2).drop 2)=q at px4 gz ⊢;refine⟨QA,?_⟩
          (refine aa (px4) ?_;refine bw ?_)
          rw[show (2+(q:Int)).toNat=2+q by omega];exact⟨QA,QA,QA,(ao QE),rfl⟩)
      ·have fI:∀ (f q:Bytes) (hf hq:Bool),aT s2 f q hf hq=(⟨[],(aG s2).1,(aG s2).2.2,q,f,false,(aG s2).2.1,hq,hf⟩,0):=fun f q hf hq=>by
        unfold aT;rw[if_neg (by rw[zSE (by simp at eL;omega)];simp)]
       have Bb:=mF
       (
        (refine aa (cD (s2) [47,47]) ?_;refine bw ?_)
        cases jz:Lib.hasPrefix (s2) [47,47]
        ·refine⟨fun h=>(by cases h),fun _=>?_⟩
         rw[fI,dh jz];rfl
        ·refine⟨fun _=>?_,fun h=>(by cases h)⟩
         rw[fI,dH jz];have Ak:=fP jz;simp only[zSf,zSg]at Ak;have px4:=bG ((s2).drop 2) [47] (by rw[zSe];omega) QB;rw[fL]at px4;have gz:=cO (·==47) ((s2).drop 2);rw[zSe]at gz;generalize pre (·==47) ((s2).drop 2)=q at px4 gz ⊢;refine⟨QA,?_⟩
         (refine aa (px4) ?_;refine bw ?_)
         rw[show (2+(q:Int)).toNat=2+q by omega];exact⟨QA,QA,QA,(ao QE),rfl⟩))
    ·have hk2':¬ pre (·==63) s1<s1.length:=by simpa using bS
     rw[show aL 63 s1=(s1,[],false) from if_neg hk2'];simp only;have mF:s1.length≤4294967281:=u3;generalize s1=s2 at mF ⊢
     (
      have px3:=bG s2 [58,47] QA QB;rw[show pre (([58,47]:Bytes).contains ·) s2=pre ay s2 from rfl]at px3
      (refine aa (px3) ?_;refine bw ?_)
      refine⟨fun eL=>?_,fun eL=>?_⟩
      ·have hp:pre ay s2<s2.length:=by simpa using eL
       rw[dG (n:=58) hp 58 rfl];refine⟨QA,fun h1=>⟨QA,?_⟩,fun h1=>?_⟩
       ·have hh:(s2.drop (pre ay s2)).head? = some 58:=by
         rw[zSs,zSk hp,beq_iff_eq.1 h1]
        (refine aa (mU _ (by rw[zSm];omega)) ?_;refine bw ?_)
        refine⟨fun h2=>?_,fun h2=>?_⟩
        ·have fI:∀ (f q:Bytes) (hf hq:Bool),aT s2 f q hf hq=(Uri.none,6):=fun f q hf hq=>by
          unfold aT;rw[if_pos hh,if_neg (by rw[uP h2];simp)]
         rw[fI];rfl
        ·have fI:∀ (f q:Bytes) (hf hq:Bool),aT s2 f q hf hq=(⟨s2.take (pre ay s2),(aG (s2.drop (pre ay s2+1))).1,(aG (s2.drop (pre ay s2+1))).2.2,q,f,true,(aG (s2.drop (pre ay s2+1))).2.1,hq,hf⟩,0):=fun f q hf hq=>by
          unfold aT;rw[if_pos hh,if_pos (uQ h2)]
         have Bb:(s2.drop (pre ay s2+1)).length≤4294967281:=by rw[zSe];omega
         refine⟨QA,QA,QA,(ao QE),?_⟩
         (
          (refine aa (cD (s2.drop (pre ay s2+1)) [47,47]) ?_;refine bw ?_)
          cases jz:Lib.hasPrefix (s2.drop (pre ay s2+1)) [47,47]
          ·refine⟨fun h=>(by cases h),fun _=>?_⟩
           rw[fI,dh jz];rfl
          ·refine⟨fun _=>?_,fun h=>(by cases h)⟩
           rw[fI,dH jz];have Ak:=fP jz;simp only[zSf,zSg]at Ak;have px4:=bG ((s2.drop (pre ay s2+1)).drop 2) [47] (by rw[zSe];omega) QB;rw[fL]at px4;have gz:=cO (·==47) ((s2.drop (pre ay s2+1)).drop 2);rw[zSe]at gz;generalize pre (·==47) ((s2.drop (pre ay s2+1)).drop 2)=q at px4 gz ⊢;refine⟨QA,?_⟩
           (refine aa (px4) ?_;refine bw ?_)
           rw[show (2+(q:Int)).toNat=2+q by omega];exact⟨QA,QA,QA,(ao QE),rfl⟩)
       ·have fI:∀ (f q:Bytes) (hf hq:Bool),aT s2 f q hf hq=(⟨[],(aG s2).1,(aG s2).2.2,q,f,false,(aG s2).2.1,hq,hf⟩,0):=fun f q hf hq=>by
         unfold aT;rw[if_neg (by rw[zSs,zSk hp];simpa using h1)]
        have Bb:=mF
        (
         (refine aa (cD (s2) [47,47]) ?_;refine bw ?_)
         cases jz:Lib.hasPrefix (s2) [47,47]
         ·refine⟨fun h=>(by cases h),fun _=>?_⟩
          rw[fI,dh jz];rfl
         ·refine⟨fun _=>?_,fun h=>(by cases h)⟩
          rw[fI,dH jz];have Ak:=fP jz;simp only[zSf,zSg]at Ak;have px4:=bG ((s2).drop 2) [47] (by rw[zSe];omega) QB;rw[fL]at px4;have gz:=cO (·==47) ((s2).drop 2);rw[zSe]at gz;generalize pre (·==47) ((s2).drop 2)=q at px4 gz ⊢;refine⟨QA,?_⟩
          (refine aa (px4) ?_;refine bw ?_)
          rw[show (2+(q:Int)).toNat=2+q by omega];exact⟨QA,QA,QA,(ao QE),rfl⟩)
      ·have fI:∀ (f q:Bytes) (hf hq:Bool),aT s2 f q hf hq=(⟨[],(aG s2).1,(aG s2).2.2,q,f,false,(aG s2).2.1,hq,hf⟩,0):=fun f q hf hq=>by
        unfold aT;rw[if_neg (by rw[zSE (by simp at eL;omega)];simp)]
       have Bb:=mF
       (
        (refine aa (cD (s2) [47,47]) ?_;refine bw ?_)
        cases jz:Lib.hasPrefix (s2) [47,47]
        ·refine⟨fun h=>(by cases h),fun _=>?_⟩
         rw[fI,dh jz];rfl
        ·refine⟨fun _=>?_,fun h=>(by cases h)⟩
         rw[fI,dH jz];have Ak:=fP jz;simp only[zSf,zSg]at Ak;have px4:=bG ((s2).drop 2) [47] (by rw[zSe];omega) QB;rw[fL]at px4;have gz:=cO (·==47) ((s2).drop 2);rw[zSe]at gz;generalize pre (·==47) ((s2).drop 2)=q at px4 gz ⊢;refine⟨QA,?_⟩
         (refine aa (px4) ?_;refine bw ?_)
         rw[show (2+(q:Int)).toNat=2+q by omega];exact⟨QA,QA,QA,(ao QE),rfl⟩)))
theorem oZ (c:UInt8):PC QH 151 [.int .u8 c.toNat] (.bool (aR c)) :=
 ⟨call151,by simp[flat,flat.ah],by simp[flat,flat.ah],fun w _=>(F6 c w).mono fun _ _ ⟨h,k⟩=>⟨h,cG k⟩⟩
theorem eG (c:UInt8):PC QH 87 [.int .u8 c.toNat] (.bool (iu c)):=by
 refine aU 3000 func87 rfl ntmps87 results87 call87 QB (by simp[flat,flat.ah]) (by simp[flat,flat.ah]) ?_;refine bw ?_
 (refine aa (jw c) ?_;refine bw ?_)
 refine⟨fun h=>?_,fun h=>?_⟩
 ·(refine aa (fm c) ?_;refine bw ?_)
  refine⟨fun h2=>?_,fun h2=>?_⟩
  ·(refine aa (kV c [45,46,95,126] QB) ?_;refine bw ?_)
   unfold iu;rw[h,h2];rfl
  ·unfold iu;rw[h,h2];rfl
 ·unfold iu;rw[h];rfl
theorem zw (c:UInt8)(hc:aR c=true):PC QH 152 [.int .u8 c.toNat] (.int .u8 (bo c)):=by
 have key:=du (p:=fun c=>!aR c||(decide ((c.toNat≤57→IntKind.u8.wrap ((c.toNat:Int) - 48)=bo c)∧(57<c.toNat→c.toNat≤70→IntKind.u8.wrap (IntKind.u8.wrap ((c.toNat:Int) - 65)+10)=bo c)∧(70<c.toNat→IntKind.u8.wrap (IntKind.u8.wrap ((c.toNat:Int) - 97)+10)=bo c)))) (by decide +kernel) c;simp only[hc,Bool.not_true,Bool.false_or,decide_eq_true_eq]at key;obtain⟨k1,k2,k3⟩:=key;refine aU 3000 func152 rfl ntmps152 results152 call152 QB (by simp[flat,flat.ah]) (by simp[flat,flat.ah]) ?_;refine bw ?_;refine⟨fun h=>?_,fun h=>⟨fun h2=>?_,fun h2=>?_⟩⟩
 ·rw[k1 (by simp at h;omega)]
 ·rw[k2 (by simp at h;omega) (by simp at h2;omega)]
 ·rw[k3 (by simp at h2;omega)]
theorem Fh (a b:UInt8)(ha:aR a=true)(hb:aR b=true):IntKind.u8.wrap (IntKind.u8.wrap (16 * (bo a:Int))+bo b)=((unhex a b).toNat:Int):=by
 have h1:=iY ha;have h2:=iY hb;have:∀ x,x<16→∀ y,y<16→IntKind.u8.wrap (IntKind.u8.wrap (16 * ((x:Nat):Int))+(y:Nat))=(((x * 16+y).toUInt8).toNat:Int):=by decide +kernel
 exact this _ QA _ QA
theorem xC (s:Bytes)(i:Nat)(hi:i<s.length)(hp:s[i]=37)(hs:s.length≤4294967281):PC QH 88 [.str s,.int .i64 i] (.eh [.int .u8 (((nw s i).getD 0).toNat:Int),.bool (nw s i).isSome]):=by
 have hg:((s.getD i 0).toNat:Int)=37:=by rw[show s.getD i 0=37 by rw[← hp];simp[List.getD,hi]];rfl
 refine aU 3000 func88 rfl ntmps88 results88 call88 QB (by simp[flat,flat.ah]) (by simp[flat,flat.ah]) ?_;simp (config := { maxSteps := 2000000 }) only[bJ,↓Xn,↓Xo,↓Xg,↓Xd,↓Xe,↓Xf,Tryz.VΓ,Tryz.Γs,Xp,Xi,Nat.reduceAdd,Nat.reduceSub,Nat.reduceLT,Nat.reduceLeDiff,reduceIte,reduceCtorEq,Nat.reduceEqDiff,implies_true,forall_const,bI,hg,zSy,beq_self_eq_true,bne_self_eq_false,Int.reduceBEq,Int.reduceBNe,Int.reduceLT,Int.reduceLE]
 unfold nw;rw[vd];refine⟨⟨QA,QA⟩,fun hl=>?_,fun hl=>?_⟩
 ·have hl:i+2<s.length:=(by simp at hl;omega)
  rw[if_pos hl];refine⟨⟨QA,QA⟩,⟨QA,QA⟩,⟨QA,QA⟩,?_⟩
  ·skip
   (refine aa (oZ _) ?_;refine bw ?_)
   refine⟨fun ha=>⟨⟨QA,QA⟩,⟨QA,QA⟩,?_⟩,fun ha=>?_⟩
   ·have ha:aR (s.getD (i+1) 0)=true:=by simpa using ha
    (refine aa (oZ _) ?_;refine bw ?_)
    refine⟨fun hb=>?_,fun hb=>⟨⟨QA,QA⟩,⟨QA,QA⟩,?_⟩⟩
    ·have hb:aR (s.getD (i+2) 0)=false:=by simpa using hb
     rw[ha,hb];rfl
    ·have hb:aR (s.getD (i+2) 0)=true:=by simpa using hb
     (refine aW (zw _ ha) ?_;refine bw ?_)
     refine⟨⟨QA,QA⟩,⟨QA,QA⟩,?_⟩
     (refine aW (zw _ hb) ?_;refine bw ?_)
     refine⟨(ao QE),?_⟩;rw[Fh _ _ ha hb,ha,hb];rfl
   ·have ha:aR (s.getD (i+1) 0)=false:=by simpa using ha
    rw[ha];rfl
 ·have hl:¬ i+2<s.length:=(by simp at hl;omega)
  rw[if_neg hl];rfl
theorem mV (c:UInt8):PC QH 89 [.int .u8 c.toNat] (.str (nP c)):=by
 have hc:=c.toNat_lt;have d1:=yK (c.toNat / 16) QA;have d2:=yK (c.toNat % 16) QA;have key:=du (p:=fun c=>decide (j0 .quo .u8 (c.toNat:Int) 16=((c.toNat / 16:Nat):Int)∧j0 .rem .u8 (c.toNat:Int) 16=((c.toNat % 16:Nat):Int))) (by decide +kernel) c;obtain⟨s1,s2⟩:=of_decide_eq_true key;have ec:=C6 c;have e1:([.int .u8 37,.int .u8 ((jH (c.toNat / 16)).toNat:Int),.int .u8 ((jH (c.toNat % 16)).toNat:Int)]:List SV).map vP=nP c:=by rw[← ec,lH]
 refine aU 3000 func89 rfl ntmps89 results89 call89 QB (by simp[flat,flat.ah]) (by simp[flat,flat.ah]) ?_;refine gN (zSc s1 (zSc s2 (zSc zSy (zSc d1 d2)))) ?_;have e2:([.int .u8 37,.int .u8 ((jH (c.toNat / 16)).toNat:Int),.int .u8 ((jH (c.toNat % 16)).toNat:Int)]:List SV).all BE=true:=by rw[← ec,gw]
 simp only[zSM,zSJ]at e1;simp only[List.all_cons,List.all_nil,Bool.and_true]at e2;exact⟨by decide,⟨QA,QA⟩,by decide,⟨QA,QA⟩,QA,e2,(ao QE),by rw[e1]⟩
def RnI (also s:Bytes)(σ:St):Prop:=∃ (i:Nat) (x:SV) (d:Bytes),lk 0 σ.t=some (.str s)∧lk 1 σ.t=some (.str also)∧lk 6 σ.t=some x∧lk 7 σ.t=some (.int .i64 i)∧i≤s.length∧d.length≤3 * i∧Sl 5 1 0 x σ.b (d.map eb) d.length∧comb d (cg also (aI (s.drop i)))=cg also (aI s)
theorem xy {also s:Bytes}{t:List (Nat × SV)}{b:List aq}{i i':Nat}{x:SV}{d:Bytes}(h0:lk 0 t=some (.str s))(h1:lk 1 t=some (.str also))(h6:lk 6 t=some x)(h7:lk 7 t=some (.int .i64 i'))(h:i'≤s.length∧d.length≤3 * i')(ht:Sl 5 1 0 x b (d.map eb) d.length)
 (hn:comb d (cg also (aI (s.drop i')))=cg also (aI s)) (az:i<i'):RnI also s ⟨t,b⟩∧NoM s ⟨t,b⟩<s.length - i :=
 ⟨⟨i',x,d,h0,h1,h6,h7,h.1,h.2,ht,hn⟩,by rw[EX h7];omega⟩
theorem jv (s also:Bytes)(ha:also.length≤1000):PC QH 36 [.str s,.str also] (.eh [.str (bM also s).1,.int .i64 (bM also s).2]):=by
 refine aU 3000 func36 rfl ntmps36 results36 call36 QB (by simp[flat,flat.ah]) (by simp[flat,flat.ah]) ?_;refine bw ?_;unfold bM;refine⟨fun hl=>?_,fun hl=>?_⟩
 ·have hl:16384<s.length:=(by simp at hl;omega)
  rw[if_pos hl]
 have hl:s.length≤16384:=(by simp at hl;omega);rw[if_neg QA];refine ax (RnI also s) (NoM s) ⟨0,.ai,[],rfl,rfl,rfl,rfl,QA,QB,.inl ⟨rfl,rfl,rfl⟩,AL _ (CC also _)⟩ ?_;rintro⟨t,b⟩ ⟨i,x,d,h0,h1,h6,h7,hi,hd,ht,hn⟩;simp only at h0 h1 h6 h7 ht;rw[EX h7];by_cases az:i<s.length
 ·have hu:=sV az
  have hg:s.getD i 0=s[i]:=by simp[List.getD,az]
  refine gN (zSc h0 (zSc h1 (zSc h6 h7))) ?_;refine⟨fun _=>⟨⟨QA,QA⟩,fun hc=>⟨⟨QA,QA⟩,?_⟩,fun hc=>?_⟩,fun h=>absurd h QC⟩
  ·have hc:¬ s[i]=37:=by
    intro e;rw[hg,e]at hc;simp at hc
   rw[if_neg hc]at hu;rw[hu,cg]at hn;rw[hg];have jG:fG also s[i]=true→comb (d++[s[i]]) (cg also (aI (s.drop (i+1))))=cg also (aI s):=fun hk=>by
    rw[← hn,if_pos hk,lE]
   (refine aa (eG s[i]) ?_;refine gN (zSc h0 (zSc h1 (zSc h6 (zSc h7 hg)))) ?_)
   refine⟨fun hq=>⟨⟨QA,QA⟩,?_⟩,fun hq=>⟨⟨QA,QA⟩,?_⟩⟩
   ·have hq:=uP hq
    (refine aa (kV s[i] also QA) ?_;refine gN (zSc h0 (zSc h1 (zSc h6 (zSc h7 hg)))) ?_)
    refine⟨fun p7=>?_,fun p7=>⟨⟨QA,QA⟩,?_⟩⟩
    ·have p7:=uP p7
     have hk:¬ fG also s[i]=true:=by unfold fG;rw[hq,p7];simp
     rw[if_neg hk]at hn;have om:cg also (aI s)=([],1):=by rw[← hn];rfl
     rw[om]
    ·have p7:=uQ p7
     have hk:fG also s[i]=true:=by unfold fG;rw[p7];simp
     (rcases ht with⟨rfl,kn,kj⟩|⟨j,rfl,mG,hj⟩
      ·obtain rfl:d=[]:=by simpa using kn
       refine gN (zSc h0 (zSc h1 (zSc h6 (zSc h7 (zSc hg @aB))))) ?_;refine⟨QA,⟨by unfold maxLen;omega,QA⟩,⟨QA,QA⟩,xy (i':=i+1) (x:=.o (b++[aq.own [eb (s[i])] 5 1 1 true]).length 1) (d:=[]++[s[i]]) h0 h1 rfl (by simp only[lk,reduceIte,zSA.injEq,SV.int.injEq,true_and];omega) ⟨QA,QC⟩ (.inr ⟨_,rfl,QA,aB _ _⟩) (jG hk) QA⟩
      ·have e9:j<b.length:=(zSd.1 hj).1
       have ho:∀ X,(b++[X])[j]? = some (.own (d.map eb) 5 1 d.length true):=fun X=>ad hj [X]
       refine gN (zSc h0 (zSc h1 (zSc h6 (zSc h7 (zSc hg (zSc @aB ho)))))) ?_;refine⟨QA,⟨by unfold maxLen;omega,QA⟩,⟨QA,QA⟩,xy (i':=i+1) (x:=.o (b++[aq.own [eb (s[i])] 5 1 1 true]).length (d.length+1)) (d:=d++[s[i]]) h0 h1 rfl (by simp only[lk,reduceIte,zSA.injEq,SV.int.injEq,true_and];omega) ⟨QA,QC⟩ (.inr ⟨(b++[aq.own [eb (s[i])] 5 1 1 true]).length,QB,QA,by rw[zSj QB];simp[eb]⟩) (jG hk) QA⟩)
   ·have hq:=uQ hq
    have hk:fG also s[i]=true:=by unfold fG;rw[hq];simp
    (rcases ht with⟨rfl,kn,kj⟩|⟨j,rfl,mG,hj⟩
     ·obtain rfl:d=[]:=by simpa using kn
      refine gN (zSc h0 (zSc h1 (zSc h6 (zSc h7 (zSc hg @aB))))) ?_;refine⟨QA,⟨by unfold maxLen;omega,QA⟩,⟨QA,QA⟩,xy (i':=i+1) (x:=.o (b++[aq.own [eb (s[i])] 5 1 1 true]).length 1) (d:=[]++[s[i]]) h0 h1 rfl (by simp only[lk,reduceIte,zSA.injEq,SV.int.injEq,true_and];omega) ⟨QA,QC⟩ (.inr ⟨_,rfl,QA,aB _ _⟩) (jG hk) QA⟩
     ·have e9:j<b.length:=(zSd.1 hj).1
      have ho:∀ X,(b++[X])[j]? = some (.own (d.map eb) 5 1 d.length true):=fun X=>ad hj [X]
      refine gN (zSc h0 (zSc h1 (zSc h6 (zSc h7 (zSc hg (zSc @aB ho)))))) ?_;refine⟨QA,⟨by unfold maxLen;omega,QA⟩,⟨QA,QA⟩,xy (i':=i+1) (x:=.o (b++[aq.own [eb (s[i])] 5 1 1 true]).length (d.length+1)) (d:=d++[s[i]]) h0 h1 rfl (by simp only[lk,reduceIte,zSA.injEq,SV.int.injEq,true_and];omega) ⟨QA,QC⟩ (.inr ⟨(b++[aq.own [eb (s[i])] 5 1 1 true]).length,QB,QA,by rw[zSj QB];simp[eb]⟩) (jG hk) QA⟩)
  ·have hc:s[i]=37:=by
    have:s.getD i 0=37:=by
     rw[← UInt8.toNat_inj];have e37:(37:UInt8).toNat=37:=rfl;have h2:=bne_eq_false_iff_eq.1 hc;omega
    rw[← hg];exact this
   rw[if_pos hc]at hu;have pe:=xC s i az hc QA;cases he:nw s i with
   | none =>
     rw[he]at pe hu;simp only at hu;rw[hu]at hn;have om:cg also (aI s)=([],2):=by rw[← hn];rfl
     rw[om]
     (refine aa pe ?_;simp only[bJ,↓Xn,↓Xo,↓Xg,↓Xd,↓Xe,↓Xf,Tryz.VΓ,Tryz.Γs,Xp,Xi,Nat.reduceAdd,Nat.reduceSub,Nat.reduceLT,Nat.reduceLeDiff,reduceIte,reduceCtorEq,Nat.reduceEqDiff,implies_true,forall_const,bI,h0,h1,h6,h7,Option.isSome_none])
   | some v =>
     rw[he]at pe hu;have hx:=he;unfold nw at hx;obtain⟨⟨a,bb,r⟩,hp,hv⟩:=Option.map_eq_some_iff.1 hx;simp only at hv;rw[hp]at hu;simp only at hu;have hi3:i+3≤s.length:=by
      obtain⟨h1,-,-⟩:=ey hp;have:=congrArg List.length h1
      simp at this
      omega
     have jG:comb (d++qV v) (cg also (aI (s.drop (i+2+1))))=cg also (aI s):=by
      rw[← hn,hu,cg,lE,hv]
     simp only[Option.getD_some,Option.isSome_some]at pe
     (refine aa pe ?_;refine gN (zSc h0 (zSc h1 (zSc h6 h7))) ?_)
     (refine aa (eG v) ?_;refine gN (zSc h0 (zSc h1 (zSc h6 h7))) ?_)
     refine⟨fun hq=>?_,fun hq=>?_⟩
     ·have tT:comb (d++[v]) (cg also (aI (s.drop (i+2+1))))=cg also (aI s):=by
       rw[← jG];unfold qV;rw[if_pos hq]
      (rcases ht with⟨rfl,kn,kj⟩|⟨j,rfl,mG,hj⟩
       ·obtain rfl:d=[]:=by simpa using kn
        refine gN (zSc h0 (zSc h1 (zSc h6 (zSc h7 (zSc hg @aB))))) ?_;refine⟨QA,⟨by unfold maxLen;omega,QA⟩,⟨QA,QA⟩,⟨QA,QA⟩,xy (i':=i+2+1) (x:=.o (b++[aq.own [eb (v)] 5 1 1 true]).length 1) (d:=[]++[v]) h0 h1 rfl (by simp only[lk,reduceIte,zSA.injEq,SV.int.injEq,true_and];omega) ⟨QA,QC⟩ (.inr ⟨_,rfl,QA,aB _ _⟩) (tT) QA⟩
       ·have e9:j<b.length:=(zSd.1 hj).1
        have ho:∀ X,(b++[X])[j]? = some (.own (d.map eb) 5 1 d.length true):=fun X=>ad hj [X]
        refine gN (zSc h0 (zSc h1 (zSc h6 (zSc h7 (zSc hg (zSc @aB ho)))))) ?_;refine⟨QA,⟨by unfold maxLen;omega,QA⟩,⟨QA,QA⟩,⟨QA,QA⟩,xy (i':=i+2+1) (x:=.o (b++[aq.own [eb (v)] 5 1 1 true]).length (d.length+1)) (d:=d++[v]) h0 h1 rfl (by simp only[lk,reduceIte,zSA.injEq,SV.int.injEq,true_and];omega) ⟨QA,QC⟩ (.inr ⟨(b++[aq.own [eb (v)] 5 1 1 true]).length,QB,QA,by rw[zSj QB];simp[eb]⟩) (tT) QA⟩)
     ·have tT:comb (d++nP v) (cg also (aI (s.drop (i+2+1))))=cg also (aI s):=by
       rw[← jG];unfold qV;rw[if_neg (by simp[hq])]
      (refine aa (mV v) ?_;refine gN (zSc h0 (zSc h1 (zSc h6 h7))) ?_)
      rcases ht with⟨rfl,kn,kj⟩|⟨j,rfl,mG,hj⟩
      ·obtain rfl:d=[]:=by simpa using kn
       refine gN (zSc h0 (zSc h1 (zSc h6 h7))) ?_;exact⟨⟨jT _,by simp[nP];unfold maxLen;omega,by simp[nP]⟩,⟨QA,QA⟩,⟨QA,QA⟩,xy (i':=i+2+1) (d:=[]++nP v) h0 h1 rfl (by simp only[lk,reduceIte,zSA.injEq,SV.int.injEq,true_and];omega) ⟨QA,by simp[nP];omega⟩ (.inr ⟨b.length,rfl,QA,aB _ _⟩) tT QA⟩
      ·refine gN (zSc h0 (zSc h1 (zSc h6 (zSc h7 hj)))) ?_
       exact⟨⟨jT _,by simp[nP];unfold maxLen;omega,by simp[nP];omega⟩,⟨QA,QA⟩,⟨QA,QA⟩,xy (i':=i+2+1) (d:=d++nP v) h0 h1 rfl (by simp only[lk,reduceIte,zSA.injEq,SV.int.injEq,true_and];omega) ⟨QA,by simp[nP];omega⟩ (.inr ⟨b.length,QB,QA,by rw[zSj QB];simp⟩) tT QA⟩
 ·have hU:i=s.length:=QA
  subst hU;rw[List.drop_length,gE]at hn;have om:cg also (aI s)=(d,0):=by rw[← hn];simp[cg,comb]
  rw[om];rcases ht with⟨rfl,kn,kj⟩|⟨j,rfl,mG,hj⟩
  ·obtain rfl:d=[]:=by simpa using kn
   refine gN (zSc h0 (zSc h1 (zSc h6 h7))) ?_;exact fun h=>absurd h QB
  ·refine gN (zSc h0 (zSc h1 (zSc h6 (zSc h7 hj)))) ?_
   refine⟨fun h=>absurd h QB,fun _=>⟨gw d,?_⟩⟩;rw[lH]
theorem lW (s:Bytes):PC QH 11 [.str s] (.eh [cA (bz s).1,.int .i64 (bz s).2]):=by
 refine aU 3000 func11 rfl ntmps11 results11 call11 QB (by simp[flat,flat.ah]) (by simp[flat,flat.ah,cA]) ?_;refine bw ?_;refine⟨fun h=>?_,fun h=>?_⟩
 ·have:bz s=(bN.none,5):=if_pos (by simp at h;omega)
  rw[this];rfl
 have hl:¬ 4096<s.length:=(by simp at h;omega);have hq:bz s=if (aP s).2≠0 then(bN.none,(aP s).2) else xh (aP s).1:=if_neg hl
 rw[hq];have ps:=tp s;unfold mE at ps;have hp:=yU s;have hz:=sX s;revert ps hp hz
 generalize aP s=us;obtain⟨r,c⟩:=us;intro ps hp hz;simp only at ps hp hz;simp only;unfold Uri.size at hz;have pl:=iN r.scheme dX QA QD;have pn:=bG r.authority [64] QA QD;have hpm:=DR r.authority 64;have gz:=cO (·==64) r.authority;rw[show (List.contains [64] ·:UInt8→Bool)=(·==64) from by funext c;simp;exact(Bool.beq_eq_decide_eq _ _).symm]at pn;have ph:=zu r.authority QA;have p1:=jv r.path dP QD;have p2:=jv r.query dE QD;have p3:=jv r.fragment dE QD
 (refine aa (ps) ?_;refine bw ?_)
 refine⟨fun h1=>?_,fun h1=>?_⟩
 ·rw[if_pos (by simpa using h1)];rfl
 rw[if_neg (by simpa using h1)];unfold xh;cases tC:r.bU
 ·refine gN tC ?_
  rw[if_pos (.inl trivial)];rfl
 refine gN tC ?_;rw[show lower dX=dX by decide]at pl
 (refine aa pl ?_;refine gN tC ?_)
 refine⟨fun h2=>?_,fun h2=>?_⟩
 ·rw[if_pos (.inr (by simpa using h2))];rfl
 rw[if_neg (by simpa using h2)];cases Pt:r.bc
 ·refine gN Pt ?_
  rfl
 refine gN Pt ?_
 (refine aW pn ?_;refine gN Pt ?_)
 refine⟨(ao QE),fun h3=>?_,fun h3=>?_⟩
 ·rw[if_pos (hpm.1 (by simp at h3;omega))];rfl
 rw[if_neg (fun k=>absurd (hpm.2 k) (by simp at h3;omega))];unfold n9
 (refine aa ph ?_;refine gN Pt ?_)
 refine⟨fun h4=>?_,fun h4=>?_⟩
 ·rw[if_pos (by simpa using h4)];rfl
 rw[if_neg (by simpa using h4)];have hN1:=gS dP r.path;have hN2:=gS dE r.query;have hN3:=gS dE r.fragment;have hH:=xQ r.authority (by simpa using h4);have p4:=gv (bM dP r.path).1 QA;have hD:=jr (bM dP r.path).1;generalize bM dP r.path=n1 at p1 p4 hN1 hD ⊢;generalize bM dE r.query=n2 at p2 hN2 ⊢;generalize bM dE r.fragment=n3 at p3 hN3 ⊢;generalize (aN r.authority).1=hp at hH ⊢;obtain⟨n1,e1⟩:=n1;obtain⟨n2,e2⟩:=n2;obtain⟨n3,e3⟩:=n3;obtain⟨hh,pp⟩:=hp;simp only at p1 p2 p3 p4 hN1 hN2 hN3 hH hD ⊢
 (refine aa p1 ?_;refine bw ?_)
 refine⟨fun h5=>?_,fun h5=>?_⟩
 ·rw[if_pos (by simpa using h5)];rfl
 rw[if_neg (by simpa using h5)]
 (refine aa p2 ?_;refine bw ?_)
 refine⟨fun h6=>?_,fun h6=>?_⟩
 ·rw[if_pos (by simpa using h6)];rfl
 rw[if_neg (by simpa using h6)]
 (refine aa p3 ?_;refine bw ?_)
 refine⟨fun h7=>?_,fun h7=>?_⟩
 ·rw[if_pos (by simpa using h7)];rfl
 rw[if_neg (by simpa using h7)];unfold oF
 (refine aa p4 ?_;refine bw ?_)
 generalize aS n1=d at hD ⊢;have fin:∀ d':Bytes,d'.length≤4096 * 6→PC QH 38 [cA ⟨hh,pp,d',n2,n3,r.aJ,r.a8⟩] (.str (bh ⟨hh,pp,d',n2,n3,r.aJ,r.a8⟩)):=fun d' hd' =>
  fX _ ⟨by simp only;omega,by simp only;omega,by simp only;omega⟩
 unfold cA at fin;refine⟨fun h8=>?_,fun h8=>?_⟩
 ·have f1:=fin [47] QD
  have h8':d=[]:=by simpa using h8
  rw[if_pos h8']
  (refine aa f1 ?_;refine bw ?_)
  refine⟨fun h9=>?_,fun h9=>?_⟩
  ·rw[if_pos (by simp at h9;omega)];rfl
  ·rw[if_neg (by simp at h9;omega)];rfl
 ·have f1:=fin d QA
  have h8':¬ d=[]:=by simpa using h8
  rw[if_neg h8']
  (refine aa f1 ?_;refine bw ?_)
  refine⟨fun h9=>?_,fun h9=>?_⟩
  ·rw[if_pos (by simp at h9;omega)];rfl
  ·rw[if_neg (by simp at h9;omega)];rfl
theorem qP (u:bN)(hk:Fair u):PC QH 39 [cA u] (.bool (bX u)):=by
 have pf:=oW u hk;have pp:=xB (bh u);unfold cA at pf pp
 (refine aU 3000 func39 rfl ntmps39 results39 call39 QB (by simp[flat,flat.ah,cA]) (by simp[flat,flat.ah,cA]) ?_
  unfold cA;refine bw ?_)
 (refine aa (pf) ?_;refine bw ?_)
 (refine aa (pp) ?_;refine bw ?_)
 unfold bX;generalize bz (bh u)=x;obtain⟨⟨a,b,c,d,e,f,g⟩,y⟩:=x;obtain⟨a',b',c',d',e',f',g'⟩:=u;simp only[eqS,JY,HK,HK.eqF];refine⟨fun h=>?_,fun h=>?_⟩
 ·obtain rfl:y=0:=by simpa using h
  congr 1
  rw[zSO];simp only[Bool.and_eq_true,beq_iff_eq,decide_eq_true_eq,Prod.mk.injEq,bN.mk.injEq,and_true];constructor <;> (rintro⟨rfl,rfl,rfl,rfl,rfl,rfl,rfl⟩;exact⟨rfl,rfl,rfl,rfl,rfl,rfl,rfl⟩)
 ·congr 1
  exact(decide_eq_false (fun k=>by rw[(Prod.mk.inj k).2]at h;simp at h)).symm
theorem oX (u:bN)(hk:Fair u):PC QH 21 [cA u] (.bool (bX u)):=by
 have pf:=fX u hk;have pp:=lW (bh u);unfold cA at pf pp
 (refine aU 3000 func21 rfl ntmps21 results21 call21 QB (by simp[flat,flat.ah,cA]) (by simp[flat,flat.ah,cA]) ?_
  unfold cA;refine bw ?_)
 (refine aa (pf) ?_;refine bw ?_)
 (refine aa (pp) ?_;refine bw ?_)
 unfold bX;generalize bz (bh u)=x;obtain⟨⟨a,b,c,d,e,f,g⟩,y⟩:=x;obtain⟨a',b',c',d',e',f',g'⟩:=u;simp only[eqS,JY,HK,HK.eqF];refine⟨fun h=>?_,fun h=>?_⟩
 ·obtain rfl:y=0:=by simpa using h
  congr 1
  rw[zSO];simp only[Bool.and_eq_true,beq_iff_eq,decide_eq_true_eq,Prod.mk.injEq,bN.mk.injEq,and_true];constructor <;> (rintro⟨rfl,rfl,rfl,rfl,rfl,rfl,rfl⟩;exact⟨rfl,rfl,rfl,rfl,rfl,rfl,rfl⟩)
 ·congr 1
  exact(decide_eq_false (fun k=>by rw[(Prod.mk.inj k).2]at h;simp at h)).symm
def wsvR (u:bN):SV:=cA u
theorem rK (s:Bytes):Uri.size (aP s).1≤100000:=by
 by_cases h:16384<s.length
 ·rw[show aP s=(Uri.none,5) from if_pos h];decide
 ·have:=sX s;omega
theorem uB (b r:Uri):Uri.size (eI b r)≤2 * (Uri.size b+Uri.size r)+2:=by
 have h1:=jr r.path;have h2:=jr (gR b r);have h3:(gR b r).length≤b.path.length+r.path.length+1:=by
  have:=tZ b r
  omega
 unfold eI;split
 ·simp[Uri.size];omega
 split
 ·simp[Uri.size];omega
 split
 ·split <;> (simp[Uri.size];omega)
 ·simp[Uri.size];omega
theorem zp (u:bN)(ref:Bytes)(hk:Fair u):PC QH 111 [cA u,.str ref] (.eh [cA (cC u ref).1,.int .i64 (cC u ref).2]):=by
 show PC _ _ _ (.eh [wsvR (cC u ref).1,.int .i64 (cC u ref).2])
 have pf:=oW u hk;have hvd:=qP u hk;have s1:=qQ (bh u);have s2:=qQ ref;have z1:=rK (bh u);have z2:=rK ref;have pr:=Bu (aP (bh u)).1 (aP ref).1 (by unfold Uri.size at z1;omega) (by unfold Uri.size at z2;omega);have hz:=uB (aP (bh u)).1 (aP ref).1;unfold cA at pf hvd;unfold mE at s1 s2 pr
 (refine aU 3000 func111 rfl ntmps111 results111 call111 QB (by simp[flat,flat.ah,cA]) (by simp[flat,flat.ah,cA,wsvR]) ?_
  unfold cA;refine bw ?_)
 unfold cC
 (refine aa (hvd) ?_;refine bw ?_)
 cases hv:bX u
 ·refine bw ?_
  rfl
 refine bw ?_
 (refine aa (pf) ?_;refine bw ?_)
 (refine aa (s1) ?_;refine bw ?_)
 (refine aa (s2) ?_;refine bw ?_)
 refine⟨fun h1=>?_,fun h1=>?_⟩
 ·rw[if_pos (by simpa using h1)];rfl
 rw[if_neg (by simpa using h1)];generalize aP (bh u)=b at *;generalize aP ref=r at *
 (refine aa (pr) ?_;refine bw ?_)
 generalize eI b.1 r.1=q at *;have pl:=Ed q.scheme dX (by unfold Uri.size at hz z1 z2;omega) QD;rw[show lower dX=dX by decide]at pl;have pj:=Ja q (by unfold Uri.size at *;omega);have pp:=xB (fg q);unfold mE at pj;unfold cA at pp
 (refine aa (pl) ?_;refine bw ?_)
 refine⟨fun h2=>?_,fun h2=>?_⟩
 ·rw[if_pos (by simpa using h2)];rfl
 rw[if_neg (by simpa using h2)]
 (refine aa (pj) ?_;refine bw ?_)
 (refine aa (pp) ?_;refine bw ?_)
 rfl
theorem sG (u:bN)(ref:Bytes)(hk:Fair u):PC QH 146 [cA u,.str ref] (.eh [cA (cC u ref).1,.int .i64 (cC u ref).2]):=by
 show PC _ _ _ (.eh [wsvR (cC u ref).1,.int .i64 (cC u ref).2])
 have pf:=fX u hk;have hvd:=oX u hk;have s1:=tp (bh u);have s2:=tp ref;have z1:=rK (bh u);have z2:=rK ref;have pr:=DZ (aP (bh u)).1 (aP ref).1 (by unfold Uri.size at z1;omega) (by unfold Uri.size at z2;omega);have hz:=uB (aP (bh u)).1 (aP ref).1;unfold cA at pf hvd;unfold mE at s1 s2 pr
 (refine aU 3000 func146 rfl ntmps146 results146 call146 QB (by simp[flat,flat.ah,cA]) (by simp[flat,flat.ah,cA,wsvR]) ?_
  unfold cA;refine bw ?_)
 unfold cC
 (refine aa (hvd) ?_;refine bw ?_)
 cases hv:bX u
 ·refine bw ?_
  rfl
 refine bw ?_
 (refine aa (pf) ?_;refine bw ?_)
 (refine aa (s1) ?_;refine bw ?_)
 (refine aa (s2) ?_;refine bw ?_)
 refine⟨fun h1=>?_,fun h1=>?_⟩
 ·rw[if_pos (by simpa using h1)];rfl
 rw[if_neg (by simpa using h1)];generalize aP (bh u)=b at *;generalize aP ref=r at *
 (refine aa (pr) ?_;refine bw ?_)
 generalize eI b.1 r.1=q at *;have pl:=iN q.scheme dX (by unfold Uri.size at hz z1 z2;omega) QD;rw[show lower dX=dX by decide]at pl;have pj:=LR q (by unfold Uri.size at *;omega);have pp:=lW (fg q);unfold mE at pj;unfold cA at pp
 (refine aa (pl) ?_;refine bw ?_)
 refine⟨fun h2=>?_,fun h2=>?_⟩
 ·rw[if_pos (by simpa using h2)];rfl
 rw[if_neg (by simpa using h2)]
 (refine aa (pj) ?_;refine bw ?_)
 (refine aa (pp) ?_;refine bw ?_)
 rfl
theorem uc_at (L:List bN)(k:Nat)(h:k<L.length):((L.flatMap uc).drop (k * 7)).take 7=uc L[k]:=mQ uc 7 (fun _=>rfl) L k h
theorem ID (L:List bN):(L.flatMap uc).length=L.length * 7:=jq uc 7 (fun _=>rfl) L
def Sq (e s:Nat)(x:SV)(b:List aq)(c:List SV)(n:Nat):Prop:=(x=.ai∧c=[]∧n=0)∨∃ j m,x=.o j n∧b[j]? = some (.own c e s n m)
theorem zs (n:Int):PC QH 52 [.int .i64 n] (.bool (fZ n)):=by
 unfold fZ;refine aU 3000 func52 rfl ntmps52 results52 call52 QB (by simp[flat,flat.ah]) (by simp[flat,flat.ah]) ?_;refine bw ?_;cases h1:n==301 <;> cases h2:n==302 <;> cases h3:n==303 <;> cases h4:n==307 <;> cases h5:n==308 <;> simp
theorem Oo (n:Int):PC QH 22 [.int .i64 n] (.bool (fZ n)):=by
 have h:fZ n=(decide (301≤n)&&decide (n≤303)||n==307||n==308):=by
  unfold fZ;rw[zSO];simp
  omega
 rw[h];refine aU 3000 func22 rfl ntmps22 results22 call22 QB (by simp[flat,flat.ah]) (by simp[flat,flat.ah]) ?_;refine bw ?_;cases h1:decide (301≤n) <;> cases h2:decide (n≤303) <;> cases h4:n==307 <;> cases h5:n==308 <;> simp
theorem sA {bs:List aq}{j:Nat}{fs:List (Bytes × Bytes)}{m:Bool}(hj:bs[j]? = some (.own (fs.flatMap fc) 100 2 fs.length m))(hn:fs.length≤1000000)(hl:∀ f∈fs,f.1.length≤9223372036854775807)(name:Bytes)(Ai:name.length≤9223372036854775807)(a c:Int) :
 SC QH 166 [.agg [.int .i64 a,.int .i64 c,.o j fs.length],.str name] bs (fun r b=>Kp bs b∧Sl 9 1 bs.length r b ((bn fs name).map .str) (bn fs name).length):=by
 have e9:j<bs.length:=(zSd.1 hj).1;refine bp 3000 func166 rfl ntmps166 results166 call166 QB (af bs.length _ (by simp[within,within.av,e9])) ?_;refine JU ?_;have hp:=ad hj [.cells [.int .i64 a,.int .i64 c,.o j fs.length] 48 true];refine ax (fun σ=>∃ (k:Nat) (x:SV),k≤fs.length∧lk 1 σ.t=some (.str name)∧lk 5 σ.t=some x∧lk 9 σ.t=some (.o j fs.length)∧lk 10 σ.t=some (.int .i64 fs.length)∧lk 11 σ.t=some (.int .i64 k)∧σ.b[j]? = some (.own (fs.flatMap fc) 100 2 fs.length m) ∧
  Kp bs σ.b∧Sl 9 1 bs.length x σ.b ((bn (fs.take k) name).map .str) (bn (fs.take k) name).length) (fun σ=>fs.length - fA 11 σ) ⟨0,.ai,QA,rfl,rfl,rfl,rfl,rfl,hp,(Kp.refl _).app _,.inl ⟨rfl,rfl,rfl⟩⟩ ?_
 rintro⟨t,b⟩ ⟨k,x,hk,h1,h5,h9,eB,fM,hb,bm,fH⟩;simp only at h1 h5 h9 eB fM hb bm fH;rw[ak fM];by_cases az:k<fs.length
 ·have hu:=K6 fs k az
  have mI:=Aw fs;have hx:=ve az name;have Iu:=gW (fs.take k) name;rw[zSm]at Iu;have he:=iN fs[k].1 name (hl _ (zSF az)) Ai;unfold fc at hb hu mI;rcases fH with⟨rfl,kn,kj⟩|⟨i,rfl,hLi,hi⟩
  ·refine gC (zSc h1 (zSc h5 (zSc h9 (zSc eB (zSc fM (zSc hb (zSc hu (zSc mI zSy)))))))) ?_
   refine⟨fun _=>⟨⟨QA,QA⟩,QA,?_⟩,fun h=>absurd h QC⟩;have eZ:=fun X=>ad hb [X]
   have qv:=fun X Y=>ad (eZ X) [Y]
   have ME:=fun X Y Z=>ad (qv X Y) [Z]
   (refine aa (he) ?_;refine gC (zSc h1 (zSc h5 (zSc h9 (zSc eB (zSc fM (zSc hb (zSc eZ (zSc qv ME)))))))) ?_)
   refine⟨fun hq=>⟨QA,⟨by unfold maxLen;omega,QA⟩,⟨QA,QA⟩,⟨k+1,_,QA,rfl,rfl,rfl,((bm.app _).app _).app _,.inr ⟨(b++[aq.cells [.str fs[k].1,.str fs[k].2] 100 true]++[aq.own [.str fs[k].2] 9 1 1 true]).length,?_,?_,?_⟩⟩,?_⟩,fun hq=>⟨⟨QA,QA⟩,⟨k+1,_,QA,rfl,rfl,rfl,bm.app _,.inl ⟨rfl,?_,?_⟩⟩,?_⟩⟩
   ·rw[hx,if_pos (by simpa using hq),zSw.1 kj];rfl
   ·have:=bm.1;simp;omega
   ·rw[hx,if_pos (by simpa using hq),zSw.1 kj,aB];rfl
   ·rw[ak (k:=.i64) (n:=(k:Int)+1) rfl];omega
   ·rw[hx,if_neg (by simpa using hq),zSz];exact kn
   ·rw[hx,if_neg (by simpa using hq),zSz];exact kj
   ·rw[ak (k:=.i64) (n:=(k:Int)+1) rfl];omega
  ·refine gC (zSc h1 (zSc h5 (zSc h9 (zSc eB (zSc fM (zSc hb (zSc hu (zSc mI zSy)))))))) ?_
   refine⟨fun _=>⟨⟨QA,QA⟩,QA,?_⟩,fun h=>absurd h QC⟩;have Nn:=fun X=>ad hi [X]
   have Iw:=fun X Y=>ad (Nn X) [Y]
   have eZ:=fun X=>ad hb [X]
   (refine aa (he) ?_;refine gC (zSc h1 (zSc h5 (zSc h9 (zSc eB (zSc fM (zSc hb (zSc hi (zSc Nn Iw)))))))) ?_)
   have hK:=fun X=>((((bm.app [.cells [.str fs[k].1,.str fs[k].2] 100 true]).app [.own [.str fs[k].2] 9 1 1 true]).set hLi .gone).app [X])
   refine⟨fun hq=>⟨QA,⟨by unfold maxLen;omega,QA⟩,⟨QA,QA⟩,⟨k+1,_,QA,rfl,rfl,(hK _).at hj,hK _,.inr ⟨(b++[aq.cells [.str fs[k].1,.str fs[k].2] 100 true]++[aq.own [.str fs[k].2] 9 1 1 true]).length,?_,?_,?_⟩⟩,?_⟩,fun hq=>⟨⟨QA,QA⟩,⟨k+1,_,QA,rfl,rfl,(bm.app _).at hj,bm.app _,.inr ⟨i,?_,hLi,?_⟩⟩,?_⟩⟩
   ·rw[hx,if_pos (by simpa using hq)];simp
   ·have:=bm.1;simp;omega
   ·rw[hx,if_pos (by simpa using hq),List.map_append,zSj QB];simp
   ·rw[ak (k:=.i64) (n:=(k:Int)+1) rfl];omega
   ·rw[hx,if_neg (by simpa using hq),zSz]
   ·rw[hx,if_neg (by simpa using hq),zSz];exact Nn _
   ·rw[ak (k:=.i64) (n:=(k:Int)+1) rfl];omega
 ·have hU:k=fs.length:=QA
  subst hU;rw[zSD]at fH;refine gN (zSc h1 (zSc h5 (zSc h9 (zSc eB (zSc fM hb))))) ?_;exact⟨fun h=>absurd h QB,fun _=>⟨bm,fH⟩⟩
theorem uc_eq (u v:bN):(u.host==v.host&&(u.port==v.port&&(u.path==v.path&&(u.query==v.query&&(u.fragment==v.fragment&&(u.aJ==v.aJ&&u.a8==v.a8))))))=decide (u=v):=by
 obtain⟨a1,a2,a3,a4,a5,a6,a7⟩:=u;obtain⟨b1,b2,b3,b4,b5,b6,b7⟩:=v;rw[zSO];simp
theorem ya {bs:List aq}{j:Nat}{L:List bN}{m:Bool}(hj:bs[j]? = some (.own (L.flatMap uc) 35 7 L.length m))(hn:L.length≤1000000)(u:bN) :
 SC QH 182 [.o j L.length,cA u] bs (fun r b=>(∃ k:Int,r=.int .i64 k∧(decide (0≤k)=decide (u∈L)))∧Kp bs b):=by
 have e9:j<bs.length:=(zSd.1 hj).1;refine bp 3000 func182 rfl ntmps182 results182 call182 QB (af bs.length _ (by simp[within,within.av,e9,cA])) ?_;unfold cA;refine bw ?_;have fU:=ad hj [.cells (uc u) 35 true];refine ax (fun σ=>∃ k:Nat,k≤L.length∧lk 0 σ.t=some (.o j L.length)∧lk 3 σ.t=some (.p bs.length 0)∧lk 6 σ.t=some (.o j L.length)∧lk 7 σ.t=some (.int .i64 L.length)∧lk 8 σ.t=some (.int .i64 k)∧σ.b=bs++[.cells (uc u) 35 true]∧¬ u∈L.take k) (fun σ=>L.length - fA 8 σ) ⟨0,QA,rfl,rfl,rfl,rfl,rfl,rfl,QB⟩ ?_;rintro⟨t,b⟩ ⟨k,hk,h0,h3,h6,h7,h8,hb,cn⟩;simp only at h0 h3 h6 h7 h8 hb;subst hb;rw[ak h8];by_cases az:k<L.length
 ·have hu:=uc_at L k az
  have mI:=ID L;unfold uc at fU hu mI ⊢;refine gC (zSc h0 (zSc h3 (zSc h6 (zSc h7 (zSc h8 (zSc fU (zSc hu (zSc mI (zSc zSy @uc_eq))))))))) ?_;refine⟨fun _=>⟨⟨QA,QA⟩,QA,(ao QE),fun h=>?_,fun h=>?_⟩,fun h=>absurd h QC⟩
  ·refine⟨⟨k,rfl,?_⟩,(Kp.refl _).app _⟩
   rw[QF,decide_eq_true (by rw[of_decide_eq_true h];exact zSF az)]
  ·refine⟨⟨QA,QA⟩,⟨k+1,QA,rfl,?_⟩,?_⟩
   ·rw[zSn az]
    simp only[List.mem_append,List.mem_singleton,not_or];exact⟨cn,of_decide_eq_false h⟩
   ·rw[ak (k:=.i64) (n:=(k:Int)+1) rfl];omega
 ·have hU:k=L.length:=QA
  subst hU;rw[zSD]at cn;refine gN (zSc h0 (zSc h3 (zSc h6 (zSc h7 (zSc h8 fU))))) ?_;exact⟨fun h=>absurd h QB,fun _=>⟨⟨-1,rfl,by simp[cn]⟩,(Kp.refl _).app _⟩⟩
theorem tf {bs:List aq}{j:Nat}{L:List bN}{m:Bool}(hj:bs[j]? = some (.own (L.flatMap uc) 35 7 L.length m))(hn:L.length≤1000000)(u:bN) :
 SC QH 112 [.o j L.length,cA u] bs (fun r b=>r=.bool (decide (u∈L))∧Kp bs b):=by
 have e9:j<bs.length:=(zSd.1 hj).1;refine bp 3000 func112 rfl ntmps112 results112 call112 QB (af bs.length _ (by simp[within,within.av,e9,cA])) ?_;have fU:=ad hj [.cells (uc u) 35 true];have s1:=ya fU hn u;unfold cA at s1 ⊢;refine JU ?_;refine ae s1 ?_;rintro r b ⟨⟨k,rfl,hk⟩,bm⟩;rw[← hk];refine bw ?_;exact(Kp.refl _).app _ |>.trans bm
theorem vW {bs:List aq}(u:bN) :
 SC QH 182 [.ai,cA u] bs (fun r b=>r=.int .i64 (-1)∧Kp bs b):=by
 refine bp 3000 func182 rfl ntmps182 results182 call182 QB (af bs.length _ (by simp[within,within.av,cA])) ?_;unfold cA;refine bw ?_;refine ax (fun σ=>lk 7 σ.t=some (.int .i64 0)∧lk 8 σ.t=some (.int .i64 0)∧Kp bs σ.b) (fun σ=>0) ⟨rfl,rfl,(Kp.refl _).app _⟩ ?_;rintro⟨t,b⟩ ⟨h7,h8,bm⟩;simp only at h7 h8 bm;refine gN (zSc h7 h8) ?_;exact⟨fun h=>absurd h QB,fun _=>bm⟩
theorem rX {bs:List aq}(u:bN) :
 SC QH 112 [.ai,cA u] bs (fun r b=>r=.bool false∧Kp bs b):=by
 refine bp 3000 func112 rfl ntmps112 results112 call112 QB (af bs.length _ (by simp[within,within.av,cA])) ?_;have s1:=vW (bs:=bs++[.cells (uc u) 35 true]) u;unfold cA at s1 ⊢;refine JU ?_;refine ae s1 ?_;rintro r b ⟨rfl,bm⟩;refine bw ?_;exact⟨rfl,(Kp.refl _).app _ |>.trans bm⟩
theorem FT {bs:List aq}{x:SV}{L:List bN}(h:Sq 35 7 x bs (L.flatMap uc) L.length)(hL:L.length≤1000000)(u:bN) :
 SC QH 112 [x,cA u] bs (fun r b=>r=.bool (decide (u∈L))∧Kp bs b):=by
 rcases h with⟨rfl,-,hn⟩|⟨j,m,rfl,hj⟩
 ·obtain rfl:=zSw.1 hn
  simpa using rX u
 ·exact tf hj hL u
theorem Cy (u:bN):PC QH 23 [cA u] (cA u.bare):=by
 refine aU 3000 func23 rfl ntmps23 results23 call23 QB (by simp[flat,flat.ah,cA]) (by simp[flat,flat.ah,cA]) ?_;unfold cA bN.bare;exact bw True.intro
theorem Sq.app {e s:Nat}{x:SV}{b:List aq}{c:List SV}{n:Nat}(h:Sq e s x b c n)(X:List aq):Sq e s x (b++X) c n:=by
 rcases h with h|⟨j,m,h,k⟩
 ·exact .inl h
 ·exact .inr ⟨j,m,h,ad k X⟩
theorem Sq.kp {e s:Nat}{x:SV}{bs b:List aq}{c:List SV}{n:Nat}(h:Sq e s x bs c n)(k:Kp bs b):Sq e s x b c n:=by
 rcases h with h|⟨j,m,h,hj⟩
 ·exact .inl h
 ·exact .inr ⟨j,m,h,k.at hj⟩
theorem Sq.within {e s:Nat}{x:SV}{b:List aq}{c:List SV}{n:Nat}(h:Sq e s x b c n):Vc.within b.length x=true:=by
 rcases h with⟨rfl,-⟩|⟨j,m,rfl,hj⟩
 ·rfl
 ·have:=(zSd.1 hj).1
  simp[Vc.within,this]
theorem sw {bs:List aq}{j:Nat}{fs:List (Bytes × Bytes)}{m:Bool}(hj:bs[j]? = some (.own (fs.flatMap fc) 100 2 fs.length m))(hn:fs.length≤1000000)(hl:∀ f∈fs,f.1.length≤9223372036854775807)(a c:Int)
 {sn:SV} {L:List bN} (hi:Sq 35 7 sn bs (L.flatMap uc) L.length) (hL:L.length≤1000000) (u:bN) (fu:Fair u) (dj:Int) :
 SC QH 53 [cA u,.agg [.int .i64 a,.int .i64 c,.o j fs.length],sn,.int .i64 dj] bs (fun r b=>r=.eh [cA (bT u fs L dj).1,.int .i64 (bT u fs L dj).2]∧Kp bs b):=by
 have e9:j<bs.length:=(zSd.1 hj).1;have dJ:=hi.within;refine bp 3000 func53 rfl ntmps53 results53 call53 QB (af bs.length _ (by simp[within,within.av,e9,dJ,cA])) ?_;unfold cA;refine JU ?_;refine⟨fun h5=>?_,fun h5=>?_⟩
 ·have h5:5≤dj:=by simpa using h5
  unfold bT;rw[if_pos h5];exact⟨rfl,(((Kp.refl _).app _).app _).app _⟩
 ·have h5:¬ 5≤dj:=by simpa using h5
  unfold bT;rw[if_neg h5];refine ae (qI (ad (ad (ad hj _) _) _) hn hl uV QD a c) ?_;rintro r b ⟨bm,fH⟩;have Iu:=gW fs uV;have gp:Kp bs b:=(((Kp.refl bs).app _).app _).app _ |>.trans bm
  have h8:=bm.at (aB _ _);have h4:=bm.at (oA _ _ _ _);have Hg:bs.length≤(bs++[aq.cells [.str u.host,.int .i64 u.port,.str u.path,.str u.query,.str u.fragment,.bool u.aJ,.bool u.a8] 35 true]++[aq.cells [.int .i64 a,.int .i64 c,.o j fs.length] 48 true]).length:=by simp
  generalize (bs++[aq.cells [.str u.host,.int .i64 u.port,.str u.path,.str u.query,.str u.fragment,.bool u.aJ,.bool u.a8] 35 true]++[aq.cells [.int .i64 a,.int .i64 c,.o j fs.length] 48 true]).length=n8 at h8 Hg ⊢;have hl8:n8<b.length:=(zSd.1 h8).1;have s8:∀ X,(b.set n8 X)[n8]? = some X:=fun X=>by simp[hl8]
  generalize bn fs uV=l at fH Iu ⊢;rcases fH with⟨rfl,kn,kj⟩|⟨q,rfl,hLq,hq⟩
  ·obtain rfl:l=[]:=zSw.1 kj
   simp only[bJ,↓Xn,↓Xo,↓Xg,↓Xd,↓Xe,↓Xf,Tryz.VΓ,Tryz.Γs,Xp,Xi,Nat.reduceAdd,Nat.reduceSub,Nat.reduceLT,Nat.reduceLeDiff,reduceIte,reduceCtorEq,Nat.reduceEqDiff,implies_true,forall_const,bI,kC,beq_self_eq_true,bne_self_eq_false,Int.reduceBEq,Int.reduceBNe,Int.reduceLT,Int.reduceLE,h8,s8,zSB,zSo];exact⟨rfl,gp.set Hg _⟩
  ·by_cases h1:l.length=1
   ·obtain⟨x,rfl⟩:=List.length_eq_one_iff.1 h1
    have s1:=zp u x fu;unfold cA at s1;simp only[zSM,zSJ]at hq;generalize hz:cC u x=z at s1;obtain⟨v,e⟩:=z;simp only at s1;simp only[bJ,↓Xn,↓Xo,↓Xg,↓Xd,↓Xe,↓Xf,Tryz.VΓ,Tryz.Γs,Xp,Xi,Nat.reduceAdd,Nat.reduceSub,Nat.reduceLT,Nat.reduceLeDiff,reduceIte,reduceCtorEq,Nat.reduceEqDiff,implies_true,forall_const,bI,kC,beq_self_eq_true,bne_self_eq_false,Int.reduceBEq,Int.reduceBNe,Int.reduceLT,Int.reduceLE,h8,s8,h4,hq,zSB,zSo,zSf,zSg,Int.reduceToNat,Nat.zero_mul,zSG];refine⟨fun h=>absurd h QB,fun _=>⟨QA,?_⟩⟩;have h8a:=fun X=>ad h8 [X]
    have s8a:∀ X Y,((b++[X]).set n8 Y)[n8]? = some Y:=fun X Y=>by rw[zSr QC]
    have jV:¬ q=b.length:=by have:=(zSd.1 hq).1;omega
    have jF:¬ bs.length=b.length:=QA
    (refine aW (s1) ?_;simp only[bJ,↓Xn,↓Xo,↓Xg,↓Xd,↓Xe,↓Xf,Tryz.VΓ,Tryz.Γs,Xp,Xi,Nat.reduceAdd,Nat.reduceSub,Nat.reduceLT,Nat.reduceLeDiff,reduceIte,reduceCtorEq,Nat.reduceEqDiff,implies_true,forall_const,bI,kC,beq_self_eq_true,bne_self_eq_false,Int.reduceBEq,Int.reduceBNe,Int.reduceLT,Int.reduceLE,h8,s8,h4,hq,h8a,s8a,zSB,zSo])
    refine⟨(by
     refine bt (fun n=>if n=b.length then 0 else 1) ?_;simp only[zSM,zSJ,cz,dW,reduceIte,jV,jF];exact ao QE),fun h2=>?_,fun h2=>⟨fun h3=>?_,fun h3=>?_⟩⟩
    ·refine⟨?_,(gp.app _).set Hg _⟩
     obtain rfl:e=253:=by simpa using h2
     simp[iG,jt,hz,bN.none]
    ·refine⟨?_,(gp.app _).set Hg _⟩
     have h2:¬ e=253:=by simpa using h2
     have h3:¬ e=0:=by simpa using h3
     simp[iG,jt,hz,h2,h3,bN.none]
    ·obtain rfl:e=0:=by simpa using h3
     refine ae (FT ((hi.kp gp).app [.cells (uc v.bare) 35 true]) hL v.bare) ?_;rintro r b3 ⟨rfl,eL⟩;have g8:=eL.at (h8a _);have gl8:n8<b3.length:=(zSd.1 g8).1;have t8:∀ X,(b3.set n8 X)[n8]? = some X:=fun X=>by simp[gl8]
     have gu:=eL.at (aB _ _);have hkb3:=(gp.app _).trans eL;unfold uc bN.bare at gu;simp only[bJ,↓Xn,↓Xo,↓Xg,↓Xd,↓Xe,↓Xf,Tryz.VΓ,Tryz.Γs,Xp,Xi,Nat.reduceAdd,Nat.reduceSub,Nat.reduceLT,Nat.reduceLeDiff,reduceIte,reduceCtorEq,Nat.reduceEqDiff,implies_true,forall_const,bI,kC,beq_self_eq_true,bne_self_eq_false,Int.reduceBEq,Int.reduceBNe,Int.reduceLT,Int.reduceLE,g8,t8,gu,zSB,zSo];refine⟨fun h4=>⟨?_,hkb3.set Hg _⟩,fun h4=>?_⟩
     ·have h4:v.bare∈L:=by simpa using h4
      simp[iG,jt,hz,h4,bN.none]
     ·have h4:v.bare ∉ L:=by simpa using h4
      refine⟨?_,hkb3.set Hg _⟩;unfold iG jt;simp[hz,h4];simp[bN.bare]
   ·simp only[bJ,↓Xn,↓Xo,↓Xg,↓Xd,↓Xe,↓Xf,Tryz.VΓ,Tryz.Γs,Xp,Xi,Nat.reduceAdd,Nat.reduceSub,Nat.reduceLT,Nat.reduceLeDiff,reduceIte,reduceCtorEq,Nat.reduceEqDiff,implies_true,forall_const,bI,kC,beq_self_eq_true,bne_self_eq_false,Int.reduceBEq,Int.reduceBNe,Int.reduceLT,Int.reduceLE,h8,s8,zSB,zSo]
    refine⟨fun _=>⟨?_,gp.set Hg _⟩,fun h=>absurd h QC⟩;unfold iG;rw[if_pos h1];rfl
theorem xr {bs:List aq}{j:Nat}{fs:List (Bytes × Bytes)}{m:Bool}(hj:bs[j]? = some (.own (fs.flatMap fc) 100 2 fs.length m))(hn:fs.length≤1000000)(hl:∀ f∈fs,f.1.length≤9223372036854775807)(a c:Int)
 {sn:SV} {L:List bN} (hi:Sq 35 7 sn bs (L.flatMap uc) L.length) (hL:L.length≤1000000) (u:bN) (fu:Fair u) (dj:Int) :
 SC QH 102 [cA u,.agg [.int .i64 a,.int .i64 c,.o j fs.length],sn,.int .i64 dj] bs (fun r b=>r=.eh [cA (bT u fs L dj).1,.int .i64 (bT u fs L dj).2]∧Kp bs b):=by
 have e9:j<bs.length:=(zSd.1 hj).1;have dJ:=hi.within;refine bp 3000 func102 rfl ntmps102 results102 call102 QB (af bs.length _ (by simp[within,within.av,e9,dJ,cA])) ?_;unfold cA;refine JU ?_;refine⟨fun h5=>?_,fun h5=>?_⟩
 ·have h5:5≤dj:=by simpa using h5
  unfold bT;rw[if_pos h5];exact⟨rfl,(((Kp.refl _).app _).app _).app _⟩
 ·have h5:¬ 5≤dj:=by simpa using h5
  unfold bT;rw[if_neg h5];refine ae (sA (ad (ad (ad hj _) _) _) hn hl uV QD a c) ?_;rintro r b ⟨bm,fH⟩;have Iu:=gW fs uV;have gp:Kp bs b:=(((Kp.refl bs).app _).app _).app _ |>.trans bm
  have h8:=bm.at (aB _ _);have h4:=bm.at (oA _ _ _ _);have Hg:bs.length≤(bs++[aq.cells [.str u.host,.int .i64 u.port,.str u.path,.str u.query,.str u.fragment,.bool u.aJ,.bool u.a8] 35 true]++[aq.cells [.int .i64 a,.int .i64 c,.o j fs.length] 48 true]).length:=by simp
  generalize (bs++[aq.cells [.str u.host,.int .i64 u.port,.str u.path,.str u.query,.str u.fragment,.bool u.aJ,.bool u.a8] 35 true]++[aq.cells [.int .i64 a,.int .i64 c,.o j fs.length] 48 true]).length=n8 at h8 Hg ⊢;have hl8:n8<b.length:=(zSd.1 h8).1;have s8:∀ X,(b.set n8 X)[n8]? = some X:=fun X=>by simp[hl8]
  generalize bn fs uV=l at fH Iu ⊢;rcases fH with⟨rfl,kn,kj⟩|⟨q,rfl,hLq,hq⟩
  ·obtain rfl:l=[]:=zSw.1 kj
   simp only[bJ,↓Xn,↓Xo,↓Xg,↓Xd,↓Xe,↓Xf,Tryz.VΓ,Tryz.Γs,Xp,Xi,Nat.reduceAdd,Nat.reduceSub,Nat.reduceLT,Nat.reduceLeDiff,reduceIte,reduceCtorEq,Nat.reduceEqDiff,implies_true,forall_const,bI,kC,beq_self_eq_true,bne_self_eq_false,Int.reduceBEq,Int.reduceBNe,Int.reduceLT,Int.reduceLE,h8,s8,zSB,zSo];exact⟨rfl,gp.set Hg _⟩
  ·by_cases h1:l.length=1
   ·obtain⟨x,rfl⟩:=List.length_eq_one_iff.1 h1
    have s1:=sG u x fu;unfold cA at s1;simp only[zSM,zSJ]at hq;generalize hz:cC u x=z at s1;obtain⟨v,e⟩:=z;simp only at s1;simp only[bJ,↓Xn,↓Xo,↓Xg,↓Xd,↓Xe,↓Xf,Tryz.VΓ,Tryz.Γs,Xp,Xi,Nat.reduceAdd,Nat.reduceSub,Nat.reduceLT,Nat.reduceLeDiff,reduceIte,reduceCtorEq,Nat.reduceEqDiff,implies_true,forall_const,bI,kC,beq_self_eq_true,bne_self_eq_false,Int.reduceBEq,Int.reduceBNe,Int.reduceLT,Int.reduceLE,h8,s8,h4,hq,zSB,zSo,zSf,zSg,Int.reduceToNat,Nat.zero_mul,zSG];refine⟨fun h=>absurd h QB,fun _=>⟨QA,?_⟩⟩;have h8a:=fun X=>ad h8 [X]
    have s8a:∀ X Y,((b++[X]).set n8 Y)[n8]? = some Y:=fun X Y=>by rw[zSr QC]
    have jV:¬ q=b.length:=by have:=(zSd.1 hq).1;omega
    have jF:¬ bs.length=b.length:=QA
    (refine aW (s1) ?_;simp only[bJ,↓Xn,↓Xo,↓Xg,↓Xd,↓Xe,↓Xf,Tryz.VΓ,Tryz.Γs,Xp,Xi,Nat.reduceAdd,Nat.reduceSub,Nat.reduceLT,Nat.reduceLeDiff,reduceIte,reduceCtorEq,Nat.reduceEqDiff,implies_true,forall_const,bI,kC,beq_self_eq_true,bne_self_eq_false,Int.reduceBEq,Int.reduceBNe,Int.reduceLT,Int.reduceLE,h8,s8,h4,hq,h8a,s8a,zSB,zSo])
    refine⟨(by
     refine bt (fun n=>if n=b.length then 0 else 1) ?_;simp only[zSM,zSJ,cz,dW,reduceIte,jV,jF];exact ao QE),fun h2=>?_,fun h2=>⟨fun h3=>?_,fun h3=>?_⟩⟩
    ·refine⟨?_,(gp.app _).set Hg _⟩
     obtain rfl:e=253:=by simpa using h2
     simp[iG,jt,hz,bN.none]
    ·refine⟨?_,(gp.app _).set Hg _⟩
     have h2:¬ e=253:=by simpa using h2
     have h3:¬ e=0:=by simpa using h3
     simp[iG,jt,hz,h2,h3,bN.none]
    ·obtain rfl:e=0:=by simpa using h3
     have s2:=Cy v;unfold cA at s2
     (refine aa (s2) ?_;simp only[bJ,↓Xn,↓Xo,↓Xg,↓Xd,↓Xe,↓Xf,Tryz.VΓ,Tryz.Γs,Xp,Xi,Nat.reduceAdd,Nat.reduceSub,Nat.reduceLT,Nat.reduceLeDiff,reduceIte,reduceCtorEq,Nat.reduceEqDiff,implies_true,forall_const,bI,kC,beq_self_eq_true,bne_self_eq_false,Int.reduceBEq,Int.reduceBNe,Int.reduceLT,Int.reduceLE,h8a,s8a,zSB,zSo])
     have om:iG u [x] L=if v.bare∈L then(bN.none,251) else(v.bare,0):=by
      unfold iG jt;simp[hz]
     rw[om];clear om hz s2 s1;generalize v.bare=w;have hnu:bs.length≤b.length:=gp.1;have g8:=h8a (.cells (uc w) 35 true);have gu:=aB b (.cells (uc w) 35 true);generalize b.length=nu at gu hnu;have Iw:=(hi.kp gp);rcases Iw with⟨rfl,-,kj⟩|⟨i,m',rfl,Iw⟩
     ·obtain rfl:=zSw.1 kj
      refine iC ?_;refine ax (fun σ=>lk 8 σ.t=some (.p n8 0)∧lk 9 σ.t=some (.int .i64 0)∧lk 11 σ.t=some (.p nu 0)∧lk 44 σ.t=some (.int .i64 0)∧lk 45 σ.t=some (.int .i64 0) ∧
       σ.b[n8]? = some (.cells (uc bN.none) 35 true)∧σ.b[nu]? = some (.cells (uc w) 35 true)∧Kp bs σ.b) (fun σ=>0) ⟨rfl,rfl,rfl,rfl,rfl,g8,gu,gp.app _⟩ ?_
      clear g8 gu;rintro⟨t,b⟩ ⟨l8,l9,l11,l44,l45,g8,gu,gp⟩;simp only at l8 l9 l11 l44 l45 g8 gu gp;have t8:∀ X,(b.set n8 X)[n8]? = some X:=fun X=>by simp[(zSd.1 g8).1]
      unfold uc bN.none at *;refine gB (zSc l8 (zSc l9 (zSc l11 (zSc l44 (zSc l45 (zSc g8 (zSc gu t8))))))) ?_;exact⟨QB,gp.set Hg _⟩
     ·refine iC ?_
      refine ax (fun σ=>∃ k:Nat,k≤L.length∧lk 8 σ.t=some (.p n8 0)∧lk 9 σ.t=some (.int .i64 0)∧lk 11 σ.t=some (.p nu 0)∧lk 43 σ.t=some (.o i L.length)∧lk 44 σ.t=some (.int .i64 L.length)∧lk 45 σ.t=some (.int .i64 k) ∧
       σ.b[n8]? = some (.cells (uc bN.none) 35 true)∧σ.b[nu]? = some (.cells (uc w) 35 true)∧σ.b[i]? = some (.own (L.flatMap uc) 35 7 L.length m')∧Kp bs σ.b∧w ∉ L.take k) (fun σ=>L.length - fA 45 σ) ⟨0,QA,rfl,rfl,rfl,rfl,rfl,rfl,g8,gu,ad Iw _,gp.app _,QB⟩ ?_
      clear g8 gu Iw;rintro⟨t,b⟩ ⟨k,hk,l8,l9,l11,l43,l44,l45,g8,gu,gi,gp,cn⟩;simp only at l8 l9 l11 l43 l44 l45 g8 gu gi gp;rw[ak l45];by_cases az:k<L.length
      ·have hu:=uc_at L k az
       have mI:=ID L;have g8a:=fun X=>ad g8 [X]
       have gua:=fun X=>ad gu [X]
       have t8:∀ X Y,((b++[X]).set n8 Y)[n8]? = some Y:=fun X Y=>by rw[zSr (by have:=(zSd.1 g8).1;simp;omega)]
       unfold uc bN.none at *;refine gB (zSc l8 (zSc l9 (zSc l11 (zSc l43 (zSc l44 (zSc l45 (zSc g8 (zSc gu (zSc gi (zSc g8a (zSc gua (zSc t8 (zSc hu (zSc mI (zSc zSy @uc_eq))))))))))))))) ?_;refine⟨fun _=>⟨⟨QA,QA⟩,QA,fun h=>⟨?_,(gp.app _).set Hg _⟩,fun h=>⟨⟨QA,QA⟩,⟨k+1,QA,rfl,ad gi _,gp.app _,?_⟩,?_⟩⟩,fun h=>absurd h QC⟩
       ·rw[if_pos (by rw[← of_decide_eq_true h];exact zSF az)]
       ·rw[zSn az]
        simp only[List.mem_append,List.mem_singleton,not_or];exact⟨cn,fun e=>of_decide_eq_false h e.symm⟩
       ·rw[ak (k:=.i64) (n:=(k:Int)+1) rfl];omega
      ·obtain rfl:k=L.length:=QA
       rw[zSD]at cn;have t8:∀ X,(b.set n8 X)[n8]? = some X:=fun X=>by simp[(zSd.1 g8).1]
       unfold uc bN.none at *;refine gB (zSc l8 (zSc l9 (zSc l11 (zSc l43 (zSc l44 (zSc l45 (zSc g8 (zSc gu (zSc gi t8))))))))) ?_;refine⟨fun h=>absurd h QB,fun _=>⟨?_,gp.set Hg _⟩⟩;rw[if_neg cn]
   ·simp only[bJ,↓Xn,↓Xo,↓Xg,↓Xd,↓Xe,↓Xf,Tryz.VΓ,Tryz.Γs,Xp,Xi,Nat.reduceAdd,Nat.reduceSub,Nat.reduceLT,Nat.reduceLeDiff,reduceIte,reduceCtorEq,Nat.reduceEqDiff,implies_true,forall_const,bI,kC,beq_self_eq_true,bne_self_eq_false,Int.reduceBEq,Int.reduceBNe,Int.reduceLT,Int.reduceLE,h8,s8,zSB,zSo]
    refine⟨fun _=>⟨?_,gp.set Hg _⟩,fun h=>absurd h QC⟩;unfold iG;rw[if_pos h1];rfl
end Go.Proofs.YtnmlimehgifadaaGreatDoor
namespace Wf
open Go Go.RowKit
structure jD where
 host:Bytes
 port:Int
 target:Bytes
 raw:Bytes
 fail:Int
 since:Int
 Lq:Int
 deriving DecidableEq
def jD.none:jD:=⟨[],0,[],[],0,0,0⟩
def im (h:Bytes)(p:Int)(t:Bytes)(now:Int)(a:jD):Bool :=
 (a.host==h&&a.port==p)&&a.target==t&&decide (a.since≤now)&&(a.Lq==0||decide (now<a.Lq))
def qf (a:jD):Bytes × Int :=
 if a.fail=1 then([],240) else if a.fail=2 then([],241) else if a.fail=3 then([],242) else if a.fail=4 then([],243) else(a.raw,0)
def nz:Option jD→Bytes × Int
 | Option.none=>([],241)
 | zSA a=>qf a
def bH (L:List jD)(u:bN)(now:Int):Bytes × Int :=
 if bX u=false then([],8) else nz (L.find? (im u.host u.port (bK u) now))
theorem wU {α:Type}{p:α→Bool}{L:List α}(h:∀ a∈L,p a=false):L.find? p=none:=by
 rw[List.find?_eq_none];intro a ha;rw[h a ha];simp
theorem K4 {α:Type}{p:α→Bool}{L:List α}{k:Nat}(hk:k<L.length)(h:∀ a∈L.take k,p a=false)(hp:p L[k]=true):L.find? p=some L[k]:=by
 have e:L=L.take k++L[k]::L.drop (k+1):=by
  rw[← List.drop_eq_getElem_cons hk,List.take_append_drop]
 generalize L[k]=x at e hp;rw[e,List.find?_append,wU h];simp[List.find?_cons,hp]
def GW {α:Type}(p:α→Bool)(L:List α):Int:=if L.any p then(L.findIdx p:Int) else -1
theorem CM {α:Type}{p:α→Bool}{L:List α}(h:∀ a∈L,p a=false):GW p L=-1:=by
 unfold GW;rw[if_neg];intro q;obtain⟨a,ha,hp⟩:=List.any_eq_true.1 q;rw[h a ha]at hp;cases hp
theorem idxI_at {α:Type}{p:α→Bool}{L:List α}{k:Nat}(hk:k<L.length)(h:∀ a∈L.take k,p a=false)(hp:p L[k]=true):GW p L=k:=by
 unfold GW;rw[if_pos (List.any_eq_true.2 ⟨_,zSF hk,hp⟩)];congr 1
 refine(List.findIdx_eq hk).2 ⟨hp,fun j hj=>?_⟩;have:=h L[j] (by rw[List.mem_take_iff_getElem];exact⟨j,QA,rfl⟩)
 exact this
theorem Jx {α:Type}(p:α→Bool)(L:List α):(GW p L=-1∧L.any p=false∧L.find? p=none)∨∃ (k:Nat) (h:k<L.length),GW p L=k∧L.any p=true∧L.find? p=some L[k]:=by
 by_cases h:L.any p=true
 ·right
  obtain⟨a,ha,hpa⟩:=List.any_eq_true.1 h;have hk:L.findIdx p<L.length:=List.findIdx_lt_length_of_exists ⟨a,ha,hpa⟩;refine⟨L.findIdx p,hk,by unfold GW;rw[if_pos h],h,?_⟩;refine K4 hk (fun b hb=>?_) (List.findIdx_getElem (w:=hk));obtain⟨j,hj,rfl⟩:=List.mem_take_iff_getElem.1 hb;exact by simpa using List.not_of_lt_findIdx (p:=p) (xs:=L) (i:=j) QA
 ·left
  have h:=Bool.not_eq_true _ ▸ h;have h2:∀ a∈L,p a=false:=by simpa using h
  exact⟨CM h2,h,wU h2⟩
end Wf
namespace Go.Proofs.YtnmlimehgifadaaGreatDoor
open Go Vc Go.RowKit Wf
def ac (a:jD):List SV:=[.str a.host,.int .i64 a.port,.str a.target,.str a.raw,.int .i64 a.fail,.int .u64 a.since,.int .u64 a.Lq]
theorem Lh (L:List jD)(k:Nat)(h:k<L.length):((L.flatMap ac).drop (k * 7)).take 7=ac L[k]:=mQ ac 7 (fun _=>rfl) L k h
theorem fF (L:List jD):(L.flatMap ac).length=L.length * 7:=jq ac 7 (fun _=>rfl) L
def AnsFair (a:jD):Prop:=a.host.length≤140737488355328∧a.target.length≤140737488355328∧a.raw.length≤140737488355328
theorem zo (a:jD):PC QH 95 [.agg (ac a)] (.agg [.str a.host,.int .i64 a.port]):=by
 refine aU 3000 func95 rfl ntmps95 results95 call95 QB (by simp[flat,flat.ah,ac]) (by simp[flat,flat.ah,ac]) ?_;unfold ac;exact bw True.intro
theorem DX (h:Bytes)(p:Int)(t:Bytes)(now:Int)(a:jD):PC QH 43 [.agg [.str h,.int .i64 p,.str t,.int .u64 now],.agg (ac a)] (.bool (im h p t now a)):=by
 have p1:=zo a;refine aU 3000 func43 rfl ntmps43 results43 call43 QB (by simp[flat,flat.ah,ac]) (by simp[flat,flat.ah,ac]) ?_;unfold ac at p1 ⊢;refine bw ?_
 (refine aW (p1) ?_;refine ly ?_)
 refine⟨fun h1=>⟨fun h2=>⟨fun h3=>⟨fun h4=>⟨(ao QE),?_⟩,fun h4=>⟨(ao QE),?_⟩⟩,fun h3=>⟨(ao QE),?_⟩⟩,fun h2=>⟨(ao QE),?_⟩⟩,fun h1=>⟨(ao QE),?_⟩⟩;all_goals unfold im
 ·rw[h1,h2,h3,h4];simp
 ·rw[h1,h2,h3,h4];simp
 ·rw[h1,h2,h3];simp
 ·rw[h1,h2];simp
 ·rw[h1];simp
theorem Bq {bs:List aq}{j:Nat}{L:List jD}{m:Bool}(g:FuncId)(v:SV)(fv:flat v=true)(p:jD→Bool)(hp:∀ a∈L,PC QH g [v,.agg (ac a)] (.bool (p a)))(hj:bs[j]? = some (.own (L.flatMap ac) 33 7 L.length m))(hL:L.length≤9223372036854775807) :
 SC QH 42 [.o j L.length,.mv g [v]] bs (fun r b=>r=.int .i64 (GW p L)∧b=bs):=by
 have e9:j<bs.length:=(zSd.1 hj).1;have hv:∀ β β',aj β v=aj β' v:=ig v fv;refine bp 3000 func42 rfl ntmps42 results42 call42 QB (fun β β' hb=>by simp[aZ,aj,hv β β',hb j e9]) ?_;refine JU ?_;refine ax (fun σ=>∃ q:Nat,q≤L.length∧lk 0 σ.t=some (.o j L.length)∧lk 1 σ.t=some (.mv g [v])∧lk 6 σ.t=some (.o j L.length)∧lk 7 σ.t=some (.int .i64 L.length)∧lk 8 σ.t=some (.int .i64 q)∧σ.b=bs∧∀ a∈L.take q,p a=false) (fun σ=>L.length - fA 8 σ) ⟨0,QA,rfl,rfl,rfl,rfl,rfl,rfl,QB⟩ ?_;rintro⟨t,b⟩ ⟨q,hq,h0,h1,h6,h7,h8,hb,cn⟩;simp only at h0 h1 h6 h7 h8 hb;subst hb;rw[ak h8];by_cases az:q<L.length
 ·have aK:decide ((q:Int)<L.length)=true:=QF
  have hu:=Lh L q az;have mI:=fF L;have hc:=hp _ (zSF az);unfold ac at hj hu mI hc;have ht:=zSn az;refine gC (zSc h0 (zSc h1 (zSc h6 (zSc h7 (zSc h8 (zSc hj (zSc hu (zSc mI (zSc aK zSy))))))))) ?_;refine⟨⟨QA,QA⟩,QA,?_⟩
  (refine aa (hc) ?_;refine gN (zSc h0 (zSc h1 (zSc h6 (zSc h7 (zSc h8 (zSc hj (zSc mI aK))))))) ?_)
  refine⟨fun hpq=>by rw[idxI_at az cn hpq],fun hpq=>⟨⟨QA,QA⟩,⟨q+1,QA,rfl,?_⟩,?_⟩⟩
  ·intro s hs
   rw[ht]at hs;rcases List.mem_append.1 hs with hs|hs
   ·exact cn s hs
   ·rw[List.mem_singleton.1 hs];exact hpq
  ·rw[ak (k:=.i64) (n:=(q:Int)+1) rfl];omega
 ·have hU:q=L.length:=QA
  subst hU;rw[zSD]at cn;have aK:decide ((L.length:Int)<L.length)=false:=by simp
  refine gN (zSc h0 (zSc h1 (zSc h6 (zSc h7 (zSc h8 (zSc hj aK)))))) ?_;rw[CM cn]
theorem ab_at (L:List jD)(k:Nat)(h:k<L.length)(i:Nat)(x:SV)(hx:(ac L[k])[i]? = some x):(L.flatMap ac)[k * 7+i]? = some x:=by
 have h1:=Lh L k h;have h2:i<7:=(zSd.1 hx).1;rw[← h1,List.getElem?_take_of_lt h2,List.getElem?_drop]at hx;exact hx
theorem Dr {bs:List aq}{j:Nat}{L:List jD}{m:Bool}(hj:bs[j]? = some (.own (L.flatMap ac) 33 7 L.length m))(hL:L.length≤9223372036854775807)(u:bN)(hu:Fair u)(now:Int) :
 SC QH 12 [.o j L.length,cA u,.int .u64 now] bs (fun r b=>r=.eh [.str (bH L u now).1,.int .i64 (bH L u now).2]∧Kp bs b):=by
 have e9:j<bs.length:=(zSd.1 hj).1;have p1:=qP u hu;have p2:=uH u;have p3:=uG u hu;have pf:=fun a=>DX u.host u.port (bK u) now a
 refine bp 3000 func12 rfl ntmps12 results12 call12 QB (af bs.length _ (by simp[within,within.av,e9,cA])) ?_;unfold cA at p1 p2 p3 ⊢;refine JU ?_
 (refine aa (p1) ?_;refine JU ?_)
 refine⟨fun h=>⟨?_,(Kp.refl _).app _⟩,fun h=>?_⟩
 ·have h:bX u=false:=by simpa using h
  unfold bH;rw[if_pos h]
 have h:bX u=true:=by simpa using h
 have ea:bH L u now=nz (L.find? (im u.host u.port (bK u) now)):=by unfold bH;rw[if_neg (by rw[h];simp)]
 rw[ea]
 (refine aW (p2) ?_;refine JU ?_)
 (refine aW (p3) ?_;refine JU ?_)
 have fU:=fun X=>ad hj [X]
 have JI:=fun X Y=>ad (fU X) [Y]
 have s2:=fun X Y=>Bq (bs:=bs++[X]++[Y]) _ _ (by simp[flat,flat.ah]) _ (fun a _=>pf a) (JI X Y) hL
 have hz:∀ X:aq,((bs++[X]).length=bs.length)=False:=fun X=>QB
 refine⟨(by
  refine bt (fun n=>if n=bs.length then 0 else 1) ?_;simp only[zSM,zSJ,cz,dW,reduceIte,hz];exact ao QE),?_⟩
 refine ae (s2 _ _) ?_;rintro r b ⟨rfl,rfl⟩;rcases Jx (im u.host u.port (bK u) now) L with⟨e,-,e2⟩|⟨k,hk,e,-,e2⟩
 ·rw[e,e2]
  refine iC ?_;exact⟨rfl,((Kp.refl _).app _).app _⟩
 ·rw[e,e2]
  have bS:decide ((k:Int)<0)=false:=QG;have h4:=ab_at L k hk 4 _ rfl;have h3:=ab_at L k hk 3 _ rfl;have mI:=fF L;refine gC (zSc bS (zSc h3 (zSc h4 (zSc mI (zSc JI zSy))))) ?_;refine⟨⟨QA,QA⟩,QA,fun q1=>⟨?_,((Kp.refl _).app _).app _⟩,fun q1=>⟨fun q2=>⟨?_,((Kp.refl _).app _).app _⟩,fun q2=>⟨fun q3=>⟨?_,((Kp.refl _).app _).app _⟩,fun q3=>⟨fun q4=>⟨?_,((Kp.refl _).app _).app _⟩,fun q4=>⟨⟨QA,QA⟩,QA,?_,((Kp.refl _).app _).app _⟩⟩⟩⟩⟩;all_goals simp only[beq_iff_eq,beq_eq_false_iff_ne,ne_eq]at *
  ·simp[nz,qf,q1]
  ·simp[nz,qf,q2]
  ·simp[nz,qf,q3]
  ·simp[nz,qf,q4]
  ·simp[nz,qf,q1,q2,q3,q4]
def mB (e s L:Nat)(x:SV)(b:List aq)(c:List SV)(n:Nat):Prop:=(x=.ai∧c=[]∧n=0)∨∃ j,x=.o j n∧0<n∧L≤j∧b[j]? = some (.own c e s n true)
theorem mB.low {e s L L':Nat}{x:SV}{b:List aq}{c:List SV}{n:Nat}(h:mB e s L x b c n)(hl:L'≤L):mB e s L' x b c n:=by
 rcases h with h|⟨j,h1,h0,h2,h3⟩
 ·exact .inl h
 ·exact .inr ⟨j,h1,h0,Nat.le_trans hl h2,h3⟩
def lI (bs:List aq)(n:Nat):SV:=if n=0 then .ai else .o bs.length n
def qD (e s:Nat)(bs:List aq)(c:List SV)(n:Nat):List aq:=if n=0 then bs else bs++[.own c e s n true]
open Go Vc Go.RowKit
theorem vZ {V:Cx}{f:FuncId}{args:List SV}{bs:List aq}{c:List SV}{e s n:Nat}(tH:Vc.Enters V f)(hn:0<n)(fY:c.length=n * s)(hc:flat.ah c=true)
 (h:∀ β fp w,Im β fp w bs→V.E w→Calls V.P f (aZ β args).toArray w fun ex w'=>∃ v',ex=.returned v'∧w'.ownsRow w.heap.size e s v' n (c.map (aj β))∧Below w.heap.size w w') :
 SC V f args bs (fun r b=>r=.o bs.length n∧b=bs++[.own c e s n true]):=by
 refine⟨tH,fun β fp w nU hG hE=>?_⟩;refine(h β fp w (nU β (cP.refl _ _)) hE).mono ?_;rintro ex w' ⟨v',rfl,⟨hl,r6⟩,hb⟩;rcases r6 with⟨-,h0⟩|⟨g,cap,cur,rfl,hg,hheap,hnc,hcm,hcs,htake⟩
 ·omega
 have hgl:g<w'.heap.size:=(Array.getElem?_eq_some_iff.1 hheap).1;refine⟨.o bs.length n,bs++[.own c e s n true],fun i=>if i<bs.length then β i else⟨g,0,cap+1⟩,
  fun i k=>if i<bs.length then fp i k else(i=bs.length∧k=g),⟨rfl,rfl⟩,fun i hi=>by simp[hi],QB,fun β' hβ=>?_,tW.kg hb,?_⟩
 ·have hAgr:cP bs.length β β':=fun i hi=>by
   have:=hβ i (by rw[zSh];omega)
   simpa[hi] using this
  have uZ:β' bs.length=⟨g,0,cap+1⟩:=by
   have:=hβ bs.length QB
   simpa using this.symm
  have Mz:=nU β' hAgr;refine⟨?_,?_,?_,?_⟩
  ·simp[aj,uZ,oV]
  ·intro i r hi
   rcases zSu i bs.length with az|sL
   ·rw[zSi az]at hi
    have:=(Mz.holds i r hi).stays (w':=w') (fun k hk=>hb.block k (Mz.lt i r hi k hk))
    simpa[az] using this
   ·rw[zSj sL]at hi
    obtain rfl:i=bs.length:=by
     rcases Nat.eq_or_lt_of_le sL with e|e
     ·exact e.symm
     ·rw[List.getElem?_eq_none QC]at hi;cases hi
    simp only[Nat.sub_self,zSG,zSA.injEq]at hi;subst hi;right
    have Np:c.map (aj β)=c.map (aj β'):=by rw[← cu,← cu];exact eX c hc β β'
    have hcur:cur=(c.map (aj β')++cur.toList.drop (n * s)).toArray:=by
     rw[← Np,← htake,List.take_append_drop]
    have hhd:Head w' g e (c.map (aj β')) (cur.toList.drop (n * s)) (0,0):=⟨by rw[← hcur];exact hheap,.inr (Nat.le_refl _)⟩;have hle:n * s≤cap * s:=Nat.mul_le_mul_right _ hnc;rw[uZ];exact⟨QB,by simpa using hnc,by simpa using hcm,fY,hhd.wE,fun _=>⟨rfl,_,(0,0),hhd,.inr (Nat.le_refl _),by rw[zSe,fY];simp[hcs];omega⟩,fun k=>QB⟩
  ·intro i r hi k hk
   rcases zSu i bs.length with az|sL
   ·rw[zSi az]at hi
    simp only[az,if_true]at hk;exact Nat.lt_of_lt_of_le (Mz.lt i r hi k hk) hb.size
   ·simp only[show ¬ i<bs.length by omega,if_false]at hk
    rw[hk.2];exact hgl
  ·intro i j r r' hi hj Hj hm k hk hk'
   rcases zSu i bs.length with az|sL
   ·rw[zSi az]at hi
    simp only[az,if_true]at hk;rcases zSu j bs.length with p9|hjg
    ·rw[zSi p9]at hj
     simp only[p9,if_true]at hk';exact Mz.sep i j r r' hi hj Hj hm k hk hk'
    ·simp only[show ¬ j<bs.length by omega,if_false]at hk'
     have:=Mz.lt i r hi k hk
     omega
   ·simp only[show ¬ i<bs.length by omega,if_false]at hk
    rcases zSu j bs.length with p9|hjg
    ·rw[zSi p9]at hj
     simp only[p9,if_true]at hk';have:=Mz.lt j r' hj k hk'
     omega
    ·simp only[show ¬ j<bs.length by omega,if_false]at hk'
     have h1:=(zSd.1 hi).1;have h2:=(zSd.1 hj).1;simp only[zSh,zSf,zSg]at h1 h2;omega
 ·refine⟨fun i r' hi hm k hk=>?_,fun i r' hi k hk=>?_⟩
  ·rcases zSu i bs.length with az|sL
   ·rw[zSi az]at hi
    simp only[az,if_true]at hk;exact .inr ⟨i,r',hi,hm,hk⟩
   ·simp only[show ¬ i<bs.length by omega,if_false]at hk
    exact .inl QA
  ·rcases zSu i bs.length with az|sL
   ·rw[zSi az]at hi
    simp only[az,if_true]at hk;exact .inr ⟨i,r',hi,hk⟩
   ·simp only[show ¬ i<bs.length by omega,if_false]at hk
    exact .inl QA
theorem oQ {V:Cx}{f:FuncId}{args args':List SV}{bs:List aq}{e s:Nat}{m:Bool}{R:SV→List aq→Prop}(h:SC V f args' (bs++[.own [] e s 0 m]) R)(ha:∀ β,aZ (qh β bs.length ⟨0,0,0⟩) args'=aZ β args):SC V f args bs R:=by
 refine⟨h.1,fun β fp w nU hG hE=>?_⟩;have old:∀ {j r},(bs++[aq.own [] e s 0 m])[j]? = some r→(j<bs.length∧bs[j]? = some r)∨(j=bs.length∧r=.own [] e s 0 m):=fun {j r} hj=>by
  rcases zSu j bs.length with az|sL
  ·rw[zSi az]at hj
   exact .inl ⟨az,hj⟩
  ·have e9:=(zSd.1 hj).1
   simp only[zSh,zSf,zSg]at e9;obtain rfl:j=bs.length:=QA;rw[zSj (Nat.le_refl _)]at hj;simp only[Nat.sub_self,zSG,zSA.injEq]at hj;exact .inr ⟨rfl,hj.symm⟩
 let fp':Nat→Nat→Prop:=fun i k=>if i=bs.length then False else fp i k
 have KB:∀ k,¬ fp' bs.length k:=fun k hk=>by simp[fp']at hk
 have same:∀ {j},j<bs.length→fp' j=fp j:=fun {j} hj=>by funext k;simp[fp',Nat.ne_of_lt hj]
 have back:∀ {j r k},(bs++[aq.own [] e s 0 m])[j]? = some r→fp' j k→bs[j]? = some r∧fp j k:=fun {j r k} hj hk=>by
  rcases old hj with⟨h1,h2⟩|⟨rfl,-⟩
  ·exact⟨h2,by rw[← same h1];exact hk⟩
  ·exact absurd hk (KB k)
 rw[← ha β];refine(h.2 (qh β bs.length ⟨0,0,0⟩) fp' w (fun β' hβ=>?_) (fun i r hi hm k hk=>?_) hE).mono ?_
 ·have hβ:cP (bs.length+1) (qh β bs.length ⟨0,0,0⟩) β':=by simpa using hβ
  have hb:=nU β' (cP.gd hβ);refine⟨fun j r hj=>?_,fun j r hj k hk=>?_,fun i j r r' hi hj bF jW k hk bS=>?_⟩
  ·rcases old hj with⟨h1,h2⟩|⟨rfl,rfl⟩
   ·rw[same h1];exact hb.holds j r h2
   ·have:β' bs.length=⟨0,0,0⟩:=by rw[← hβ bs.length QA,jP]
    rw[this];exact .inl ⟨rfl,rfl,rfl,KB⟩
  ·obtain⟨h1,h2⟩:=back hj hk
   exact hb.lt j r h1 k h2
  ·obtain⟨h1,h2⟩:=back hi hk
   obtain⟨h3,h4⟩:=back hj bS;exact hb.sep i j r r' h1 h3 bF jW k h2 h4
 ·obtain⟨h1,h2⟩:=back hi hk
  exact hG i r h1 hm k h2
 ·rintro ex w' ⟨r,bs',β₂,fp₂,hR,Bc,hlen,br,nM,mb,kP⟩
  rw[zSh]at Bc hlen;refine⟨r,bs',β₂,fp₂,hR,cP.gd Bc,by simp at hlen;omega,br,nM.mono (fun k ⟨i,r,hi,hm,hk⟩=>?_),fun i r' hi hm k hk=>?_,fun i r' hi k hk=>?_⟩
  ·obtain⟨h1,h2⟩:=back hi hk
   exact⟨i,r,h1,hm,h2⟩
  ·rcases mb i r' hi hm k hk with h1|⟨j,r,hj,hm',hk'⟩
   ·exact .inl h1
   ·obtain⟨h1,h2⟩:=back hj hk'
    exact .inr ⟨j,r,h1,hm',h2⟩
  ·rcases kP i r' hi k hk with h1|⟨j,r,hj,hk'⟩
   ·exact .inl h1
   ·obtain⟨h1,h2⟩:=back hj hk'
    exact .inr ⟨j,r,h1,h2⟩
theorem Kp.rI {bs b:List aq}{X:aq}(h:Kp (bs++[X]) b):Kp bs b:=((Kp.refl bs).app [X]).trans h
def Sx (e s:Nat)(x:SV)(b:List aq)(c:List SV)(n:Nat):Prop:=(x=.ai∧c=[]∧n=0)∨∃ j m,x=.o j n∧0<n∧b[j]? = some (.own c e s n m)
theorem Sx.app {e s:Nat}{x:SV}{b:List aq}{c:List SV}{n:Nat}(h:Sx e s x b c n)(X:List aq):Sx e s x (b++X) c n:=by
 rcases h with h|⟨j,m,h,h0,k⟩
 ·exact .inl h
 ·exact .inr ⟨j,m,h,h0,ad k X⟩
theorem Sx.kp {e s:Nat}{x:SV}{bs b:List aq}{c:List SV}{n:Nat}(h:Sx e s x bs c n)(k:Kp bs b):Sx e s x b c n:=by
 rcases h with h|⟨j,m,h,h0,hj⟩
 ·exact .inl h
 ·exact .inr ⟨j,m,h,h0,k.at hj⟩
theorem Sx.within {e s:Nat}{x:SV}{b:List aq}{c:List SV}{n:Nat}(h:Sx e s x b c n):Vc.within b.length x=true:=by
 rcases h with⟨rfl,-⟩|⟨j,m,rfl,-,hj⟩
 ·rfl
 ·have:=(zSd.1 hj).1
  simp[Vc.within,this]
theorem mB.kp {e s L:Nat}{x:SV}{bs b:List aq}{c:List SV}{n:Nat}(h:mB e s L x bs c n)(k:Kp bs b):mB e s L x b c n:=by
 rcases h with h|⟨j,h1,h0,h2,h3⟩
 ·exact .inl h
 ·exact .inr ⟨j,h1,h0,h2,k.at h3⟩
theorem mB.sx {e s L:Nat}{x:SV}{b:List aq}{c:List SV}{n:Nat}(h:mB e s L x b c n):Sx e s x b c n:=by
 rcases h with h|⟨j,h1,h0,-,h3⟩
 ·exact .inl h
 ·exact .inr ⟨j,true,h1,h0,h3⟩
theorem mr {β:Nat→Bt}{c:List SV}(h:c.all Vc.one=true):∀ u∈c.map (aj β),u.oneCell'=true:=by
 intro u hu;obtain⟨x,hx,rfl⟩:=List.mem_map.1 hu;have:=List.all_eq_true.1 h x hx
 have hov:∀ (b:Bt) (n:Nat),(oV b n).oneCell'=true:=fun b n=>by unfold oV;by_cases h:b.cap=0 <;> simp[h,Value.oneCell']
 have hfv:∀ (b:Bt) (n:Nat),(fV b n).oneCell'=true:=fun b n=>by unfold fV;by_cases h:b.cap=0 <;> simp[h,Value.oneCell']
 cases x <;> simp[Vc.one]at this <;> first|exact hov _ _|exact hfv _ _|simp[aj,Value.oneCell']
def J4:Go.Shelf.Ren:=⟨fun|41=>105|n=>n,fun|4=>4|22=>56|23=>35|n=>n,fun n=>n⟩
theorem AM:SlLaysE0.n41 Tryz.prog J4:={
 mixed:=by kernel_rfl
 f41 := ⟨Tryz.f105.name, by kernel_rfl, Tryz.func105.trans (congrArg some (by kernel_rfl))⟩
 t4:=underlying4
 a4:=isAgg4
 z4:=sizeOf4
 v4:=zeroValue4
 t22:=underlying56
 a22:=isAgg56
 z22:=sizeOf56
 v22:=zeroValue56 }
theorem LH {bs:List aq}{x:SV}{c:List SV}{n:Nat}(hx:Sx 35 7 x bs c n)(hc:flat.ah c=true)(h1:c.all Vc.one=true)(hl:c.length=n * 7)(hn:n≤1000000) :
 SC QH 105 [x] bs (fun r b=>r=lI bs n∧b=qD 35 7 bs c n):=by
 rcases hx with⟨rfl,rfl,rfl⟩|⟨j,m,rfl,h0,hj⟩
 ·refine od call105 (by simp[flat,lI]) (fun β fp w hb=>?_)
  exact(AnyE.slices_Clone_nil AM 0 0 w).mono fun e w' h=>⟨by rw[h.1];simp[lI,aj],cG h.2.symm⟩
 ·have kj:n≠0:=QA
  unfold lI qD;rw[if_neg kj,if_neg kj];refine vZ call105 h0 hl hc (fun β fp w hb _=>?_);have hh:=hb.holds j _ hj;rcases hh with⟨-,h,-,-⟩|⟨g1,g2,g3,g4,g5,-,-⟩
  ·omega
  obtain⟨i0,z,hi,hz,his,Hk,Ir⟩:=Tryz.ty35.info;have Np:=AnyE.slices_Clone AM i0 z 7 80 hi hz his Hk (by rw[Ir];rfl) QA sizeOf35 (β j).fy (β j).off n ((β j).cap - 1) (c.map (aj β)) w (by simpa using hl) (by unfold maxLen;omega) QA g5 (mr h1);have e2:(aZ β [.o j n]).toArray=#[.slice (some ⟨(β j).fy,(β j).off,none⟩) n ((β j).cap - 1)]:=by simp[aZ,aj,oV,g1]
  rw[e2];exact Np.mono fun e w' ⟨v',h1,h2,_,h4⟩=>⟨v',h1,h2,h4⟩
def J6:Go.Shelf.Ren:=⟨fun|41=>106|n=>n,fun|4=>4|22=>49|23=>62|n=>n,fun n=>n⟩
theorem AO:SlLaysE0.n41 Tryz.prog J6:={
 mixed:=by kernel_rfl
 f41 := ⟨Tryz.f106.name, by kernel_rfl, Tryz.func106.trans (congrArg some (by kernel_rfl))⟩
 t4:=underlying4
 a4:=isAgg4
 z4:=sizeOf4
 v4:=zeroValue4
 t22:=underlying49
 a22:=isAgg49
 z22:=sizeOf49
 v22:=zeroValue49 }
theorem LJ {bs:List aq}{x:SV}{c:List SV}{n:Nat}(hx:Sx 62 9 x bs c n)(hc:flat.ah c=true)(h1:c.all Vc.one=true)(hl:c.length=n * 9)(hn:n≤1000000) :
 SC QH 106 [x] bs (fun r b=>r=lI bs n∧b=qD 62 9 bs c n):=by
 rcases hx with⟨rfl,rfl,rfl⟩|⟨j,m,rfl,h0,hj⟩
 ·refine od call106 (by simp[flat,lI]) (fun β fp w hb=>?_)
  exact(AnyE.slices_Clone_nil AO 0 0 w).mono fun e w' h=>⟨by rw[h.1];simp[lI,aj],cG h.2.symm⟩
 ·have kj:n≠0:=QA
  unfold lI qD;rw[if_neg kj,if_neg kj];refine vZ call106 h0 hl hc (fun β fp w hb _=>?_);have hh:=hb.holds j _ hj;rcases hh with⟨-,h,-,-⟩|⟨g1,g2,g3,g4,g5,-,-⟩
  ·omega
  obtain⟨i0,z,hi,hz,his,Hk,Ir⟩:=Tryz.ty62.info;have Np:=AnyE.slices_Clone AO i0 z 9 96 hi hz his Hk (by rw[Ir];rfl) QA sizeOf62 (β j).fy (β j).off n ((β j).cap - 1) (c.map (aj β)) w (by simpa using hl) (by unfold maxLen;omega) QA g5 (mr h1);have e2:(aZ β [.o j n]).toArray=#[.slice (some ⟨(β j).fy,(β j).off,none⟩) n ((β j).cap - 1)]:=by simp[aZ,aj,oV,g1]
  rw[e2];exact Np.mono fun e w' ⟨v',h1,h2,_,h4⟩=>⟨v',h1,h2,h4⟩
def J5:Go.Shelf.Ren:=⟨fun|41=>107|n=>n,fun|4=>4|22=>46|23=>100|n=>n,fun n=>n⟩
theorem AN:SlLaysE0.n41 Tryz.prog J5:={
 mixed:=by kernel_rfl
 f41 := ⟨Tryz.f107.name, by kernel_rfl, Tryz.func107.trans (congrArg some (by kernel_rfl))⟩
 t4:=underlying4
 a4:=isAgg4
 z4:=sizeOf4
 v4:=zeroValue4
 t22:=underlying46
 a22:=isAgg46
 z22:=sizeOf46
 v22:=zeroValue46 }
theorem LI {bs:List aq}{x:SV}{c:List SV}{n:Nat}(hx:Sx 100 2 x bs c n)(hc:flat.ah c=true)(h1:c.all Vc.one=true)(hl:c.length=n * 2)(hn:n≤1000000) :
 SC QH 107 [x] bs (fun r b=>r=lI bs n∧b=qD 100 2 bs c n):=by
 rcases hx with⟨rfl,rfl,rfl⟩|⟨j,m,rfl,h0,hj⟩
 ·refine od call107 (by simp[flat,lI]) (fun β fp w hb=>?_)
  exact(AnyE.slices_Clone_nil AN 0 0 w).mono fun e w' h=>⟨by rw[h.1];simp[lI,aj],cG h.2.symm⟩
 ·have kj:n≠0:=QA
  unfold lI qD;rw[if_neg kj,if_neg kj];refine vZ call107 h0 hl hc (fun β fp w hb _=>?_);have hh:=hb.holds j _ hj;rcases hh with⟨-,h,-,-⟩|⟨g1,g2,g3,g4,g5,-,-⟩
  ·omega
  obtain⟨i0,z,hi,hz,his,Hk,Ir⟩:=Tryz.ty100.info;have Np:=AnyE.slices_Clone AN i0 z 2 32 hi hz his Hk (by rw[Ir];rfl) QA sizeOf100 (β j).fy (β j).off n ((β j).cap - 1) (c.map (aj β)) w (by simpa using hl) (by unfold maxLen;omega) QA g5 (mr h1);have e2:(aZ β [.o j n]).toArray=#[.slice (some ⟨(β j).fy,(β j).off,none⟩) n ((β j).cap - 1)]:=by simp[aZ,aj,oV,g1]
  rw[e2];exact Np.mono fun e w' ⟨v',h1,h2,_,h4⟩=>⟨v',h1,h2,h4⟩
end Go.Proofs.YtnmlimehgifadaaGreatDoor
