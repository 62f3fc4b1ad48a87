/- Texts of this claim, laid together: BodyP, BodyQ, CutP, Body, Body2, Body3, RefBody, Law19, Row, Bld2, CutW, HeadP, FetchP, FetchQ, HeadQ, HopsP, MadeR, MadeA, MadeB, TreeP, Pick, TreeA, TreeB, TreeC, TreeD, MadeS, MadeC. -/
import Derived.Deep.RegionWith
import Derived.Deep.QuietTactic
import Derived.BigQuiet
import Derived.StillTailTactics
import Derived.Lib.Join
import Derived.Test.YtnmlimehgifadaaGreatDoorQ5
open And renaming intro → zRH
open List renaming getElem?_eq_some_iff → zRI, toArray → zRJ, getElem?_append_left → zRL, getElem?_set_self → zRN, getElem?_set_ne → zRO, length_append → zRP, length_cons → zRQ, mem_singleton → zRR, map_cons → zRS, cons_append → zRT, length_nil → zRU, map_nil → zRV, append_assoc → zRY, flatMap_append → zRZ, mem_append → zR0, getElem?_append_right → zR2, getElem?_eq_none → zR3, nil_append → zR4, length_take → zR5, getElem?_eq_getElem → zR6, length_map → zR7, flatMap_cons → zR8, length_drop → zR9
open Nat renaming add_sub_cancel_left → zRM, sub_self → zRW, le_refl → zRX, lt_or_ge → zR1
set_option linter.all false
set_option maxHeartbeats 16000000
set_option maxRecDepth 20000
namespace Wf
open Go Go.RowKit
def vU (d:Nat):UInt8:=if d<10 then(48+d).toUInt8 else(87+d).toUInt8
def nv (n:Nat):Bytes:=if _h:n=0 then [] else nv (n / 16)++[vU (n % 16)]
termination_by n
decreasing_by omega
theorem N0 (k:Nat):List.drop (k % 16) (48::List.take (k % 16) [49,50,51,52,53,54,55,56,57,97,98,99,100,101,102])=[vU (k % 16)]:=by
 have:(List.range 16).all (fun d=>List.drop d (48::List.take d [49,50,51,52,53,54,55,56,57,97,98,99,100,101,102])==[vU d])=true:=by decide +kernel
 rw[List.all_eq_true]at this
 simpa using this (k % 16) (by simp;omega)
theorem NZ {k n:Nat}{l:Bytes}(h0:0<k)(h:nv k++l=nv n):nv (k / 16)++(vU (k % 16)::l)=nv n:=by
 rw[← h];conv=>rhs;rw[nv,dif_neg (by omega)]
 simp
theorem nS {n:Nat}(h:0<n):nv n=nv (n / 16)++[vU (n % 16)]:=by
 rw[nv,dif_neg (by omega)]
theorem jM:nv 0=[]:=by rw[nv];rfl
theorem xd (n:Nat):(nv n).length≤n:=by
 induction n using Nat.strongRecOn with
 | _ n ih =>
   rcases Nat.eq_zero_or_pos n with rfl|h
   ·simp[jM]
   ·rw[nS h];have:=ih (n / 16) (by omega);simp;omega
def cZ (size:Int)(s:Bytes):Nat:=(min (max size 1) s.length).toNat
theorem kQ {size:Int}{s:Bytes}(h:s≠[]):0<cZ size s∧cZ size s≤s.length:=by
 have:=List.length_pos_iff.2 h;unfold cZ;omega
def crlf:Bytes:=[13,10]
def encode (size:Int)(s:Bytes):Bytes :=
 if _h:s=[] then [48,13,10,13,10] else nv (cZ size s)++crlf++s.take (cZ size s)++crlf++encode size (s.drop (cZ size s))
termination_by s.length
decreasing_by have:=kQ (size:=size) _h;simp;omega
theorem rA {size:Int}{s:Bytes}(h:s≠[]):encode size s=nv (cZ size s)++crlf++s.take (cZ size s)++crlf++encode size (s.drop (cZ size s)):=by
 rw[encode,dif_neg h]
theorem iE {size:Int}:encode size []=[48,13,10,13,10]:=by rw[encode];rfl
theorem GB {size:Int}{s0 s acc:Bytes}(h:s≠[])(he:acc++encode size s=encode size s0):(acc++(nv (cZ size s)++(13::10::(s.take (cZ size s)++[13,10]))))++encode size (s.drop (cZ size s))=encode size s0:=by
 rw[← he,rA h];simp[crlf]
def bY:Bytes→Int × Bytes
 | 13::10::r=>(0,r)
 | []=>(191,[])
 | [13]=>(191,[13])
 | r=>(190,r)
theorem nj (r:Bytes):(∃ t,r=13::10::t)∨r=[]∨r=[13]∨(Lib.hasPrefix r [13,10]=false∧r.isEmpty=false∧(r==[13])=false∧bY r=(190,r)):=by
 match r with
 | []=>exact .inr (.inl rfl)
 | [c] =>
   by_cases h:c=13
   ·exact .inr (.inr (.inl (by rw[h])))
   ·refine .inr (.inr (.inr ⟨by simp[Lib.hasPrefix,List.isPrefixOf],rfl,by simp[h],?_⟩))
    unfold bY
    split <;> simp_all
 | c::d::t =>
   by_cases h:c=13∧d=10
   ·exact .inl ⟨t,by rw[h.1,h.2]⟩
   ·refine .inr (.inr (.inr ⟨?_,rfl,by simp,?_⟩))
    ·simp[Lib.hasPrefix,List.isPrefixOf];intro h1;subst h1;intro h2;exact h ⟨rfl,h2.symm⟩
    ·unfold bY
     split <;> simp_all
theorem zi (r:Bytes):(bY r).2.length≤r.length:=by
 rcases nj r with⟨t,rfl⟩|rfl|rfl|⟨_,_,_,h⟩
 ·simp[bY];omega
 ·simp[bY]
 ·simp[bY]
 ·rw[h];exact zRX _
def im (c:UInt8):Bool:=[13,10].contains c
def xP (r:Bytes)(n:Nat):Nat:=if (bh bm 16 4611686018427387904 (r.take n)).2=0 then(bh bm 16 4611686018427387904 (r.take n)).1 else 4611686018427387904
def dQ (r:Bytes):Nat:=pre (fun c=>!bm c) r
def Jc (r:Bytes):Bool:=match r.drop (dQ r) with
 | c::_=>c==59||c==13
 | []=>false
def dM (r:Bytes)(old:Nat):Int × Nat × Bytes :=
 if dQ r=r.length then(191,old,r)
 else if dQ r=0∨Jc r=false then(190,old,r)
 else if (bY (r.drop (pre im r))).1=0 then(0,xP r (dQ r),(bY (r.drop (pre im r))).2)
 else((bY (r.drop (pre im r))).1,old,(bY (r.drop (pre im r))).2)
theorem Km {r:Bytes}(h:dQ r<r.length):Jc r=(r[dQ r]==59||r[dQ r]==13):=by
 unfold Jc;rw[drop_cons r _ h]
theorem semi_at (c:UInt8):Lib.indexByte [59,13] c=if c=59 then 0 else if c=13 then 1 else -1:=by
 have:=dz (p:=fun c=>decide (Lib.indexByte [59,13] c=if c=59 then 0 else if c=13 then 1 else -1)) (by decide +kernel) c
 exact of_decide_eq_true this
theorem zh {r:Bytes}(h:(bY r).1=0):(bY r).2.length+2=r.length:=by
 rcases nj r with⟨t,rfl⟩|rfl|rfl|⟨_,_,_,h4⟩
 ·simp[bY]
 ·simp[bY]at h
 ·simp[bY]at h
 ·rw[h4]at h;simp at h
def kW:Nat→Bytes→Int
 | 0,_=>0
 | f+1,r =>
   if (bY (r.drop (pre im r))).1≠0 then(bY (r.drop (pre im r))).1
   else if r.take (pre im r)=[] then 0
   else kW f (bY (r.drop (pre im r))).2
def ye (most:Int):Nat→Bytes→Bytes→Nat→Bytes × Int
 | 0,_,_,_=>([],0)
 | f+1,acc,r,old =>
   if (dM r old).1≠0 then([],(dM r old).1)
   else if most<0∨most - acc.length<(dM r old).2.1 then([],142)
   else if (dM r old).2.1=0 then
    if kW ((dM r old).2.2.length+1) (dM r old).2.2≠0 then([],kW ((dM r old).2.2.length+1) (dM r old).2.2) else(acc,0)
   else if (dM r old).2.2.length<(dM r old).2.1 then([],191)
   else if (bY ((dM r old).2.2.drop (dM r old).2.1)).1≠0 then([],(bY ((dM r old).2.2.drop (dM r old).2.1)).1)
   else ye most f (acc++(dM r old).2.2.take (dM r old).2.1) (bY ((dM r old).2.2.drop (dM r old).2.1)).2 (dM r old).2.1
def chunked (s:Bytes)(most:Int):Bytes × Int:=ye most (s.length+1) [] s 0
theorem MG {r:Bytes}{old:Nat}(h:(dM r old).1=0):(dM r old).2.2.length<r.length:=by
 unfold dM at h ⊢
 split at h
 ·simp at h
 ·split at h
  ·simp at h
  ·split at h
   ·rename_i h1 h2 h3
    rw[if_neg h1,if_neg h2,if_pos h3]
    have:=zh h3
    simp at this ⊢
    omega
   ·rename_i h3
    exact absurd h h3
theorem Kj (r:Bytes)(old:Nat):(dM r old).2.2.length≤r.length:=by
 unfold dM
 split
 ·exact zRX _
 ·split
  ·exact zRX _
  ·have:=zi (r.drop (pre im r))
   simp at this
   split <;> (simp only;omega)
theorem EN (r:Bytes)(old:Nat)(h:old≤4611686018427387904):(dM r old).2.1≤4611686018427387904:=by
 unfold dM
 split
 ·exact h
 ·split
  ·exact h
  ·split
   ·simp only[xP]
    split
    ·exact wV _ _ _ _
    ·exact zRX _
   ·exact h
open Go Go.RowKit
theorem pre_append {p:UInt8→Bool}{a b:Bytes}(h:∀ c∈a,p c=false):pre p (a++b)=a.length+pre p b:=by
 induction a with
 | nil=>simp
 | cons c a ih =>
   rw[zRT,cT,h c (by simp),ih (fun x hx=>h x (by simp[hx]))]
   simp;omega
open Go Go.RowKit
end Wf
namespace Go.Proofs.YtnmlimehgifadaaGreatDoor
open Go.RowKit Wf
attribute [local go_sem] fE eV get_list
theorem lR (cb:Nat)(r:Bytes)(n:Int)(w:World)(hr:r.length≤4000000000)(hc:w.heap[cb]? = some (.cells #[(Value.string ⟨zRJ (r)⟩),.int .u64 n] 256 (0,0))) :
 Calls Tryz.prog 231 #[.pointer (some ⟨cb,0,none⟩)] w fun e w'=>e=.returned (.int .i64 (bY r).1)∧w'.heap[cb]? = some (.cells #[(Value.string ⟨zRJ ((bY r).2)⟩),.int .u64 n] 256 (0,0))∧Fr (·=cb) w w':=by
 have jT:w.cell? ⟨cb,0,none⟩=some (Value.string ⟨zRJ (r)⟩):=Lib.cell_of_heap hc 0
 have hf:=Lib.frozen_of_heap hc 0
 have Hc:=hid hc
 clear hc
 rcases nj r with⟨t,rfl⟩|rfl|rfl|⟨h1,h2,h3,h4⟩
 ·have hp:Lib.hasPrefix (13::10::t) [13,10]=true:=rfl
  simp at hr
  go_enter Tryz.func231,Tryz.ntmps231
  go_wp2_with (go_at_call 115;refine(Tryz.strings_HasPrefix _ _ _).mono ?_;rintro e w' ⟨rfl,rfl⟩)
  go_ret
  exact⟨rfl,heap_set Hc.out _,Fr.Kl _ _⟩
 ·have hp:Lib.hasPrefix [] [13,10]=false:=rfl
  go_enter Tryz.func231,Tryz.ntmps231
  go_wp2_with (go_at_call 115;refine(Tryz.strings_HasPrefix _ _ _).mono ?_;rintro e w' ⟨rfl,rfl⟩)
  go_ret
  exact⟨rfl,Hc.out,Fr.refl _ _⟩
 ·have hp:Lib.hasPrefix [13] [13,10]=false:=rfl
  go_enter Tryz.func231,Tryz.ntmps231
  go_wp2_with (go_at_call 115;refine(Tryz.strings_HasPrefix _ _ _).mono ?_;rintro e w' ⟨rfl,rfl⟩)
  go_ret
  exact⟨rfl,Hc.out,Fr.refl _ _⟩
 ·have H4:=hid h4
  clear h4
  go_enter Tryz.func231,Tryz.ntmps231
  go_wp2_with (go_at_call 115;refine(Tryz.strings_HasPrefix _ _ _).mono ?_;rintro e w' ⟨rfl,rfl⟩)
  go_ret
  rw[H4.out]
  exact⟨rfl,Hc.out,Fr.refl _ _⟩
theorem mS (cb:Nat)(r:Bytes)(n:Int)(w:World)(hr:r.length≤4000000000)(hc:w.heap[cb]? = some (.cells #[(Value.string ⟨zRJ (r)⟩),.int .u64 n] 256 (0,0))) :
 Calls Tryz.prog 232 #[.pointer (some ⟨cb,0,none⟩)] w fun e w'=>e=.returned (.tuple #[(Value.string ⟨zRJ (r.take (pre im r))⟩),.int .i64 (bY (r.drop (pre im r))).1])∧w'.heap[cb]? = some (.cells #[(Value.string ⟨zRJ ((bY (r.drop (pre im r))).2)⟩),.int .u64 n] 256 (0,0))∧Fr (·=cb) w w':=by
 have jT:w.cell? ⟨cb,0,none⟩=some (Value.string ⟨zRJ (r)⟩):=Lib.cell_of_heap hc 0
 have hf:=Lib.frozen_of_heap hc 0
 have Hc:=hid hc
 have Mg:Lib.indexAny r [13,10]=if pre im r<r.length then(pre im r:Int) else -1:=kI r [13,10]
 have hle:=cV im r
 have Hix:=hid Mg
 clear hc Mg
 go_enter Tryz.func232,Tryz.ntmps232
 go_wp2_with fail
 refine(strings_IndexAny _ _ _ (by decide) (by decide) (by decide) (by omega)).mono ?_
 rintro e w1 ⟨rfl,eX⟩
 rw[Hix.out]
 have JK:w1.cell? ⟨cb,0,none⟩=some (Value.string ⟨zRJ (r)⟩):=(eX.cell (cU Hc.out)).trans jT
 have Gr:w1.frozen? ⟨cb,0,none⟩=false:=(eX.frozen (cU Hc.out)).trans hf
 have Hc1:=hid ((eX.block cb (cU Hc.out)).trans Hc.out)
 have Hb1:=hid eX
 clear jT hf eX
 by_cases aA:pre im r<r.length
 ·rw[if_pos aA]
  go_wp2_with (go_at_call 231;refine(lR cb (r.drop (pre im r)) n _ (by simp;omega) (by exact heap_set Hc1.out _)).mono ?_;rintro e w2 ⟨rfl,mg,p6⟩)
  go_ret2
  exact⟨rfl,mg,((Fr.jY Hb1.out (fun k h1 h2=>by omega)).trans (Fr.Kl _ _)).trans p6⟩
 ·have hd:r.drop (pre im r)=[]:=List.drop_of_length_le (by omega)
  have ht:r.take (pre im r)=r:=List.take_of_length_le (by omega)
  have Hd:=hid hd
  have Ht:=hid ht
  clear hd ht
  rw[if_neg aA]
  go_wp2_with (go_at_call 231;refine(lR cb [] n _ (by simp) (by exact heap_set Hc1.out _)).mono ?_;rintro e w2 ⟨rfl,mg,p6⟩)
  go_ret2
  rw[Hd.out,Ht.out]
  exact⟨rfl,mg,((Fr.jY Hb1.out (fun k h1 h2=>by omega)).trans (Fr.Kl _ _)).trans p6⟩
open Go.RowKit Wf
attribute [local go_sem] fE eV get_list
theorem Ec (cb:Nat)(r:Bytes)(n:Nat)(w:World)(hr:r.length≤4000000000)(hc:w.heap[cb]? = some (.cells #[(Value.string ⟨zRJ (r)⟩),.int .u64 n] 256 (0,0))) :
 Calls Tryz.prog 228 #[.pointer (some ⟨cb,0,none⟩)] w fun e w'=>e=.returned (.int .i64 (dM r n).1)∧w'.heap[cb]? = some (.cells #[(Value.string ⟨zRJ ((dM r n).2.2)⟩),.int .u64 (dM r n).2.1] 256 (0,0))∧Fr (·=cb) w w':=by
 have jT:w.cell? ⟨cb,0,none⟩=some (Value.string ⟨zRJ (r)⟩):=Lib.cell_of_heap hc 0
 have Hc:=hid hc
 have hle:=cV (fun c=>!bm c) r
 change dQ r≤r.length at hle
 clear hc
 go_enter Tryz.func228,Tryz.ntmps228
 go_wp2_with fail
 go_loop [3] (fun i=>∃ k:Nat,k≤dQ r∧i=.int .i64 k) (fun i=>dQ r - (intOf i).toNat)
 case atStart=>exact⟨0,by omega,rfl⟩
 case round =>
  obtain⟨k,hk,rfl⟩:=hrel
  by_cases aA:k<dQ r
  ·have hx:bm r[k]=true:=by have:=jc (p:=fun c=>!bm c) aA (by omega);simpa using this
   go_wp2_with (go_at_call 255;refine(eR _ _).mono ?_;rintro e w' ⟨rfl,rfl⟩)
   go_round
   case rel=>exact⟨k+1,by omega,by go_num⟩
   case measure=>simp[intOf];omega
  ·obtain rfl:k=dQ r:=by omega
   clear hk aA
   by_cases kL:dQ r=r.length
   ·have eX:((dQ r:Int)==(r.length:Int))=true:=by simp[kL]
    have Hs:=hid (show dM r n=(191,n,r) by unfold dM;rw[if_pos kL])
    go_wp2_with (go_at_call 255;refine(eR _ _).mono ?_;rintro e w' ⟨rfl,rfl⟩)
    go_ret
    rw[Hs.out]
    exact⟨rfl,Hc.out,Fr.refl _ _⟩
   ·have Lc:dQ r<r.length:=by omega
    have eX:((dQ r:Int)==(r.length:Int))=false:=beq_eq_false_iff_ne.2 (by omega)
    have hx:bm r[dQ r]=false:=by
     have h:=iC (p:=fun c=>!bm c) (l:=r) Lc
     simp only[Bool.not_eq_true']at h
     exact h
    clear kL
    have Hsep:=hid (Km Lc)
    by_cases hz:dQ r=0
    ·have Hs:=hid (show dM r n=(190,n,r) by unfold dM;rw[if_neg (by omega),if_pos (Or.inl hz)])
     have rL:((dQ r:Int)==0)=true:=by simp[hz]
     clear hz
     go_wp2_with (go_at_call 255;refine(eR _ _).mono ?_;rintro e w' ⟨rfl,rfl⟩)
     go_ret
     rw[Hs.out]
     exact⟨rfl,Hc.out,Fr.refl _ _⟩
    ·have rL:((dQ r:Int)==0)=false:=beq_eq_false_iff_ne.2 (by omega)
     have Mg:=semi_at r[dQ r]
     cases K0:Jc r
     ·have Hs:=hid (show dM r n=(190,n,r) by unfold dM;rw[if_neg (by omega),if_pos (Or.inr K0)])
      have hi:Lib.indexByte [59,13] r[dQ r]=-1:=by
       rw[Mg];have:=Hsep.out;rw[K0]at this;simp at this;rw[if_neg (by simp_all),if_neg (by simp_all)]
      have Hi:=hid hi
      clear hi Mg K0
      go_wp2_with (first
       | (go_at_call 255;refine(eR _ _).mono ?_;rintro e w' ⟨rfl,rfl⟩)
       | (go_at_call 209;refine(eM _ _ _).mono ?_;rintro e w' ⟨rfl,rfl⟩;rw[Hi.out]))
      go_ret
      rw[Hs.out]
      exact⟨rfl,Hc.out,Fr.refl _ _⟩
     ·have hi:¬ Lib.indexByte [59,13] r[dQ r]<0:=by
       rw[Mg];have:=Hsep.out;rw[K0]at this;simp at this
       rcases this with h|h
       ·rw[if_pos h];decide
       ·rw[h];decide
      have Hs:=hid (show dM r n=if (bY (r.drop (pre im r))).1=0 then(0,xP r (dQ r),(bY (r.drop (pre im r))).2) else((bY (r.drop (pre im r))).1,n,(bY (r.drop (pre im r))).2) by
       unfold dM;rw[if_neg (by omega),if_neg (by simp[hz,K0])])
      clear Mg K0 hz
      by_cases he:(bY (r.drop (pre im r))).1=0
      ·have Hs2:=hid (Hs.out.trans (if_pos he))
       have he2:((bY (r.drop (pre im r))).1 != 0)=false:=by simp[he]
       clear he
       have L7:xP r (dQ r)=if (bh bm 16 4611686018427387904 (r.take (dQ r))).2=0 then(bh bm 16 4611686018427387904 (r.take (dQ r))).1 else 4611686018427387904:=rfl
       generalize hnp:bh bm 16 4611686018427387904 (r.take (dQ r))=np at L7
       have Hnp:=hid hnp
       have Hso:=hid L7
       clear hnp L7
       by_cases N4:np.2=0
       ·have Hso2:=hid (Hso.out.trans (if_pos N4))
        have he4:(np.2 != 0)=false:=by simp[N4]
        clear N4
        go_wp2_with (first
         | (go_at_call 255;refine(eR _ _).mono ?_;rintro e w' ⟨rfl,rfl⟩)
         | (go_at_call 209;refine(eM _ _ _).mono ?_;rintro e w' ⟨rfl,rfl⟩)
         | (go_at_call 266;refine(uo _ _ (by simp;omega)).mono ?_;rintro e w3 ⟨rfl,KW⟩;subst KW;rw[Hnp.out])
         | (go_at_call 232;refine(mS cb r n _ hr Hc.out).mono ?_;rintro e w2 ⟨rfl,mg,p6⟩;have bJ:=Lib.cell_of_heap mg 1;have hz2:=Lib.frozen_of_heap mg 1;replace mg:=hid mg))
        go_ret
        rw[Hs2.out,Hso2.out]
        exact⟨rfl,heap_set mg.out _,p6.trans (Fr.Kl _ _)⟩
       ·have Hso2:=hid (Hso.out.trans (if_neg N4))
        have he4:(np.2 != 0)=true:=by simp[N4]
        clear N4
        go_wp2_with (first
         | (go_at_call 255;refine(eR _ _).mono ?_;rintro e w' ⟨rfl,rfl⟩)
         | (go_at_call 209;refine(eM _ _ _).mono ?_;rintro e w' ⟨rfl,rfl⟩)
         | (go_at_call 266;refine(uo _ _ (by simp;omega)).mono ?_;rintro e w3 ⟨rfl,KW⟩;subst KW;rw[Hnp.out])
         | (go_at_call 232;refine(mS cb r n _ hr Hc.out).mono ?_;rintro e w2 ⟨rfl,mg,p6⟩;have bJ:=Lib.cell_of_heap mg 1;have hz2:=Lib.frozen_of_heap mg 1;replace mg:=hid mg))
        go_ret
        rw[Hs2.out,Hso2.out]
        exact⟨rfl,heap_set mg.out _,p6.trans (Fr.Kl _ _)⟩
      ·have Hs2:=hid (Hs.out.trans (if_neg he))
       have he2:((bY (r.drop (pre im r))).1 != 0)=true:=by simp[he]
       clear he
       go_wp2_with (first
        | (go_at_call 255;refine(eR _ _).mono ?_;rintro e w' ⟨rfl,rfl⟩)
        | (go_at_call 209;refine(eM _ _ _).mono ?_;rintro e w' ⟨rfl,rfl⟩)
        | (go_at_call 232;refine(mS cb r n _ hr Hc.out).mono ?_;rintro e w2 ⟨rfl,mg,p6⟩))
       go_ret
       rw[Hs2.out]
       exact⟨rfl,mg,p6⟩
open Go.RowKit Wf
attribute [local go_sem] fE eV get_list
def yg (w:World)(b:Nat):Nat:=lx ((w.cell? ⟨b,0,none⟩).getD undef)
theorem oW {w:World}{b:Nat}{r:Bytes}{x:Value}{T:TypeId}(h:w.heap[b]? = some (.cells #[(Value.string ⟨zRJ (r)⟩),x] T (0,0))):yg w b=r.length:=by
 unfold yg;rw[Lib.cell_of_heap h 0];rfl
set_option maxRecDepth 100000 in
theorem Ed (s:Bytes)(most:Int)(w:World)(hs:s.length≤4000000)(h1:-9223372036854775808≤most)(h2:most≤9223372036854775807) :
 Calls Tryz.prog 178 #[(Value.string ⟨zRJ (s)⟩),.int .i64 most] w fun e w'=>e=.returned (.tuple #[(Value.string ⟨zRJ ((chunked s most).1)⟩),.int .i64 (chunked s most).2])∧Below w.heap.size w w':=by
 go_enter Tryz.func178,Tryz.ntmps178
 go_wp2_with fail
 go_step3
 go_wp2_with fail
 go_step3
 go_wp2_with fail
 go_loopw [] (fun wr=>∃ (f:Nat) (acc r:Bytes) (old:Nat),r.length<f∧r.length+acc.length≤s.length∧(0≤most→(acc.length:Int)≤most)∧old≤4611686018427387904∧wy w.heap.size acc wr∧wr.heap[w.heap.size+1]? = some (.cells #[(Value.string ⟨zRJ (r)⟩),.int .u64 old] 256 (0,0))∧Below w.heap.size w wr∧ye most f acc r old=chunked s most) (fun wr=>yg wr (w.heap.size+1))
 case atStart =>
  refine⟨s.length+1,[],s,0,by omega,by simp,by simp,by omega,?_,?_,((Below.refl _ _).alloc (zRX _) _).alloc (by simp) _,rfl⟩
  ·exact(wy.fresh w).alloc _
  ·have:=eI (w.alloc (.cells #[.pointer none,.slice none 0 0] 253)) (.cells #[(Value.string ⟨zRJ (s)⟩),.int .u64 0] 256)
   rw[size_alloc]at this
   exact this
 case round =>
  obtain⟨f,acc,r,old,hf,hra,hm,ho,hb,hc,hw,heq⟩:=hrel
  have Hb:=hid hb
  have Hc:=hid hc
  have Hw:=hid hw
  have Hcl:=hid (oW hc)
  cases f with
  | zero=>omega
  | succ f =>
  have fD:=Kj r old
  have AE:=MG (r:=r) (old:=old)
  have hsb:=EN r old ho
  rw[ye]at heq
  have mL:=Ec (w.heap.size+1) r old wr (by omega) hc
  generalize dM r old=S at fD AE hsb heq mL
  obtain⟨e,n,r2⟩:=S
  simp only at fD AE hsb heq mL
  have Heq:=hid heq
  have Hsz:=hid mL
  clear hb hc hw heq mL
  by_cases he:e=0
  ·have Hsk:=hid (AE he)
   clear AE
   subst he
   go_wp2_with fail
   refine Hsz.out.mono ?_
   rintro e w2 ⟨rfl,mg,p6⟩
   have rL:wy w.heap.size acc w2:=Hb.out.fr p6 Hc.out (by decide) (by omega)
   have gx:=Hw.out.trans (p6.below (B:=w.heap.size) (fun k hk=>by omega) (Nat.le_of_lt Hb.out.lt))
   have jI:=Lib.cell_of_heap mg 1
   have JD:=Lib.cell_of_heap mg 0
   have hz2:=Lib.frozen_of_heap mg 0
   have Hb2:=hid rL
   have Hw2:=hid gx
   have Hc2:=hid mg
   have Hf2:=hid p6
   clear rL gx mg p6
   by_cases DL:most<0
   ·have Hq:=hid ((if_pos (Or.inl DL)).symm.trans Heq.out)
    go_wp2_with fail
    go_quiet (fail)
    go_wp2_with fail
    rw[Exit.noGoto_ret]
    go_ret2
    rw[← Hq.out]
    exact⟨rfl,below_drewN Hw2.out _⟩
   ·have hm':=hm (by omega)
    have xF:IntKind.i64.wrap (most - (acc.length:Int))=most - (acc.length:Int):=IntWalk.i64_in _ (by omega)
    have fA:IntKind.u64.wrap (most - (acc.length:Int))=most - (acc.length:Int):=u64_in (by omega) (by omega)
    by_cases hbig:most - acc.length<n
    ·have Hq:=hid ((if_pos (Or.inr hbig)).symm.trans Heq.out)
     go_wp2_with fail
     go_quiet ((go_at_call 229;refine oC (qZ _ acc _ (by exact Hb2.out))))
     clear xF fA
     go_wp2_with fail
     rw[Exit.noGoto_ret]
     go_ret2
     rw[← Hq.out]
     exact⟨rfl,below_drewN Hw2.out _⟩
    ·have Hq:=hid ((if_neg (show ¬ (most<0∨most - acc.length<n) by omega)).symm.trans Heq.out)
     have hbg:decide (most - (acc.length:Int)<(n:Int))=false:=decide_eq_false hbig
     by_cases mO:n=0
     ·have Hq2:=hid ((if_pos mO).symm.trans Hq.out)
      have hn0':((n:Int)==0)=true:=by simp[mO]
      go_wp2_with fail
      go_quiet ((go_at_call 229;refine oC (qZ _ acc _ (by exact Hb2.out))))
      clear xF fA
      subst mO
      have Hb3:Hid (wy w.heap.size acc (w2.drewN nq)):=hid Hb2.out
      have Hw3:Hid (Below w.heap.size w (w2.drewN nq)):=hid (below_drewN Hw2.out _)
      have Hc3:Hid ((w2.drewN nq).heap[w.heap.size+1]? = some (.cells #[(Value.string ⟨zRJ (r2)⟩),.int .u64 ((0:Nat):Int)] 256 (0,0))):=hid Hc2.out
      clear Hb Hc Hw Hcl Heq Hsz jI JD hz2 Hb2 Hw2 Hc2 Hf2 hm ho Hq hsb Hsk hbg hn0'
      have hbg0:decide (most - (acc.length:Int)<0)=false:=decide_eq_false (by omega)
      generalize w2.drewN nq=w3 at Hb3 Hw3 Hc3 ⊢
      have uA:=Lib.cell_of_heap Hc3.out 1
      have hr3:=Lib.cell_of_heap Hc3.out 0
      have hng0:decide (most<0)=false:=decide_eq_false (by omega)
      go_wp2_with fail
      clear uA hr3
      simp only[hbg0,hng0,Bool.or_self]
      go_loopw [] (fun wq=>∃ (g:Nat) (q:Bytes),q.length<g∧q.length≤r2.length∧wy w.heap.size acc wq∧wq.heap[w.heap.size+1]? = some (.cells #[(Value.string ⟨zRJ (q)⟩),.int .u64 ((0:Nat):Int)] 256 (0,0))∧Below w.heap.size w wq∧kW g q=kW (r2.length+1) r2) (fun wq=>yg wq (w.heap.size+1))
      case atStart=>exact⟨r2.length+1,r2,by omega,by omega,Hb3.out,Hc3.out,Hw3.out,rfl⟩
      case round =>
       obtain⟨g,q,hg,hq,hb,hc,hw,htr⟩:=hrel
       have Hb4:=hid hb
       have Hc4:=hid hc
       have Hw4:=hid hw
       have Hcl:=hid (oW hc)
       cases g with
       | zero=>omega
       | succ g =>
       rw[kW]at htr
       have Lc:=mS (w.heap.size+1) q (0:Nat) wr (by omega) hc
       have hnk:=zh (r:=q.drop (pre im q))
       have hple:=cV im q
       have htl:(q.take (pre im q)).length=pre im q:=by simp;omega
       simp only[zR9]at hnk
       generalize bY (q.drop (pre im q))=E at Lc hnk htr
       generalize q.take (pre im q)=tk at Lc htr htl
       obtain⟨e,q2⟩:=E
       simp only at Lc hnk htr
       have Hln:=hid Lc
       have Htr:=hid htr
       clear hb hc hw Lc htr
       by_cases he:e=0
       ·have hnk':=hnk he
        clear hnk
        subst he
        by_cases KY:tk=[]
        ·have htk':tk.isEmpty=true:=by simp[KY]
         have Htr2:=hid ((if_pos KY).symm.trans ((if_neg (show ¬ ((0:Int)≠0) by simp)).symm.trans Htr.out))
         go_wp2_with fail
         refine Hln.out.mono ?_
         rintro e w2 ⟨rfl,mg,p6⟩
         have Hc2:=hid mg
         have Hf2:=hid p6
         have Hb5:=hid (Hb4.out.fr p6 Hc4.out (by decide) (by omega))
         have Hw5:=hid (Hw4.out.trans (p6.below (B:=w.heap.size) (fun k hk=>by omega) (Nat.le_of_lt Hb4.out.lt)))
         clear mg p6
         go_wp2_with (go_at_call 233;refine(Aw _ acc _ Hb5.out).mono ?_;rintro e w6 ⟨rfl,hb6,hw6,ho6⟩)
         rw[Exit.noGoto_ret]
         go_ret2
         have hq:=Hq2.out
         rw[← Htr2.out,if_neg (by simp)]at hq
         rw[← hq]
         exact⟨rfl,Hw5.out.trans hw6⟩
        ·have htk':tk.isEmpty=false:=by simp[KY]
         have Htr2:=hid ((if_neg KY).symm.trans ((if_neg (show ¬ ((0:Int)≠0) by simp)).symm.trans Htr.out))
         go_wp2_with fail
         refine Hln.out.mono ?_
         rintro e w2 ⟨rfl,mg,p6⟩
         have Hc2:=hid mg
         have Hb5:=hid (Hb4.out.fr p6 Hc4.out (by decide) (by omega))
         have Hw5:=hid (Hw4.out.trans (p6.below (B:=w.heap.size) (fun k hk=>by omega) (Nat.le_of_lt Hb4.out.lt)))
         clear mg p6
         go_wp2_with fail
         refine⟨⟨g,q2,by omega,by omega,Hb5.out,Hc2.out,Hw5.out,Htr2.out⟩,?_⟩
         rw[oW Hc2.out,Hcl.out]
         omega
       ·have he2:(e != 0)=true:=by simp[he]
        go_wp2_with fail
        refine Hln.out.mono ?_
        rintro e w2 ⟨rfl,mg,p6⟩
        have Htr2:=hid ((if_pos he).symm.trans Htr.out)
        go_wp2_with fail
        rw[Exit.noGoto_ret]
        go_ret2
        have hq:=Hq2.out
        rw[← Htr2.out,if_pos he]at hq
        rw[← hq]
        exact⟨rfl,Hw4.out.trans (p6.below (B:=w.heap.size) (fun k hk=>by omega) (Nat.le_of_lt Hb4.out.lt))⟩
     ·have Hq2:=hid ((if_neg mO).symm.trans Hq.out)
      have hn0':((n:Int)==0)=false:=by simp[mO]
      clear Heq Hq
      go_wp2_with fail
      go_quiet ((go_at_call 229;refine oC (qZ _ acc _ (by exact Hb2.out))))
      clear xF fA
      have Hb3:Hid (wy w.heap.size acc (w2.drewN nq)):=hid Hb2.out
      have Hw3:Hid (Below w.heap.size w (w2.drewN nq)):=hid (below_drewN Hw2.out _)
      have Hc3:Hid ((w2.drewN nq).heap[w.heap.size+1]? = some (.cells #[(Value.string ⟨zRJ (r2)⟩),.int .u64 (n:Int)] 256 (0,0))):=hid Hc2.out
      clear Hb Hc Hw Hsz jI JD hz2 Hb2 Hw2 Hc2 Hf2 hm ho hbg
      generalize w2.drewN nq=w3 at Hb3 Hw3 Hc3 ⊢
      have uA:=Lib.cell_of_heap Hc3.out 1
      have hr3:=Lib.cell_of_heap Hc3.out 0
      have hz3:=Lib.frozen_of_heap Hc3.out 0
      have Ch:IntKind.u64.wrap (r2.length:Int)=(r2.length:Int):=u64_in (by omega) (by omega)
      by_cases hsh:r2.length<n
      ·have Hq3:=hid ((if_pos hsh).symm.trans Hq2.out)
       go_wp2_with fail
       go_quiet (fail)
       clear Ch
       go_wp2_with fail
       rw[Exit.noGoto_ret]
       go_ret2
       rw[← Hq3.out]
       exact⟨rfl,below_drewN Hw3.out _⟩
      ·have Hq3:=hid ((if_neg hsh).symm.trans Hq2.out)
       have hsh':decide ((r2.length:Int)<(n:Int))=false:=decide_eq_false (by omega)
       go_wp2_with fail
       go_quiet (fail)
       clear Ch
       go_wp2_with fail
       have hr4:(w3.drewN nq).cell? ⟨w.heap.size+1,0,none⟩=some (Value.string ⟨zRJ (r2)⟩):=hr3
       have hn4:(w3.drewN nq).cell? ⟨w.heap.size+1,1,none⟩=some (.int .u64 n):=uA
       have Hb4:Hid (wy w.heap.size acc (w3.drewN nq)):=hid Hb3.out
       have Hw4:Hid (Below w.heap.size w (w3.drewN nq)):=hid (below_drewN Hw3.out _)
       have Hc4:Hid ((w3.drewN nq).heap[w.heap.size+1]? = some (.cells #[(Value.string ⟨zRJ (r2)⟩),.int .u64 (n:Int)] 256 (0,0))):=hid Hc3.out
       clear hr3 uA hz3
       have hle4:n≤r2.length:=by omega
       generalize w3.drewN nq=w4 at hr4 hn4 Hb4 Hw4 Hc4 ⊢
       go_still_tail 9,(by kernel_rfl)
       change wpList _ _ _ _ _ w4.drew
       have p7:wy w.heap.size acc w4.drew:=Hb4.out
       have hw4:Below w.heap.size w w4.drew:=Hw4.out.drew
       have hc4:w4.drew.heap[w.heap.size+1]? = some (.cells #[(Value.string ⟨zRJ (r2)⟩),.int .u64 (n:Int)] 256 (0,0)):=Hc4.out
       have Hb5:=hid p7
       have Hw5:=hid hw4
       have Hc5:=hid hc4
       clear hr4 hn4 Hb4 Hw4 Hc4 p7 hw4 hc4
       generalize w4.drew=w5 at Hb5 Hw5 Hc5 ⊢
       go_wp2_with (go_at_call 230;refine(rN _ acc (r2.take n) _ (by exact Hb5.out) (by simp;omega)).mono ?_;rintro e w6 ⟨rfl,hb6,hw6,ho6⟩)
       have hc6:=Fr.kept ho6 Hc5.out (by omega) (by decide)
       have hr6:=Lib.cell_of_heap hc6 0
       have hn6:=Lib.cell_of_heap hc6 1
       have hz6:=Lib.frozen_of_heap hc6 0
       have Hb6:=hid hb6
       have Hw6:=hid (Hw5.out.trans hw6)
       have Hc6:=hid hc6
       clear Hb5 Hw5 Hc5 hb6 hw6 ho6 hc6
       go_still_tail 12,(by kernel_rfl)
       change wpList _ _ _ _ _ w6.drew
       go_wp2_with fail
       have sY:=lR (w.heap.size+1) (r2.drop n) n (w6.setCell ⟨w.heap.size+1,0,none⟩ (Value.string ⟨zRJ (r2.drop n)⟩)).drew (by simp;omega) (by exact heap_set Hc6.out _)
       have hnk:=zi (r2.drop n)
       simp only[zR9]at hnk
       have hq4:=Hq3.out
       clear Hq2 Hq3 hr6 hn6 hz6
       generalize bY (r2.drop n)=E at sY hnk hq4
       obtain⟨e2,q2⟩:=E
       simp only at sY hnk hq4
       have Hnl:=hid sY
       have Hq4:=hid hq4
       clear sY hq4
       have Hw7:Hid (Below w.heap.size w (w6.setCell ⟨w.heap.size+1,0,none⟩ (Value.string ⟨zRJ (r2.drop n)⟩)).drew):=hid ((Hw6.out.setCell (p:=⟨w.heap.size+1,0,none⟩) (by simp) _).drew)
       have Hb7:Hid (wy w.heap.size (acc++r2.take n) (w6.setCell ⟨w.heap.size+1,0,none⟩ (Value.string ⟨zRJ (r2.drop n)⟩)).drew):=hid (Hb6.out.fr (Fr.Kl _ _).drew Hc6.out (by decide) (by omega))
       have Hc7:Hid ((w6.setCell ⟨w.heap.size+1,0,none⟩ (Value.string ⟨zRJ (r2.drop n)⟩)).drew.heap[w.heap.size+1]? = some (.cells #[(Value.string ⟨zRJ (r2.drop n)⟩),.int .u64 (n:Int)] 256 (0,0))):=hid (heap_set Hc6.out _)
       clear Hb6 Hw6 Hc6
       have hml:(r2.take n).length=n:=by simp;omega
       have Hml:=hid hml
       clear hml
       generalize (w6.setCell ⟨w.heap.size+1,0,none⟩ (Value.string ⟨zRJ (r2.drop n)⟩)).drew=w7 at Hnl Hw7 Hb7 Hc7 ⊢
       refine Hnl.out.mono ?_
       rintro e w8 ⟨rfl,hc8,hf8⟩
       have Hc8:=hid hc8
       have Hw8:=hid (Hw7.out.trans (hf8.below (B:=w.heap.size) (fun k hk=>by omega) (Nat.le_of_lt Hb7.out.lt)))
       have Hb8:=hid (Hb7.out.fr hf8 Hc7.out (by decide) (by omega))
       clear hc8 hf8 Hb7 Hw7 Hc7
       by_cases hee:e2=0
       ·have Hq5:=hid ((if_neg (show ¬ (e2≠0) by simp[hee])).symm.trans Hq4.out)
        have he2:(e2 != 0)=false:=by simp[hee]
        clear hee Hq4
        go_wp2_with fail
        have hsk2:=Hsk.out
        refine⟨⟨f,acc++r2.take n,q2,n,by omega,by simp;omega,fun _=>by simp only[zRP,Hml.out];omega,by omega,Hb8.out,Hc8.out,Hw8.out,Hq5.out⟩,?_⟩
        rw[oW Hc8.out,Hcl.out]
        omega
       ·have Hq5:=hid ((if_pos (show e2≠0 from hee)).symm.trans Hq4.out)
        have he2:(e2 != 0)=true:=by simp[hee]
        clear hee Hq4
        go_wp2_with fail
        rw[Exit.noGoto_ret]
        go_ret2
        rw[← Hq5.out]
        exact⟨rfl,Hw8.out⟩
  ·have he2:(e != 0)=true:=by simp[he]
   clear AE
   go_wp2_with fail
   refine Hsz.out.mono ?_
   rintro e w2 ⟨rfl,mg,p6⟩
   go_wp2_with fail
   rw[Exit.noGoto_ret]
   go_ret2
   rw[if_pos he]at Heq
   rw[← Heq.out]
   exact⟨rfl,Hw.out.trans (p6.below (B:=w.heap.size) (fun k hk=>by omega) (Nat.le_of_lt Hb.out.lt))⟩
open Go.RowKit Wf
attribute [local go_sem] fE eV get_list
theorem Kx (n:Nat)(w:World)(h0:0<n)(hn:n≤1000000000) :
 Calls Tryz.prog 159 #[.int .i64 n] w fun e w'=>e=.returned (Value.string ⟨zRJ (nv n)⟩)∧w=w':=by
 go_enter Tryz.func159,Tryz.ntmps159
 go_wp2
 go_loop [0,3] (fun t i=>∃ (k:Nat) (l:Bytes),0<k∧k+l.length≤n∧t=.int .i64 k∧i=(Value.string ⟨zRJ (l)⟩)∧nv k++l=nv n) (fun t i=>(intOf t).toNat)
 case atStart=>exact⟨n,[],h0,by simp,rfl,rfl,by simp⟩
 case round =>
  obtain⟨k,l,l6,hk,rfl,rfl,heq⟩:=hrel
  have Heq:=hid (NZ l6 heq)
  clear heq
  by_cases hz:k / 16=0
  ·have hz':((k:Int) / 16==0)=true:=by simp;omega
   go_wp2
   go_ret
   refine⟨kA ?_,rfl⟩
   have:=Heq.out
   rw[hz,jM]at this
   rw[N0]
   exact this
  ·have hz':((k:Int) / 16==0)=false:=by simp;omega
   go_wp2
   go_round
   case rel=>exact⟨k / 16,vU (k % 16)::l,by omega,by simp;omega,by go_num,by rw[N0];rfl,Heq.out⟩
   case measure=>simp[intOf];omega
theorem De (s:Bytes)(size:Int)(w:World)(hs:s.length≤1100000)(h1:-9223372036854775808≤size)(h2:size≤9223372036854775807) :
 Calls Tryz.prog 97 #[(Value.string ⟨zRJ (s)⟩),.int .i64 size] w fun e w'=>e=.returned (Value.string ⟨zRJ (encode size s)⟩)∧Below w.heap.size w w':=by
 go_enter Tryz.func97,Tryz.ntmps97
 go_wp2
 go_loopw [0,5] (fun v o wr=>∃ s' acc:Bytes,v=(Value.string ⟨zRJ (s')⟩)∧o=(Value.string ⟨zRJ (acc)⟩)∧s'.length≤s.length∧Below w.heap.size w wr∧acc.length+100 * s'.length≤100 * s.length∧acc++encode size s'=encode size s) (fun v _ _=>lx v)
 case atStart=>exact⟨s,[],rfl,rfl,by omega,Below.refl _ _,by simp,by simp⟩
 case round =>
  obtain⟨s',acc,rfl,rfl,hs',hw,hl,heq⟩:=hrel
  have Heq:=hid heq
  have Hw:=hid hw
  clear heq hw
  cases hn:s'.isEmpty
  ·have bK:s'≠[]:=by rintro rfl;simp at hn
   obtain⟨K4,hp2⟩:=kQ (size:=size) bK
   have iU:min (max 1 size) (s'.length:Int)=(cZ size s':Int):=by unfold cZ;omega
   have JH:=GB (size:=size) bK Heq.out
   clear Heq
   generalize cZ size s'=n at *
   have od:=xd n
   have Hnx:=hid JH
   have Hcl:=hid iU
   clear iU JH bK
   go_wp2
   rw[Hcl.out]
   go_quiet ((go_at_call 159;exact oC (Kx _ _ K4 (by omega))))
   go_wp2
   refine⟨⟨s'.drop n,_,rfl,rfl,by simp;omega,below_drewN Hw.out _,by simp;omega,Hnx.out⟩,?_⟩
   simp[sLen_mk];omega
  ·have bK:s'=[]:=by simpa using hn
   have heq:=Heq.out
   rw[bK,iE]at heq
   have Heq2:=hid heq
   clear heq
   go_wp2_with fail
   go_ret
   exact⟨kA Heq2.out,Hw.out⟩
open Go.RowKit Wf
attribute [local go_sem] fE eV get_list
open Go Vc Go.RowKit
theorem Lf (w:World)(o:Obj):(w.alloc o).heap[w.heap.size]? = some o:=by
 show (w.heap.push o)[w.heap.size]? = some o
 simp
theorem ID (w:World)(o:Obj):(w.alloc o).heap.size=w.heap.size+1:=by
 show (w.heap.push o).size=_
 simp
theorem sc_row {V:Cx}{f:FuncId}{args:List SV}{bs:List av}{c:List SV}{T:TypeId}(qM:Vc.Enters V f)(hfa:flat.ai args=true)(hfc:flat.ai c=true)(hn:c.length≤maxLen)
 (h:∀ w,V.E w→Calls V.P f (a8 me args).toArray w fun e w'=>e=.returned (.slice (some ⟨w.heap.size,0,none⟩) c.length c.length)∧w'=w.alloc (.cells (a8 me c).toArray T)) :
 SC V f args bs (fun r b=>r=.o bs.length c.length∧b=bs++[.own c T 1 c.length true]):=by
 refine⟨qM,fun β fp w nD hG hE=>?_⟩
 rw[eG args hfa β me]
 refine(h w hE).mono ?_
 rintro e w' ⟨rfl,rfl⟩
 have hb:Below w.heap.size w (w.alloc (.cells (a8 me c).toArray T)):=Below.alloc (Below.refl _ _) (zRX _) _
 refine⟨.o bs.length c.length,bs++[.own c T 1 c.length true],fun i=>if i<bs.length then β i else⟨w.heap.size,0,c.length+1⟩,
  fun i k=>if i<bs.length then fp i k else(i=bs.length∧k=w.heap.size),⟨rfl,rfl⟩,fun i hi=>by simp[hi],by simp,fun β' hβ=>?_,tz.jY hb,?_⟩
 ·have hAgr:cN bs.length β β':=fun i hi=>by
   have:=hβ i (by rw[zRP];omega)
   simpa[hi] using this
  have oK:β' bs.length=⟨w.heap.size,0,c.length+1⟩:=by
   have:=hβ bs.length (by simp)
   simpa using this.symm
  have Lj:=nD β' hAgr
  refine⟨?_,?_,?_,?_⟩
  ·simp[ak,oK,oV]
  ·intro i r hi
   rcases zR1 i bs.length with aA|qL
   ·rw[zRL aA]at hi
    have:=(Lj.holds i r hi).stays (w':=w.alloc (.cells (a8 me c).toArray T)) (fun k hk=>hb.block k (Lj.lt i r hi k hk))
    simpa[aA] using this
   ·rw[zR2 qL]at hi
    obtain rfl:i=bs.length:=by
     rcases Nat.eq_or_lt_of_le qL with e|e
     ·exact e.symm
     ·rw[zR3 (by simp;omega)]at hi;cases hi
    simp only[zRW,List.getElem?_cons_zero,Option.some.injEq]at hi
    subst hi
    right
    have hc:(a8 me c)=c.map (ak β'):=by rw[← cp,eG c hfc me β']
    have hhd:Head (w.alloc (.cells (a8 me c).toArray T)) w.heap.size T (c.map (ak β')) [] (0,0):=⟨by rw[List.append_nil,← hc];exact Lf _ _,.inr (zRX _)⟩
    rw[oK]
    exact⟨by simp,by simp,by simpa using hn,by simp,hhd.vM,fun _=>⟨rfl,[],(0,0),hhd,.inr (zRX _),by simp⟩,fun k=>by simp⟩
  ·intro i r hi k hk
   rcases zR1 i bs.length with aA|qL
   ·rw[zRL aA]at hi
    simp only[aA,if_true]at hk
    exact Nat.lt_of_lt_of_le (Lj.lt i r hi k hk) hb.size
   ·simp only[show ¬ i<bs.length by omega,if_false]at hk
    rw[hk.2,ID]
    omega
  ·intro i j r r' hi hj Gj hm k hk hk'
   rcases zR1 i bs.length with aA|qL
   ·rw[zRL aA]at hi
    simp only[aA,if_true]at hk
    rcases zR1 j bs.length with u9|hjg
    ·rw[zRL u9]at hj
     simp only[u9,if_true]at hk'
     exact Lj.sep i j r r' hi hj Gj hm k hk hk'
    ·simp only[show ¬ j<bs.length by omega,if_false]at hk'
     have:=Lj.lt i r hi k hk
     omega
   ·simp only[show ¬ i<bs.length by omega,if_false]at hk
    rcases zR1 j bs.length with u9|hjg
    ·rw[zRL u9]at hj
     simp only[u9,if_true]at hk'
     have:=Lj.lt j r' hj k hk'
     omega
    ·simp only[show ¬ j<bs.length by omega,if_false]at hk'
     omega
 ·refine⟨fun i r' hi hm k hk=>?_,fun i r' hi k hk=>?_⟩
  ·rcases zR1 i bs.length with aA|qL
   ·rw[zRL aA]at hi
    simp only[aA,if_true]at hk
    exact .inr ⟨i,r',hi,hm,hk⟩
   ·simp only[show ¬ i<bs.length by omega,if_false]at hk
    exact .inl (by omega)
  ·rcases zR1 i bs.length with aA|qL
   ·rw[zRL aA]at hi
    simp only[aA,if_true]at hk
    exact .inr ⟨i,r',hi,hk⟩
   ·simp only[show ¬ i<bs.length by omega,if_false]at hk
    exact .inl (by omega)
open Go Vc Go.RowKit Wf
theorem p_CutS (l p:Bytes)(hl:l.length<4294967281):PC Tryz.V 172 [.str l,.str p] (.eW [.str (Lib.cut l p).1,.str (Lib.cut l p).2.1,.bool (Lib.cut l p).2.2]) :=
 ⟨Tryz.call172,by simp[flat,flat.ai],by simp[flat,flat.ai],fun w ⟨m,hm⟩=>(Tryz.strings_Cut ⟨zRJ l⟩ ⟨zRJ p⟩ m w hl hm).mono fun _ _ ⟨h,k⟩=>⟨h,below_draws k⟩⟩
theorem Cp:∀ L:List Bytes,flat.ai (L.map SV.str)=true
 | []=>by simp[flat.ai]
 | x::L=>by simp[flat.ai,flat,Cp L]
theorem ET {bs:List av}(s sep:Bytes)(L:List Bytes)(hL:Lib.splitK sep 0 (Lib.count s sep) s=L)(hs:s.length≤1100000)(hp:1≤sep.length) :
 SC Tryz.V 234 [.str s,.str sep] bs (fun r b=>r=.o bs.length L.length∧b=bs++[.own (L.map SV.str) 9 1 L.length true]):=by
 have hd:=Lib.splitB_data ⟨zRJ sep⟩ 0 (Lib.countB ⟨zRJ s⟩ ⟨zRJ sep⟩) ⟨zRJ s⟩
 have hlen:=Lib.splitB_all ⟨zRJ sep⟩ hp 0 _ ⟨zRJ s⟩ rfl
 have hle:=Lib.countB_le ⟨zRJ sep⟩ hp s.length ⟨zRJ s⟩ (zRX _)
 have hz:(⟨zRJ s⟩:ByteArray).size=s.length:=rfl
 have iU:Lib.countB ⟨zRJ s⟩ ⟨zRJ sep⟩+1=L.length:=by
  rw[← hlen,← hL]
  have:=congrArg List.length hd
  rw[zR7]at this
  exact this
 have e:(Lib.splitB ⟨zRJ sep⟩ 0 (Lib.countB ⟨zRJ s⟩ ⟨zRJ sep⟩) ⟨zRJ s⟩).map Value.string=L.map ov:=by
  rw[← hL]
  refine Eq.trans ?_ (congrArg (List.map ov) hd)
  rw[List.map_map]
  exact List.map_congr_left fun x _=>rfl
 refine(sc_row (V:=Tryz.V) (c:=L.map SV.str) (T:=9) Tryz.call234 (by simp[flat,flat.ai]) ?_ ?_ fun w ⟨m,hm⟩=>?_).mono ?_
 ·exact Cp L
 ·unfold maxLen;rw[zR7];omega
 ·refine(Tryz.strings_Split ⟨zRJ s⟩ ⟨zRJ sep⟩ m w (show s.length<4294967281 by omega) hm hp).mono fun _ _ ⟨h,k⟩=>⟨?_,?_⟩
  ·rw[h,iU,zR7]
  ·rw[k,e]
   congr 2
   rw[cp,List.map_map]
   exact congrArg zRJ (List.map_congr_left fun x _=>rfl)
 ·rintro r b ⟨h1,h2⟩
  rw[zR7]at h1 h2
  exact⟨h1,h2⟩
def BAt (i:Nat)(l:Bytes)(b:List av):Prop:=b[i]? = some (.ext (rO 253 5 l))∨(l=[]∧b[i]? = some (.cells [.v (.pointer none),.aj] 253 true))
theorem BAt.lt {i:Nat}{l:Bytes}{b:List av}(h:BAt i l b):i<b.length:=by
 rcases h with h|⟨-,h⟩ <;> exact(zRI.1 h).1
theorem BAt.set {i:Nat}{l m:Bytes}{b:List av}(h:BAt i l b):BAt i m (b.set i (.ext (rO 253 5 m))):=.inl (zRN h.lt)
theorem y7 (s:Bytes)(hs:s.length≤9223372036854775807):PC Tryz.V 235 [.str s] (.bool (bZ s)) :=
 ⟨Tryz.call235,by simp[flat,flat.ai],by simp[flat,flat.ai],fun w _=>(gW s w hs).mono fun _ _ ⟨h,k⟩=>⟨by rw[h];simp[ak,a8],by subst k;exact cD rfl⟩⟩
theorem FC (s:Bytes)(m:Nat)(hs:s.length≤9223372036854775807)(hm:m≤4611686018427387904):PC Tryz.V 236 [.str s,.int .u64 m] (.eW [.int .u64 (bh isDigit 10 m s).1,.int .i64 (bh isDigit 10 m s).2]) :=
 ⟨Tryz.call236,by simp[flat,flat.ai],by simp[flat,flat.ai],fun w _=>(kD s m w hs hm).mono fun _ _ ⟨h,k⟩=>⟨by rw[h];simp[ak,a8],by subst k;exact cD rfl⟩⟩
def Digs (D:Bytes):Prop:=D≠[]∧D.length≤1000∧∀ c∈D,isDigit c=true
theorem wL {bs:List av}{j:Nat}{fs:List (Bytes × Bytes)}{m:Bool}(hj:bs[j]? = some (.own (fs.flatMap fc) 100 2 fs.length m))(hn:fs.length≤1000000)(hl:∀ f∈fs,f.1.length≤9223372036854775807)(name:Bytes)(NM:name.length≤9223372036854775807)(a c:Int)(v:Bytes)(hv:Lib.join (bP fs name) [44,32]=v)(hlen:v.length≤1000000)(ok:Bool)(da:decide (0<((bP fs name).length:Int))=ok) :
 SC Tryz.V 177 [.agg [.int .i64 a,.int .i64 c,.o j fs.length],.str name] bs (fun r b=>r=.eW [.str v,.bool ok]∧Kp bs b):=by
 have gw:j<bs.length:=(zRI.1 hj).1
 refine bo 3000 Tryz.func177 rfl Tryz.ntmps177 Tryz.results177 Tryz.call177 (by simp) (ah bs.length _ (by simp[within,within.ax,gw])) ?_
 refine Ou ?_
 have gm:=fun X=>ad hj [X]
 have w1:=fun X=>qm (bs:=bs++[X]) (gm X) hn hl name NM a c
 refine ae (w1 _) ?_
 rintro r b ⟨bc,fD⟩
 have fg:=((Kp.refl bs).app [.cells [.int .i64 a,.int .i64 c,.o j fs.length] 48 true]).trans bc
 have hvl:=mP fs name
 rcases fD with⟨rfl,hc,mO⟩|⟨i,rfl,hLi,hi⟩
 ·have he:bP fs name=[]:=List.length_eq_zero_iff.1 mO
  rw[he]at hv da
  have hv:([]:Bytes)=v:=by rw[← hv];rfl
  have da:false=ok:=by rw[← da];rfl
  subst hv da
  refine mc ?_
  refine ae (MP _) ?_
  rintro r b ⟨rfl,rfl⟩
  refine mc ?_
  exact fg
 ·refine mc ?_
  have s1:=MO hi (by omega) [44,32] (by rw[hv];omega)
  rw[hv]at s1
  refine ae s1 ?_
  rintro r b ⟨rfl,rfl⟩
  refine gB da ?_
  exact fg
end Go.Proofs.YtnmlimehgifadaaGreatDoor
namespace Wf
open Go Go.RowKit
def dS (c:UInt8):Bool:=c==32||c==9
def trimB (s:Bytes):Bytes:=((s.dropWhile dS).reverse.dropWhile dS).reverse
def vj (c:UInt8):Bool:=isAlpha c||isDigit c||[33,35,36,37,38,39,42,43,45,46,94,95,96,124,126].contains c
def fN (c:UInt8):Bool:=c==9||(decide (32≤c.toNat)&&c != 127)
def zj (s:Bytes):Bool:=!s.isEmpty&&s.all vj
def mV (s:Bytes):Bool:=s.all fN
def oR (l:Bytes):Option (Bytes × Bytes):=if (aN 58 l).2.2&&zj (aN 58 l).1&&mV (aN 58 l).2.1 then some (lower (aN 58 l).1,trimB (aN 58 l).2.1) else none
def gp:Nat→Bytes→Bool→List (Bytes × Bytes)→List (Bytes × Bytes) × Int
 | 0,_,_,_=>([],0)
 | f+1,rest,more,fs =>
   if more=false then(fs,0) else if 64≤fs.length then([],161) else match oR (Lib.cut rest [13,10]).1 with
    | none=>([],180)
    | some x=>gp f (Lib.cut rest [13,10]).2.1 (Lib.cut rest [13,10]).2.2 (fs++[x])
def hU:Bytes:=[72,84,84,80,47,49,46]
def qh (l:Bytes):Option (Int × Int) :=
 if Lib.hasPrefix l hU=false∨(l.drop 7).length<6 then none
 else if ((l.drop 7).getD 0 0 != 48&&(l.drop 7).getD 0 0 != 49)||(l.drop 7).getD 1 0 != 32||(l.drop 7).getD 5 0 != 32||!mV ((l.drop 7).drop 6) then none
 else if (aS 599 (((l.drop 7).drop 2).take 3)).2≠0∨(aS 599 (((l.drop 7).drop 2).take 3)).1<100 then none
 else some (((l.drop 7).getD 0 0).toNat - 48,(aS 599 (((l.drop 7).drop 2).take 3)).1)
def bU (s:Bytes):(Int × Int × List (Bytes × Bytes)) × Int × Int :=
 if Lib.index (s.take 16384) [13,10,13,10]<0 then((0,0,[]),0,if 16384<s.length then 142 else 191)
 else match qh (Lib.cut (s.take (Lib.index (s.take 16384) [13,10,13,10]).toNat) [13,10]).1 with
  | none=>((0,0,[]),0,180)
  | some (m,n) =>
    if (gp (s.length+1) (Lib.cut (s.take (Lib.index (s.take 16384) [13,10,13,10]).toNat) [13,10]).2.1 (Lib.cut (s.take (Lib.index (s.take 16384) [13,10,13,10]).toNat) [13,10]).2.2 []).2=0
    then((m,n,(gp (s.length+1) (Lib.cut (s.take (Lib.index (s.take 16384) [13,10,13,10]).toNat) [13,10]).2.1 (Lib.cut (s.take (Lib.index (s.take 16384) [13,10,13,10]).toNat) [13,10]).2.2 []).1),Lib.index (s.take 16384) [13,10,13,10]+4,0)
    else((0,0,[]),0,(gp (s.length+1) (Lib.cut (s.take (Lib.index (s.take 16384) [13,10,13,10]).toNat) [13,10]).2.1 (Lib.cut (s.take (Lib.index (s.take 16384) [13,10,13,10]).toNat) [13,10]).2.2 []).2)
def nW (f:Bytes × Bytes):Bytes:=f.1++[58,32]++f.2
def headText (status:Nat)(fs:List (Bytes × Bytes)):Bytes:=hU++[49,32]++bW status++[32,45]++[13,10]++fs.flatMap (fun f=>nW f++[13,10])++[13,10]
def dec3 (st:Nat):Bytes:=[qV (st / 100),qV (st / 10 % 10),qV (st % 10)]
theorem Ak {st:Nat}(h1:100≤st)(h2:st<1000):bW st=dec3 st:=by
 rw[jm (by omega),jm (by omega),fm (by omega)]
 unfold dec3
 rw[show st / 10 / 10=st / 100 by omega]
 rfl
open Go Go.RowKit
def xx:Bytes:=[116,114,97,110,115,102,101,114,45,101,110,99,111,100,105,110,103]
def yd:Bytes:=[99,111,110,116,101,110,116,45,108,101,110,103,116,104]
def Er:Bytes:=[99,104,117,110,107,101,100]
def oY (s:Bytes):Option Nat :=
 if (aF 44 s).all (fun p=>trimB p==trimB (aN 44 s).1)&&bZ (trimB (aN 44 s).1) then some (if (bh isDigit 10 4611686018427387904 (trimB (aN 44 s).1)).2=0 then(bh isDigit 10 4611686018427387904 (trimB (aN 44 s).1)).1 else 4611686018427387904) else none
def jq (st:Int)(fs:List (Bytes × Bytes))(rest:Bytes)(most:Int):Bytes × Int :=
 if most<0 then([],4)
 else if (100≤st∧st≤199)∨st=204∨st=304 then([],0)
 else if bP fs xx≠[] then(if bP fs yd≠[]∨lower (Lib.join (bP fs xx) [44,32])≠Er then([],190) else chunked rest most)
 else if bP fs yd≠[] then(match oY (Lib.join (bP fs yd) [44,32]) with
  | none=>([],190)
  | some n=>if most<n then([],142) else if rest.length<n then([],191) else(rest.take n,0))
 else if most<rest.length then([],142) else(rest,0)
structure gY where
 url:bM
 minor:Int
 status:Int
 fields:List (Bytes × Bytes)
 body:Bytes
 deriving DecidableEq
def gY.none:gY:=⟨bM.none,0,0,[],[]⟩
def bN (L:List fK)(now:Int)(u:bM):gY × Int × Int :=
 if (bw L u now).2≠0 then(gY.none,0,(bw L u now).2)
 else if (bU (bw L u now).1).2.2≠0 then(gY.none,0,(bU (bw L u now).1).2.2)
 else if iv (bU (bw L u now).1).1.2.1 then(⟨u,(bU (bw L u now).1).1.1,(bU (bw L u now).1).1.2.1,(bU (bw L u now).1).1.2.2,[]⟩,(bU (bw L u now).1).1.2.1,0)
 else(⟨u,(bU (bw L u now).1).1.1,(bU (bw L u now).1).1.2.1,(bU (bw L u now).1).1.2.2,(jq (bU (bw L u now).1).1.2.1 (bU (bw L u now).1).1.2.2 ((bw L u now).1.drop (bU (bw L u now).1).2.1.toNat) 1048576).1⟩,(bU (bw L u now).1).1.2.1,
  (jq (bU (bw L u now).1).1.2.1 (bU (bw L u now).1).1.2.2 ((bw L u now).1.drop (bU (bw L u now).1).2.1.toNat) 1048576).2)
structure iH where
 next:bM
 fk:Int
 done:Bool
 err:Int
 dE:gY
 trace:List (bM × Int × Int)
 seen:List bM
 deriving DecidableEq
def bF (u:bM):iH:=if bQ u=false then⟨bM.none,0,true,8,gY.none,[],[]⟩ else⟨u.bare,0,false,0,gY.none,[],[u.bare]⟩
def cL (L:List fK)(now:Int)(f:iH):iH :=
 if f.done then f
 else if (bN L now f.next).2.2=0∧iv (bN L now f.next).2.1=true then
  (if (dK f.next (bN L now f.next).1.fields f.seen f.fk).2=0
    then⟨(dK f.next (bN L now f.next).1.fields f.seen f.fk).1,f.fk+1,false,f.err,gY.none,f.trace++[(f.next,(bN L now f.next).2)],f.seen++[(dK f.next (bN L now f.next).1.fields f.seen f.fk).1]⟩
    else⟨f.next,f.fk,true,(dK f.next (bN L now f.next).1.fields f.seen f.fk).2,gY.none,f.trace++[(f.next,(bN L now f.next).2)],f.seen⟩)
 else if (bN L now f.next).2.2≠0 then⟨f.next,f.fk,true,(bN L now f.next).2.2,gY.none,f.trace++[(f.next,(bN L now f.next).2)],f.seen⟩
 else⟨f.next,f.fk,true,f.err,(bN L now f.next).1,f.trace++[(f.next,(bN L now f.next).2)],f.seen⟩
def Di (st:Nat)(fs:List (Bytes × Bytes))(body:Bytes):Bytes:=headText st (fs++[(yd,bW body.length)])++body
section
variable {H:Nat→Bytes} {st k:Nat}
end
open Go Go.RowKit
structure He (u:bM) (f:iH):Prop where
 nd:f.done=false
 err:f.err=0
 dE:f.dE=gY.none
 fk:f.fk=f.trace.length
 le:f.trace.length≤5
 seen:f.seen=f.trace.map (·.1)++[f.next]
 nodup:f.seen.Nodup
 valid:∀ v∈f.seen,bQ v=true
 red:∀ t∈f.trace,iv t.2.1=true
 head:f.seen.head? = some u.bare
structure J2 (u:bM) (f:iH):Prop where
 done:f.done=true
 urls:f.trace.map (·.1)=f.seen
 pos:0<f.trace.length
 le:f.trace.length≤6
 nodup:f.seen.Nodup
 valid:∀ v∈f.seen,bQ v=true
 red:∀ i (h:i+1<f.trace.length),iv f.trace[i].2.1=true
 head:f.seen.head? = some u.bare
 last:f.err=0→∃ t,f.trace.getLast? = some t∧f.dE.url=t.1∧f.dE.status=t.2.1
theorem BQ (L:List fK)(now:Int)(u:bM)(h:(bN L now u).2.2=0):(bN L now u).1.url=u∧(bN L now u).1.status=(bN L now u).2.1:=by
 unfold bN at h ⊢
 split
 ·rename_i h1;rw[if_pos h1]at h;exact absurd h h1
 ·rename_i h1
  rw[if_neg h1]at h
  split
  ·rename_i h2;rw[if_pos h2]at h;exact absurd h h2
  ·split
   ·exact⟨rfl,rfl⟩
   ·exact⟨rfl,rfl⟩
theorem HM {u:bM}(h:bQ u=true):He u (bF u):=by
 unfold bF
 rw[if_neg (by rw[h];simp)]
 exact⟨rfl,rfl,rfl,rfl,by simp,rfl,by simp,fun v hv=>by rw[zRR.1 hv];exact(nH h).bare.valid,fun t ht=>(by cases ht),rfl⟩
theorem Ad {u:bM}{f:iH}(h:He u f)(t:Int × Int)(e:Int)(r:gY)(hr:e=0→r.url=f.next∧r.status=t.1):J2 u ⟨f.next,f.fk,true,e,r,f.trace++[(f.next,t)],f.seen⟩ where
 done:=rfl
 urls:=by simp[h.seen]
 pos:=by simp
 le:=by have:=h.le;simp;omega
 nodup:=h.nodup
 valid:=h.valid
 red:=fun i hi=>by
  simp only[zRP,zRQ,zRU]at hi
  simp only
  rw[List.getElem_append_left (by omega)]
  exact h.red _ (List.getElem_mem _)
 head:=h.head
 last:=fun he=>⟨(f.next,t),by simp,hr he⟩
theorem Kc {u:bM}{f:iH}(L:List fK)(now:Int)(h:He u f):(He u (cL L now f)∧(cL L now f).trace.length=f.trace.length+1)∨(J2 u (cL L now f)∧(cL L now f).trace.length=f.trace.length+1):=by
 have hu:=BQ L now f.next
 unfold cL
 rw[if_neg (by rw[h.nd];simp)]
 generalize bN L now f.next=r at hu
 obtain⟨r,st,e⟩:=r
 simp only at hu ⊢
 split
 ·rename_i h1
  generalize hn:dK f.next r.fields f.seen f.fk=n
  obtain⟨v,e2⟩:=n
  simp only
  split
  ·rename_i h2
   subst h2
   obtain⟨k1,k2,-,k4⟩:=Dh hn
   left
   refine⟨⟨rfl,h.err,rfl,?_,?_,?_,?_,?_,?_,?_⟩,by simp⟩
   ·rw[h.fk];simp
   ·have:=h.fk;simp;omega
   ·simp[h.seen]
   ·simp only[List.nodup_append,List.nodup_cons,List.not_mem_nil,not_false_eq_true,List.nodup_nil,and_self,and_true,true_and]
    exact⟨h.nodup,fun a ha b hb=>by rw[zRR.1 hb];rintro rfl;exact k4 ha⟩
   ·intro w hw
    rcases zR0.1 hw with hw|hw
    ·exact h.valid w hw
    ·rw[zRR.1 hw];exact k2
   ·intro t ht
    rcases zR0.1 ht with ht|ht
    ·exact h.red t ht
    ·rw[zRR.1 ht];exact h1.2
   ·simp only
    rw[List.head?_append,h.head];rfl
  ·rename_i h2
   right
   exact⟨Ad h (st,e) e2 gY.none (fun q=>absurd q h2),by simp⟩
 ·split
  ·rename_i h2
   right
   exact⟨Ad h (st,e) e gY.none (fun q=>absurd q h2),by simp⟩
  ·rename_i h2
   right
   have h2:=Decidable.not_not.1 h2
   exact⟨Ad h (st,e) f.err r (fun _=>hu h2),by simp⟩
def af (L:List fK)(now:Int)(u:bM):Nat→iH
 | 0=>bF u
 | n+1=>cL L now (af L now u n)
theorem dJ (L:List fK)(now:Int)(u:bM){n:Nat}(h:(af L now u n).done=true):∀ m,n≤m→af L now u m=af L now u n:=by
 intro m hm
 obtain⟨d,rfl⟩:∃ d,m=n+d:=⟨m - n,by omega⟩
 clear hm
 induction d with
 | zero=>rfl
 | succ d ih =>
   rw[← Nat.add_assoc,af,ih]
   unfold cL
   rw[if_pos h]
theorem tq (L:List fK)(now:Int){u:bM}(hv:bQ u=true):∀ n,(He u (af L now u n)∧(af L now u n).trace.length=n)∨∃ k,k≤n∧J2 u (af L now u k)∧(af L now u k).trace.length=k∧∀ j<k,(af L now u j).done=false
 | 0=>.inl ⟨HM hv,by unfold af bF;rw[if_neg (by rw[hv];simp)];rfl⟩
 | n+1=>by
   rcases tq L now hv n with⟨h,hl⟩|⟨k,hk,h⟩
   ·rcases Kc L now h with⟨h1,h2⟩|⟨h1,h2⟩
    ·exact .inl ⟨h1,by rw[af,h2,hl]⟩
    ·refine .inr ⟨n+1,zRX _,h1,by rw[af,h2,hl],fun j hj=>?_⟩
     by_cases hjn:j=n
     ·subst hjn;exact h.nd
     ·cases hd:(af L now u j).done with
      | false=>rfl
      | true =>
        have:=dJ L now u hd n (by omega)
        rw[← this]at hd
        rw[h.nd]at hd
        cases hd
   ·exact .inr ⟨k,by omega,h⟩
theorem tc (L:List fK)(now:Int){u:bM}(hv:bQ u=true):∃ k,1≤k∧k≤6∧J2 u (af L now u k)∧(af L now u k).trace.length=k∧∀ j<k,(af L now u j).done=false:=by
 rcases tq L now hv 6 with⟨h,hl⟩|⟨k,hk,h,hl,hj⟩
 ·have:=h.le;omega
 ·have:=h.pos
  exact⟨k,by omega,hk,h,hl,hj⟩
theorem Kb {L L':List fK}{now:Int}{f:iH}(h:bw L f.next now=bw L' f.next now):cL L now f=cL L' now f:=by
 have hr:bN L now f.next=bN L' now f.next:=by unfold bN;rw[h]
 unfold cL
 rw[hr]
theorem yq (L:List fK)(now:Int){f:iH}(h:f.done=false):(cL L now f).trace=f.trace++[(f.next,(bN L now f.next).2)]:=by
 unfold cL
 rw[if_neg (by rw[h];simp)]
 split
 ·split <;> rfl
 ·split <;> rfl
theorem uX (L:List fK)(now:Int)(u:bM)(n:Nat):∀ d,(af L now u n).trace <+: (af L now u (n+d)).trace
 | 0=>List.prefix_refl _
 | d+1=>by
   refine(uX L now u n d).trans ?_
   rw[← Nat.add_assoc,af]
   cases h:(af L now u (n+d)).done with
   | false=>rw[yq L now h];exact List.prefix_append _ _
   | true=>unfold cL;rw[if_pos h];exact List.prefix_refl _
theorem Ab {L L':List fK}{now:Int}{u:bM}(h:∀ t∈(af L now u 6).trace,bw L t.1 now=bw L' t.1 now):∀ n,af L' now u n=af L now u n
 | 0=>rfl
 | n+1=>by
   rw[af,af,Ab h n]
   cases hd:(af L now u n).done with
   | true=>unfold cL;rw[if_pos hd,if_pos hd]
   | false =>
     refine(Kb ?_).symm
     have hn:n<6:=by
      cases hv:bQ u with
      | true =>
        obtain⟨k,h1,h2,h3,-,-⟩:=tc L now hv
        rcases zR1 n 6 with q|q
        ·exact q
        ·rw[dJ L now u h3.done n (by omega),h3.done]at hd
         cases hd
      | false =>
        have h0:(af L now u 0).done=true:=by unfold af bF;rw[if_pos hv]
        rw[dJ L now u h0 n (by omega),h0]at hd
        cases hd
     have hp:=uX L now u (n+1) (5 - n)
     rw[show n+1+(5 - n)=6 by omega]at hp
     have ht:=yq L now hd
     refine h (_,(bN L now (af L now u n).next).2) (hp.subset ?_)
     rw[af,ht]
     simp
theorem LQ (L M:List fK)(A:fK→Bool)(u:bM)(now:Int)(hM:∀ a∈M,¬ (a.host=u.host∧a.port=u.port))(hA:∀ a∈L,a.host=u.host→a.port=u.port→A a=true):bw (M++L.filter A) u now=bw L u now:=by
 unfold bw
 split
 ·rfl
 ·congr 1
  rw[List.find?_append,wi (fun a ha=>by
   unfold kS
   have:=hM a ha
   cases h1:(a.host==u.host) with
   | false=>simp
   | true =>
     cases h2:(a.port==u.port) with
     | false=>simp
     | true=>exact absurd ⟨by simpa using h1,by simpa using h2⟩ this)]
  simp only[Option.none_or]
  clear hM
  induction L with
  | nil=>rfl
  | cons a L ih =>
    have ih:=ih (fun b hb=>hA b (List.mem_cons_of_mem _ hb))
    have ha:=hA a (by simp)
    rw[List.filter_cons]
    cases hq:A a with
    | true=>simp only[if_true,List.find?_cons];rw[ih]
    | false =>
      have hf:kS u.host u.port (bT u) now a=false:=by
       unfold kS
       cases h1:(a.host==u.host) with
       | false=>simp
       | true =>
         cases h2:(a.port==u.port) with
         | false=>simp
         | true=>rw[ha (by simpa using h1) (by simpa using h2)]at hq;cases hq
      simp only[Bool.false_eq_true,if_false,List.find?_cons,hf]
      exact ih
open Go Go.RowKit
theorem nP:∀ (s p:Bytes),0≤Lib.index s p→Lib.index s p+p.length≤s.length
 | [],p,h=>by
   unfold Lib.index at h ⊢
   cases p with
   | nil=>simp
   | cons c p=>simp at h
 | c::s,p,h=>by
   unfold Lib.index at h ⊢
   split
   ·rename_i hp
    have:=(List.isPrefixOf_iff_prefix.1 hp).length_le
    omega
   ·rename_i hp
    rw[if_neg hp]at h
    split at h
    ·omega
    ·rename_i h1
     have h1:¬ Lib.index s p=-1:=by simpa using h1
     have ih:=nP s p (by have:=Lib.index_ge s p;omega)
     rw[if_neg (by simpa using h1),zRQ]
     omega
theorem O1 {r p:Bytes}(h:(Lib.cut r p).2.2=true):(Lib.cut r p).2.1.length+p.length≤r.length:=by
 unfold Lib.cut at h ⊢
 split at h
 ·rename_i h0
  rw[if_pos h0]
  have:=nP r p h0
  simp only[zR9]
  omega
 ·cases h
theorem O0 {r p:Bytes}(h:(Lib.cut r p).2.2=false):(Lib.cut r p).2.1=[]:=by
 unfold Lib.cut at h ⊢
 split at h
 ·cases h
 ·rename_i h0;rw[if_neg h0]
theorem O2 (r p:Bytes):(Lib.cut r p).1.length≤r.length:=by
 unfold Lib.cut
 split
 ·simp;omega
 ·simp
theorem D8 (r p:Bytes):(Lib.cut r p).1.length+(Lib.cut r p).2.1.length≤r.length:=by
 unfold Lib.cut
 split
 ·rename_i h0
  have:=nP r p h0
  simp only[zR9,zR5]
  omega
 ·simp
def cF:List (Bytes × Bytes)→Nat
 | []=>0
 | f::l=>f.1.length+f.2.length+cF l
theorem Cg (f:Bytes × Bytes):∀ l,cF (l++[f])=cF l+(f.1.length+f.2.length)
 | []=>by simp[cF]
 | g::l=>by rw[zRT,cF,Cg f l,cF];omega
theorem zG {l:List (Bytes × Bytes)}:∀ f∈l,f.1.length+f.2.length≤cF l:=by
 induction l with
 | nil=>intro f h;cases h
 | cons g l ih =>
   intro f h
   rw[cF]
   rcases List.mem_cons.1 h with rfl|h
   ·omega
   ·have:=ih f h;omega
theorem J9 (s:Bytes):(trimB s).length≤s.length:=by
 unfold trimB
 have h1:=(List.dropWhile_suffix dS (l:=s)).length_le
 have h2:=(List.dropWhile_suffix dS (l:=(s.dropWhile dS).reverse)).length_le
 rw[List.length_reverse]at h2 ⊢
 omega
theorem GM (c:UInt8)(s:Bytes):(aN c s).1.length+(aN c s).2.1.length≤s.length:=by
 unfold aN
 split
 ·simp;omega
 ·simp
theorem Gy {l:Bytes}{x:Bytes × Bytes}(h:oR l=some x):x.1.length+x.2.length≤l.length:=by
 unfold oR at h
 split at h
 ·cases h
  have h1:=GM 58 l
  have h2:=J9 (aN 58 l).2.1
  simp only[fR]
  omega
 ·cases h
theorem zV (n:Nat)(r:Bytes)(fs:List (Bytes × Bytes)):gp (n+1) r false fs=(fs,0):=by rw[gp,if_pos rfl]
theorem xh (n:Nat)(r:Bytes){fs:List (Bytes × Bytes)}(h:64≤fs.length):gp (n+1) r true fs=([],161):=by rw[gp,if_neg (by simp),if_pos h]
theorem zW (n:Nat){r:Bytes}{fs:List (Bytes × Bytes)}(h:¬ 64≤fs.length)(hf:oR (Lib.cut r [13,10]).1=none):gp (n+1) r true fs=([],180):=by rw[gp,if_neg (by simp),if_neg h,hf]
theorem xg (n:Nat){r:Bytes}{fs:List (Bytes × Bytes)}(h:¬ 64≤fs.length){x:Bytes × Bytes}(hf:oR (Lib.cut r [13,10]).1=some x):gp (n+1) r true fs=gp n (Lib.cut r [13,10]).2.1 (Lib.cut r [13,10]).2.2 (fs++[x]):=by rw[gp,if_neg (by simp),if_neg h,hf]
theorem Cl:∀ (n:Nat)(r:Bytes)(m:Bool)(fs:List (Bytes × Bytes)),fs.length≤64→(gp n r m fs).1.length≤64∧cF (gp n r m fs).1≤cF fs+r.length
 | 0,r,m,fs,h=>by rw[gp];simp[cF]
 | n+1,r,false,fs,h=>by rw[zV];exact⟨h,by simp only;omega⟩
 | n+1,r,true,fs,h=>by
   by_cases h6:64≤fs.length
   ·rw[xh n r h6];simp[cF]
   ·cases hf:oR (Lib.cut r [13,10]).1 with
    | none=>rw[zW n h6 hf];simp[cF]
    | some x =>
      rw[xg n h6 hf]
      have ih:=Cl n (Lib.cut r [13,10]).2.1 (Lib.cut r [13,10]).2.2 (fs++[x]) (by simp;omega)
      have h1:=Gy hf
      have h2:=D8 r [13,10]
      rw[Cg]at ih
      exact⟨ih.1,by omega⟩
theorem oM (s:Bytes):(bU s).1.2.2.length≤64∧cF (bU s).1.2.2≤16384∧0≤(bU s).2.1∧(bU s).2.1≤s.length:=by
 unfold bU
 split
 ·simp[cF]
 rename_i h0
 have dB:=nP (s.take 16384) [13,10,13,10] (by omega)
 rw[zR5]at dB
 simp only[zRQ,zRU]at dB
 generalize Lib.index (s.take 16384) [13,10,13,10]=k at h0 dB ⊢
 split
 ·simp[cF]
 rename_i m n hY
 split
 ·have h1:=D8 (s.take k.toNat) [13,10]
  have h2:=Cl (s.length+1) (Lib.cut (s.take k.toNat) [13,10]).2.1 (Lib.cut (s.take k.toNat) [13,10]).2.2 [] (by simp)
  rw[zR5]at h1
  rw[cF]at h2
  refine⟨h2.1,?_,?_,?_⟩
  ·have:=h2.2;simp only;omega
  ·simp only;omega
  ·simp only;omega
 ·simp[cF]
theorem KR (fs:List (Bytes × Bytes))(name:Bytes):Lib.lens (bP fs name)≤cF fs:=by
 unfold bP
 induction fs with
 | nil=>simp[Lib.lens,cF]
 | cons f l ih =>
   rw[List.filter_cons,cF]
   split
   ·rw[zRS]
    have:Lib.lens (f.2::(l.filter fun f=>lower f.1==lower name).map (·.2))=f.2.length+Lib.lens ((l.filter fun f=>lower f.1==lower name).map (·.2)):=by simp[Lib.lens]
    omega
   ·omega
theorem Cd (fs:List (Bytes × Bytes))(name:Bytes):(Lib.join (bP fs name) [44,32]).length≤cF fs+2 * fs.length:=by
 have h1:=KR fs name
 have h2:=mP fs name
 generalize bP fs name=L at h1 h2
 cases L with
 | nil=>simp[Lib.join_nil]
 | cons x r =>
   rw[Lib.join_length]
   simp only[zRQ,zRU]at h2 ⊢
   omega
open Go Go.RowKit
def eH (st:Nat)(fs:List (Bytes × Bytes))(body:Bytes)(ch:Bool):Bytes:=if ch then headText st (fs++[(xx,Er)])++encode 50 body else Di st fs body
def aE:Bytes:=([97,46,101,120,97,109,112,108,101]:List UInt8)
def sU (p:Bytes):bM:=⟨aE,0,p,[],[],false,false⟩
def lv:List fK:=[⟨aE,0,[47],eH 302 [(zu,[47])] [] false,0,0,0⟩,⟨aE,0,[47,120],eH 200 [] [97,98,99] true,0,0,0⟩]
def MU:Bytes:=([72,84,84,80,47,49,46,49,32,51,48,50,32,45,13,10,108,111,99,97,116,105,111,110,58,32,47,13,10,99,111,110,116,101,110,116,45,108,101,110,103,116,104,58,32,48,13,10,13,10]:List UInt8)
def MT:Bytes:=([72,84,84,80,47,49,46,49,32,50,48,48,32,45,13,10,116,114,97,110,115,102,101,114,45,101,110,99,111,100,105,110,103,58,32,99,104,117,110,107,101,100,13,10,13,10,51,13,10,97,98,99,13,10,48,13,10,13,10]:List UInt8)
theorem sane_r1:eH 302 [(zu,[47])] [] false=MU:=by
 unfold eH Di headText
 rw[Ak (st:=302) (by omega) (by omega)]
 simp only[zRU,Bool.false_eq_true,if_false]
 rw[fm (n:=0) (by omega)]
 decide +kernel
theorem hexS_3:nv 3=[51]:=by rw[nS (by omega),jM];rfl
theorem MS:encode 50 [97,98,99]=([51,13,10,97,98,99,13,10,48,13,10,13,10]:List UInt8):=by
 rw[rA (by simp)]
 have h:cZ 50 ([97,98,99]:Bytes)=3:=by decide
 rw[h,hexS_3]
 simp only[List.drop_succ_cons,List.drop_zero]
 rw[iE]
 rfl
theorem sane_r2:eH 200 [] [97,98,99] true=MT:=by
 unfold eH headText
 rw[Ak (st:=200) (by omega) (by omega),MS]
 decide +kernel
theorem yG:lv=[⟨aE,0,[47],MU,0,0,0⟩,⟨aE,0,[47,120],MT,0,0,0⟩]:=by unfold lv;rw[sane_r1,sane_r2]
theorem sane_v1:bQ (sU [47])=true:=by decide +kernel
theorem sane_v2:bQ (sU [47,120])=true:=by decide +kernel
theorem sane_q1:bN lv 0 (sU [47])=(⟨sU [47],1,302,[(zu,[47]),(yd,[48])],[]⟩,302,0):=by rw[yG];decide +kernel
theorem sane_q2:bN lv 0 (sU [47,120])=(⟨sU [47,120],1,200,[(xx,Er)],[97,98,99]⟩,200,0):=by rw[yG];decide +kernel
theorem sane_n1:dK (sU [47]) [(zu,[47]),(yd,[48])] [sU [47]] 0=(bM.none,251):=by decide +kernel
theorem sane_1:af lv 0 (sU [47]) 6=⟨sU [47],0,true,251,gY.none,[(sU [47],302,0)],[sU [47]]⟩:=by
 have h1:af lv 0 (sU [47]) 1=⟨sU [47],0,true,251,gY.none,[(sU [47],302,0)],[sU [47]]⟩:=by
  rw[af,af]
  unfold bF
  rw[if_neg (by rw[sane_v1];simp)]
  unfold cL
  simp only[show (sU [47]).bare=sU [47] from rfl,sane_q1,sane_n1]
  rw[if_neg (by simp),if_pos (by decide),if_neg (by decide)]
  rfl
 rw[dJ lv 0 _ (n:=1) (by rw[h1]) 6 (by omega),h1]
theorem sane_2:af lv 0 (sU [47,120]) 6=⟨sU [47,120],0,true,0,⟨sU [47,120],1,200,[(xx,Er)],[97,98,99]⟩,[(sU [47,120],200,0)],[sU [47,120]]⟩:=by
 have h1:af lv 0 (sU [47,120]) 1=⟨sU [47,120],0,true,0,⟨sU [47,120],1,200,[(xx,Er)],[97,98,99]⟩,[(sU [47,120],200,0)],[sU [47,120]]⟩:=by
  rw[af,af]
  unfold bF
  rw[if_neg (by rw[sane_v2];simp)]
  unfold cL
  simp only[show (sU [47,120]).bare=sU [47,120] from rfl,sane_q2]
  rw[if_neg (by simp),if_neg (by decide),if_neg (by decide)]
  rfl
 rw[dJ lv 0 _ (n:=1) (by rw[h1]) 6 (by omega),h1]
end Wf
namespace Go.Proofs.YtnmlimehgifadaaGreatDoor
open Go Vc Go.RowKit Wf
theorem rem_nat (x y:Nat):kP .rem .i64 (x:Int) (y:Int)=((x % y:Nat):Int):=by
 have h:kP .rem .i64 (x:Int) (y:Int)=Int.tmod x y:=rfl
 rw[h]
 first
 | exact(Int.ofNat_tmod x y).symm
 | exact Int.ofNat_tmod x y
 | (rw[Int.tmod_eq_emod_of_nonneg (by omega)];omega)
theorem quo_nat (x y:Nat)(hx:x≤9223372036854775807):kP .quo .i64 (x:Int) (y:Int)=((x / y:Nat):Int):=by
 have h:kP .quo .i64 (x:Int) (y:Int)=IntKind.i64.wrap (Int.tdiv x y):=rfl
 have h2:Int.tdiv (x:Int) y=((x / y:Nat):Int):=by
  first
  | exact(Int.ofNat_tdiv x y).symm
  | exact Int.ofNat_tdiv x y
  | (rw[Int.tdiv_eq_ediv_of_nonneg (by omega)];omega)
 have h3:x / y≤x:=Nat.div_le_self x y
 rw[h,h2]
 generalize x / y=z at h3 ⊢
 simp[IntKind.wrap,IntKind.bits,IntKind.signed]
 omega
theorem gG (n:Nat)(hn:n≤1000000000):PC Tryz.V 98 [.int .i64 n] (.str (bW n)):=by
 refine aZ 3000 Tryz.func98 rfl Tryz.ntmps98 Tryz.results98 Tryz.call98 (by simp) (by simp[flat,flat.ai]) (by simp[flat,flat.ai]) ?_
 refine se ?_
 refine az (fun σ=>∃ (m:Nat) (l:Bytes),m≤1000000000∧l.length+(bW m).length=(bW n).length∧bW m++l=bW n∧lk 0 σ.t=some (.int .i64 m)∧lk 3 σ.t=some (.str l)) (fun σ=>match lk 0 σ.t with|some (.int _ n)=>n.toNat|_=>0) ⟨n,[],hn,by simp,by simp,rfl,rfl⟩ ?_
 rintro⟨t,b⟩ ⟨m,l,hm,hl,he,g0,g3⟩
 simp only at g0 g3
 have key2:∀ d:Nat,d<10→IntKind.u8.wrap (48+(d:Int))=((qV d).toNat:Int):=by decide +kernel
 have kr:=rem_nat m 10
 have kq:=quo_nat m 10 (by omega)
 have kd:=key2 (m % 10) (by omega)
 rw[show ((10:Nat):Int)=10 from rfl]at kr kq
 have hu:Be (.int .u8 (qV (m % 10)).toNat)=true:=by have:=(qV (m % 10)).toNat_lt;simp[Be];omega
 have hv:vf (.int .u8 (qV (m % 10)).toNat)=qV (m % 10):=by simp[vf]
 refine gB (zRH g0 (zRH g3 (zRH kr (zRH kq (zRH kd (zRH hu hv)))))) ?_
 have Lc:=cI 9 n (by omega)
 refine⟨by decide,⟨by omega,by omega⟩,by decide,by omega,by decide,fun h=>?_,fun h=>⟨⟨m / 10,qV (m % 10)::l,by omega,?_,?_,rfl,rfl⟩,?_⟩⟩
 ·have h:m / 10=0:=by have:=beq_iff_eq.1 h;omega
  rw[← he,fm (by omega),show m % 10=m by omega]
  rfl
 ·have h:¬ m / 10=0:=by have:=beq_eq_false_iff_ne.1 h;omega
  rw[← hl,ko (n:=m) (by omega),zRQ];omega
 ·have h:¬ m / 10=0:=by have:=beq_eq_false_iff_ne.1 h;omega
  rw[← he,jm (n:=m) (by omega)];simp
 ·have h:¬ m / 10=0:=by have:=beq_eq_false_iff_ne.1 h;omega
  omega
theorem Nb (n:Nat)(h2:n≤9223372036854775807):PC Tryz.V 153 [.int .i64 n] (.str (bW n)) :=
 ⟨Tryz.call153,by simp[flat,flat.ai],by simp[flat,flat.ai],fun w _=>(na n w (by omega) (by omega)).mono fun _ _ ⟨h,k⟩=>⟨by rw[h,if_neg (by omega)];rfl,k⟩⟩
theorem tZ (s:Bytes)(n:Int)(hs:s.length≤1100000)(h1:-9223372036854775808≤n)(h2:n≤9223372036854775807):PC Tryz.V 97 [.str s,.int .i64 n] (.str (encode n s)) :=
 ⟨Tryz.call97,by simp[flat,flat.ai],by simp[flat,flat.ai],fun w _=>(De s n w hs h1 h2).mono fun _ _ ⟨h,k⟩=>⟨by rw[h];simp[ak],k⟩⟩
def By (fs:List (Bytes × Bytes)):Bytes:=fs.flatMap (fun f=>nW f++[13,10])
theorem LC {fs:List (Bytes × Bytes)}{k:Nat}(h:k<fs.length):By (fs.take (k+1))=By (fs.take k)++(nW fs[k]++[13,10]):=by
 unfold By
 rw[List.take_succ_eq_append_getElem h,zRZ]
 simp
theorem zZ:∀ fs:List (Bytes × Bytes),(By fs).length=cF fs+4 * fs.length
 | []=>rfl
 | f::l=>by
   have:=zZ l
   unfold By at this ⊢
   rw[zR8,zRP,this,cF]
   simp[nW]
   omega
theorem gh:∀ (l r:List (Bytes × Bytes)),cF (l++r)=cF l+cF r
 | [],r=>by simp[cF]
 | f::l,r=>by rw[zRT,cF,gh l r,cF];omega
theorem KZ (fs:List (Bytes × Bytes))(k:Nat):cF (fs.take k)≤cF fs:=by
 have h:=gh (fs.take k) (fs.drop k)
 rw[List.take_append_drop]at h
 omega
theorem AP {bs:List av}{j:Nat}{fs:List (Bytes × Bytes)}{m:Bool}(hj:bs[j]? = some (.own (fs.flatMap fc) 100 2 fs.length m))(hn:fs.length≤1000000)(hm:cF fs≤1000000000)(st:Nat)(hY:st≤1000000000) :
 SC Tryz.V 96 [.agg [.int .i64 1,.int .i64 st,.o j fs.length]] bs (fun r b=>r=.str (headText st fs)∧Kp bs b):=by
 have gw:j<bs.length:=(zRI.1 hj).1
 have p1:=Nb st (by omega)
 have pK:=cI 9 st (by omega)
 refine bo 3000 Tryz.func96 rfl Tryz.ntmps96 Tryz.results96 Tryz.call96 (by simp) (ah bs.length _ (by simp[within,within.ax,gw])) ?_
 refine mc ?_
 (refine aa (p1) ?_;refine mc ?_)
 refine⟨by omega,by omega,?_⟩
 have hT:headText st fs=72::84::84::80::47::49::46::49::32::(bW st++[32,45,13,10])++By fs++[13,10]:=by
  unfold headText hU By
  simp
 rw[hT]
 refine az (fun σ=>∃ (k:Nat) (acc:Bytes),k≤fs.length∧acc=72::84::84::80::47::49::46::49::32::(bW st++[32,45,13,10])++By (fs.take k)∧lk 4 σ.t=some (.str acc)∧lk 19 σ.t=some (.o j fs.length)∧lk 20 σ.t=some (.int .i64 fs.length)∧lk 21 σ.t=some (.int .i64 k)∧σ.b[j]? = some (.own (fs.flatMap fc) 100 2 fs.length m)∧Kp bs σ.b) (fun σ=>fs.length - fX 21 σ) ⟨0,_,by omega,by simp[By],rfl,rfl,rfl,rfl,ad hj _,(Kp.refl _).app _⟩ ?_
 rintro⟨t,b⟩ ⟨k,acc,hk,hacc,h4,AI,Co,uG,hb,bc⟩
 simp only at h4 AI Co uG hb bc
 rw[ao uG]
 have hal:acc.length≤2000000000+4000000:=by
  rw[hacc]
  have h1:=zZ (fs.take k)
  have h2:=KZ fs k
  rw[zR5]at h1
  simp only[zRP,zRQ,zRU,h1]
  omega
 by_cases aA:k<fs.length
 ·have bg:decide ((k:Int)<fs.length)=true:=decide_eq_true (by omega)
  have hu:=OG fs k aA
  have oI:=D0 fs
  have hx:=LC aA
  have l8:=zG fs[k] (List.getElem_mem aA)
  generalize fs[k]=f at hu hx l8
  unfold fc at hb hu oI
  refine gC (zRH h4 (zRH AI (zRH Co (zRH uG (zRH hb (zRH hu (zRH oI (zRH bg Int.toNat_natCast)))))))) ?_
  refine⟨⟨by omega,by omega⟩,by omega,by omega,by simp;omega,by simp;omega,by simp;omega,⟨by omega,by omega⟩,⟨k+1,_,by omega,?_,rfl,rfl,ad hb _,bc.app _⟩,?_⟩
  ·rw[hacc,hx];simp[nW]
  ·rw[ao (k:=.i64) (n:=(k:Int)+1) rfl];omega
 ·have js:k=fs.length:=by omega
  subst js
  rw[List.take_length]at hacc
  have bg:decide ((fs.length:Int)<fs.length)=false:=by simp
  refine gC (zRH h4 (zRH AI (zRH Co (zRH uG (zRH hb bg))))) ?_
  exact⟨by omega,by rw[hacc];simp,bc⟩
theorem iW {bs:List av}{j n:Nat}{cs:List SV}{m:Bool}(fs:List (Bytes × Bytes))(hj:bs[j]? = some (.own cs 100 2 n m))(hc:cs=fs.flatMap fc)(hnn:n=fs.length)(hn:fs.length≤1000000)(hm:cF fs≤1000000000)(st:Nat)(hY:st≤1000000000) :
 SC Tryz.V 96 [.agg [.int .i64 1,.int .i64 st,.o j n]] bs (fun r b=>r=.str (headText st fs)∧b=bs):=by
 subst hc hnn
 exact db (by simp[flat]) (AP hj hn hm st hY)
theorem iL (st:Nat)(hY:st≤1000000000)(fs:List (Bytes × Bytes)):(headText st fs).length≤cF fs+4 * fs.length+100:=by
 have h1:=zZ fs
 have h2:=cI 9 st (by omega)
 unfold By at h1
 unfold headText hU
 simp only[zRP,zRQ,zRU,h1]
 omega
theorem tg (n:Int):∀ (m:Nat)(s:Bytes),s.length≤m→(encode n s).length≤6 * s.length+5
 | 0,s,h=>by rw[List.length_eq_zero_iff.1 (Nat.le_zero.1 h),iE];simp
 | m+1,s,h=>by
   by_cases hs:s=[]
   ·rw[hs,iE];simp
   ·have h1:=kQ (size:=n) hs
    have h2:=xd (cZ n s)
    have h3:=tg n m (s.drop (cZ n s)) (by simp;omega)
    rw[rA hs]
    simp only[zRP,zR9,zR5]at h3 ⊢
    have:crlf.length=2:=rfl
    omega
theorem e9 {bs:List av}{x:SV}{fs:List (Bytes × Bytes)}(hx:Sx 100 2 x bs (fs.flatMap fc) fs.length)(hn:fs.length≤1000)(hm:cF fs≤1000000)(st:Nat)(hY:st≤1000000000)(body:Bytes)(hb:body.length≤1100000)(ch:Bool) :
 SC Tryz.V 45 [.int .i64 st,.str [],.str body,x,.bool ch] bs (fun r b=>r=.str (eH st fs body ch)∧b=bs):=by
 refine db (by simp[flat]) ?_
 have zD:=hx.within
 have p1:=tZ body 50 hb (by omega) (by omega)
 have vV:=tg 50 _ body (zRX _)
 have p2:=gG body.length (by omega)
 have rG:∀ X,rC (bs++[X]) 2 x=some (fs.length,fs.flatMap fc):=fun X=>by
  rcases hx with⟨rfl,hc,hl⟩|⟨j,m,rfl,hl,hj⟩
  ·rw[hc,hl];rfl
  ·simp[rC,ad hj [X]]
 have lH:=DZ fs
 have q1:∀ X X' Y Z,(bs++[X]++[Y]++[Z])[(bs++[X']).length]? = some Y:=fun X X' Y Z=>by
  rw[show (bs++[X']).length=(bs++[X]).length by simp]
  exact ad (aC _ _) [Z]
 have q2:∀ X X' Y Z W,((bs++[X]++[Y]++[Z]).set (bs++[X']).length .gone++[W])[bs.length]? = some X:=fun X X' Y Z W=>by
  rw[zRL (by simp),zRO (by simp)]
  exact ad (ad (aC _ _) _) _
 have q3:∀ (X X' Y Z W W':av) ,(((bs++[X]++[Y]++[Z]).set (bs++[X']).length .gone++[W]).set bs.length W')[bs.length]? = some W':=fun X X' Y Z W W'=>by
  rw[zRN (by simp)]
 refine bo 3000 Tryz.func45 rfl Tryz.ntmps45 Tryz.results45 Tryz.call45 (by simp) (ah bs.length _ (by simp[within,within.ax,zD])) ?_
 have q4:∀ X X' Y Z W W' A B C,(((bs++[X]++[Y]++[Z]).set (bs++[X']).length .gone++[W]).set bs.length W')[(bs++[A]++[B]++[C]).length]? = some W:=fun X X' Y Z W W' A B C=>by
  rw[zRO (by simp),show (bs++[A]++[B]++[C]).length=((bs++[X]++[Y]++[Z]).set (bs++[X']).length .gone).length by simp]
  exact aC _ _
 have q5:∀ X X' Y Z W W',Kp bs (((bs++[X]++[Y]++[Z]).set (bs++[X']).length .gone++[W]).set bs.length W'):=fun X X' Y Z W W'=>(((((Kp.refl bs).app [X]).app [Y]).app [Z]).set (by simp) .gone).app [W] |>.set (zRX _) W'
 cases ch
 ·refine gB (zRH rG (zRH lH (zRH q1 (zRH q2 q3)))) ?_
  refine⟨⟨by unfold maxLen;omega,by omega⟩,?_⟩
  (refine aY (p2) ?_;refine gB (zRH rG (zRH lH (zRH q1 (zRH q2 q3)))) ?_)
  refine⟨by omega,⟨by unfold maxLen;omega,by omega⟩,?_,?_⟩
  ·refine bO (fun n=>n - bs.length) ?_
   simp only[zRS,zRV,cW,eS,zRP,zRQ,zRU,Nat.zero_add,Nat.add_assoc,Nat.reduceAdd,zRM,zRW]
   exact aq (by kernel_rfl)
  have hd:=cI 9 body.length (by omega)
  have hh:=iL st hY (fs++[(yd,bW body.length)])
  rw[gh]at hh
  simp only[cF,zRP,zRQ,zRU]at hh
  have iU:yd.length=14:=rfl
  refine ae (iW (fs++[(yd,bW body.length)]) (q4 _ _ _ _ _ _ _ _ _) (by rw[zRZ];rfl) (by simp) (by simp;omega) (by rw[gh];simp only[cF];omega) st hY) ?_
  rintro r b ⟨rfl,rfl⟩
  refine mc ?_
  exact⟨by omega,rfl,q5 _ _ _ _ _ _⟩
 ·refine gB (zRH rG (zRH lH (zRH q1 (zRH q2 q3)))) ?_
  refine⟨⟨by unfold maxLen;omega,by omega⟩,by omega,⟨by unfold maxLen;omega,by omega⟩,?_⟩
  have hh:=iL st hY (fs++[(xx,Er)])
  rw[gh]at hh
  simp only[cF,zRP,zRQ,zRU]at hh
  have iU:xx.length=17:=rfl
  have iU:Er.length=7:=rfl
  refine ae (iW (fs++[(xx,Er)]) (q4 _ _ _ _ _ _ _ _ _) (by rw[zRZ];rfl) (by simp) (by simp;omega) (by rw[gh];simp only[cF];omega) st hY) ?_
  rintro r b ⟨rfl,rfl⟩
  refine mc ?_
  (refine aa (p1) ?_;refine mc ?_)
  exact⟨by omega,rfl,q5 _ _ _ _ _ _⟩
def dj (u:bM)(raw:Bytes):fK:=⟨u.host,u.port,bT u,raw,0,0,0⟩
theorem eP (u:bM)(hu:Fair u)(raw:Bytes):PC Tryz.V 80 [.agg (uc u),.str raw] (.agg (ac (dj u raw))):=by
 have p1:=qy u hu
 refine aZ 3000 Tryz.func80 rfl Tryz.ntmps80 Tryz.results80 Tryz.call80 (by simp) (by simp[flat,flat.ai,uc]) (by simp[flat,flat.ai,ac]) ?_
 unfold cQ at p1
 unfold uc ac dj
 refine bC ?_
 (refine aY (p1) ?_;refine se ?_)
 exact(aq (by kernel_rfl))
theorem o5 {bs:List av}(u:bM)(hu:Fair u):SC Tryz.V 78 [.agg (uc u)] bs (fun r b=>r=.agg (ac (dj u (eH 404 [] [] false)))∧b=bs):=by
 have p1:=eP u hu (eH 404 [] [] false)
 have s1:=fun X Y=>e9 (bs:=bs++[X]++[Y]) (x:=.aj) (fs:=[]) (.inl ⟨rfl,rfl,rfl⟩) (by decide) (by decide) 404 (by omega) [] (by simp) false
 refine db (by simp[flat,flat.ai,ac]) ?_
 refine bo 3000 Tryz.func78 rfl Tryz.ntmps78 Tryz.results78 Tryz.call78 (by simp) (ah bs.length _ (by simp[within,within.ax,uc])) ?_
 unfold uc ac dj at p1
 unfold uc ac dj
 simp only at p1 ⊢
 refine mc ?_
 have hn:∀ X,(bs++[X]).length=bs.length+1:=fun X=>by simp
 have t1:∀ X Y Z,((bs++[X]++[Y]).set (bs.length+1) Z)[bs.length+1]? = some Z:=fun X Y Z=>zRN (by simp)
 have t0:∀ X Y,(bs++[X]++[Y])[bs.length+1]? = some Y:=fun X Y=>by rw[← hn X];exact aC _ _
 refine bG [] (s1 _ _) (fun _ _ _=>rfl) ?_
 rw[hn]
 refine gB (zRH t0 t1) ?_
 (refine aY (p1) ?_;refine gB (zRH t0 t1) ?_)
 have z1:(bs.length=bs.length+1)=False:=by simp
 exact⟨(by
  refine bO (fun n=>if n=bs.length+1 then 0 else 1) ?_
  simp only[zRS,zRV,cW,eS,reduceIte,z1]
  exact aq (by kernel_rfl)),(((Kp.refl bs).app _).app _).set (by omega) _⟩
def Ky (st:Nat)(kind:Bytes)(fs:List (Bytes × Bytes))(body:Bytes)(ch:Bool):Bytes:=if kind=[] then eH st fs body ch else eH st ((([99,111,110,116,101,110,116,45,116,121,112,101]:List UInt8),kind)::fs) body ch
theorem tN {bs:List av}{x:SV}{fs:List (Bytes × Bytes)}(hx:Sx 100 2 x bs (fs.flatMap fc) fs.length)(hn:fs.length≤1000)(hm:cF fs≤1000000)(st:Nat)(hY:st≤1000000000)(kind:Bytes)(hk:kind.length≤1000000)(body:Bytes)(hb:body.length≤1100000)(ch:Bool) :
 SC Tryz.V 45 [.int .i64 st,.str kind,.str body,x,.bool ch] bs (fun r b=>r=.str (Ky st kind fs body ch)∧b=bs):=by
 unfold Ky
 by_cases Ho:kind=[]
 ·rw[if_pos Ho,Ho]
  exact e9 hx hn hm st hY body hb ch
 rw[if_neg Ho]
 have kg:(kind != [])=true:=by simpa using Ho
 refine db (by simp[flat]) ?_
 have zD:=hx.within
 have p1:=tZ body 50 hb (by omega) (by omega)
 have vV:=tg 50 _ body (zRX _)
 have p2:=gG body.length (by omega)
 have rG:∀ X Y Z,rC (bs++[X]++[Y]++[Z]) 2 x=some (fs.length,fs.flatMap fc):=fun X Y Z=>by
  rcases hx with⟨rfl,hc,hl⟩|⟨j,m,rfl,hl,hj⟩
  ·rw[hc,hl];rfl
  ·simp only[rC,ad (ad (ad hj [X]) [Y]) [Z],and_self,if_true]
 have lH:=DZ fs
 refine bo 3000 Tryz.func45 rfl Tryz.ntmps45 Tryz.results45 Tryz.call45 (by simp) (ah bs.length _ (by simp[within,within.ax,zD])) ?_
 cases ch
 ·refine gB (zRH rG (zRH lH kg)) ?_
  refine⟨by omega,⟨by unfold maxLen;omega,by omega⟩,?_⟩
  have jI:∀ X Y,(bs++[X]++[Y]).length=bs.length+2:=fun X Y=>by simp
  rw[jI]
  have s0:∀ X Y Z,(bs++[X]++[Y]++[Z])[bs.length]? = some X:=fun X Y Z=>ad (ad (aC _ _) _) _
  have s2:∀ X Y Z,(bs++[X]++[Y]++[Z])[bs.length+2]? = some Z:=fun X Y Z=>by rw[← jI X Y];exact aC _ _
  have sk:∀ X Y Z,Kp bs (bs++[X]++[Y]++[Z]):=fun X Y Z=>(((Kp.refl bs).app _).app _).app _
  have sl:∀ X Y Z,(bs++[X]++[Y]++[Z]).length=bs.length+3:=fun X Y Z=>by simp
  generalize hS:(bs++[_]++[_]++[_])=S
  replace s0:S[bs.length]? = _:=hS ▸ s0 _ _ _
  replace s2:S[bs.length+2]? = _:=hS ▸ s2 _ _ _
  replace sk:Kp bs S:=hS ▸ sk _ _ _
  replace sl:S.length=bs.length+3:=hS ▸ sl _ _ _
  replace rG:rC S 2 x=_:=hS ▸ rG _ _ _
  clear hS
  have u0:∀ X,(S.set (bs.length+2) .gone++[X])[bs.length]? = S[bs.length]? := fun X=>by rw[zRL (by simp;omega),zRO (by omega)]
  have u0:∀ X Y,((S.set (bs.length+2) .gone++[X]).set bs.length Y)[bs.length]? = some Y:=fun X Y=>zRN (by simp;omega)
  have u1:∀ X Y,((S.set (bs.length+2) .gone++[X]).set bs.length Y)[S.length]? = some X:=fun X Y=>by
   rw[zRO (by omega),show S.length=(S.set (bs.length+2) .gone).length by simp];exact aC _ _
  have uk:∀ X Y,Kp bs ((S.set (bs.length+2) .gone++[X]).set bs.length Y):=fun X Y=>((sk.set (by omega) _).app _).set (zRX _) _
  have ul:∀ X Y,((S.set (bs.length+2) .gone++[X]).set bs.length Y).length=bs.length+4:=fun X Y=>by simp;omega
  have ux:∀ X,(S.set (bs.length+2) .gone++[X])[bs.length]? = S[bs.length]? := fun X=>by rw[zRL (by simp;omega),zRO (by omega)]
  refine gB (zRH rG (zRH lH (zRH kg (zRH s0 (zRH s2 ux))))) ?_
  refine⟨⟨by unfold maxLen;omega,by omega⟩,?_⟩
  generalize Mi:((S.set (bs.length+2) .gone++[_]).set bs.length _)=S2
  replace u0:S2[bs.length]? = _:=Mi ▸ u0 _ _
  replace u1:S2[S.length]? = _:=Mi ▸ u1 _ _
  replace uk:Kp bs S2:=Mi ▸ uk _ _
  replace ul:S2.length=bs.length+4:=Mi ▸ ul _ _
  clear Mi rG s0 s2 ux
  rw[sl]at u0 u1 ⊢
  clear sk sl
  have v0:=fun X=>ad u0 [X]
  have v1:=fun X=>ad u1 [X]
  have q2:∀ Z W,((S2++[Z]).set (bs.length+3) .gone++[W])[bs.length]? = S2[bs.length]? := fun Z W=>by
   rw[zRL (by simp;omega),zRO (by omega),zRL (by omega)]
  have q3:∀ Z W W',(((S2++[Z]).set (bs.length+3) .gone++[W]).set bs.length W')[bs.length]? = some W':=fun Z W W'=>zRN (by simp;omega)
  have q4:∀ Z W W' A,(((S2++[Z]).set (bs.length+3) .gone++[W]).set bs.length W')[(S2++[A]).length]? = some W:=fun Z W W' A=>by
   rw[zRO (by simp;omega),show (S2++[A]).length=((S2++[Z]).set (bs.length+3) .gone).length by simp]
   exact aC _ _
  have q5:∀ Z W W',Kp bs (((S2++[Z]).set (bs.length+3) .gone++[W]).set bs.length W'):=fun Z W W'=>(((uk.app _).set (by omega) .gone).app _).set (zRX _) W'
  refine gB (zRH lH (zRH kg (zRH u0 (zRH v0 (zRH v1 q3))))) ?_
  (refine aY (p2) ?_;refine gB (zRH lH (zRH kg (zRH u0 (zRH v0 (zRH v1 (zRH q2 q3)))))) ?_)
  have z1:(S2.length=bs.length)=False:=by simp;omega
  have z2:∀ X,((S2++[X]).length=bs.length)=False:=fun X=>by simp;omega
  have z3:(bs.length+3=bs.length)=False:=by simp
  refine⟨by omega,⟨by unfold maxLen;omega,by omega⟩,(by
   refine bO (fun n=>if n=bs.length then 0 else 1) ?_
   simp only[zRS,zRV,cW,eS,reduceIte,z1,z2,z3]
   exact aq (by kernel_rfl)),?_⟩
  have hd:=cI 9 body.length (by omega)
  have hh:=iL st hY ((([99,111,110,116,101,110,116,45,116,121,112,101]:List UInt8),kind)::fs++[(yd,bW body.length)])
  rw[gh]at hh
  have iU:yd.length=14:=rfl
  simp only[cF,zRP,zRQ,zRU,zRT]at hh
  refine ae (iW ((([99,111,110,116,101,110,116,45,116,121,112,101]:List UInt8),kind)::fs++[(yd,bW body.length)]) (q4 _ _ _ _) (by rw[zRT,zR8,zRZ];rfl) (by simp;omega) (by simp;omega) (by rw[gh];simp only[cF,zRQ,zRU];omega) st hY) ?_
  rintro r b ⟨rfl,rfl⟩
  simp only[cz,↓Xn,↓Xo,↓Xg,↓Xd,↓Xe,↓Xf,Tryz.VΓ,Tryz.Γs,Xp,Xi,Nat.reduceAdd,Nat.reduceSub,Nat.reduceLT,Nat.reduceLeDiff,reduceIte,reduceCtorEq,Nat.reduceEqDiff,implies_true,forall_const,cw,nO,beq_self_eq_true,bne_self_eq_false,Int.reduceBEq,Int.reduceBNe,Int.reduceLT,Int.reduceLE,zRT]
  exact⟨by omega,rfl,q5 _ _ _⟩
 ·refine gB (zRH rG (zRH lH kg)) ?_
  refine⟨by omega,⟨by unfold maxLen;omega,by omega⟩,?_⟩
  have jI:∀ X Y,(bs++[X]++[Y]).length=bs.length+2:=fun X Y=>by simp
  rw[jI]
  have s0:∀ X Y Z,(bs++[X]++[Y]++[Z])[bs.length]? = some X:=fun X Y Z=>ad (ad (aC _ _) _) _
  have s2:∀ X Y Z,(bs++[X]++[Y]++[Z])[bs.length+2]? = some Z:=fun X Y Z=>by rw[← jI X Y];exact aC _ _
  have sk:∀ X Y Z,Kp bs (bs++[X]++[Y]++[Z]):=fun X Y Z=>(((Kp.refl bs).app _).app _).app _
  have sl:∀ X Y Z,(bs++[X]++[Y]++[Z]).length=bs.length+3:=fun X Y Z=>by simp
  generalize hS:(bs++[_]++[_]++[_])=S
  replace s0:S[bs.length]? = _:=hS ▸ s0 _ _ _
  replace s2:S[bs.length+2]? = _:=hS ▸ s2 _ _ _
  replace sk:Kp bs S:=hS ▸ sk _ _ _
  replace sl:S.length=bs.length+3:=hS ▸ sl _ _ _
  replace rG:rC S 2 x=_:=hS ▸ rG _ _ _
  clear hS
  have u0:∀ X,(S.set (bs.length+2) .gone++[X])[bs.length]? = S[bs.length]? := fun X=>by rw[zRL (by simp;omega),zRO (by omega)]
  have u0:∀ X Y,((S.set (bs.length+2) .gone++[X]).set bs.length Y)[bs.length]? = some Y:=fun X Y=>zRN (by simp;omega)
  have u1:∀ X Y,((S.set (bs.length+2) .gone++[X]).set bs.length Y)[S.length]? = some X:=fun X Y=>by
   rw[zRO (by omega),show S.length=(S.set (bs.length+2) .gone).length by simp];exact aC _ _
  have uk:∀ X Y,Kp bs ((S.set (bs.length+2) .gone++[X]).set bs.length Y):=fun X Y=>((sk.set (by omega) _).app _).set (zRX _) _
  have ul:∀ X Y,((S.set (bs.length+2) .gone++[X]).set bs.length Y).length=bs.length+4:=fun X Y=>by simp;omega
  have ux:∀ X,(S.set (bs.length+2) .gone++[X])[bs.length]? = S[bs.length]? := fun X=>by rw[zRL (by simp;omega),zRO (by omega)]
  refine gB (zRH rG (zRH lH (zRH kg (zRH s0 (zRH s2 ux))))) ?_
  refine⟨⟨by unfold maxLen;omega,by omega⟩,?_⟩
  generalize Mi:((S.set (bs.length+2) .gone++[_]).set bs.length _)=S2
  replace u0:S2[bs.length]? = _:=Mi ▸ u0 _ _
  replace u1:S2[S.length]? = _:=Mi ▸ u1 _ _
  replace uk:Kp bs S2:=Mi ▸ uk _ _
  replace ul:S2.length=bs.length+4:=Mi ▸ ul _ _
  clear Mi rG s0 s2 ux
  rw[sl]at u0 u1 ⊢
  clear sk sl
  have v0:=fun X=>ad u0 [X]
  have v1:=fun X=>ad u1 [X]
  have q2:∀ Z W,((S2++[Z]).set (bs.length+3) .gone++[W])[bs.length]? = S2[bs.length]? := fun Z W=>by
   rw[zRL (by simp;omega),zRO (by omega),zRL (by omega)]
  have q3:∀ Z W W',(((S2++[Z]).set (bs.length+3) .gone++[W]).set bs.length W')[bs.length]? = some W':=fun Z W W'=>zRN (by simp;omega)
  have q4:∀ Z W W' A,(((S2++[Z]).set (bs.length+3) .gone++[W]).set bs.length W')[(S2++[A]).length]? = some W:=fun Z W W' A=>by
   rw[zRO (by simp;omega),show (S2++[A]).length=((S2++[Z]).set (bs.length+3) .gone).length by simp]
   exact aC _ _
  have q5:∀ Z W W',Kp bs (((S2++[Z]).set (bs.length+3) .gone++[W]).set bs.length W'):=fun Z W W'=>(((uk.app _).set (by omega) .gone).app _).set (zRX _) W'
  refine gB (zRH lH (zRH kg (zRH u0 (zRH v0 (zRH v1 (zRH q2 q3)))))) ?_
  refine⟨by omega,⟨by unfold maxLen;omega,by omega⟩,?_⟩
  have hh:=iL st hY ((([99,111,110,116,101,110,116,45,116,121,112,101]:List UInt8),kind)::fs++[(xx,Er)])
  rw[gh]at hh
  have iU:xx.length=17:=rfl
  have hcl2:Er.length=7:=rfl
  simp only[cF,zRP,zRQ,zRU,zRT]at hh
  refine ae (iW ((([99,111,110,116,101,110,116,45,116,121,112,101]:List UInt8),kind)::fs++[(xx,Er)]) (q4 _ _ _ _) (by rw[zRT,zR8,zRZ];rfl) (by simp;omega) (by simp;omega) (by rw[gh];simp only[cF,zRQ,zRU];omega) st hY) ?_
  rintro r b ⟨rfl,rfl⟩
  simp only[cz,↓Xn,↓Xo,↓Xg,↓Xd,↓Xe,↓Xf,Tryz.VΓ,Tryz.Γs,Xp,Xi,Nat.reduceAdd,Nat.reduceSub,Nat.reduceLT,Nat.reduceLeDiff,reduceIte,reduceCtorEq,Nat.reduceEqDiff,implies_true,forall_const,cw,nO,beq_self_eq_true,bne_self_eq_false,Int.reduceBEq,Int.reduceBNe,Int.reduceLT,Int.reduceLE,zRT]
  (refine aa (p1) ?_;simp only[cz,↓Xn,↓Xo,↓Xg,↓Xd,↓Xe,↓Xf,Tryz.VΓ,Tryz.Γs,Xp,Xi,Nat.reduceAdd,Nat.reduceSub,Nat.reduceLT,Nat.reduceLeDiff,reduceIte,reduceCtorEq,Nat.reduceEqDiff,implies_true,forall_const,cw,nO,beq_self_eq_true,bne_self_eq_false,Int.reduceBEq,Int.reduceBNe,Int.reduceLT,Int.reduceLE,zRT])
  exact⟨by omega,rfl,q5 _ _ _⟩
theorem fI.gT {i:Nat}{a b:List av}(h:fI i a b){k:Nat}(hk:a.length≤k)(X:av):fI i a (b.set k X):=⟨by simp;exact h.1,fun q hq hn=>by rw[zRO (by omega)];exact h.2 q hq hn⟩
theorem aW.set {b:List av}{i:Nat}{L:List Int}(h:aW b i L){k:Nat}(hk:k≠i){c:List SV}{e s n:Nat}(hr:b[k]? = some (.own c e s n true))(X:av):aW (b.set k X) i L:=by
 obtain⟨x,hi,hx,hq⟩:=h
 refine⟨x,by rw[zRO hk];exact hi,?_,hq⟩
 rcases hx with h|⟨j,h1,h2,h3⟩
 ·exact .inl h
 ·exact .inr ⟨j,h1,h2,by rw[zRO (by rintro rfl;rw[hr]at h3;simp at h3)];exact h3⟩
theorem HT {bs:List av}{i:Nat}{L:List Int}(h:aW bs i L):SC Tryz.V 68 [.p i 0] bs (fun r b=>∃ fs L' q,r=.o q fs.length∧0<fs.length∧fs.length≤2∧cF fs≤200∧bs.length≤q∧b[q]? = some (.own (fs.flatMap fc) 100 2 fs.length true)∧aW b i L'∧fI i bs b):=by
 have dF:i<bs.length:=by obtain⟨x,hi,-⟩:=h;exact(zRI.1 hi).1
 refine bo 3000 Tryz.func68 rfl Tryz.ntmps68 Tryz.results68 Tryz.call68 (by simp) (ah bs.length _ (by simp[within,within.ax,dF])) ?_
 refine mc ?_
 refine⟨by omega,ae (iB h [([109,97,120,45,97,103,101,61,49,48,48]:List UInt8),([109,97,120,45,97,103,101,61,49,48,48,48,44,32,112,117,98,108,105,99]:List UInt8),([109,97,120,45,97,103,101,61,53]:List UInt8),([109,97,120,45,97,103,101,61,57,57,57,57,57,57,57,57,57]:List UInt8),([110,111,45,115,116,111,114,101,44,32,109,97,120,45,97,103,101,61,57]:List UInt8),([112,114,105,118,97,116,101]:List UInt8),([109,97,120,45,97,103,101,61,120]:List UInt8)] (n:=7) (m:=30) rfl (by omega) (by decide) rfl) ?_⟩
 rintro r b ⟨s1,L1,rfl,xF,h,hk⟩
 have x9:=hk.1
 refine mc ?_
 refine⟨by omega,ae (eA (h.app _) 4 (by omega)) ?_⟩
 rintro r b2 ⟨v,L2,rfl,hv,h2,bJ⟩
 have g1:=bJ.at (aC b _) (by omega)
 have o9:=(hk.app _).trans bJ
 clear bJ
 have mh:b.length<b2.length:=(zRI.1 g1).1
 have kcc:(([99,97,99,104,101,45,99,111,110,116,114,111,108]:List UInt8):Bytes).length=13:=rfl
 have kag:(([97,103,101]:List UInt8):Bytes).length=3:=rfl
 by_cases hv0:v=0
 ·have e0:(v==0)=true:=beq_iff_eq.2 hv0
  refine gB (zRH g1 e0) ?_
  refine⟨by omega,ae (iB h2 [([52,48]:List UInt8),([51]:List UInt8),([49,48,48,48]:List UInt8),([121]:List UInt8)] (n:=4) (m:=10) rfl (by omega) (by decide) rfl) ?_⟩
  rintro r b3 ⟨s2,L3,rfl,fA,h3,eF⟩
  have g3:=eF.at g1 (by omega)
  have g4:=fun X=>ad g3 [X]
  have hkl3:=eF.1
  refine gB (zRH g3 g4) ?_
  refine⟨by omega,⟨by unfold maxLen;omega,by omega⟩,[(([99,97,99,104,101,45,99,111,110,116,114,111,108]:List UInt8),s1),(([97,103,101]:List UInt8),s2)],L3,_,rfl,by simp,by simp,by simp only[cF];omega,by simp;omega,?_,((h3.app _).set (by omega) (g4 _) _).app _,(((o9.trans eF).app _).gT x9 _).app _⟩
  have e:∀ X Y,(b3++[X]).length=((b3++[X]).set b.length Y).length:=fun X Y=>by simp
  rw[e _ .gone,aC]
  rfl
 ·have e0:(v==0)=false:=beq_eq_false_iff_ne.2 hv0
  refine gB (zRH g1 e0) ?_
  exact⟨[(([99,97,99,104,101,45,99,111,110,116,114,111,108]:List UInt8),s1)],L2,b.length,rfl,by simp,by simp,by simp only[cF];omega,x9,g1,h2,o9⟩
def Ro (a b:List av):Prop:=∀ (j:Nat) (c:List SV) (e s n:Nat),a[j]? = some (.own c e s n false)→b[j]? = some (.own c e s n false)
theorem Ro.refl (a:List av):Ro a a:=fun _ _ _ _ _ h=>h
theorem Ro.trans {a b c:List av}(h:Ro a b)(k:Ro b c):Ro a c:=fun j _ _ _ _ x=>k j _ _ _ _ (h j _ _ _ _ x)
end Go.Proofs.YtnmlimehgifadaaGreatDoor
namespace Vc
open Go.Proofs.YtnmlimehgifadaaGreatDoor
open Go Vc Go.RowKit Wf
theorem Kp.ro {a b:List av}(h:Kp a b):Ro a b:=fun _ _ _ _ _ x=>h.at x
end Vc
namespace Go.Proofs.YtnmlimehgifadaaGreatDoor
open Go Vc Go.RowKit Wf
theorem Ro.app {a b:List av}(h:Ro a b)(X:List av):Ro a (b++X):=fun j _ _ _ _ x=>ad (h j _ _ _ _ x) X
end Go.Proofs.YtnmlimehgifadaaGreatDoor
namespace Vc
open Go.Proofs.YtnmlimehgifadaaGreatDoor
open Go Vc Go.RowKit Wf
theorem Mo.ro {a b:List av}(h:Mo a b):Ro a b:=fun j c e s n x=>by
 have hl:j<b.length:=by rw[h.1];exact(zRI.1 x).1
 rcases h.2 j b[j] (zR6 hl) with h1|⟨c',e',s',n',m',h1,h2⟩
 ·rw[zR6 hl,← h1,x]
 ·rw[x]at h1
  cases h1
  rw[zR6 hl,h2]
end Vc
namespace Go.Proofs.YtnmlimehgifadaaGreatDoor
open Go Vc Go.RowKit Wf
theorem Ro.set {a b:List av}(h:Ro a b){q:Nat}(hq:∀ c e s n,b[q]? ≠ some (.own c e s n false))(X:av):Ro a (b.set q X):=fun j c e s n x=>by
 have:=h j c e s n x
 have bK:q≠j:=by rintro rfl;exact hq _ _ _ _ this
 rw[zRO bK]
 exact this
theorem Ro.rD {a b:List av}(h:Ro a b){q:Nat}{c:List SV}{e s n:Nat}(hq:b[q]? = some (.own c e s n true))(X:av):Ro a (b.set q X):=h.set (fun c e s n hx=>by rw[hq]at hx;cases hx) X
structure Tv where
 k:Int
 t:Bytes
 xk:SV
 xi:SV
def tv (v:Tv):List SV:=[.int .i64 v.k,.str v.t,v.xk,v.xi]
def Rs (b:List av)(x:SV)(L:List Bytes):Prop:=(x=.aj∧L=[])∨∃ j,x=.o j L.length∧b[j]? = some (.own (L.map SV.str) 9 1 L.length false)
def Ri (b:List av)(x:SV)(L:List Tv):Prop:=(x=.aj∧L=[])∨∃ j,x=.o j L.length∧b[j]? = some (.own (L.flatMap tv) 139 4 L.length false)
theorem Rs.ro {a b:List av}{x:SV}{L:List Bytes}(h:Rs a x L)(k:Ro a b):Rs b x L:=by
 rcases h with h|⟨j,h1,h2⟩
 ·exact .inl h
 ·exact .inr ⟨j,h1,k _ _ _ _ _ h2⟩
theorem Ri.ro {a b:List av}{x:SV}{L:List Tv}(h:Ri a x L)(k:Ro a b):Ri b x L:=by
 rcases h with h|⟨j,h1,h2⟩
 ·exact .inl h
 ·exact .inr ⟨j,h1,k _ _ _ _ _ h2⟩
theorem Rs.within {b:List av}{x:SV}{L:List Bytes}(h:Rs b x L):Vc.within b.length x=true:=by
 rcases h with⟨rfl,-⟩|⟨j,rfl,h2⟩
 ·rfl
 ·have:=(zRI.1 h2).1
  simp[Vc.within,this]
theorem Ri.within {b:List av}{x:SV}{L:List Tv}(h:Ri b x L):Vc.within b.length x=true:=by
 rcases h with⟨rfl,-⟩|⟨j,rfl,h2⟩
 ·rfl
 ·have:=(zRI.1 h2).1
  simp[Vc.within,this]
def Tr (b:List av):Nat→Tv→Prop
 | 0,_=>False
 | d+1,v=>v.t.length≤20000∧(v.k=0∨v.k=5∨v.k=6∨v.k=7)∧∃ (K:List Bytes) (L:List Tv),Rs b v.xk K∧Ri b v.xi L∧K.length≤16∧L.length≤16∧(∀ s∈K,s.length≤20000)∧(v.k=7→K.length=L.length)∧(v.k≠7→K=[])∧∀ x∈L,Tr b d x
theorem Tr.ro {a b:List av}(k:Ro a b):∀ {d:Nat}{v:Tv},Tr a d v→Tr b d v
 | 0,_,h=>h
 | _+1,_,⟨h1,h2,K,L,h3,h4,h5,h6,h7,h8,h9,de⟩=>⟨h1,h2,K,L,h3.ro k,h4.ro k,h5,h6,h7,h8,h9,fun x hx=>(de x hx).ro k⟩
theorem Tr.up {b:List av}:∀ {d:Nat}{v:Tv},Tr b d v→Tr b (d+1) v
 | 0,_,h=>h.elim
 | _+1,_,⟨h1,h2,K,L,h3,h4,h5,h6,h7,h8,h9,de⟩=>⟨h1,h2,K,L,h3,h4,h5,h6,h7,h8,h9,fun x hx=>(de x hx).up⟩
theorem Tr.le {b:List av}{d d2:Nat}{v:Tv}(h:Tr b d v)(hd:d≤d2):Tr b d2 v:=by
 induction hd with
 | refl=>exact h
 | step _ ih=>exact ih.up
theorem Tr.zero (b:List av)(d:Nat):Tr b (d+1) ⟨0,[],.aj,.aj⟩:=⟨by simp,.inl rfl,[],[],.inl ⟨rfl,rfl⟩,.inl ⟨rfl,rfl⟩,by simp,by simp,by simp,by simp,by simp,by simp⟩
theorem Tr.text (b:List av)(d:Nat)(s:Bytes)(hs:s.length≤20000):Tr b (d+1) ⟨5,s,.aj,.aj⟩:=⟨hs,.inr (.inl rfl),[],[],.inl ⟨rfl,rfl⟩,.inl ⟨rfl,rfl⟩,by simp,by simp,by simp,by simp,by simp,by simp⟩
theorem Tr.within {b:List av}:∀ {d:Nat}{v:Tv},Tr b d v→Vc.within b.length (.agg (tv v))=true
 | 0,_,h=>h.elim
 | _+1,_,⟨_,_,_,_,h3,h4,_⟩=>by simp[Vc.within,Vc.within.ax,tv,h3.within,h4.within]
theorem wD (L:List Tv)(k:Nat)(h:k<L.length):((L.flatMap tv).drop (k * 4)).take 4=tv L[k]:=kz tv 4 (fun _=>rfl) L k h
theorem oo (L:List Tv):(L.flatMap tv).length=L.length * 4:=ie tv 4 (fun _=>rfl) L
end Go.Proofs.YtnmlimehgifadaaGreatDoor
namespace Vc
open Go Go.RowKit Wf
mutual
def MY (ρ:Nat→Nat):SV→SV
 | .p i off=>.p (ρ i) off
 | .o i n=>.o (ρ i) n
 | .f i n=>.f (ρ i) n
 | .agg l=>.agg (qp ρ l)
 | .eW l=>.eW (qp ρ l)
 | .fn f l=>.fn f (qp ρ l)
 | .mv f l=>.mv f (qp ρ l)
 | .bool b=>.bool b
 | .int k n=>.int k n
 | .str l=>.str l
 | .aj=>.aj
 | .v x=>.v x
def qp (ρ:Nat→Nat):List SV→List SV
 | []=>[]
 | x::r=>MY ρ x::qp ρ r
end
mutual
theorem GN (ρ:Nat→Nat)(β:Nat→Bt)(x:SV):ak β (MY ρ x)=ak (fun i=>β (ρ i)) x:=by
 cases x <;> simp only[MY,ak]
 ·rw[lf ρ β _]
 ·rw[lf ρ β _]
 ·rw[lf ρ β _]
 ·rw[lf ρ β _]
theorem lf (ρ:Nat→Nat)(β:Nat→Bt)(l:List SV):a8 β (qp ρ l)=a8 (fun i=>β (ρ i)) l:=by
 cases l with
 | nil=>rfl
 | cons x r =>
   simp only[qp,a8]
   rw[GN ρ β x,lf ρ β r]
end
mutual
theorem yJ {ρ:Nat→Nat}{m:Nat}(hρ:∀ k,k<m→ρ k=k)(x:SV)(h:within m x=true):MY ρ x=x:=by
 cases x <;> simp only[within,decide_eq_true_eq]at h <;> simp only[MY]
 ·rw[hρ _ h]
 ·rw[hρ _ h]
 ·rw[hρ _ h]
 ·rw[fL hρ _ h]
 ·rw[fL hρ _ h]
 ·rw[fL hρ _ h]
 ·rw[fL hρ _ h]
theorem fL {ρ:Nat→Nat}{m:Nat}(hρ:∀ k,k<m→ρ k=k)(l:List SV)(h:within.ax m l=true):qp ρ l=l:=by
 cases l with
 | nil=>rfl
 | cons x r =>
   simp only[within.ax,Bool.and_eq_true]at h
   simp only[qp]
   rw[yJ hρ x h.1,fL hρ r h.2]
end
theorem MX (ρ:Nat→Nat)(l:List SV):qp ρ l=l.map (MY ρ):=by
 induction l with
 | nil=>rfl
 | cons x r ih=>rw[qp,ih];rfl
variable {V:Cx} {f:FuncId} {args:List SV} {bs:List av} {R:SV→List av→Prop}
def Kept (bs b:List av)(ρ:Nat→Nat)(m i:Nat)(X:av):Prop:=X=.gone∨∃ (c:List SV) (e s n:Nat) (mm:Bool),X=.own c e s n false∧bs.length≤ρ i∧b[ρ i]? = some (.own (qp ρ c) e s n mm)∧within.ax m c=true
theorem SC.pick (h:SC V f args bs (fun r b=>∃ (ρ:Nat→Nat)(Xs:List av)(r2:SV),Kp bs b∧(∀ k,k<bs.length→ρ k=k)∧(∀ q X,Xs[q]? = some X→Kept bs b ρ (bs.length+Xs.length) (bs.length+q) X)∧r=MY ρ r2∧within (bs.length+Xs.length) r2=true∧R r2 (bs++Xs))):SC V f args bs R:=by
 refine⟨h.1,fun β fp w nD hG hE=>(h.2 β fp w nD hG hE).mono ?_⟩
 rintro ex w' ⟨r,bs',β₂,fp₂,⟨ρ,Xs,r2,⟨hlen,bc⟩,hρ,hX,rfl,hw,hR⟩,AH,-,bp,kK,j0,jx⟩
 have old:∀ {i r},bs[i]? = some r→bs'[i]? = some r:=fun {i r} hi=>(bc i (zRI.1 hi).1).trans hi
 obtain⟨he,rL⟩:=bp β₂ (fun _ _=>rfl)
 have low:∀ {i X},(bs++Xs)[i]? = some X→(i<bs.length∧bs[i]? = some X)∨(bs.length≤i∧(X=.gone∨∃ (c:List SV) (e s n:Nat) (mm:Bool),X=.own c e s n false∧bs.length≤ρ i∧bs'[ρ i]? = some (.own (qp ρ c) e s n mm)∧within.ax (bs.length+Xs.length) c=true)):=fun {i X} hi=>by
  rcases zR1 i bs.length with h1|h1
  ·rw[zRL h1]at hi
   exact .inl ⟨h1,hi⟩
  ·rw[zR2 h1]at hi
   have:=hX _ _ hi
   rw[show bs.length+(i - bs.length)=i by omega]at this
   exact .inr ⟨h1,this⟩
 have ng:∀ {i X},(bs++Xs)[i]? = some X→X≠.gone→bs'[ρ i]? ≠ none∧(i<bs.length∧ρ i=i∨bs.length≤i∧bs.length≤ρ i):=fun {i X} hi hg=>by
  rcases low hi with⟨h1,h2⟩|⟨h1,h2|⟨c,e,s,n,mm,-,h3,h4,-⟩⟩
  ·rw[hρ i h1,old h2]
   exact⟨by simp,.inl ⟨h1,rfl⟩⟩
  ·exact absurd h2 hg
  ·rw[h4]
   exact⟨by simp,.inr ⟨h1,h3⟩⟩
 refine⟨r2,bs++Xs,fun i=>β₂ (ρ i),fun i k=>(bs++Xs)[i]? ≠ some .gone∧fp₂ (ρ i) k,hR,fun i hi=>?_,by simp,fun β' hβ=>?_,kK,fun i X hi hm k hk=>?_,fun i X hi k hk=>?_⟩
 ·show β i=β₂ (ρ i)
  rw[hρ i hi]
  exact AH i hi
 ·rw[zRP]at hβ
  have e1:∀ c,within.ax (bs.length+Xs.length) c=true→(qp ρ c).map (ak β₂)=c.map (ak β'):=fun c hc=>by
   rw[← cp,← cp,lf]
   exact ah _ c hc _ _ hβ
  have hB:cN bs.length β₂ β':=fun i hi=>by
   have:β₂ (ρ i)=β' i:=hβ i (by omega)
   rw[← this,hρ i hi]
  refine⟨by rw[he,GN];rw[xq _ r2 hw _ _ hβ],⟨fun i X hi=>?_,fun i X hi k hk=>?_,fun i j X Y hi hj Gj hm k hk bJ=>?_⟩⟩
  ·rcases low hi with⟨h1,h2⟩|⟨h1,rfl|⟨c,e,s,n,mm,rfl,h3,h4,h5⟩⟩
   ·have g1:=(nD β₂ AH).holds i X h2
    have g2:=(nD β' (fun i hi=>(AH i hi).trans (hB i hi))).holds i X h2
    have e:β₂ i=β' i:=hB i h1
    have g3:=rL.holds i X (old h2)
    rw[e]at g1 g3
    have g4:=Db g1 g2 g3
    by_cases hg:X=.gone
    ·subst hg
     intro k hk
     exact hk.1 hi
    ·have:(fun k=>(bs++Xs)[i]? ≠ some .gone∧fp₂ (ρ i) k)=fp₂ i:=by
      funext k
      rw[hρ i h1,hi]
      simp[hg]
     rw[this]
     exact g4
   ·intro k hk
    exact hk.1 hi
   ·have g3:=rL.holds _ _ h4
    have hi2:i<bs.length+Xs.length:=by
     have:=(zRI.1 hi).1
     simpa using this
    have e:β₂ (ρ i)=β' i:=hβ i hi2
    rw[e]at g3
    have:(fun k=>(bs++Xs)[i]? ≠ some .gone∧fp₂ (ρ i) k)=fp₂ (ρ i):=by
     funext k
     rw[hi]
     simp
    rw[this]
    rcases g3 with⟨k1,k2,k3,k4⟩|⟨k1,k2,k3,k4,k5,-,k7⟩
    ·refine .inl ⟨k1,k2,?_,k4⟩
     cases c with
     | nil=>rfl
     | cons x r=>simp[qp]at k3
    ·refine .inr ⟨k1,k2,k3,?_,?_,(by simp),k7⟩
     ·rw[MX,zR7]at k4
      exact k4
     ·rw[e1 c h5]at k5
      exact k5
  ·obtain⟨X',hX'⟩:∃ X',bs'[ρ i]? = some X':=by
    have:=(ng hi (fun e=>hk.1 (e ▸ hi))).1
    cases hh:bs'[ρ i]? with
    | none=>exact absurd hh this
    | some x=>exact⟨x,rfl⟩
   exact rL.lt _ _ hX' k hk.2
  ·have hgi:X≠.gone:=fun e=>hk.1 (e ▸ hi)
   have hgj:Y≠.gone:=fun e=>bJ.1 (e ▸ hj)
   rcases low hi with⟨h1,h2⟩|⟨h1,rfl|⟨c,e,s,n,mm,rfl,h3,h4,h5⟩⟩
   ·rcases low hj with⟨l1,l2⟩|⟨l1,rfl|⟨c',e',s',n',mm',rfl,l3,l4,l5⟩⟩
    ·have a1:=hk.2
     have a2:=bJ.2
     rw[hρ i h1]at a1
     rw[hρ j l1]at a2
     exact rL.sep i j X Y (old h2) (old l2) Gj hm k a1 a2
    ·exact hgj rfl
    ·have a1:=hk.2
     rw[hρ i h1]at a1
     have x7:X.dg=true:=hm.resolve_right (by simp[av.dg])
     exact rL.sep i (ρ j) X _ (old h2) l4 (by omega) (.inl x7) k a1 bJ.2
   ·exact hgi rfl
   ·rcases low hj with⟨l1,l2⟩|⟨l1,rfl|⟨c',e',s',n',mm',rfl,l3,l4,l5⟩⟩
    ·have a2:=bJ.2
     rw[hρ j l1]at a2
     have x7:Y.dg=true:=hm.resolve_left (by simp[av.dg])
     exact rL.sep (ρ i) j _ Y h4 (old l2) (by omega) (.inr x7) k hk.2 a2
    ·exact hgj rfl
    ·rcases hm with hm|hm <;> simp[av.dg]at hm
 ·rcases low hi with⟨h1,h2⟩|⟨h1,rfl|⟨c,e,s,n,mm,rfl,h3,h4,h5⟩⟩
  ·have a1:=hk.2
   rw[hρ i h1]at a1
   exact j0 i X (old h2) hm k a1
  ·simp[av.dg]at hm
  ·simp[av.dg]at hm
 ·rcases low hi with⟨h1,h2⟩|⟨h1,rfl|⟨c,e,s,n,mm,rfl,h3,h4,h5⟩⟩
  ·have a1:=hk.2
   rw[hρ i h1]at a1
   exact jx i X (old h2) k a1
  ·exact absurd hi hk.1
  ·exact jx _ _ h4 k hk.2
def LI:av→av
 | .own c e s n _=>.own c e s n false
 | r=>r
def hZ (lo:Nat)(b:List av):List av:=b.take lo++(b.drop lo).map LI
theorem uL (lo:Nat)(b:List av):(hZ lo b).length=b.length:=by
 simp[hZ];omega
theorem uK {lo:Nat}{b:List av}{k:Nat}(h:k<lo)(hl:lo≤b.length):(hZ lo b)[k]? = b[k]? := by
 unfold hZ
 rw[zRL (by simp;omega),List.getElem?_take]
 simp[h]
theorem iy {lo:Nat}{b:List av}{k:Nat}(h:lo≤k){r:av}(hr:b[k]? = some r):(hZ lo b)[k]? = some (LI r):=by
 have hk:=(zRI.1 hr).1
 unfold hZ
 rw[zR2 (by simp;omega),List.getElem?_map,List.getElem?_drop,zR5,Nat.min_eq_left (by omega),show lo+(k - lo)=k by omega,hr]
 rfl
theorem gI {lo:Nat}{b:List av}(hl:lo≤b.length):Mo b (hZ lo b):=⟨uL lo b,fun i r hi=>by
 have dF:=(zRI.1 hi).1
 rw[uL]at dF
 have hb:=zR6 dF
 rcases zR1 i lo with h|h
 ·rw[uK h hl]at hi
  exact .inl hi
 ·rw[iy h hb]at hi
  rw[hb]
  have hi:=(Option.some.inj hi).symm
  cases hx:b[i] with
  | own c e s n m=>rw[hx]at hi;exact .inr ⟨c,e,s,n,m,rfl,hi⟩
  | cells c T m=>rw[hx]at hi;exact .inl (by rw[hi];rfl)
  | ext R=>rw[hx]at hi;exact .inl (by rw[hi];rfl)
  | gone=>rw[hx]at hi;exact .inl (by rw[hi];rfl)⟩
theorem Kp.hZ {bs b:List av}(h:Kp bs b):Kp bs (hZ bs.length b):=⟨by rw[uL];exact h.1,fun k hk=>by rw[uK hk h.1];exact h.2 k hk⟩
theorem SC.th (h:SC V f args bs (fun r b=>bs.length≤b.length∧R r (hZ bs.length b))):SC V f args bs R :=
 SC.dim (h.mono fun r b ⟨h1,h2⟩=>⟨_,gI h1,h2⟩)
theorem aU (b l:List av)(k:Nat):(b++l)[b.length+k]? = l[k]? := by
 rw[zR2 (by omega),zRM]
theorem aI (b l:List av):(b++l)[b.length]? = l[0]? := aU b l 0
theorem Ee (b l:List av)(k:Nat)(X:av):(b++l).set (b.length+k) X=b++l.set k X:=by
 rw[List.set_append_right _ _ (by omega),zRM]
theorem n9 (b l:List av)(X:av):(b++l).set b.length X=b++l.set 0 X:=Ee b l 0 X
def eb:=zRH (zRH (@aU) (zRH (@aI) (@Ee))) (zRH (zRH (@n9) (@zRY.{0})) (zRH (zRH (@zRT.{0}) (@zR4.{0})) (zRH (zRH (@zRP.{0}) (@zRQ.{0})) (zRH (zRH (@zRU.{0}) (@Nat.zero_add)) (zRH (zRH (@List.set_cons_succ.{0}) (@List.set_cons_zero.{0})) (@Nat.add_assoc))))))
theorem gA {P Q H : Prop} (hs : H) (h : Q) (e : H → P = Q := by intro hs; simp only [cz, ↓Xn, ↓Xo, ↓Xg, ↓Xd, ↓Xe, ↓Xf, Tryz.VΓ, Tryz.Γs, Xp, Xi, Nat.reduceAdd, Nat.reduceSub, Nat.reduceLT, Nat.reduceLeDiff, reduceIte, reduceCtorEq, Nat.reduceEqDiff, implies_true, forall_const, cw, eb, beq_self_eq_true, bne_self_eq_false, Int.reduceBEq, Int.reduceBNe, Int.reduceLT, Int.reduceLE, hs] <;> rfl) : P := (e hs).symm ▸ h
theorem dV {P Q : Prop} (h : Q) (e : P = Q := by simp only [cz, ↓Xn, ↓Xo, ↓Xg, ↓Xd, ↓Xe, ↓Xf, Tryz.VΓ, Tryz.Γs, Xp, Xi, Nat.reduceAdd, Nat.reduceSub, Nat.reduceLT, Nat.reduceLeDiff, reduceIte, reduceCtorEq, Nat.reduceEqDiff, implies_true, forall_const, cw, eb, beq_self_eq_true, bne_self_eq_false, Int.reduceBEq, Int.reduceBNe, Int.reduceLT, Int.reduceLE] <;> rfl) : P := e.symm ▸ h
theorem gL {P Q H : Prop} (hs : H) (h : Q) (e : H → P = Q := by intro hs; simp only [cz, ↓Xn, ↓Xo, ↓Xg, ↓Xd, ↓Xe, ↓Xf, Tryz.VΓ, Tryz.Γs, Xp, Xi, Nat.reduceAdd, Nat.reduceSub, Nat.reduceLT, Nat.reduceLeDiff, reduceIte, reduceCtorEq, Nat.reduceEqDiff, implies_true, forall_const, cw, eb, beq_self_eq_true, bne_self_eq_false, Int.reduceBEq, Int.reduceBNe, Int.reduceLT, Int.reduceLE, _root_.List.length_cons, _root_.List.length_nil, Nat.reduceAdd, _root_.Int.cast_ofNat_Int, decide_true, decide_false, _root_.Bool.true_eq_false, _root_.Bool.false_eq_true, Int.reduceToNat, _root_.Nat.zero_mul, hs] <;> rfl) : P := (e hs).symm ▸ h
theorem gL0 {P Q : Prop} (h : Q) (e : P = Q := by simp only [cz, ↓Xn, ↓Xo, ↓Xg, ↓Xd, ↓Xe, ↓Xf, Tryz.VΓ, Tryz.Γs, Xp, Xi, Nat.reduceAdd, Nat.reduceSub, Nat.reduceLT, Nat.reduceLeDiff, reduceIte, reduceCtorEq, Nat.reduceEqDiff, implies_true, forall_const, cw, eb, beq_self_eq_true, bne_self_eq_false, Int.reduceBEq, Int.reduceBNe, Int.reduceLT, Int.reduceLE, _root_.List.length_cons, _root_.List.length_nil, Nat.reduceAdd, _root_.Int.cast_ofNat_Int, decide_true, decide_false, _root_.Bool.true_eq_false, _root_.Bool.false_eq_true, Int.reduceToNat, _root_.Nat.zero_mul] <;> rfl) : P := e.symm ▸ h
theorem outs1 {n:Nat}{b:List av}(hn:n=b.length)(X:av):G6 [(n,0,0)] (b++[X]) b:=by
 subst hn
 refine DC (fun j hj=>?_) (by simp)
 have h1:=hj _ List.mem_cons_self
 simp only at h1
 rcases zR1 j b.length with h|h
 ·rw[zRL h]
 ·rw[zR3 (by simp;omega),zR3 h]
theorem outs2 {n m:Nat}{b:List av}(hn:n=b.length)(hm:m=b.length+1)(X Y:av):G6 [(n,0,0),(m,0,0)] (b++[X,Y]) b:=by
 subst hn hm
 refine DC (fun j hj=>?_) (by simp)
 have h1:=hj (b.length,0,0) (by simp)
 have h2:=hj (b.length+1,0,0) (by simp)
 simp only at h1 h2
 rcases zR1 j b.length with h|h
 ·rw[zRL h]
 ·rw[zR3 (by simp;omega),zR3 h]
theorem aQ {l1:List av}{n:Nat}(hn:l1.length=n)(l:List av)(k:Nat):(l1++l)[n+k]? = l[k]? := by
 subst hn;exact aU _ _ _
theorem aO {l1:List av}{i:Nat}(hi:i<l1.length)(l:List av)(X:av):(l1++l).set i X=l1.set i X++l:=List.set_append_left _ _ hi
theorem cA {l1:List av}{i:Nat}(hi:i<l1.length)(X:av)(l:List av):(l1.set i X++l)[i]? = some X:=by
 rw[zRL (by simpa using hi),zRN hi]
theorem aw {l1:List av}{i j:Nat}{r:av}(h:l1[j]? = some r)(hn:i≠j)(X:av):(l1.set i X)[j]? = some r:=by
 rw[zRO hn];exact h
theorem vF {n:Nat}{b:List av}(l:List av)(hn:n=b.length+l.length)(X:av):G6 [(n,0,0)] (b++(l++[X])) (b++l):=by
 rw[← zRY]
 exact outs1 (by simpa using hn) X
theorem ke {n m:Nat}{b:List av}(l:List av)(hn:n=b.length+l.length)(hm:m=b.length+l.length+1)(X Y:av):G6 [(n,0,0),(m,0,0)] (b++(l++[X,Y])) (b++l):=by
 rw[← zRY]
 exact outs2 (by simpa using hn) (by simpa using hm) X Y
theorem ly {V:Cx}{E:Fin}{n f:Nat}{ops:Array Oper}{k:List Item}{σ:St}{t:OT}(J:St→Prop)(da:OT.Ba ops [] t=true)(h:∀ (E':Fin)(k':List Item),eD V n E' f (.j5 ops [] t::.cut J::k') σ)(h2:∀ σ',J σ'→eD V n E f k σ'):HX V n E f ops k σ (.all t) :=
 tS J da (h E k) h2
end Vc
namespace Go.Proofs.YtnmlimehgifadaaGreatDoor
open Go Vc Go.RowKit Wf
theorem lE (s:Bytes):PC Tryz.V 140 [.str s] (.agg (tv ⟨5,s,.aj,.aj⟩)):=by
 refine aZ 3000 Tryz.func140 rfl Tryz.ntmps140 Tryz.results140 Tryz.call140 (by simp) (by simp[flat,flat.ai]) (by simp[flat,flat.ai,tv]) ?_
 unfold tv
 exact bC True.intro
def pW (m:Nat)(x:Tv):Prop:=Vc.within m x.xk=true∧Vc.within m x.xi=true∧one x.xk=true∧one x.xi=true
mutual
theorem rb {m n:Nat}(h:m≤n):∀ {x:SV},Vc.within m x=true→Vc.within n x=true:=fun {x} hx=>by
 cases x <;> simp only[Vc.within,decide_eq_true_eq]at hx ⊢
 ·omega
 ·omega
 ·omega
 ·exact lh h hx
 ·exact lh h hx
 ·exact lh h hx
 ·exact lh h hx
theorem lh {m n:Nat}(h:m≤n):∀ {l:List SV},within.ax m l=true→within.ax n l=true:=fun {l} hx=>by
 cases l with
 | nil=>rfl
 | cons x r =>
   simp only[within.ax,Bool.and_eq_true]at hx ⊢
   exact⟨rb h hx.1,lh h hx.2⟩
end
theorem pW.up {m n:Nat}(h:m≤n){x:Tv}(hx:pW m x):pW n x:=⟨rb h hx.1,rb h hx.2.1,hx.2.2⟩
theorem pW.w {m:Nat}{x:Tv}(hx:pW m x):within.ax m (tv x)=true:=by
 simp[within,within.ax,tv,hx.1,hx.2.1]
theorem p8 {m:Nat}:∀ (a b:List SV),within.ax m (a++b)=(within.ax m a&&within.ax m b)
 | [],b=>by simp[within.ax]
 | x::a,b=>by simp[within.ax,p8 a b,Bool.and_assoc]
theorem pW.all {m:Nat}{L:List Tv}(h:∀ x∈L,pW m x):within.ax m (L.flatMap tv)=true:=by
 induction L with
 | nil=>rfl
 | cons x r ih =>
   rw[zR8,p8,(h x (by simp)).w,ih (fun y hy=>h y (by simp[hy]))]
   rfl
theorem Rs.one {b:List av}{x:SV}{L:List Bytes}(h:Rs b x L):Vc.one x=true:=by
 rcases h with⟨rfl,-⟩|⟨j,rfl,h2⟩ <;> rfl
theorem Ri.one {b:List av}{x:SV}{L:List Tv}(h:Ri b x L):Vc.one x=true:=by
 rcases h with⟨rfl,-⟩|⟨j,rfl,h2⟩ <;> rfl
theorem Tr.nK {b:List av}:∀ {d:Nat}{v:Tv},Tr b d v→pW b.length v
 | 0,_,h=>h.elim
 | _+1,_,⟨_,_,_,_,h3,h4,_⟩=>⟨h3.within,h4.within,h3.one,h4.one⟩
theorem MC (m:Nat)(L:List Bytes):within.ax m (L.map SV.str)=true:=by
 induction L with
 | nil=>rfl
 | cons x r ih=>simp[within.ax,within,ih]
def Ob (b:List av)(d n:Nat)(v:Tv):Prop:=v.k=7∧v.t=[]∧∃ (K:List Bytes) (L:List Tv),Rs b v.xk K∧Ri b v.xi L∧K.length=L.length∧K.length≤n∧(∀ s∈K,s.length≤20000)∧∀ x∈L,Tr b d x
theorem Ob.ro {a b:List av}(k:Ro a b){d n:Nat}{v:Tv}:Ob a d n v→Ob b d n v
 | ⟨h1,h2,K,L,h3,h4,h5,h6,h7,h8⟩=>⟨h1,h2,K,L,h3.ro k,h4.ro k,h5,h6,h7,fun x hx=>(h8 x hx).ro k⟩
theorem Ob.tr {b:List av}{d n:Nat}{v:Tv}(hn:n≤16):Ob b d n v→Tr b (d+1) v
 | ⟨h1,h2,K,L,h3,h4,h5,h6,h7,h8⟩=>⟨by rw[h2];simp,.inr (.inr (.inr h1)),K,L,h3,h4,by omega,by omega,h7,fun _=>h5,fun h=>absurd h1 h,h8⟩
theorem Ob.zero (b:List av)(d n:Nat):Ob b d n ⟨7,[],.aj,.aj⟩:=⟨rfl,rfl,[],[],.inl ⟨rfl,rfl⟩,.inl ⟨rfl,rfl⟩,rfl,by simp,by simp,by simp⟩
theorem Ob.up {b:List av}{d n m:Nat}{v:Tv}(hm:n≤m):Ob b d n v→Ob b d m v
 | ⟨h1,h2,K,L,h3,h4,h5,h6,h7,h8⟩=>⟨h1,h2,K,L,h3,h4,h5,by omega,h7,h8⟩
theorem Ob.within {b:List av}{d n:Nat}{v:Tv}:Ob b d n v→Vc.within b.length (.agg (tv v))=true
 | ⟨_,_,_,_,h3,h4,_⟩=>by simp[Vc.within,Vc.within.ax,tv,h3.within,h4.within]
def G4 (bs:List av)(v x:Tv)(K:List Bytes)(L:List Tv)(key:Bytes)(r:SV)(b:List av):Prop:=∃ (q1 q2:Nat) (m1 m2:Bool),Kp bs b∧bs.length≤q1∧bs.length≤q2∧b[q1]? = some (.own ((K++[key]).map SV.str) 9 1 (K++[key]).length m1)∧b[q2]? = some (.own ((L++[x]).flatMap tv) 139 4 (L++[x]).length m2)∧r=.agg (tv ⟨v.k,v.t,.o q1 (K++[key]).length,.o q2 (L++[x]).length⟩)
theorem G4.pick {bs:List av}{v x:Tv}{K:List Bytes}{L:List Tv}{key:Bytes}(hx:pW bs.length x)(hLw:∀ y∈L,pW bs.length y){r:SV}{b:List av}(h:G4 bs v x K L key r b) :
 ∃ (ρ:Nat→Nat) (Xs:List av) (r2:SV),Kp bs b∧(∀ k,k<bs.length→ρ k=k)∧(∀ q X,Xs[q]? = some X→Kept bs b ρ (bs.length+Xs.length) (bs.length+q) X)∧r=MY ρ r2∧within (bs.length+Xs.length) r2=true∧(r2=.agg (tv ⟨v.k,v.t,.o bs.length (K++[key]).length,.o (bs.length+1) (L++[x]).length⟩)∧bs++Xs=bs++[.own ((K++[key]).map SV.str) 9 1 (K++[key]).length false,.own ((L++[x]).flatMap tv) 139 4 (L++[x]).length false]):=by
 obtain⟨q1,q2,m1,m2,bc,h1,h2,h3,h4,rfl⟩:=h
 have hρ:∀ k,k<bs.length→(fun i=>if i=bs.length then q1 else if i=bs.length+1 then q2 else i) k=k:=fun k hk=>by
  show (if k=bs.length then q1 else if k=bs.length+1 then q2 else k)=k
  rw[if_neg (by omega),if_neg (by omega)]
 have w1:within.ax bs.length ((K++[key]).map SV.str)=true:=MC _ _
 have w2:within.ax bs.length ((L++[x]).flatMap tv)=true:=by
  rw[zRZ,p8,pW.all hLw]
  simpa[zR8] using hx.w
 refine⟨fun i=>if i=bs.length then q1 else if i=bs.length+1 then q2 else i,[.own ((K++[key]).map SV.str) 9 1 (K++[key]).length false,.own ((L++[x]).flatMap tv) 139 4 (L++[x]).length false],_,bc,hρ,?_,?_,?_,rfl,rfl⟩
 ·rintro q X hq
  match q,hq with
  | 0,hq =>
    cases hq
    refine .inr ⟨_,_,_,_,m1,rfl,?_,?_,MC _ _⟩
    ·simpa using h1
    ·rw[fL hρ _ w1];simpa using h3
  | 1,hq =>
    cases hq
    refine .inr ⟨_,_,_,_,m2,rfl,?_,?_,?_⟩
    ·simpa using h2
    ·rw[fL hρ _ w2];simpa using h4
    ·refine pW.all (fun y hy=>?_)
     rcases zR0.1 hy with hy|hy
     ·exact(hLw y hy).up (by simp)
     ·obtain rfl:=zRR.1 hy
      exact hx.up (by simp)
 ·simp[MY,qp,tv]
 ·simp[within,within.ax,tv]
theorem qk {bs:List av}{v x:Tv}{K:List Bytes}{L:List Tv}(hk:Rs bs v.xk K)(hi:Ri bs v.xi L)(hK:K.length≤1000)(hL:L.length≤1000)(key:Bytes)(hx:pW bs.length x)(hLw:∀ y∈L,pW bs.length y) :
 SC Tryz.V 137 [.agg (tv v),.str key,.agg (tv x)] bs (fun r b=>r=.agg (tv ⟨v.k,v.t,.o bs.length (K++[key]).length,.o (bs.length+1) (L++[x]).length⟩)∧b=bs++[.own ((K++[key]).map SV.str) 9 1 (K++[key]).length false,.own ((L++[x]).flatMap tv) 139 4 (L++[x]).length false]):=by
 obtain⟨k,t,xk,xi⟩:=v
 have iT:=hk.within
 have gx:=hi.within
 simp only at hk hi iT gx
 obtain⟨F9,LZ,hx3,KV⟩:=hx
 have qG:(one x.xk&&one x.xi)=true:=by rw[hx3,KV];rfl
 refine SC.pick (SC.mono (R:=G4 bs ⟨k,t,xk,xi⟩ x K L key) ?_ ?_)
 rotate_left
 ·exact fun r b h=>h.pick ⟨F9,LZ,hx3,KV⟩ hLw
 refine bo 3000 Tryz.func137 rfl Tryz.ntmps137 Tryz.results137 Tryz.call137 (by simp) (ah bs.length _ (by simp[within,within.ax,tv,iT,gx,F9,LZ])) ?_
 have rY:(K.map SV.str).length=K.length:=zR7 ..
 have Mc:=oo L
 unfold tv
 rcases hk with⟨rfl,rfl⟩|⟨jk,rfl,hk⟩ <;> rcases hi with⟨rfl,rfl⟩|⟨ji,rfl,hi⟩
 ·refine gA qG ?_
  refine⟨by omega,⟨by unfold maxLen;omega,by omega⟩,by omega,⟨by unfold maxLen;omega,by omega⟩,?_,?_⟩
  ·(refine bO (fun n=>n - bs.length) ?_;simp only[zRS,zRV,cW,eS,zRM,zRW,if_true];exact aq (by kernel_rfl))
  ·refine⟨bs.length+4,bs.length+6,true,true,(Kp.refl bs).app _,by omega,by omega,?_,?_,by simp[tv]⟩
   ·rw[aU];simp
   ·rw[aU];simp[tv]
 ·have hj:ji - bs.length=0:=by have:=(zRI.1 hi).1;omega
  refine gA (zRH qG (ad hi)) ?_
  refine⟨by omega,⟨by unfold maxLen;omega,by omega⟩,by omega,⟨by unfold maxLen;omega,by omega⟩,?_,?_⟩
  ·(refine bO (fun n=>n - bs.length) ?_;simp only[zRS,zRV,cW,eS,zRM,zRW,hj];exact aq (by kernel_rfl))
  ·refine⟨bs.length+4,bs.length+6,true,true,(Kp.refl bs).app _,by omega,by omega,?_,?_,by simp[tv]⟩
   ·rw[aU];simp
   ·rw[aU];simp[tv]
 ·have gm:jk<bs.length:=(zRI.1 hk).1
  have n0:∀ q,(bs.length+q=jk)=False:=fun q=>eq_false (by omega)
  have n2:(bs.length=jk)=False:=eq_false (by omega)
  refine gA (zRH qG (ad hk)) ?_
  refine⟨by omega,⟨by unfold maxLen;omega,by omega⟩,by omega,⟨by unfold maxLen;omega,by omega⟩,?_,?_⟩
  ·refine bO (fun n=>if n=jk then 20 else n - bs.length) ?_
   simp only[zRS,zRV,cW,eS,zRM,zRW,n0,n2,eq_self,if_true,if_false]
   exact aq (by kernel_rfl)
  ·refine⟨bs.length+4,bs.length+6,true,true,(Kp.refl bs).app _,by omega,by omega,?_,?_,by simp[tv]⟩
   ·rw[aU];simp
   ·rw[aU];simp[tv]
 ·have hj:ji<bs.length:=(zRI.1 hi).1
  have gm:jk<bs.length:=(zRI.1 hk).1
  have bK:(ji=jk)=False:=eq_false (by rintro rfl;rw[hi]at hk;simp at hk)
  have n0:∀ q,(bs.length+q=jk)=False:=fun q=>eq_false (by omega)
  have n1:∀ q,(bs.length+q=ji)=False:=fun q=>eq_false (by omega)
  have n2:(bs.length=jk)=False:=eq_false (by omega)
  have n3:(bs.length=ji)=False:=eq_false (by omega)
  refine gA (zRH qG (zRH (ad hi) (ad hk))) ?_
  refine⟨by omega,⟨by unfold maxLen;omega,by omega⟩,by omega,⟨by unfold maxLen;omega,by omega⟩,?_,?_⟩
  ·refine bO (fun n=>if n=jk then 20 else if n=ji then 21 else n - bs.length) ?_
   simp only[zRS,zRV,cW,eS,zRM,zRW,n0,n1,n2,n3,bK,eq_self,if_true,if_false]
   exact aq (by kernel_rfl)
  ·refine⟨bs.length+4,bs.length+6,true,true,(Kp.refl bs).app _,by omega,by omega,?_,?_,by simp[tv]⟩
   ·rw[aU];simp
   ·rw[aU];simp[tv]
theorem Tr.one {b:List av}:∀ {d:Nat}{v:Tv},Tr b d v→pW b.length v:=Tr.nK
theorem xU {bs:List av}{v x:Tv}{d n:Nat}(hv:Ob bs d n v)(hn:n≤900)(key:Bytes)(hk:key.length≤20000)(hx:Tr bs d x):∃ v' A B,Ob (bs++[A,B]) d (n+1) v'∧SC Tryz.V 137 [.agg (tv v),.str key,.agg (tv x)] bs (fun r b=>r=.agg (tv v')∧b=bs++[A,B]):=by
 obtain⟨h1,h2,K,L,h3,h4,h5,h6,h7,h8⟩:=hv
 have hr:Ro bs (bs++[.own ((K++[key]).map SV.str) 9 1 (K++[key]).length false,.own ((L++[x]).flatMap tv) 139 4 (L++[x]).length false]):=(Ro.refl bs).app _
 refine⟨_,_,_,?_,qk h3 h4 (by omega) (by omega) key hx.nK (fun y hy=>(h8 y hy).nK)⟩
 refine⟨h1,h2,K++[key],L++[x],.inr ⟨_,rfl,aI _ _⟩,.inr ⟨_,rfl,aU _ _ 1⟩,by simp[h5],by simp;omega,fun s hs=>?_,fun y hy=>?_⟩
 ·rcases zR0.1 hs with hs|hs
  ·exact h7 s hs
  ·rw[zRR.1 hs];exact hk
 ·rcases zR0.1 hy with hy|hy
  ·exact(h8 y hy).ro hr
  ·rw[zRR.1 hy];exact hx.ro hr
theorem wb {bs b:List av}{r:SV}(hk:Kp bs b)(hr:within bs.length r=true)(n:Nat){P:SV→List av→Prop}(hP:P r (bs++List.replicate n .gone)) :
 ∃ (ρ:Nat→Nat) (Xs:List av) (r2:SV),Kp bs b∧(∀ k,k<bs.length→ρ k=k)∧(∀ q X,Xs[q]? = some X→Kept bs b ρ (bs.length+Xs.length) (bs.length+q) X)∧r=MY ρ r2∧within (bs.length+Xs.length) r2=true∧P r2 (bs++Xs) :=
 ⟨id,List.replicate n .gone,r,hk,fun _ _=>rfl,fun q X h=>.inl (by
  have:=(zRI.1 h)
  obtain⟨h1,h2⟩:=this
  rw[List.getElem_replicate]at h2
  exact h2.symm),(yJ (fun _ _=>rfl) _ hr).symm,rb (by omega) hr,hP⟩
theorem xV {bs:List av}{v:Tv}{d n:Nat}(hv:Ob bs (d+1) n v)(hn:n≤900)(key:Bytes)(hk:key.length≤20000)(s:Bytes)(hs:s.length≤20000):∃ v' A B,Ob (bs++[A,B]) (d+1) (n+1) v'∧SC Tryz.V 136 [.agg (tv v),.str key,.str s] bs (fun r b=>r=.agg (tv v')∧b=bs++[A,B]):=by
 have hw:=hv.within
 have hw':=hw
 have lH:(one v.xk&&one v.xi)=true:=by
  obtain⟨_,_,_,_,h3,h4,_⟩:=hv
  rw[h3.one,h4.one];rfl
 simp only[within,within.ax,tv,Bool.and_true,Bool.true_and,Bool.and_eq_true]at hw'
 by_cases oe:s=[]
 ·refine⟨v,.gone,.gone,(hv.ro ((Ro.refl bs).app _)).up (by omega),SC.pick (SC.mono (R:=fun r b=>Kp bs b∧r=.agg (tv v)) ?_ ?_)⟩
  ·have hb:(s==[])=true:=by simp[oe]
   refine bo 3000 Tryz.func136 rfl Tryz.ntmps136 Tryz.results136 Tryz.call136 (by simp) (ah bs.length _ (by simp[within,within.ax,tv,hw'])) ?_
   unfold tv
   refine gA (zRH hb lH) ?_
   exact(Kp.refl bs).app _
  ·rintro r b ⟨h1,rfl⟩
   exact wb (P:=fun r b=>r=.agg (tv v)∧b=bs++[.gone,.gone]) h1 hw 2 ⟨rfl,rfl⟩
 ·obtain⟨h1,h2,K,L,h3,h4,h5,h6,h7,h8⟩:=hv
  have ht:=Tr.text bs d s hs
  have hr:Ro bs (bs++[.own ((K++[key]).map SV.str) 9 1 (K++[key]).length false,.own ((L++[(⟨5,s,.aj,.aj⟩:Tv)]).flatMap tv) 139 4 (L++[(⟨5,s,.aj,.aj⟩:Tv)]).length false]):=(Ro.refl bs).app _
  refine⟨⟨v.k,v.t,.o bs.length (K++[key]).length,.o (bs.length+1) (L++[(⟨5,s,.aj,.aj⟩:Tv)]).length⟩,.own ((K++[key]).map SV.str) 9 1 (K++[key]).length false,.own ((L++[(⟨5,s,.aj,.aj⟩:Tv)]).flatMap tv) 139 4 (L++[(⟨5,s,.aj,.aj⟩:Tv)]).length false,⟨h1,h2,K++[key],L++[(⟨5,s,.aj,.aj⟩:Tv)],.inr ⟨_,rfl,aI _ _⟩,.inr ⟨_,rfl,aU _ _ 1⟩,by simp[h5],by simp;omega,fun s hs=>?_,fun y hy=>?_⟩,SC.pick (SC.mono (R:=G4 bs v (⟨5,s,.aj,.aj⟩:Tv) K L key) ?_ (fun r b h=>h.pick ht.nK (fun y hy=>(h8 y hy).nK)))⟩
  ·rcases zR0.1 hs with hs|hs
   ·exact h7 s hs
   ·rw[zRR.1 hs];exact hk
  ·rcases zR0.1 hy with hy|hy
   ·exact(h8 y hy).ro hr
   ·rw[zRR.1 hy];exact Tr.text _ d s hs
  have hb:(s==[])=false:=by simp[oe]
  have p1:=lE s
  have s1:=fun A B=>qk (bs:=bs++[A,B]) (h3.ro ((Ro.refl bs).app _)) (h4.ro ((Ro.refl bs).app _)) (by omega) (by omega) key (x:=(⟨5,s,.aj,.aj⟩:Tv)) (ht.nK.up (by simp)) (fun y hy=>(h8 y hy).nK.up (by simp))
  refine bo 3000 Tryz.func136 rfl Tryz.ntmps136 Tryz.results136 Tryz.call136 (by simp) (ah bs.length _ (by simp[within,within.ax,tv,hw'])) ?_
  unfold tv at p1 s1 ⊢
  refine gA (zRH hb lH) ?_
  (refine aY (p1) ?_;refine dV ?_)
  refine bG [(bs.length+2,0,0),(bs.length+3,0,0)] (s1 _ _) ?_ ?_
  ·exact outs2 (by simp) (by simp) _ _
  refine dV ?_
  refine⟨?_,bs.length+2,bs.length+3,false,false,(Kp.refl bs).app _,by omega,by omega,?_,?_,by simp[tv]⟩
  ·(refine bO (fun n=>n - bs.length) ?_;simp only[zRS,zRV,cW,eS,zRM,zRW,if_true];exact aq (by kernel_rfl))
  ·rw[aU];simp
  ·rw[aU];simp;rfl
theorem rr {bs:List av}{v x:Tv}{d n:Nat}(hv:Ob bs d n v)(hn:n≤900)(key:Bytes)(hk:key.length≤20000)(hx:Tr bs d x):∃ v' A B,Ob (bs++[A,B]) d (n+1) v'∧SC Tryz.V 189 [.agg (tv v),.str key,.agg (tv x)] bs (fun r b=>r=.agg (tv v')∧b=bs++[A,B]):=by
 have hw:=hv.within
 simp only[within,within.ax,tv,Bool.and_true,Bool.true_and,Bool.and_eq_true]at hw
 obtain⟨h1,h2,K,L,h3,h4,h5,h6,h7,h8⟩:=hv
 have hr:Ro bs (bs++[.own ((K++[key]).map SV.str) 9 1 (K++[key]).length false,.own ((L++[x]).flatMap tv) 139 4 (L++[x]).length false]):=(Ro.refl bs).app _
 have hxi:=hx.nK
 refine⟨⟨v.k,v.t,.o bs.length (K++[key]).length,.o (bs.length+1) (L++[x]).length⟩,.own ((K++[key]).map SV.str) 9 1 (K++[key]).length false,.own ((L++[x]).flatMap tv) 139 4 (L++[x]).length false,⟨h1,h2,K++[key],L++[x],.inr ⟨_,rfl,aI _ _⟩,.inr ⟨_,rfl,aU _ _ 1⟩,by simp[h5],by simp;omega,fun s hs=>?_,fun y hy=>?_⟩,SC.pick (SC.mono (R:=G4 bs v x K L key) ?_ (fun r b h=>h.pick hxi (fun y hy=>(h8 y hy).nK)))⟩
 ·rcases zR0.1 hs with hs|hs
  ·exact h7 s hs
  ·rw[zRR.1 hs];exact hk
 ·rcases zR0.1 hy with hy|hy
  ·exact(h8 y hy).ro hr
  ·rw[zRR.1 hy];exact hx.ro hr
 have s1:=fun X=>qk (bs:=bs++X) (h3.ro ((Ro.refl bs).app _)) (h4.ro ((Ro.refl bs).app _)) (by omega) (by omega) key (hxi.up (by simp)) (fun y hy=>(h8 y hy).nK.up (by simp))
 obtain⟨x1,x2,x3,x4⟩:=hxi
 refine bo 3000 Tryz.func189 rfl Tryz.ntmps189 Tryz.results189 Tryz.call189 (by simp) (ah bs.length _ (by simp[within,within.ax,tv,hw,x1,x2])) ?_
 unfold tv at s1 ⊢
 refine dV ?_
 refine ae (s1 _) ?_
 rintro r b ⟨rfl,rfl⟩
 refine dV ?_
 refine⟨bs.length+3,bs.length+4,false,false,(Kp.refl bs).app _,by omega,by omega,?_,?_,by simp[tv]⟩
 ·rw[aU];simp
 ·rw[aU];simp;rfl
theorem oz {bs:List av}{v:Tv}(hv:pW bs.length v)(key:Bytes):SC Tryz.V 139 [.agg (tv v),.str key,.aj] bs (fun r b=>r=.agg (tv v)∧b=bs):=by
 obtain⟨h1,h2,h3,h4⟩:=hv
 have lH:(one v.xk&&one v.xi)=true:=by rw[h3,h4];rfl
 refine SC.pick (SC.mono (R:=fun r b=>Kp bs b∧r=.agg (tv v)) ?_ ?_)
 ·refine bo 3000 Tryz.func139 rfl Tryz.ntmps139 Tryz.results139 Tryz.call139 (by simp) (ah bs.length _ (by simp[within,within.ax,tv,h1,h2])) ?_
  unfold tv
  refine gA lH ?_
  exact(Kp.refl bs).app _
 ·rintro r b ⟨hk,rfl⟩
  exact wb (P:=fun r b=>r=.agg (tv v)∧b=bs) hk (by simp[within,within.ax,tv,h1,h2]) 0 ⟨rfl,by simp⟩
def txt (s:Bytes):Tv:=⟨5,s,.aj,.aj⟩
def ArrR (bs:List av)(L:List Bytes)(r:SV)(b:List av):Prop:=∃ y,Kp bs b∧r=.agg (tv ⟨6,[],.aj,y⟩)∧((y=.aj∧L=[])∨∃ q m,0<L.length∧y=.o q L.length∧bs.length≤q∧b[q]? = some (.own ((L.map txt).flatMap tv) 139 4 L.length m))
theorem Mv {L:List Bytes}{k:Nat}(h:k<L.length):((L.take (k+1)).map txt).flatMap tv=((L.take k).map txt).flatMap tv++[.int .i64 5,.str L[k],.aj,.aj]:=by
 rw[List.take_succ_eq_append_getElem h,List.map_append,zRZ]
 rfl
theorem Je {bs:List av}{x:SV}{L:List Bytes}(hx:Rs bs x L)(hL:L.length≤1000):SC Tryz.V 138 [x] bs (ArrR bs L):=by
 have zD:=hx.within
 have p1:=lE
 refine bo 3000 Tryz.func138 rfl Tryz.ntmps138 Tryz.results138 Tryz.call138 (by simp) (ah bs.length _ (by simp[within,within.ax,zD])) ?_
 unfold tv at p1
 rcases hx with⟨rfl,rfl⟩|⟨j,rfl,hj⟩
 ·refine dV ?_
  refine az (fun σ=>lk 8 σ.t=some (.int .i64 0)∧lk 9 σ.t=some (.int .i64 0)∧lk 2 σ.t=some (.p bs.length 0)∧lk 3 σ.t=some (.p (bs.length+1) 0)∧σ.b=bs++[.cells [.int .i64 0,.str [],.aj,.aj] 139 true,.cells [.int .i64 6,.str [],.aj,.aj] 139 true]) (fun _=>1) ⟨rfl,rfl,rfl,rfl,rfl⟩ ?_
  rintro⟨t,b⟩ ⟨h8,h9,h2,h3,hb⟩
  simp only at h8 h9 h2 h3 hb
  subst hb
  refine gA (zRH h8 (zRH h9 (zRH h2 h3))) ?_
  exact⟨.aj,(Kp.refl bs).app _,rfl,.inl ⟨rfl,rfl⟩⟩
 ·have gw:=(zRI.1 hj).1
  refine dV ?_
  refine az (fun σ=>∃ (k:Nat) (y:SV),k≤L.length∧lk 7 σ.t=some (.o j L.length)∧lk 8 σ.t=some (.int .i64 L.length)∧lk 9 σ.t=some (.int .i64 k)∧lk 2 σ.t=some (.p bs.length 0)∧lk 3 σ.t=some (.p (bs.length+1) 0)∧Kp bs σ.b∧σ.b[bs.length]? = some (.cells [.int .i64 0,.str [],.aj,.aj] 139 true)∧σ.b[bs.length+1]? = some (.cells [.int .i64 6,.str [],.aj,y] 139 true) ∧
   ((y=.aj∧k=0)∨∃ q,0<k∧y=.o q k∧bs.length+1<q∧σ.b[q]? = some (.own (((L.take k).map txt).flatMap tv) 139 4 k true))) (fun σ=>L.length - fX 9 σ) ⟨0,.aj,by omega,rfl,rfl,rfl,rfl,rfl,(Kp.refl bs).app _,aI _ _,aU _ _ 1,.inl ⟨rfl,rfl⟩⟩ ?_
  rintro⟨t,b⟩ ⟨k,y,hk,h7,h8,h9,h2,h3,bc,dL,eX,hy⟩
  simp only at h7 h8 h9 h2 h3 bc dL eX hy
  rw[ao h9]
  have sZ:=(zRI.1 eX).1
  have pN:=bc.at hj
  by_cases aA:k<L.length
  ·have bg:decide ((k:Int)<L.length)=true:=decide_eq_true (by omega)
   have Gi:(L.map SV.str)[k * 1]? = some (.str L[k]):=by simp[aA]
   have eg:∀ (l:List av) X,(b++l).set (bs.length+1) X=b.set (bs.length+1) X++l:=fun l X=>aO sZ l X
   have xb:=Mv aA
   rcases hy with⟨rfl,rfl⟩|⟨q,l6,rfl,hq,cE⟩
   ·refine gA (zRH h7 (zRH h8 (zRH h9 (zRH h2 (zRH h3 (zRH pN (zRH eX (zRH (ad eX) (zRH Gi (zRH bg eg)))))))))) ?_
    refine⟨by omega,by simp;omega,?_⟩
    (refine aY (p1 _) ?_;refine gA (zRH h7 (zRH h8 (zRH h9 (zRH h2 (zRH h3 (zRH (ad eX) eg)))))) ?_)
    have z1:(b.length=bs.length+1)=False:=eq_false (by omega)
    have z2:(b.length+1=bs.length+1)=False:=eq_false (by omega)
    refine⟨by omega,⟨by unfold maxLen;omega,by omega⟩,?_,by omega,⟨1,.o (b.length+1) 1,by omega,rfl,(bc.set (by omega) _).app _,ad (aw dL (by omega) _) _,cA sZ _ _,.inr ⟨b.length+1,by omega,rfl,by omega,?_⟩⟩,?_⟩
    ·refine bO (fun n=>if n=bs.length+1 then 0 else n - b.length+2) ?_
     simp only[zRS,zRV,cW,eS,zRM,zRW,z1,z2,eq_self,if_true,if_false]
     exact aq (by kernel_rfl)
    ·rw[aQ (by simp),xb];rfl
    ·rw[ao (show lk 9 _=some (.int .i64 ((1:Nat):Int)) from rfl)];omega
   ·have kf:=(zRI.1 cE).1
    have nA:∀ (l:List av) X,(b++l).set q X=b.set q X++l:=fun l X=>aO kf l X
    refine gA (zRH h7 (zRH h8 (zRH h9 (zRH h2 (zRH h3 (zRH pN (zRH eX (zRH (ad eX) (zRH (ad cE) (zRH Gi (zRH bg (zRH eg nA)))))))))))) ?_
    refine⟨by omega,by simp;omega,?_⟩
    have jS:q≠bs.length+1:=by omega
    have zI:∀ (l:List av) Y X,(b.set q Y++l).set (bs.length+1) X=(b.set q Y).set (bs.length+1) X++l:=fun l Y X=>aO (by simpa using sZ) l X
    have ju:=fun Y=>ad (aw eX jS Y)
    (refine aY (p1 _) ?_;refine gA (zRH h7 (zRH h8 (zRH h9 (zRH h2 (zRH h3 (zRH (ad eX) (zRH (ad cE) (zRH eg (zRH nA (zRH zI ju)))))))))) ?_)
    have z1:(b.length=bs.length+1)=False:=eq_false (by omega)
    have z2:(b.length+1=bs.length+1)=False:=eq_false (by omega)
    have z3:(q=bs.length+1)=False:=eq_false (by omega)
    have z4:(b.length=q)=False:=eq_false (by omega)
    have z5:(b.length+1=q)=False:=eq_false (by omega)
    refine⟨by omega,⟨by unfold maxLen;omega,by omega⟩,?_,by omega,⟨k+1,.o (b.length+1) (k+1),by omega,rfl,((bc.set (by omega) _).set (by omega) _).app _,ad (aw (aw dL (by omega) _) (by omega) _) _,cA (by simpa using sZ) _ _,.inr ⟨b.length+1,by omega,rfl,by omega,?_⟩⟩,?_⟩
    ·refine bO (fun n=>if n=bs.length+1 then 0 else if n=q then 1 else n - b.length+2) ?_
     simp only[zRS,zRV,cW,eS,zRM,zRW,z1,z2,z3,z4,z5,eq_self,if_true,if_false]
     exact aq (by kernel_rfl)
    ·rw[aQ (by simp),xb];rfl
    ·rw[ao (show lk 9 _=some (.int .i64 ((k+1:Nat):Int)) from rfl)];omega
  ·have bg:decide ((k:Int)<L.length)=false:=decide_eq_false (by omega)
   have hb0l:=(zRI.1 dL).1
   have oe:∀ X,(b.set bs.length X)[bs.length]? = some X:=fun X=>zRN hb0l
   have KU:one y=true:=by rcases hy with⟨rfl,-⟩|⟨q,-,rfl,-⟩ <;> rfl
   obtain rfl:k=L.length:=by omega
   refine gA (zRH h8 (zRH h9 (zRH h2 (zRH h3 (zRH bg (zRH dL (zRH eX (zRH oe KU)))))))) ?_
   refine⟨y,bc.set (zRX _) _,rfl,?_⟩
   rcases hy with⟨rfl,h0⟩|⟨q,l6,rfl,hq,cE⟩
   ·exact .inl ⟨rfl,List.length_eq_zero_iff.1 h0⟩
   ·rw[List.take_length]at cE
    exact .inr ⟨q,true,l6,rfl,by omega,aw cE (by omega) _⟩
theorem uV {bs:List av}{x:SV}{L:List Bytes}(hx:Rs bs x L)(hL:L.length≤16)(hs:∀ s∈L,s.length≤20000):∃ v' A,Tr (bs++[A]) 2 v'∧SC Tryz.V 138 [x] bs (fun r b=>r=.agg (tv v')∧b=bs++[A]):=by
 by_cases h0:L=[]
 ·subst h0
  refine⟨⟨6,[],.aj,.aj⟩,.gone,⟨by simp,.inr (.inr (.inl rfl)),[],[],.inl ⟨rfl,rfl⟩,.inl ⟨rfl,rfl⟩,by simp,by simp,by simp,by simp,by simp,by simp⟩,SC.pick ((Je hx (by omega)).mono ?_)⟩
  rintro r b ⟨y,hk,rfl,⟨rfl,-⟩|⟨q,m,h0,-⟩⟩
  ·exact wb (P:=fun r b=>r=.agg (tv ⟨6,[],.aj,.aj⟩)∧b=bs++[.gone]) hk (by simp[within,within.ax,tv]) 1 ⟨rfl,rfl⟩
  ·exact absurd h0 (by simp)
 ·refine⟨⟨6,[],.aj,.o bs.length L.length⟩,.own ((L.map txt).flatMap tv) 139 4 L.length false,⟨by simp,.inr (.inr (.inl rfl)),[],L.map txt,.inl ⟨rfl,rfl⟩,.inr ⟨bs.length,by simp,by rw[aI];simp⟩,by simp,by simpa using hL,by simp,by simp,by simp,fun y hy=>?_⟩,SC.pick ((Je hx (by omega)).mono ?_)⟩
  ·obtain⟨s,h1,rfl⟩:=List.mem_map.1 hy
   exact Tr.text _ 0 s (hs s h1)
  ·rintro r b ⟨y,hk,rfl,⟨-,hn⟩|⟨q,m,h0,rfl,hq,cE⟩⟩
   ·exact absurd hn h0
   ·have hρ:∀ k,k<bs.length→(fun i=>if i=bs.length then q else i) k=k:=fun k hk=>by
     show (if k=bs.length then q else k)=k
     rw[if_neg (by omega)]
    have w2:∀ m,within.ax m ((L.map txt).flatMap tv)=true:=fun m=>pW.all (fun y hy=>by
     obtain⟨s,h1,rfl⟩:=List.mem_map.1 hy
     exact⟨rfl,rfl,rfl,rfl⟩)
    refine⟨fun i=>if i=bs.length then q else i,[.own ((L.map txt).flatMap tv) 139 4 L.length false],_,hk,hρ,?_,?_,?_,rfl,rfl⟩
    ·rintro p X hp
     match p,hp with
     | 0,hp =>
       cases hp
       refine .inr ⟨_,_,_,_,m,rfl,?_,?_,w2 _⟩
       ·simpa using hq
       ·rw[fL hρ _ (w2 _)];simpa using cE
    ·simp[MY,qp,tv]
    ·simp[within,within.ax,tv]
theorem Ro.cell {a b:List av}(h:Ro a b){i:Nat}{c:List SV}{T:TypeId}{m:Bool}(hi:b[i]? = some (.cells c T m))(X:av):Ro a (b.set i X):=h.set (fun c e s n hx=>by rw[hi]at hx;cases hx) X
structure Lk where
 rel:Bytes
 type:Bytes
 Ix:Bytes
 lp:Bytes
def lc (l:Lk):List SV:=[.str l.rel,.str l.type,.str l.Ix,.str l.lp,.aj,.aj]
def LkB (l:Lk):Prop:=l.rel.length≤20000∧l.type.length≤20000∧l.Ix.length≤20000∧l.lp.length≤20000
def Rl (b:List av)(x:SV)(L:List Lk):Prop:=(x=.aj∧L=[])∨∃ j,x=.o j L.length∧b[j]? = some (.own (L.flatMap lc) 132 6 L.length false)
theorem Rl.within {b:List av}{x:SV}{L:List Lk}(h:Rl b x L):Vc.within b.length x=true:=by
 rcases h with⟨rfl,-⟩|⟨j,rfl,h2⟩
 ·rfl
 ·have:=(zRI.1 h2).1
  simp[Vc.within,this]
theorem Rl.one {b:List av}{x:SV}{L:List Lk}(h:Rl b x L):Vc.one x=true:=by
 rcases h with⟨rfl,-⟩|⟨j,rfl,h2⟩ <;> rfl
theorem lc_at (L:List Lk)(k:Nat)(h:k<L.length):((L.flatMap lc).drop (k * 6)).take 6=lc L[k]:=kz lc 6 (fun _=>rfl) L k h
theorem lc_len (L:List Lk):(L.flatMap lc).length=L.length * 6:=ie lc 6 (fun _=>rfl) L
theorem Rs.len {b:List av}{x:SV}{L:List Bytes}(h:Rs b x L)(e:TypeId):oF (.slice e) x=some (.int .i64 L.length):=by
 rcases h with⟨rfl,rfl⟩|⟨j,rfl,-⟩ <;> rfl
theorem Rl.len {b:List av}{x:SV}{L:List Lk}(h:Rl b x L)(e:TypeId):oF (.slice e) x=some (.int .i64 L.length):=by
 rcases h with⟨rfl,rfl⟩|⟨j,rfl,-⟩ <;> rfl
theorem Ob.one {b:List av}{d n:Nat}{v:Tv}:Ob b d n v→(Vc.one v.xk&&Vc.one v.xi)=true
 | ⟨_,_,_,_,h3,h4,_⟩=>by rw[h3.one,h4.one];rfl
theorem Ob.nK {b:List av}{d n:Nat}{v:Tv}:Ob b d n v→pW b.length v
 | ⟨_,_,_,_,h3,h4,_⟩=>⟨h3.within,h4.within,h3.one,h4.one⟩
theorem Ro.grow {b:List av}(l l2:List av):Ro (b++l) (b++(l++l2)):=by
 rw[← zRY]
 exact(Ro.refl _).app _
theorem Ro.pre {b b':List av}(h:Ro b b')(hl:b'.length=b.length)(l l2:List av):Ro (b++l) (b'++(l++l2)):=fun j c e s n hj=>by
 rcases zR1 j b.length with h1|h1
 ·rw[zRL h1]at hj
  exact ad (h _ _ _ _ _ hj) _
 ·rw[zR2 h1]at hj
  rw[zR2 (by omega),hl]
  exact ad hj _
theorem Ro.list {b:List av}(l1:List av)(c:List SV)(T:TypeId)(m:Bool)(X:av)(l2:List av):Ro (b++(l1++.cells c T m::l2)) (b++(l1++X::l2)):=fun j c' e s n h=>by
 rw[← zRY]at h ⊢
 rcases Nat.lt_trichotomy j (b++l1).length with hj|hj|hj
 ·rw[zRL hj]at h ⊢
  exact h
 ·subst hj
  rw[aI]at h
  cases h
 ·obtain⟨q,rfl⟩:∃ q,j=(b++l1).length+(q+1):=⟨j - (b++l1).length - 1,by omega⟩
  rw[aU]at h ⊢
  exact h
theorem ic {bs:List av}(s:Bytes)(hs:s.length≤20000){x:SV}{A:List Bytes}(hx:Rs bs x A)(hA:A.length≤16)(JO:∀ a∈A,a.length≤20000){y:SV}{L:List Lk}(hy:Rl bs y L)(hL:L.length≤16)(hLs:∀ l∈L,LkB l) :
 SC Tryz.V 77 [.agg [.str s,x,.aj,y]] bs (fun r b=>∃ v,r=.agg (tv v)∧Kp bs b∧Tr b 4 v):=by
 refine SC.th ?_
 have zD:=hx.within
 have Nw:=hy.within
 have qG:=hx.one
 have KU:=hy.one
 refine bo 3000 Tryz.func77 rfl Tryz.ntmps77 Tryz.results77 Tryz.call77 (by simp) (ah bs.length _ (by simp[within,within.ax,zD,Nw])) ?_
 obtain⟨v1,A1,B1,vR,s1⟩:=xV (bs:=bs++[.cells [.str s,x,.aj,y] 135 true,.cells [.int .i64 0,.str [],.aj,.aj] 139 true]) (v:=⟨7,[],.aj,.aj⟩) (n:=0) (Ob.zero _ (2+1) 0) (by omega) ([115,117,98,106,101,99,116]:List UInt8) (by decide) s hs
 unfold tv at s1
 refine dV ?_
 refine ae s1 ?_
 rintro r b ⟨rfl,rfl⟩
 have o1:=vR.one
 have hlx:=hx.len
 have hly:=hy.len
 refine gA (zRH qG (zRH KU (zRH Bool.and_self (zRH o1 (zRH hlx hly))))) ?_
 refine⟨fun hc=>?_,fun hc=>?_⟩
 obtain⟨v2,C,ht2,s2⟩:=uV (bs:=bs++[.cells [.str s,x,.aj,y] 135 true,.cells [.int .i64 0,.str [],.aj,.aj] 139 true,A1,B1,.cells (tv v1) 139 true]) (hx.ro ((Ro.refl bs).app _)) hA JO
 obtain⟨v,D,E,hv,s3⟩:=xU (vR.ro (b:=bs++[.cells [.str s,x,.aj,y] 135 true,.cells [.int .i64 0,.str [],.aj,.aj] 139 true,A1,B1,.cells (tv v1) 139 true]++[C]) (by
  have:=(Ro.refl (bs++[.cells [.str s,x,.aj,y] 135 true,.cells [.int .i64 0,.str [],.aj,.aj] 139 true,A1,B1])).app [.cells (tv v1) 139 true,C]
  simpa using this)) (by omega) ([97,108,105,97,115,101,115]:List UInt8) (by decide) (x:=v2) (ht2.up)
 unfold tv at s2 s3
 simp only[zRY,zRT,zR4]at s2 s3
 refine bG [(bs.length+5,0,0)] s2 (vF [_,_,_,_,_] rfl _) ?_
 refine dV ?_
 refine bG [(bs.length+6,0,0),(bs.length+7,0,0)] s3 (ke [_,_,_,_,_,_] rfl rfl _ _) ?_
 have o2:=hv.one
 have hv:Ob (bs++[.cells [.str s,x,.aj,y] 135 true,.cells [.int .i64 0,.str [],.aj,.aj] 139 true,A1,B1,.cells (tv v) 139 true,C,D,E]) 3 2 v:=by
  refine hv.ro ?_
  have:=Ro.list (b:=bs) [.cells [.str s,x,.aj,y] 135 true,.cells [.int .i64 0,.str [],.aj,.aj] 139 true,A1,B1] (tv v1) 139 true (.cells (tv v) 139 true) [C,D,E]
  simpa using this
 refine gA o2 ?_
 refine⟨by(refine bO (fun n=>n - bs.length) ?_;simp only[zRS,zRV,cW,eS,zRM,zRW,if_true];exact aq (by kernel_rfl)),?_⟩
 have Hm:=hv.nK
 have s4:=oz hv.nK ([112,114,111,112,101,114,116,105,101,115]:List UInt8)
 unfold tv at s4
 refine ae s4 ?_
 rintro r b ⟨rfl,rfl⟩
 refine gA (zRH KU (zRH hly o2)) ?_
 rotate_left
 obtain⟨v,hvd⟩:∃ v,v=v1:=⟨_,rfl⟩
 subst hvd
 have hv:=(vR.up (m:=2) (by omega)).ro (b:=bs++[.cells [.str s,x,.aj,y] 135 true,.cells [.int .i64 0,.str [],.aj,.aj] 139 true,A1,B1,.cells (tv v) 139 true]) (by simpa using(Ro.refl (bs++[.cells [.str s,x,.aj,y] 135 true,.cells [.int .i64 0,.str [],.aj,.aj] 139 true,A1,B1])).app [.cells (tv v) 139 true])
 have s4:=oz hv.nK ([112,114,111,112,101,114,116,105,101,115]:List UInt8)
 have o2:=hv.one
 unfold tv at s4
 refine ae s4 ?_
 rintro r b ⟨rfl,rfl⟩
 refine gA (zRH KU (zRH hly o2)) ?_
 rotate_left
 all_goals
  refine⟨fun hz=>⟨by omega,v,rfl,((Kp.refl bs).app _).hZ,((hv.ro (Ro.list (b:=bs) [_] _ _ _ _ _)).ro (gI (by simp)).ro).tr (by omega)⟩,fun hz=>?_⟩
  refine az (fun σ=>∃ (k li:Nat) (y':SV) (Is:List Tv),k≤L.length∧lk 2 σ.t=some (.p (bs.length+1) 0)∧lk 3 σ.t=some (.p (bs.length+4) 0)∧lk 4 σ.t=some (.p li 0)∧lk 32 σ.t=some y∧lk 33 σ.t=some (.int .i64 L.length)∧lk 34 σ.t=some (.int .i64 k)∧Kp bs σ.b∧σ.b[bs.length+1]? = some (.cells [.int .i64 0,.str [],.aj,.aj] 139 true) ∧
   σ.b[bs.length+4]? = some (.cells (tv v) 139 true)∧σ.b[li]? = some (.cells [.int .i64 6,.str [],.aj,y'] 139 true)∧bs.length+4<li∧Ob σ.b 3 2 v∧Is.length=k∧(∀ x∈Is,Tr σ.b 2 x) ∧
   ((y'=.aj∧k=0)∨∃ q,0<k∧y'=.o q k∧li<q∧σ.b[q]? = some (.own (Is.flatMap tv) 139 4 k true))) (fun σ=>L.length - fX 34 σ) ?_ ?_
  ·refine⟨0,_,.aj,[],by omega,rfl,rfl,rfl,rfl,rfl,rfl,(Kp.refl bs).app _,aU _ _ 1,aU _ _ 4,aU _ _ _,by omega,?_,rfl,by simp,.inl ⟨rfl,rfl⟩⟩
   exact hv.ro (by first|exact Ro.grow [_,_,_,_,_] [_] | exact Ro.grow [_,_,_,_,_,_,_,_] [_])
  ·rintro⟨t,b⟩ ⟨k,li,y',Is,hk,h2,h3,h4,mr,lM,mQ,bc,eX,p7,ml,rJ,Gh,Gu,DU,hy'⟩
   simp only at h2 h3 h4 mr lM mQ bc eX p7 ml Gh DU hy'
   rw[ao mQ]
   have sZ:=(zRI.1 eX).1
   have hb4l:=(zRI.1 p7).1
   have xJ:=(zRI.1 ml).1
   unfold tv at p7
   by_cases aA:k<L.length
   ·have bg:decide ((k:Int)<L.length)=true:=decide_eq_true (by omega)
    rcases hy with⟨rfl,rfl⟩|⟨j,rfl,hj⟩
    ·exact absurd aA (by simp)
    have pN:=bc.at hj
    have hu:List.take 6 (List.drop (k * 6) (L.flatMap lc))=[.str L[k].rel,.str L[k].type,.str L[k].Ix,.str L[k].lp,.aj,.aj]:=lc_at L k aA
    have oI:=lc_len L
    obtain⟨m1,m2,m3,m4⟩:=hLs L[k] (List.getElem_mem aA)
    generalize L[k]=l at hu m1 m2 m3 m4
    have p1:=lE l.rel
    obtain⟨x1,A2,B2,F9,t1⟩:=xU (bs:=b++[.cells [.str l.rel,.str l.type,.str l.Ix,.str l.lp,.aj,.aj] 132 true]) (Ob.zero _ 1 0) (by omega) ([114,101,108]:List UInt8) (by decide) (Tr.text _ 0 l.rel m1)
    obtain⟨x2,A3,B3,LZ,t2⟩:=xV (bs:=b++[.cells [.str l.rel,.str l.type,.str l.Ix,.str l.lp,.aj,.aj] 132 true,A2,B2,.cells (tv x1) 139 true]) (d:=0) (F9.ro (by simpa using Ro.grow (b:=b) [.cells [.str l.rel,.str l.type,.str l.Ix,.str l.lp,.aj,.aj] 132 true,A2,B2] [.cells (tv x1) 139 true])) (by omega) ([116,121,112,101]:List UInt8) (by decide) l.type m2
    obtain⟨x3,A4,B4,hx3,t3⟩:=xV (d:=0) LZ (by omega) ([104,114,101,102]:List UInt8) (by decide) l.Ix m3
    obtain⟨x4,A5,B5,KV,t4⟩:=xV (d:=0) hx3 (by omega) ([116,101,109,112,108,97,116,101]:List UInt8) (by decide) l.lp m4
    have hx5:=KV
    simp only[zRY,zRT,zR4]at t2 t3 t4 KV
    replace KV:=KV.ro (Ro.list (b:=b) [_,_,_] (tv x1) 139 true (.cells (tv x4) 139 true) [_,_,_,_,_,_])
    unfold tv at p1 t1 t2 t3 t4
    have u1:=F9.one
    have u4:=KV.one
    refine gA (zRH h2 (zRH h3 (zRH h4 (zRH mr (zRH lM (zRH mQ (zRH bg (zRH pN hu)))))))) ?_
    refine⟨by omega,by omega,?_⟩
    (refine aa (p1) ?_;refine dV ?_)
    refine ae t1 ?_
    rintro r b1 ⟨rfl,rfl⟩
    refine gA u1 ?_
    refine bG [(b.length+4,0,0),(b.length+5,0,0)] t2 (ke [_,_,_,_] rfl rfl _ _) ?_
    refine dV ?_
    refine bG [(b.length+6,0,0),(b.length+7,0,0)] t3 (ke [_,_,_,_,_,_] rfl rfl _ _) ?_
    refine dV ?_
    refine bG [(b.length+8,0,0),(b.length+9,0,0)] t4 (ke [_,_,_,_,_,_,_,_] rfl rfl _ _) ?_
    refine gA u4 ?_
    refine⟨by(refine bO (fun n=>n - List.length b) ?_;simp only[zRS,zRV,cW,eS,zRM,zRW,if_true];exact aq (by kernel_rfl)),?_⟩
    have s5:=oz KV.nK ([116,105,116,108,101,115]:List UInt8)
    have s6:=oz KV.nK ([112,114,111,112,101,114,116,105,101,115]:List UInt8)
    unfold tv at s5 s6
    refine bG [] s5 (fun _ _ _=>rfl) ?_
    refine gA u4 ?_
    refine bG [] s6 (fun _ _ _=>rfl) ?_
    have eg:∀ (l:List av) X,(b++l).set li X=b.set li X++l:=fun l X=>aO xJ l X
    have hx6:=KV.tr (n:=4) (by omega)
    rcases hy' with⟨rfl,rfl⟩|⟨q,l6,rfl,hq,cE⟩
    ·refine gA (zRH u4 (zRH h2 (zRH h3 (zRH h4 (zRH mr (zRH lM (zRH mQ (zRH (ad ml) eg)))))))) ?_
     have sV:=(Ro.refl b).cell ml (.cells [.int .i64 6,.str [],.aj,.o (b.length+11) 1] 139 true)
     refine⟨by(refine bO (fun n=>n - List.length b) ?_;simp only[zRS,zRV,cW,eS,zRM,zRW,if_true];exact aq (by kernel_rfl)),by omega,⟨by unfold maxLen;omega,by omega⟩,by omega,⟨1,li,.o (b.length+11) 1,[x4],by omega,rfl,rfl,(bc.set (by omega) _).app _,ad (aw eX (by omega) _) _,ad (aw p7 (by omega) _) _,cA xJ _ _,rJ,Gh.ro (sV.app _),rfl,?_,.inr ⟨b.length+11,by omega,rfl,by omega,?_⟩⟩,?_⟩
     ·intro x hx
      obtain rfl:=zRR.1 hx
      exact hx6.ro (sV.pre (by simp) [_,_,_,_,_,_,_,_,_,_] [_,_])
     ·rw[aQ (by simp)];rfl
     ·rw[ao (k:=.i64) (n:=(1:Int)) rfl];omega
    ·have kf:=(zRI.1 cE).1
     have nA:∀ (l:List av) X,(b++l).set q X=b.set q X++l:=fun l X=>aO kf l X
     have zI:∀ (l:List av) Y X,(b.set q Y++l).set li X=(b.set q Y).set li X++l:=fun l Y X=>aO (by simpa using xJ) l X
     have ju:=fun Y=>ad (aw ml (show q≠li by omega) Y)
     refine gA (zRH u4 (zRH h2 (zRH h3 (zRH h4 (zRH mr (zRH lM (zRH mQ (zRH (ad ml) (zRH (ad cE) (zRH eg (zRH nA (zRH zI ju)))))))))))) ?_
     have sV:=((Ro.refl b).rD cE .gone).cell (aw ml (show q≠li by omega) .gone) (.cells [.int .i64 6,.str [],.aj,.o (b.length+11) (k+1)] 139 true)
     have zq:∀ m,(b.length+m=q)=False:=fun m=>eq_false (by omega)
     refine⟨?_,by omega,⟨by unfold maxLen;omega,by omega⟩,by omega,⟨k+1,li,.o (b.length+11) (k+1),Is++[x4],by omega,rfl,rfl,((bc.set (by omega) _).set (by omega) _).app _,ad (aw (aw eX (by omega) _) (by omega) _) _,ad (aw (aw p7 (by omega) _) (by omega) _) _,cA (by simpa using xJ) _ _,rJ,Gh.ro (sV.app _),by simp[Gu],?_,.inr ⟨b.length+11,by omega,rfl,by omega,?_⟩⟩,?_⟩
     ·(refine bO (fun n=>n - List.length b) ?_;simp only[zRS,zRV,cW,eS,zRM,zRW,if_true];exact aq (by kernel_rfl))
     ·intro x hx
      rcases zR0.1 hx with hx|hx
      ·exact(DU x hx).ro (sV.app _)
      ·obtain rfl:=zRR.1 hx
       exact hx6.ro (sV.pre (by simp) [_,_,_,_,_,_,_,_,_,_] [_,_])
     ·rw[aQ (by simp),zRZ];rfl
     ·rw[ao (k:=.i64) (n:=(k:Int)+1) rfl];omega
   ·have bg:decide ((k:Int)<L.length)=false:=decide_eq_false (by omega)
    have KU:one y'=true:=by rcases hy' with⟨rfl,-⟩|⟨q,-,rfl,-⟩ <;> rfl
    have o3:=Gh.one
    refine gA (zRH h2 (zRH h3 (zRH h4 (zRH mr (zRH lM (zRH mQ (zRH bg (zRH p7 ml)))))))) ?_
    rcases hy' with⟨rfl,rfl⟩|⟨q,l6,rfl,hq,cE⟩
    ·obtain⟨v',A6,B6,hv',s7⟩:=xU Gh (by omega) ([108,105,110,107,115]:List UInt8) (by decide) (x:=⟨6,[],.aj,.aj⟩) (d:=3) ⟨by simp,.inr (.inr (.inl rfl)),[],[],.inl ⟨rfl,rfl⟩,.inl ⟨rfl,rfl⟩,by simp,by simp,by simp,by simp,by simp,by simp⟩
     have u7:=hv'.one
     unfold tv at s7
     refine ae s7 ?_
     rintro r b1 ⟨rfl,rfl⟩
     have qI:∀ (l:List av) X,(b++l).set (bs.length+1) X=b.set (bs.length+1) X++l:=fun l X=>aO sZ l X
     have Bl:∀ (l:List av) X,(b.set (bs.length+1) X++l)[bs.length+1]? = some X:=fun l X=>cA sZ X l
     refine gA (zRH h2 (zRH h3 (zRH h4 (zRH qI (zRH Bl (zRH (ad eX) u7)))))) ?_
     have o9:=(bc.set (j:=bs.length+1) (by omega) (.cells [.int .i64 v'.k,.str v'.t,v'.xk,v'.xi] 139 true)).app [A6,B6]
     refine⟨by simpa using o9.1,v',rfl,o9.hZ,((hv'.ro (((Ro.refl b).cell eX _).pre (by simp) [A6,B6] [])).ro (gI (by simpa using o9.1)).ro).tr (by omega)⟩
    ·have kf:=(zRI.1 cE).1
     have sV:=(Ro.refl b).rD cE (.own (Is.flatMap tv) 139 4 k false)
     obtain⟨v',A6,B6,hv',s7⟩:=xU (Gh.ro sV) (by omega) ([108,105,110,107,115]:List UInt8) (by decide) (x:=⟨6,[],.aj,.o q k⟩) (d:=3) ⟨by simp,.inr (.inr (.inl rfl)),[],Is,.inl ⟨rfl,rfl⟩,.inr ⟨q,by rw[Gu],by rw[zRN kf,Gu]⟩,by simp,by omega,by simp,by simp,by simp,fun x hx=>(DU x hx).ro sV⟩
     have u7:=hv'.one
     refine ae (mz cE s7) ?_
     rintro r b1 ⟨rfl,rfl⟩
     have Bq:=aw eX (show q≠bs.length+1 by omega) (.own (Is.flatMap tv) 139 4 k false)
     have fg:=bc.set (j:=q) (by omega) (.own (Is.flatMap tv) 139 4 k false)
     have kJ:bs.length+1<(b.set q (.own (Is.flatMap tv) 139 4 k false)).length:=by simpa using sZ
     generalize b.set q (.own (Is.flatMap tv) 139 4 k false)=b2 at *
     have qI:∀ (l:List av) X,(b2++l).set (bs.length+1) X=b2.set (bs.length+1) X++l:=fun l X=>aO kJ l X
     have Bl:∀ (l:List av) X,(b2.set (bs.length+1) X++l)[bs.length+1]? = some X:=fun l X=>cA kJ X l
     simp only[cz,↓Xn,↓Xo,↓Xg,↓Xd,↓Xe,↓Xf,Tryz.VΓ,Tryz.Γs,Xp,Xi,Nat.reduceAdd,Nat.reduceSub,Nat.reduceLT,Nat.reduceLeDiff,reduceIte,reduceCtorEq,Nat.reduceEqDiff,implies_true,forall_const,cw,eb,beq_self_eq_true,bne_self_eq_false,Int.reduceBEq,Int.reduceBNe,Int.reduceLT,Int.reduceLE,h2,h3,h4,qI,Bl,ad Bq,u7,tv]
     have o9:=(fg.set (j:=bs.length+1) (by omega) (.cells [.int .i64 v'.k,.str v'.t,v'.xk,v'.xi] 139 true)).app [A6,B6]
     refine⟨by simpa using o9.1,v',rfl,o9.hZ,((hv'.ro (((Ro.refl b2).cell Bq _).pre (by simp) [A6,B6] [])).ro (gI (by simpa using o9.1)).ro).tr (by omega)⟩
structure Sv where
 id:Bytes
 xt:SV
 xe:SV
def svc (s:Sv):List SV:=[.str s.id,s.xt,s.xe]
def Pb (b:List av)(s:Sv):Prop:=s.id.length≤20000∧∃ T E:List Bytes,Rs b s.xt T∧Rs b s.xe E∧T.length≤16∧E.length≤16∧(∀ x∈T,x.length≤20000)∧∀ x∈E,x.length≤20000
def Rv (b:List av)(x:SV)(S:List Sv):Prop:=(x=.aj∧S=[])∨∃ j,x=.o j S.length∧b[j]? = some (.own (S.flatMap svc) 225 3 S.length false)
theorem Pb.ro {a b:List av}{s:Sv}(k:Ro a b):Pb a s→Pb b s
 | ⟨h1,T,E,h2,h3,h⟩=>⟨h1,T,E,h2.ro k,h3.ro k,h⟩
theorem Rv.ro {a b:List av}{x:SV}{L:List Sv}(h:Rv a x L)(k:Ro a b):Rv b x L:=by
 rcases h with h|⟨j,h1,h2⟩
 ·exact .inl h
 ·exact .inr ⟨j,h1,k _ _ _ _ _ h2⟩
theorem Rv.within {b:List av}{x:SV}{L:List Sv}(h:Rv b x L):Vc.within b.length x=true:=by
 rcases h with⟨rfl,-⟩|⟨j,rfl,h2⟩
 ·rfl
 ·have:=(zRI.1 h2).1
  simp[Vc.within,this]
theorem Rv.one {b:List av}{x:SV}{L:List Sv}(h:Rv b x L):Vc.one x=true:=by
 rcases h with⟨rfl,-⟩|⟨j,rfl,h2⟩ <;> rfl
theorem Rv.len {b:List av}{x:SV}{L:List Sv}(h:Rv b x L)(e:TypeId):oF (.slice e) x=some (.int .i64 L.length):=by
 rcases h with⟨rfl,rfl⟩|⟨j,rfl,-⟩ <;> rfl
theorem svc_at (L:List Sv)(k:Nat)(h:k<L.length):((L.flatMap svc).drop (k * 3)).take 3=svc L[k]:=kz svc 3 (fun _=>rfl) L k h
theorem svc_len (L:List Sv):(L.flatMap svc).length=L.length * 3:=ie svc 3 (fun _=>rfl) L
theorem Dw:PC Tryz.V 190 [] (.agg (tv ⟨7,[],.aj,.aj⟩)):=by
 refine aZ 3000 Tryz.func190 rfl Tryz.ntmps190 Tryz.results190 Tryz.call190 (by simp) (by simp[flat,flat.ai]) (by simp[flat,flat.ai,tv]) ?_
 unfold tv
 exact bC True.intro
theorem AQ {bs:List av}(s:Bytes)(hs:s.length≤20000){x:SV}{A:List Bytes}(hx:Rs bs x A)(hA:A.length≤16)(JO:∀ a∈A,a.length≤20000){y:SV}{L:List Sv}(hy:Rv bs y L)(hL:L.length≤16)(hLs:∀ l∈L,Pb bs l) :
 SC Tryz.V 123 [.agg [.str s,x,.aj,.aj,y]] bs (fun r b=>∃ v,r=.agg (tv v)∧Kp bs b∧Tr b 5 v):=by
 refine SC.th ?_
 have zD:=hx.within
 have Nw:=hy.within
 have qG:=hx.one
 have KU:=hy.one
 refine bo 3000 Tryz.func123 rfl Tryz.ntmps123 Tryz.results123 Tryz.call123 (by simp) (ah bs.length _ (by simp[within,within.ax,zD,Nw])) ?_
 have p0:=Dw
 have p1:=lE s
 obtain⟨v1,A1,B1,vR,s1⟩:=rr (bs:=bs++[.cells [.str s,x,.aj,.aj,y] 179 true,.cells [.int .i64 0,.str [],.aj,.aj] 139 true]) (Ob.zero _ 4 0) (by omega) ([105,100]:List UInt8) (by decide) (Tr.text _ 3 s hs)
 unfold tv at p0 p1 s1
 simp only[zRY,zRT,zR4]at s1 vR
 refine dV ?_
 (refine aY (p0) ?_;refine gA (zRH qG (zRH KU Bool.and_self)) ?_)
 (refine aY (p1) ?_;refine dV ?_)
 refine bG [(bs.length+2,0,0),(bs.length+3,0,0)] s1 (ke [_,_] rfl rfl _ _) ?_
 have o1:=vR.one
 have hlx:=hx.len
 have hly:=hy.len
 refine gA (zRH qG (zRH KU (zRH Bool.and_self (zRH o1 (zRH hlx hly))))) ?_
 refine⟨by(refine bO (fun n=>n - bs.length) ?_;simp only[zRS,zRV,cW,eS,zRM,zRW,if_true];exact aq (by kernel_rfl)),fun hc=>?_,fun hc=>?_⟩
 obtain⟨v2,C,ht2,s2⟩:=uV (bs:=bs++[.cells [.str s,x,.aj,.aj,y] 179 true,.cells [.int .i64 0,.str [],.aj,.aj] 139 true,A1,B1,.cells (tv v1) 139 true]) (hx.ro ((Ro.refl bs).app _)) hA JO
 obtain⟨v,D,E,hv,s3⟩:=rr (vR.ro (b:=bs++[.cells [.str s,x,.aj,.aj,y] 179 true,.cells [.int .i64 0,.str [],.aj,.aj] 139 true,A1,B1,.cells (tv v1) 139 true]++[C]) (by
  have:=Ro.grow (b:=bs) [.cells [.str s,x,.aj,.aj,y] 179 true,.cells [.int .i64 0,.str [],.aj,.aj] 139 true,A1,B1] [.cells (tv v1) 139 true,C]
  simpa using this)) (by omega) ([97,108,115,111,75,110,111,119,110,65,115]:List UInt8) (by decide) (x:=v2) (ht2.le (by omega))
 unfold tv at s2 s3
 simp only[zRY,zRT,zR4]at s2 s3
 refine bG [(bs.length+5,0,0)] s2 (vF [_,_,_,_,_] rfl _) ?_
 refine dV ?_
 refine bG [(bs.length+6,0,0),(bs.length+7,0,0)] s3 (ke [_,_,_,_,_,_] rfl rfl _ _) ?_
 have o2:=hv.one
 have hv:Ob (bs++[.cells [.str s,x,.aj,.aj,y] 179 true,.cells [.int .i64 0,.str [],.aj,.aj] 139 true,A1,B1,.cells (tv v) 139 true,C,D,E]) 4 2 v:=by
  refine hv.ro ?_
  have:=Ro.list (b:=bs) [.cells [.str s,x,.aj,.aj,y] 179 true,.cells [.int .i64 0,.str [],.aj,.aj] 139 true,A1,B1] (tv v1) 139 true (.cells (tv v) 139 true) [C,D,E]
  simpa using this
 refine gA (zRH o2 (zRH KU hly)) ?_
 refine⟨by(refine bO (fun n=>n - bs.length) ?_;simp only[zRS,zRV,cW,eS,zRM,zRW,if_true];exact aq (by kernel_rfl)),?_⟩
 rotate_left
 obtain⟨v,hvd⟩:∃ v,v=v1:=⟨_,rfl⟩
 subst hvd
 have hv:=(vR.up (m:=2) (by omega)).ro (b:=bs++[.cells [.str s,x,.aj,.aj,y] 179 true,.cells [.int .i64 0,.str [],.aj,.aj] 139 true,A1,B1,.cells (tv v) 139 true]) (by simpa using Ro.grow (b:=bs) [.cells [.str s,x,.aj,.aj,y] 179 true,.cells [.int .i64 0,.str [],.aj,.aj] 139 true,A1,B1] [.cells (tv v) 139 true])
 have o2:=o1
 rotate_left
 all_goals
  refine az (fun σ=>∃ li,bs.length+4<li∧lk 1 σ.t=some (.p bs.length 0)∧lk 2 σ.t=some (.p (bs.length+1) 0)∧lk 3 σ.t=some (.p (bs.length+4) 0)∧lk 4 σ.t=some (.p li 0)∧lk 35 σ.t=some (.int .i64 0)∧lk 36 σ.t=some (.int .i64 0)∧Kp bs σ.b∧σ.b[bs.length]? = some (.cells [.str s,x,.aj,.aj,y] 179 true)∧σ.b[bs.length+1]? = some (.cells [.int .i64 0,.str [],.aj,.aj] 139 true) ∧
   σ.b[bs.length+4]? = some (.cells (tv v) 139 true)∧σ.b[li]? = some (.cells [.int .i64 6,.str [],.aj,.aj] 139 true)∧Ob σ.b 4 2 v) (fun _=>1) ?_ ?_
  ·exact⟨_,by omega,rfl,rfl,rfl,rfl,rfl,rfl,(Kp.refl bs).app _,aI _ _,aU _ _ 1,aU _ _ 4,aU _ _ _,hv.ro (by first|exact Ro.grow [_,_,_,_,_] [_] | exact Ro.grow [_,_,_,_,_,_,_,_] [_])⟩
  ·rintro⟨t,b⟩ ⟨li,rJ,h1,h2,h3,h4,h35,IK,bc,dL,eX,p7,ml,Gh⟩
   simp only at h1 h2 h3 h4 h35 IK bc dL eX p7 ml Gh
   have xJ:=(zRI.1 ml).1
   have eg:=fun X=>aw dL (show li≠bs.length by omega) X
   refine gA (zRH h1 (zRH h2 (zRH h3 (zRH h4 (zRH h35 (zRH IK (zRH ml (zRH eg (zRH hly KU))))))))) ?_
   refine az (fun σ=>∃ (k:Nat) (y':SV) (Is:List Tv),k≤L.length∧lk 2 σ.t=some (.p (bs.length+1) 0)∧lk 3 σ.t=some (.p (bs.length+4) 0)∧lk 4 σ.t=some (.p li 0)∧lk 68 σ.t=some y∧lk 69 σ.t=some (.int .i64 L.length)∧lk 70 σ.t=some (.int .i64 k)∧Kp bs σ.b∧σ.b[bs.length+1]? = some (.cells [.int .i64 0,.str [],.aj,.aj] 139 true) ∧
    σ.b[bs.length+4]? = some (.cells (tv v) 139 true)∧σ.b[li]? = some (.cells [.int .i64 6,.str [],.aj,y'] 139 true)∧Ob σ.b 4 2 v∧Is.length=k∧(∀ x∈Is,Tr σ.b 3 x) ∧
    ((y'=.aj∧k=0)∨∃ q,0<k∧y'=.o q k∧li<q∧σ.b[q]? = some (.own (Is.flatMap tv) 139 4 k true))) (fun σ=>L.length - fX 70 σ) ?_ ?_
   ·exact⟨0,.aj,[],by omega,h2,h3,h4,rfl,rfl,rfl,bc.set (by omega) _,aw eX (by omega) _,aw p7 (by omega) _,zRN xJ,Gh.ro ((Ro.refl b).cell ml _),rfl,by simp,.inl ⟨rfl,rfl⟩⟩
   ·clear eg h35 IK dL h1 h2 h3 h4 bc eX p7 ml Gh xJ
    clear t b
    rintro⟨t,b⟩ ⟨k,y',Is,hk,h2,h3,h4,mr,lM,mQ,bc,eX,p7,ml,Gh,Gu,DU,hy'⟩
    simp only at h2 h3 h4 mr lM mQ bc eX p7 ml Gh DU hy'
    rw[ao mQ]
    have sZ:=(zRI.1 eX).1
    have hb4l:=(zRI.1 p7).1
    have xJ:=(zRI.1 ml).1
    unfold tv at p7
    by_cases aA:k<L.length
    ·have bg:decide ((k:Int)<L.length)=true:=decide_eq_true (by omega)
     rcases hy with⟨rfl,rfl⟩|⟨j,rfl,hj⟩
     ·exact absurd aA (by simp)
     have pN:=bc.at hj
     have hu:List.take 3 (List.drop (k * 3) (L.flatMap svc))=[.str L[k].id,L[k].xt,L[k].xe]:=svc_at L k aA
     have oI:=svc_len L
     obtain⟨m1,T,E',hT,hE,m2,m3,m4,m5⟩:=(hLs L[k] (List.getElem_mem aA)).ro bc.ro
     generalize L[k]=l at hu m1 hT hE
     have p1:=lE l.id
     obtain⟨x1,A2,B2,F9,t1⟩:=rr (bs:=b++[.cells [.str l.id,l.xt,l.xe] 225 true]) (Ob.zero _ 2 0) (by omega) ([105,100]:List UInt8) (by decide) (Tr.text _ 1 l.id m1)
     obtain⟨x2,C2,LZ,t2⟩:=uV (bs:=b++[.cells [.str l.id,l.xt,l.xe] 225 true]++[A2,B2]) (hT.ro (by simpa using(Ro.refl b).app [.cells [.str l.id,l.xt,l.xe] 225 true,A2,B2])) m2 m4
     obtain⟨x3,A3,B3,hx3,t3⟩:=rr (F9.ro ((Ro.refl _).app [C2])) (by omega) ([116,121,112,101]:List UInt8) (by decide) LZ
     obtain⟨x4,C4,KV,t4⟩:=uV (bs:=b++[.cells [.str l.id,l.xt,l.xe] 225 true]++[A2,B2]++[C2]++[A3,B3]) (hE.ro (by simpa using(Ro.refl b).app [.cells [.str l.id,l.xt,l.xe] 225 true,A2,B2,C2,A3,B3])) m3 m5
     obtain⟨x5,A5,B5,hx5,t5⟩:=rr (hx3.ro ((Ro.refl _).app [C4])) (by omega) ([115,101,114,118,105,99,101,69,110,100,112,111,105,110,116]:List UInt8) (by decide) KV
     have hx6:=hx5.tr (n:=3) (by omega)
     have u5:=hx5.one
     have ue:one l.xt=true:=hT.one
     have uf:one l.xe=true:=hE.one
     simp only[zRY,zRT,zR4]at t1 t2 t3 t4 t5 hx6
     unfold tv at p1 t1 t2 t3 t4 t5
     have eg:∀ (l:List av) X,(b++l).set li X=b.set li X++l:=fun l X=>aO xJ l X
     have z0:∀ m,(b.length+m=li)=False:=fun m=>eq_false (by omega)
     have z1:(b.length=li)=False:=eq_false (by omega)
     refine gA (zRH h2 (zRH h3 (zRH h4 (zRH mr (zRH lM (zRH mQ (zRH bg (zRH pN (zRH hu (zRH ue (zRH uf Bool.and_self))))))))))) ?_
     refine⟨by omega,by omega,?_⟩
     rcases hy' with⟨rfl,rfl⟩|⟨q,l6,rfl,hq,cE⟩
     ·refine gA (zRH h2 (zRH h3 (zRH h4 (zRH (ad ml) eg)))) ?_
      (refine aY (p0) ?_;refine dV ?_)
      (refine aY (p1) ?_;refine dV ?_)
      refine bG [(b.length+1,0,0),(b.length+2,0,0)] t1 (ke [_] rfl rfl _ _) ?_
      refine dV ?_
      refine bG [(b.length+3,0,0)] t2 (vF [_,_,_] rfl _) ?_
      refine dV ?_
      refine bG [(b.length+4,0,0),(b.length+5,0,0)] t3 (ke [_,_,_,_] rfl rfl _ _) ?_
      refine dV ?_
      refine bG [(b.length+6,0,0)] t4 (vF [_,_,_,_,_,_] rfl _) ?_
      refine dV ?_
      refine bG [(b.length+7,0,0),(b.length+8,0,0)] t5 (ke [_,_,_,_,_,_,_] rfl rfl _ _) ?_
      refine gA (zRH h2 (zRH h3 (zRH h4 (zRH mr (zRH lM (zRH mQ (zRH (ad ml) (zRH eg u5)))))))) ?_
      have sV:=(Ro.refl b).cell ml (.cells [.int .i64 6,.str [],.aj,.o (b.length+10) 1] 139 true)
      refine⟨by omega,⟨by unfold maxLen;omega,by omega⟩,?_,by omega,⟨1,.o (b.length+10) 1,[x5],by omega,rfl,(bc.set (by omega) _).app _,ad (aw eX (by omega) _) _,ad (aw p7 (by omega) _) _,cA xJ _ _,Gh.ro (sV.app _),rfl,?_,.inr ⟨b.length+10,by omega,rfl,by omega,?_⟩⟩,?_⟩
      ·refine bO (fun n=>if n=li then 100 else n - b.length) ?_
       simp only[zRS,zRV,cW,eS,zRM,zRW,z0,z1,eq_self,if_true,if_false]
       exact aq (by kernel_rfl)
      ·intro x hx
       obtain rfl:=zRR.1 hx
       exact hx6.ro (sV.pre (by simp) [_,_,_,_,_,_,_,_,_] [_,_])
      ·rw[aQ (by simp)];rfl
      ·rw[ao (k:=.i64) (n:=(1:Int)) rfl];omega
     ·have kf:=(zRI.1 cE).1
      have nA:∀ (l:List av) X,(b++l).set q X=b.set q X++l:=fun l X=>aO kf l X
      have zI:∀ (l:List av) Y X,(b.set q Y++l).set li X=(b.set q Y).set li X++l:=fun l Y X=>aO (by simpa using xJ) l X
      have ju:=fun Y=>ad (aw ml (show q≠li by omega) Y)
      have z2:∀ m,(b.length+m=q)=False:=fun m=>eq_false (by omega)
      have z3:(b.length=q)=False:=eq_false (by omega)
      have z4:(q=li)=False:=eq_false (by omega)
      refine gA (zRH h2 (zRH h3 (zRH h4 (zRH (ad ml) eg)))) ?_
      (refine aY (p0) ?_;refine dV ?_)
      (refine aY (p1) ?_;refine dV ?_)
      refine bG [(b.length+1,0,0),(b.length+2,0,0)] t1 (ke [_] rfl rfl _ _) ?_
      refine dV ?_
      refine bG [(b.length+3,0,0)] t2 (vF [_,_,_] rfl _) ?_
      refine dV ?_
      refine bG [(b.length+4,0,0),(b.length+5,0,0)] t3 (ke [_,_,_,_] rfl rfl _ _) ?_
      refine dV ?_
      refine bG [(b.length+6,0,0)] t4 (vF [_,_,_,_,_,_] rfl _) ?_
      refine dV ?_
      refine bG [(b.length+7,0,0),(b.length+8,0,0)] t5 (ke [_,_,_,_,_,_,_] rfl rfl _ _) ?_
      refine gA (zRH h2 (zRH h3 (zRH h4 (zRH mr (zRH lM (zRH mQ (zRH (ad ml) (zRH (ad cE) (zRH eg (zRH nA (zRH zI (zRH ju u5)))))))))))) ?_
      have sV:=((Ro.refl b).rD cE .gone).cell (aw ml (show q≠li by omega) .gone) (.cells [.int .i64 6,.str [],.aj,.o (b.length+10) (k+1)] 139 true)
      refine⟨by omega,⟨by unfold maxLen;omega,by omega⟩,?_,by omega,⟨k+1,.o (b.length+10) (k+1),Is++[x5],by omega,rfl,((bc.set (by omega) _).set (by omega) _).app _,ad (aw (aw eX (by omega) _) (by omega) _) _,ad (aw (aw p7 (by omega) _) (by omega) _) _,cA (by simpa using xJ) _ _,Gh.ro (sV.app _),by simp[Gu],?_,.inr ⟨b.length+10,by omega,rfl,by omega,?_⟩⟩,?_⟩
      ·refine bO (fun n=>if n=li then 100 else if n=q then 101 else n - b.length) ?_
       simp only[zRS,zRV,cW,eS,zRM,zRW,z0,z1,z2,z3,z4,eq_self,if_true,if_false]
       exact aq (by kernel_rfl)
      ·intro x hx
       rcases zR0.1 hx with hx|hx
       ·exact(DU x hx).ro (sV.app _)
       ·obtain rfl:=zRR.1 hx
        exact hx6.ro (sV.pre (by simp) [_,_,_,_,_,_,_,_,_] [_,_])
      ·rw[aQ (by simp),zRZ];rfl
      ·rw[ao (k:=.i64) (n:=(k:Int)+1) rfl];omega
    ·have bg:decide ((k:Int)<L.length)=false:=decide_eq_false (by omega)
     have o3:=Gh.one
     rcases hy' with⟨rfl,rfl⟩|⟨q,l6,rfl,hq,cE⟩
     ·have qI:∀ X,(b.set (bs.length+1) X)[bs.length+1]? = some X:=fun X=>zRN sZ
      refine gA (zRH h2 (zRH h3 (zRH h4 (zRH mr (zRH lM (zRH mQ (zRH bg (zRH p7 (zRH ml (zRH eX (zRH qI o3))))))))))) ?_
      have o9:=bc.set (j:=bs.length+1) (by omega) (.cells [.int .i64 v.k,.str v.t,v.xk,v.xi] 139 true)
      exact⟨by simpa using o9.1,v,rfl,o9.hZ,((Gh.ro ((Ro.refl b).cell eX _)).ro (gI (by simpa using o9.1)).ro).tr (by omega)⟩
     ·have kf:=(zRI.1 cE).1
      have cP:decide ((0:Int)<k)=true:=decide_eq_true (by omega)
      have sV:=(Ro.refl b).rD cE (.own (Is.flatMap tv) 139 4 k false)
      obtain⟨v',A6,B6,hv',s7⟩:=rr (Gh.ro sV) (by omega) ([115,101,114,118,105,99,101]:List UInt8) (by decide) (x:=⟨6,[],.aj,.o q k⟩) (d:=4) ⟨by simp,.inr (.inr (.inl rfl)),[],Is,.inl ⟨rfl,rfl⟩,.inr ⟨q,by rw[Gu],by rw[zRN kf,Gu]⟩,by simp,by omega,by simp,by simp,by simp,fun x hx=>(DU x hx).ro sV⟩
      have u7:=hv'.one
      refine gA (zRH h2 (zRH h3 (zRH h4 (zRH mr (zRH lM (zRH mQ (zRH bg (zRH p7 (zRH ml (zRH eX (zRH o3 cP))))))))))) ?_
      refine ae (mz cE s7) ?_
      rintro r b1 ⟨rfl,rfl⟩
      have Bq:=aw eX (show q≠bs.length+1 by omega) (.own (Is.flatMap tv) 139 4 k false)
      have hb42:=aw p7 (show q≠bs.length+4 by omega) (.own (Is.flatMap tv) 139 4 k false)
      have fg:=bc.set (j:=q) (by omega) (.own (Is.flatMap tv) 139 4 k false)
      have kJ:bs.length+1<(b.set q (.own (Is.flatMap tv) 139 4 k false)).length:=by simpa using sZ
      have Md:bs.length+4<(b.set q (.own (Is.flatMap tv) 139 4 k false)).length:=by simpa using hb4l
      generalize b.set q (.own (Is.flatMap tv) 139 4 k false)=b2 at *
      have qI:∀ (l:List av) Y X,(b2.set (bs.length+4) Y++l).set (bs.length+1) X=(b2.set (bs.length+4) Y).set (bs.length+1) X++l:=fun l Y X=>aO (by simpa using kJ) l X
      have hset4:∀ (l:List av) X,(b2++l).set (bs.length+4) X=b2.set (bs.length+4) X++l:=fun l X=>aO Md l X
      have Bl:∀ (l:List av) Y X,((b2.set (bs.length+4) Y).set (bs.length+1) X++l)[bs.length+1]? = some X:=fun l Y X=>cA (by simpa using kJ) X l
      have Em:∀ (l:List av) Y,(b2.set (bs.length+4) Y++l)[bs.length+1]? = _:=fun l Y=>ad (aw Bq (by omega) Y) l
      have hg4:∀ (l:List av) X,(b2.set (bs.length+4) X++l)[bs.length+4]? = some X:=fun l X=>cA Md X l
      simp only[cz,↓Xn,↓Xo,↓Xg,↓Xd,↓Xe,↓Xf,Tryz.VΓ,Tryz.Γs,Xp,Xi,Nat.reduceAdd,Nat.reduceSub,Nat.reduceLT,Nat.reduceLeDiff,reduceIte,reduceCtorEq,Nat.reduceEqDiff,implies_true,forall_const,cw,eb,beq_self_eq_true,bne_self_eq_false,Int.reduceBEq,Int.reduceBNe,Int.reduceLT,Int.reduceLE,h2,h3,h4,qI,hset4,Bl,Em,hg4,ad Bq,ad hb42,u7,tv]
      have o9:=((fg.set (j:=bs.length+4) (by omega) (.cells [.int .i64 v'.k,.str v'.t,v'.xk,v'.xi] 139 true)).set (j:=bs.length+1) (by omega) (.cells [.int .i64 v'.k,.str v'.t,v'.xk,v'.xi] 139 true)).app [A6,B6]
      exact⟨by simpa using o9.1,v',rfl,o9.hZ,((hv'.ro ((((Ro.refl b2).cell hb42 _).cell (aw Bq (by omega) _) _).pre (by simp) [A6,B6] [])).ro (gI (by simpa using o9.1)).ro).tr (by omega)⟩
theorem fI.hZ {i:Nat}{a b:List av}(h:fI i a b):fI i a (hZ a.length b):=⟨by rw[uL];exact h.1,fun k hk hn=>by rw[uK hk h.1];exact h.2 k hk hn⟩
theorem aW.ro {a b:List av}{i:Nat}{L:List Int}(h:aW a i L)(hi:b[i]? = a[i]?)(hr:Ro a b):aW b i L:=by
 obtain⟨x,hx,hs,hq⟩:=h
 refine⟨x,hi.trans hx,?_,hq⟩
 rcases hs with h|⟨j,h1,h2,h3⟩
 ·exact .inl h
 ·exact .inr ⟨j,h1,h2,hr _ _ _ _ _ h3⟩
theorem aW.hZ {b:List av}{i lo:Nat}{L:List Int}(h:aW b i L)(hi:i<lo)(hl:lo≤b.length):aW (hZ lo b) i L:=h.ro (uK hi hl) (gI hl).ro
theorem EU {bs:List av}{i:Nat}{L:List Int}(h:aW bs i L)(id:Bytes)(hid:id.length≤10000):SC Tryz.V 124 [.p i 0,.str id] bs (fun r b=>∃ S L',Rv b r S∧S.length≤2∧(∀ s∈S,Pb b s)∧aW b i L'∧fI i bs b):=by
 have dF:i<bs.length:=by obtain⟨x,hi,-⟩:=h;exact(zRI.1 hi).1
 refine SC.th ?_
 refine bo 3000 Tryz.func124 rfl Tryz.ntmps124 Tryz.results124 Tryz.call124 (by simp) (ah bs.length _ (by simp[within,within.ax,dF])) ?_
 refine mc ?_
 refine ae (eA h 3 (by omega)) ?_
 rintro r b ⟨v,L1,rfl,hv,h,hk⟩
 have x9:=hk.1
 by_cases hv0:0<v
 ·have e0:decide (0<v)=true:=decide_eq_true hv0
  refine gB e0 ?_
  exact⟨x9,[],_,.inl ⟨rfl,rfl⟩,by simp,by simp,h.hZ dF x9,hk.hZ⟩
 have e0:decide (0<v)=false:=decide_eq_false hv0
 have s1:=iB (bs:=b++[.own [.str [70]] 9 1 1 true]) (h.app _) [([104,116,116,112,115,58,47,47,97,46,101,120,97,109,112,108,101,47,102,47]:List UInt8),([104,116,116,112,115,58,47,47,98,46,101,120,97,109,112,108,101,47,120,63,121,35,122]:List UInt8),([104,116,116,112,58,47,47,99,46,101,120,97,109,112,108,101,47]:List UInt8),([110,111,116,104,105,110,103]:List UInt8)] (n:=4) (m:=100) rfl (by omega) (by decide) rfl
 simp only[zRY,zRT,zR4,zRP,zRQ,zRU,Nat.zero_add,zRS,zRV]at s1
 refine gA e0 ?_
 refine⟨by omega,by omega,by omega,ae s1 ?_⟩
 rintro r b2 ⟨s,L2,rfl,hs,h2,bJ⟩
 have qN:=bJ.1
 simp only[zRP,zRQ,zRU]at qN
 have hF:=bJ.at (aI b _) (by omega)
 have o9:=(hk.app _).trans bJ
 refine dV ?_
 refine⟨by omega,by omega,by omega,by omega,by omega,by omega,?_⟩
 have rL:=o9.1
 have rs:∀ (B:List av) (j:Nat) (x:Bytes),bs.length≤j→B[j]? = some (.own [.str x] 9 1 1 true)→Rs (hZ bs.length B) (.o j 1) [x]:=fun B j x hl hj=>.inr ⟨j,rfl,by rw[iy hl hj];rfl⟩
 refine⟨[⟨id++[35,102,105,108,101,115],.o b.length 1,.o b2.length 1⟩,⟨id++[35,107],.o (b2.length+1) 1,.o (b2.length+2) 1⟩],L2,.inr ⟨b2.length+3,rfl,?_⟩,by simp,?_,(h2.app _).hZ dF (by simp;omega),(o9.app _).hZ⟩
 ·rw[iy (by omega) (aU b2 _ 3)]
  rfl
 ·intro x hx
  simp only[List.mem_cons,List.not_mem_nil,or_false]at hx
  rcases hx with rfl|rfl
  ·refine⟨by simp;omega,[[70]],[s],rs _ _ _ (by omega) (ad hF _),rs _ _ _ (by omega) (aI b2 _),by simp,by simp,by simp,fun y hy=>?_⟩
   rw[zRR.1 hy];omega
  ·exact⟨by simp;omega,[[75]],[[104,116,116,112,115,58,47,47,100,46,101,120,97,109,112,108,101]],rs _ _ _ (by omega) (aU b2 _ 1),rs _ _ _ (by omega) (aU b2 _ 2),by simp,by simp,by simp,by simp⟩
def ra (a:fK):Prop:=a.host.length≤10000∧a.target.length≤10001∧a.raw.length≤3000000∧-9223372036854775808≤a.port∧a.port≤9223372036854775807∧0≤a.fail∧a.fail≤10∧a.since=0∧a.yo=0
def Small (u:bM):Prop:=u.host.length+u.path.length+u.query.length+u.fragment.length≤10000∧-9223372036854775808≤u.port∧u.port≤9223372036854775807
theorem Small.fair {u:bM}(h:Small u):Fair u:=⟨by have:=h.1;omega,h.2⟩
theorem Small.Mn {u:bM}(h:Small u){raw:Bytes}(hr:raw.length≤3000000):ra (dj u raw):=by
 obtain⟨h1,h2,h3⟩:=h
 refine⟨by simp only[dj];omega,?_,hr,h2,h3,by simp[dj],by simp[dj],rfl,rfl⟩
 simp only[dj,bT]
 split
 ·simp;omega
 ·omega
theorem aW.ox {b:List av}{i:Nat}{L:List Int}(h:aW b i L){k:Nat}{c:List SV}{T:TypeId}{m:Bool}(hk:b[k]? = some (.cells c T m))(hn:k≠i)(X:av):aW (b.set k X) i L:=h.ro (zRO hn) ((Ro.refl b).cell hk X)
theorem lC {st:Nat}(hY:st≤1000000000)(fs:List (Bytes × Bytes))(body:Bytes)(hb:body.length≤1000000000):(eH st fs body false).length≤cF fs+4 * fs.length+body.length+200:=by
 have h1:=iL st hY (fs++[(yd,bW body.length)])
 have h2:=cI 9 body.length (by omega)
 rw[gh]at h1
 simp only[cF,zRP,zRQ,zRU]at h1
 have iU:yd.length=14:=rfl
 unfold eH Di
 simp only[Bool.false_eq_true,if_false,zRP]
 omega
theorem yD {bs:List av}{i:Nat}{L:List Int}(h:aW bs i L)(u:bM)(hu:Small u):SC Tryz.V 71 [.p i 0,.agg (uc u)] bs (fun r b=>∃ a L',r=.agg (ac a)∧ra a∧aW b i L'∧fI i bs b):=by
 have dF:i<bs.length:=by obtain⟨x,hi,-⟩:=h;exact(zRI.1 hi).1
 have hY:∀ v:Int,0≤v→v<5→∃ st:Nat,st≤1000∧([.int .i64 404,.int .i64 410,.int .i64 500,.int .i64 403,.int .i64 204]:List SV)[v.toNat * 1]? = some (.int .i64 st):=fun v h1 h2=>by
  have:v=0∨v=1∨v=2∨v=3∨v=4:=by omega
  rcases this with rfl|rfl|rfl|rfl|rfl
  ·exact⟨404,by omega,rfl⟩
  ·exact⟨410,by omega,rfl⟩
  ·exact⟨500,by omega,rfl⟩
  ·exact⟨403,by omega,rfl⟩
  ·exact⟨204,by omega,rfl⟩
 obtain⟨nB,sY,oK,jI,uA⟩:=tl (h.app [.cells (uc u) 35 true,.cells (ac ⟨[],0,[],[],0,0,0⟩) 33 true]) 5 (by omega)
 have hv:=qD L (n:=5) (by omega)
 obtain⟨st,hst1,hst2⟩:=hY _ hv.1 hv.2
 generalize jv L 5=v at uA hv hst2
 have p1:=eP u hu.fair (eH st [] [] false)
 refine sC (fun n=>if n=1 then .ord [0,2,3,1,4,5,6,7,8,9] else .ord []) 3000 Tryz.func71 rfl Tryz.ntmps71 Tryz.results71 Tryz.call71 (by simp) (ah bs.length _ (by simp[within,within.ax,uc,dF])) ?_
 have dL:=jI.at (aI bs _) (by omega)
 have eX:=jI.at (aU bs _ 1) (by omega)
 have bc:fI i bs nB:=(fI.of ((Kp.refl bs).app _)).trans jI
 have hnl2:bs.length+2≤nB.length:=by have:=jI.1;simp at this;omega
 have pJ:=jI.outs sY
 simp only[uc,ac,zRP,zRQ,zRU,Nat.zero_add]at uA jI sY dL eX pJ
 unfold uc
 refine dV ?_
 refine⟨Fk (by kernel_rfl),bG [(i,0,0),(bs.length+2,0,0)] uA pJ ?_⟩
 have s1:=fun(B:List av)=>e9 (bs:=B) (x:=.aj) (fs:=[]) (.inl ⟨rfl,rfl,rfl⟩) (by decide) (by decide) st (by omega) [] (by simp) false
 refine gA hst2 ?_
 refine⟨by omega,hv,by omega,?_⟩
 refine bG [] (s1 _) (fun _ _ _=>rfl) ?_
 refine dV ?_
 unfold uc ac at p1
 (refine aY (p1) ?_;refine dV ?_)
 refine⟨?_,ae (eA (oK.app _) 8 (by omega)) ?_⟩
 ·have hv5:v=0∨v=1∨v=2∨v=3∨v=4:=by omega
  have z1:(bs.length=i)=False:=eq_false (by omega)
  have z2:(bs.length+2=i)=False:=eq_false (by omega)
  have z3:(nB.length=i)=False:=eq_false (by omega)
  have z4:(nB.length+1=i)=False:=eq_false (by omega)
  have z5:(bs.length+2=bs.length)=False:=eq_false (by omega)
  have z6:(nB.length=bs.length)=False:=eq_false (by omega)
  have z7:(nB.length+1=bs.length)=False:=eq_false (by omega)
  have z8:(bs.length+2=nB.length+1)=False:=eq_false (by omega)
  have z9:(nB.length=nB.length+1)=False:=eq_false (by omega)
  refine bO (fun n=>if n=i then 0 else if n=bs.length then 1 else if n=nB.length+1 then 3 else 2) ?_
  simp only[zRS,zRV,cW,eS,z1,z2,z3,z4,z5,z6,z7,z8,z9,eq_self,if_true,if_false]
  rcases hv5 with rfl|rfl|rfl|rfl|rfl <;> exact aq (by kernel_rfl)
 rintro r b ⟨w,L2,rfl,hw,h2,bJ⟩
 have o9:=(bc.app _).trans bJ
 have hc5:=bJ.at (aU nB _ 1) (by omega)
 have hc4:=bJ.at (ad eX _) (by omega)
 have hcl5:=(zRI.1 hc5).1
 have hcl4:=(zRI.1 hc4).1
 have mh:=o9.1
 have s5:∀ X,(b.set (nB.length+1) X)[nB.length+1]? = some X:=fun X=>zRN hcl5
 have s4:∀ X,(b.set (bs.length+1) X)[bs.length+1]? = some X:=fun X=>zRN hcl4
 have s45:∀ X Y,((b.set (nB.length+1) X).set (bs.length+1) Y)[bs.length+1]? = some Y:=fun X Y=>zRN (by simpa using hcl4)
 have t4:=fun X=>aw hc4 (show nB.length+1≠bs.length+1 by omega) X
 have zK:(eH st [] [] false).length≤3000000:=by
  have:=lC (st:=st) (by omega) [] [] (by simp)
  simp[cF]at this
  omega
 have w1:(w==1)=true∨(w==1)=false:=by cases w==1 <;> simp
 have w2:(w==2)=true∨(w==2)=false:=by cases w==2 <;> simp
 have w3:(w==3)=true∨(w==3)=false:=by cases w==3 <;> simp
 rcases w1 with w1|w1
 ·refine gA (zRH w1 (zRH hc5 (zRH hc4 (zRH s5 (zRH s45 t4))))) ?_
  exact⟨⟨u.host,u.port,bT u,_,0,0,0⟩,_,rfl,hu.Mn (raw:=[72,84,84,80,47,49,46,49,32,50,48,48,32,79,75,13,10,99,111,110,116,101,110,116,45,108,101,110,103,116,104,58,32,57,13,10,13,10,97,98,99]) (by simp),(h2.ox hc5 (by omega) _).ox (t4 _) (by omega) _,(o9.gT (by omega) _).gT (by omega) _⟩
 rcases w2 with w2|w2
 ·refine gA (zRH w1 w2) ?_
  refine ae (eA h2 4 (by omega)) ?_
  rintro r b3 ⟨x,L3,rfl,hx,h3,eF⟩
  have hkk3:=o9.trans eF
  have hc53:=eF.at hc5 (by omega)
  have hc43:=eF.at hc4 (by omega)
  have hcl53:=(zRI.1 hc53).1
  have hcl43:=(zRI.1 hc43).1
  have s5:∀ X,(b3.set (nB.length+1) X)[nB.length+1]? = some X:=fun X=>zRN hcl53
  have s45:∀ X Y,((b3.set (nB.length+1) X).set (bs.length+1) Y)[bs.length+1]? = some Y:=fun X Y=>zRN (by simpa using hcl43)
  have t4:=fun X=>aw hc43 (show nB.length+1≠bs.length+1 by omega) X
  refine gA (zRH hc53 (zRH hc43 (zRH s5 (zRH s45 t4)))) ?_
  have hA:=hu.Mn zK
  refine⟨by omega,⟨u.host,u.port,bT u,_,1+x,0,0⟩,_,rfl,⟨hA.1,hA.2.1,hA.2.2.1,hA.2.2.2.1,hA.2.2.2.2.1,by simp only;omega,by simp only;omega,rfl,rfl⟩,(h3.ox hc53 (by omega) _).ox (t4 _) (by omega) _,(hkk3.gT (by omega) _).gT (by omega) _⟩
 rcases w3 with w3|w3
 ·refine gA (zRH w1 (zRH w2 (zRH w3 (zRH hc5 (zRH hc4 (zRH s5 (zRH s45 t4))))))) ?_
  exact⟨⟨u.host,u.port,bT u,_,0,0,0⟩,_,rfl,hu.Mn (raw:=[110,111,110,115,101,110,115,101]) (by simp),(h2.ox hc5 (by omega) _).ox (t4 _) (by omega) _,(o9.gT (by omega) _).gT (by omega) _⟩
 ·refine gA (zRH w1 (zRH w2 (zRH w3 (zRH hc5 (zRH hc4 s4))))) ?_
  exact⟨dj u (eH st [] [] false),_,rfl,hu.Mn zK,h2.ox hc4 (by omega) _,o9.gT (by omega) _⟩
end Go.Proofs.YtnmlimehgifadaaGreatDoor
