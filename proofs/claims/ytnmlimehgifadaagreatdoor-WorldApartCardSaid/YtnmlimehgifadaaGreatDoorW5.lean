/- Texts of this claim, laid together: UrlW2, RefUri, RefUri2, RefUri3, RefPct, RefPct2, RefUrl, UrlW3, UrlW4, RedirW, WorldP, WorldW, WorldW2, WorldW3, OwnRow, DiceW, BodyP, BodyQ, CutP, Body, Body2, Body3, RefBody, Law19, Row, Bld2, CutW, HeadP, FetchP, FetchQ, HeadQ, HopsP, MadeR, MadeA, MadeB, TreeP, Pick. -/
import Derived.Shelf.SlicesE.Clone
import Derived.Deep.RegionWith
import Derived.Deep.QuietTactic
import Derived.BigQuiet
import Derived.StillTailTactics
import Derived.Lib.Join
import Derived.Test.YtnmlimehgifadaaGreatDoorW4
open And renaming intro → zLw
open List renaming getElem?_eq_some_iff → zLx, length_cons → zLy, length_nil → zLz, length_drop → zLA, getElem?_append_left → zLB, length_append → zLC, getElem?_set_ne → zLD, getElem?_eq_getElem → zLF, getElem?_append_right → zLG, getElem?_set_self → zLH, length_take → zLI, take_succ_eq_append_getElem → zLJ, cons_append → zLK, getElem?_eq_none → zLO, head?_drop → zLR, toArray → zLS, getElem_mem → zLU, flatMap_append → zLW, drop_of_length_le → zLX, take_length → zLY, mem_append → zLZ
open Int renaming toNat_natCast → zLL
open Option renaming some → zLM
open Nat renaming ne_of_lt → zLN, le_refl → zLP, lt_or_ge → zLQ
open Bool renaming and_eq_true → zLV
set_option linter.all false
set_option maxHeartbeats 16000000
set_option maxRecDepth 20000
namespace Go.Proofs.YtnmlimehgifadaaGreatDoor
open Go Vc Go.RowKit Wf
theorem tc (a:Bytes)(h:(aF a).2=0):(aF a).1.1.length≤253∧0≤(aF a).1.2∧(aF a).1.2≤65535:=by
 have:=ck (s:=a) (x:=(aF a).1.1) (p:=(aF a).1.2) (by rw[← h])
 omega
theorem Bi (s:Bytes):PC Tryz.V 93 [.str s] (.fF [cR (a7 s).1,.int .i64 (a7 s).2]):=by
 refine aV 3000 Tryz.func93 rfl Tryz.ntmps93 Tryz.results93 Tryz.call93 (by simp) (by simp[flat,flat.af]) (by simp[flat,flat.af,cR]) ?_
 refine bo ?_
 refine⟨fun h=>?_,fun h=>?_⟩
 ·have:a7 s=(cX.none,5):=if_pos (by simp at h;omega)
  rw[this];rfl
 have hl:¬ 4096<s.length:=(by simp at h;omega)
 have hq:a7 s=if (aM s).2≠0 then(cX.none,(aM s).2) else sB (aM s).1:=if_neg hl
 rw[hq]
 have ps:=Bj s
 unfold rl at ps
 have hp:=uE s
 have hz:=oU s
 revert ps hp hz
 generalize aM s=us
 obtain⟨r,c⟩:=us
 intro ps hp hz
 simp only at ps hp hz
 simp only
 unfold Uri.size at hz
 have pl:=p_Equal r.scheme dw (by omega) (by decide)
 have pn:=DN r.authority 64
 have ph:=qx r.authority (by omega)
 have p1:=nw r.path cU (by decide)
 have p2:=nw r.query cI (by decide)
 have p3:=nw r.fragment cI (by decide)
 (refine aa (ps) ?_;refine bo ?_)
 refine⟨fun h1=>?_,fun h1=>?_⟩
 ·rw[if_pos (by simpa using h1)];rfl
 rw[if_neg (by simpa using h1)]
 unfold sB
 cases ou:r.bX
 ·refine gN ou ?_
  rw[if_pos (.inl trivial)];rfl
 refine gN ou ?_
 rw[show lower dw=dw by decide]at pl
 (refine aa pl ?_;refine gN ou ?_)
 refine⟨fun h2=>?_,fun h2=>?_⟩
 ·rw[if_pos (.inr (by simpa using h2))];rfl
 rw[if_neg (by simpa using h2)]
 cases I0:r.a8
 ·refine gN I0 ?_
  rfl
 refine gN I0 ?_
 (refine aa pn ?_;refine gN I0 ?_)
 refine⟨fun h3=>?_,fun h3=>?_⟩
 ·rw[if_pos (by simpa using h3)];rfl
 rw[if_neg (by simpa using h3)]
 unfold kY
 (refine aa ph ?_;refine gN I0 ?_)
 refine⟨fun h4=>?_,fun h4=>?_⟩
 ·rw[if_pos (by simpa using h4)];rfl
 rw[if_neg (by simpa using h4)]
 have hN1:=eW cU r.path
 have hN2:=eW cI r.query
 have hN3:=eW cI r.fragment
 have hH:=tc r.authority (by simpa using h4)
 have p4:=rM (bk cU r.path).1 (by omega)
 have hD:=gq (bk cU r.path).1
 generalize bk cU r.path=n1 at p1 p4 hN1 hD ⊢
 generalize bk cI r.query=n2 at p2 hN2 ⊢
 generalize bk cI r.fragment=n3 at p3 hN3 ⊢
 generalize (aF r.authority).1=hp at hH ⊢
 obtain⟨n1,e1⟩:=n1
 obtain⟨n2,e2⟩:=n2
 obtain⟨n3,e3⟩:=n3
 obtain⟨hh,pp⟩:=hp
 simp only at p1 p2 p3 p4 hN1 hN2 hN3 hH hD ⊢
 (refine aa p1 ?_;refine bo ?_)
 refine⟨fun h5=>?_,fun h5=>?_⟩
 ·rw[if_pos (by simpa using h5)];rfl
 rw[if_neg (by simpa using h5)]
 (refine aa p2 ?_;refine bo ?_)
 refine⟨fun h6=>?_,fun h6=>?_⟩
 ·rw[if_pos (by simpa using h6)];rfl
 rw[if_neg (by simpa using h6)]
 (refine aa p3 ?_;refine bo ?_)
 refine⟨fun h7=>?_,fun h7=>?_⟩
 ·rw[if_pos (by simpa using h7)];rfl
 rw[if_neg (by simpa using h7)]
 unfold lG
 (refine aa p4 ?_;refine bo ?_)
 generalize aG n1=d at hD ⊢
 have fin:∀ d':Bytes,d'.length≤4096 * 6→PC Tryz.V 94 [cR ⟨hh,pp,d',n2,n3,r.aN,r.aZ⟩] (.str (aT ⟨hh,pp,d',n2,n3,r.aN,r.aZ⟩)):=fun d' hd' =>
  qs _ ⟨by simp only;omega,by simp only;omega,by simp only;omega⟩
 unfold cR at fin
 refine⟨fun h8=>?_,fun h8=>?_⟩
 ·have f1:=fin [47] (by decide)
  have h8':d=[]:=by simpa using h8
  rw[if_pos h8']
  (refine aa f1 ?_;refine bo ?_)
  refine⟨fun h9=>?_,fun h9=>?_⟩
  ·rw[if_pos (by simp at h9;omega)];rfl
  ·rw[if_neg (by simp at h9;omega)];rfl
 ·have f1:=fin d (by omega)
  have h8':¬ d=[]:=by simpa using h8
  rw[if_neg h8']
  (refine aa f1 ?_;refine bo ?_)
  refine⟨fun h9=>?_,fun h9=>?_⟩
  ·rw[if_pos (by simp at h9;omega)];rfl
  ·rw[if_neg (by simp at h9;omega)];rfl
theorem pre_hit {p:UInt8→Bool}{s:Bytes}{k:Nat}(hk:k<s.length)(h:k≤pre p s)(hp:p s[k]=true):pre p s=k:=by
 rcases zLQ k (pre p s) with h1|h1
 ·rw[ib h1 hk]at hp;cases hp
 ·omega
theorem HP {p:UInt8→Bool}{s:Bytes}{k:Nat}(hk:k<s.length)(h:k≤pre p s)(hp:p s[k]=false):k+1≤pre p s:=by
 rcases zLQ k (pre p s) with h1|h1
 ·exact h1
 ·have e:pre p s=k:=by omega
  have h2:=gr (p:=p) (l:=s) (by omega)
  simp only[e]at h2
  rw[hp]at h2;cases h2
theorem uH (s:Bytes):(cF s=0∧∀ j (h:j<s.length),s[j]≠47)∨(∃ i,∃ h:i<s.length,cF s=i+1∧s[i]=47∧∀ j (hj:j<s.length),i<j→s[j]≠47):=by
 have e:∀ j (h:j<s.length),(⟨zLS s⟩:ByteArray).data[j]! = s[j]:=fun j h=>by simp[h]
 have hb:=nF s
 have hz:(⟨zLS s⟩:ByteArray).size=s.length:=rfl
 rcases Lib.lastIndexByte_spec ⟨zLS s⟩ (UInt8.toNat 47) with⟨h1,h2⟩|⟨i,h1,h2,h3,h4⟩
 ·left
  refine⟨?_,fun j hj hs=>h2 j hj ?_⟩
  ·have:qF s 47=-1:=h1
   omega
  ·rw[e j hj,hs]
 ·right
  rw[hz]at h1
  refine⟨i,h1,?_,?_,fun j hj hij hs=>h4 j hij hj ?_⟩
  ·have:qF s 47=i:=h2
   omega
  ·rw[e i h1]at h3
   exact UInt8.toNat_inj.1 (by exact_mod_cast h3)
  ·rw[e j hj,hs]
theorem rD {s:Bytes}{k:Nat}(hk:k<s.length)(h:cF s≤k+1)(hs:s[k]=47):cF s=k+1:=by
 rcases uH s with⟨-,h2⟩|⟨i,hi,h1,h2,h3⟩
 ·exact absurd hs (h2 k hk)
 ·rcases zLQ i k with h4|h4
  ·exact absurd hs (h3 k hk h4)
  ·omega
theorem oX {s:Bytes}{k:Nat}(hk:k<s.length)(h:cF s≤k+1)(hs:s[k]≠47):cF s≤k:=by
 rcases uH s with⟨h1,-⟩|⟨i,hi,h1,h2,h3⟩
 ·omega
 ·rcases zLQ i k with h4|h4
  ·omega
  ·have:i=k:=by omega
   subst this
   exact absurd h2 hs
theorem iS (c:UInt8)(set:Bytes)(ht:set.length≤4294967281):PC Tryz.V 84 [.int .u8 c.toNat,.str set] (.bool (set.contains c)):=by
 refine aV 3000 Tryz.func84 rfl Tryz.ntmps84 Tryz.results84 Tryz.call84 (by simp) (by simp[flat,flat.af]) (by simp[flat,flat.af]) ?_
 refine bo ?_
 refine az (fun σ=>∃ k:Nat,k≤set.length∧(set.take k).contains c=false∧lk 0 σ.t=some (.int .u8 c.toNat)∧lk 1 σ.t=some (.str set)∧lk 4 σ.t=some (.bool false)∧lk 5 σ.t=some (.int .i64 k)) (fun σ=>set.length - fC 5 σ) ⟨0,by omega,rfl,rfl,rfl,rfl,rfl⟩ ?_
 rintro⟨t,b⟩ ⟨k,hk,hc,h0,h1,h4,h5⟩
 simp only at h0 h1 h4 h5
 rw[ao h5]
 refine gN (zLw h0 (zLw h1 (zLw h4 h5))) ?_
 refine⟨fun h=>?_,fun h=>?_⟩
 ·have hk':k<set.length:=by simpa using h
  rw[cK (n:=c.toNat) hk' c rfl]
  refine⟨by omega,fun e=>?_,fun e=>⟨by omega,⟨k+1,by omega,?_,by simp⟩,by rw[ao rfl];omega⟩⟩
  ·rw[show set.contains c=true from List.contains_iff_mem.2 (by rw[← beq_iff_eq.1 e];exact zLU hk')]
  ·apply Bool.eq_false_iff.2
   intro hh
   rw[List.contains_iff_mem,zLJ hk',zLZ]at hh
   rcases hh with hh|hh
   ·exact absurd (List.contains_iff_mem.2 hh) (by rw[hc];simp)
   ·have hh:=List.mem_singleton.1 hh
    rw[← hh]at e
    simp at e
 ·have:k=set.length:=by simp at h;omega
  subst this
  rw[zLY]at hc
  rw[hc]
theorem bK (s p:Bytes):PC Tryz.V 83 [.str s,.str p] (.bool (Lib.hasPrefix s p)):=by
 refine aV 3000 Tryz.func83 rfl Tryz.ntmps83 Tryz.results83 Tryz.call83 (by simp) (by simp[flat,flat.af]) (by simp[flat,flat.af]) ?_
 refine bo ?_
 have e:Lib.hasPrefix s p=(s.take p.length==p):=by
  rw[Bool.eq_iff_iff,Lib.hasPrefix,List.isPrefixOf_iff_prefix,List.prefix_iff_eq_take,beq_iff_eq]
  exact eq_comm
 refine⟨fun h=>⟨by simp at h;omega,by rw[e]⟩,fun h=>?_⟩
 rw[e,show (s.take p.length==p)=false from beq_eq_false_iff_ne.2 fun q=>by
  have:=congrArg List.length q
  simp at h this
  omega]
theorem bj (s set:Bytes)(hs:s.length≤4294967281)(ht:set.length≤4294967281):PC Tryz.V 34 [.str s,.str set] (.int .i64 (pre (set.contains ·) s)):=by
 refine aV 3000 Tryz.func34 rfl Tryz.ntmps34 Tryz.results34 Tryz.call34 (by simp) (by simp[flat,flat.af]) (by simp[flat,flat.af]) ?_
 refine bo ?_
 refine az (fun σ=>∃ k:Nat,k≤s.length∧k≤pre (set.contains ·) s∧lk 0 σ.t=some (.str s)∧lk 1 σ.t=some (.str set)∧lk 5 σ.t=some (.int .i64 k)) (fun σ=>s.length - fC 5 σ) ⟨0,by omega,by omega,rfl,rfl,rfl⟩ ?_
 rintro⟨t,b⟩ ⟨k,hk,hc,h0,h1,h5⟩
 simp only at h0 h1 h5
 rw[ao h5]
 refine gN (zLw h0 (zLw h1 h5)) ?_
 have fP:=cw (set.contains ·) s
 refine⟨fun h=>?_,fun h=>?_⟩
 ·have hk':k<s.length:=by simpa using h
  have tg:=iS (s.getD k 0) set ht
  refine⟨by omega,?_⟩
  (refine aa (tg) ?_;refine gN (zLw h0 (zLw h1 h5)) ?_)
  rw[show s.getD k 0=s[k] by simp[List.getD,hk']]
  refine⟨fun e=>?_,fun e=>⟨by omega,⟨k+1,by omega,HP hk' hc e,by simp⟩,by rw[ao rfl];omega⟩⟩
  rw[pre_hit hk' hc e]
 ·have:k=s.length:=by simp at h;omega
  rw[show pre (set.contains ·) s=s.length by omega]
theorem qt (s:Bytes)(hs:s.length≤4294967281):PC Tryz.V 90 [.str s] (.str (dg s)):=by
 refine aV 3000 Tryz.func90 rfl Tryz.ntmps90 Tryz.results90 Tryz.call90 (by simp) (by simp[flat,flat.af]) (by simp[flat,flat.af]) ?_
 refine bo ?_
 refine⟨by omega,az (fun σ=>∃ k:Nat,k≤s.length∧cF s≤k∧lk 0 σ.t=some (.str s)∧lk 3 σ.t=some (.int .i64 ((k:Int) - 1))) (fun σ=>match lk 3 σ.t with|some (.int _ n)=>(n+1).toNat|_=>0) ⟨s.length,by omega,iW s,rfl,rfl⟩ ?_⟩
 rintro⟨t,b⟩ ⟨k,hk,hc,h0,h3⟩
 simp only at h0 h3
 refine gN (zLw h0 h3) ?_
 refine⟨fun h=>?_,fun h=>?_⟩
 ·have lh:0<k:=by simp at h;omega
  obtain⟨k,rfl⟩:∃ m,k=m+1:=⟨k - 1,by omega⟩
  have e:(((k+1:Nat):Int) - 1).toNat=k:=by omega
  rw[e,cK (n:=47) (by omega) 47 rfl]
  refine⟨by omega,fun q=>⟨by omega,?_⟩,fun q=>⟨by omega,⟨k,by omega,oX (by omega) hc (by simpa using q),?_⟩,by omega⟩⟩
  ·rw[gl,rD (by omega) hc (by simpa using q)];rfl
  ·congr 1;omega
 ·rw[gl,show cF s=0 by simp at h;omega]
  simp
theorem eJ (s:Bytes)(hs:s.length≤4294967281):PC Tryz.V 37 [.str s] (.str (aG s)):=by
 refine aV 3000 Tryz.func37 rfl Tryz.ntmps37 Tryz.results37 Tryz.call37 (by simp) (by simp[flat,flat.af]) (by simp[flat,flat.af]) ?_
 refine bo ?_
 refine az (fun σ=>∃ (p o:Bytes) (f:Nat),lk 3 σ.t=some (.str p)∧lk 4 σ.t=some (.str o)∧p.length+o.length≤s.length∧p.length≤f∧en f p o=aG s) (fun σ=>match lk 3 σ.t with|some (.str p)=>p.length|_=>0) ⟨s,[],s.length,rfl,rfl,by simp,zLP _,rfl⟩ ?_
 rintro⟨t,b⟩ ⟨p,o,f,h3,h4,hlen,hf,gX⟩
 simp only at h3 h4
 refine gN (zLw h3 h4) ?_
 have qL:p=[]→o=aG s:=fun hp=>by subst hp;cases f <;> simpa[en] using gX
 refine⟨fun hp=>?_,fun hp=>?_⟩
 rotate_left
 ·rw[qL (by simpa using hp)]
 replace hp:p≠[]:=by simpa using hp
 have fP:0<p.length:=List.length_pos_iff.2 hp
 obtain⟨f,rfl⟩:∃ f',f=f'+1:=⟨f - 1,by omega⟩
 rw[en,if_neg hp]at gX
 (refine aa (bK p [46,46,47]) ?_;refine gN (zLw h3 h4) ?_)
 refine⟨fun c1=>?_,fun c1=>?_⟩
 ·have h:=eg c1
  rw[show cJ p o=(p.drop 3,o) from if_pos c1]at gX
  exact⟨⟨by omega,by simp at h;omega⟩,⟨_,_,f,rfl,rfl,by simp;omega,by simp at h ⊢;omega,gX⟩,by simp at h ⊢;omega⟩
 (refine aa (bK p [46,47]) ?_;refine gN (zLw h3 h4) ?_)
 refine⟨fun c2=>?_,fun c2=>?_⟩
 ·have h:=eg c2
  rw[show cJ p o=(p.drop 2,o) by unfold cJ;rw[if_neg (kt c1)];exact if_pos c2]at gX
  exact⟨⟨by omega,by simp at h;omega⟩,⟨_,_,f,rfl,rfl,by simp;omega,by simp at h ⊢;omega,gX⟩,by simp at h ⊢;omega⟩
 (refine aa (bK p [47,46,47]) ?_;refine gN (zLw h3 h4) ?_)
 refine⟨fun c3=>?_,fun c3=>?_⟩
 ·have h:=eg c3
  rw[show cJ p o=(p.drop 2,o) by unfold cJ;rw[if_neg (kt c1),if_neg (kt c2)];exact if_pos c3]at gX
  exact⟨⟨by omega,by simp at h;omega⟩,⟨_,_,f,rfl,rfl,by simp;omega,by simp at h ⊢;omega,gX⟩,by simp at h ⊢;omega⟩
 refine⟨fun c4=>?_,fun c4=>?_⟩
 ·have h:p=[47,46]:=by simpa using c4
  subst h
  exact⟨⟨_,_,f,rfl,rfl,by simp at hlen ⊢;omega,by simp at hf ⊢;omega,gX⟩,by simp⟩
 have n4:¬ p=[47,46]:=by simpa using c4
 have Gd:cJ p o=if [47,46,46,47].isPrefixOf p then(p.drop 3,dg o)
  else if p=[47,46,46] then([47],dg o)
  else if p=[46]∨p=[46,46] then([],o)
  else(p.drop (1+pre (·==47) (p.drop 1)),o++p.take (1+pre (·==47) (p.drop 1))):=by
  unfold cJ;rw[if_neg (kt c1),if_neg (kt c2),if_neg (kt c3),if_neg n4]
 rw[Gd]at gX
 have oq:(dg o).length≤o.length:=by rw[gl,zLI];exact Nat.min_le_right _ _
 (refine aa (bK p [47,46,46,47]) ?_;refine gN (zLw h3 h4) ?_)
 refine⟨fun c5=>?_,fun c5=>?_⟩
 ·have h:=eg c5
  rw[if_pos (show List.isPrefixOf [47,46,46,47] p=true from c5)]at gX
  refine⟨⟨by omega,by simp at h;omega⟩,?_⟩
  have pd:=qt o (by omega)
  (refine aW (pd) ?_;refine gN (zLw h3 h4) ?_)
  exact⟨(av (by kernel_rfl)),⟨_,_,f,rfl,rfl,by simp;omega,by simp at h ⊢;omega,gX⟩,by simp at h ⊢;omega⟩
 rw[if_neg (kt c5)]at gX
 refine⟨fun c6=>?_,fun c6=>?_⟩
 ·have h:p=[47,46,46]:=by simpa using c6
  subst h
  have pd:=qt o (by omega)
  (refine aa (pd) ?_;refine gN (zLw h3 h4) ?_)
  exact⟨[47],dg o,f,rfl,rfl,by simp at hlen ⊢;omega,by simp at hf ⊢;omega,gX⟩
 rw[if_neg (show ¬ p=[47,46,46] by simpa using c6)]at gX
 refine⟨fun c7=>⟨fun c8=>?_,fun c8=>?_⟩,fun c7=>?_⟩
 ·have h:p=[46,46]:=by simpa using c8
  subst h
  exact⟨⟨_,_,f,rfl,rfl,by simp at hlen ⊢;omega,by simp,gX⟩,by simp⟩
 ·rw[if_neg (show ¬ (p=[46]∨p=[46,46]) by rintro(h|h) <;> subst h <;> simp at c7 c8)]at gX
  have px:=bj (p.drop 1) [47] (by simp;omega) (by simp)
  have hpe:pre (([47]:Bytes).contains ·) (p.drop 1)=pre (·==47) (p.drop 1):=by
   congr 1
   funext c
   by_cases h:c=47
   ·subst h;rfl
   ·simp[h]
  rw[hpe]at px
  have hq:=cw (·==47) (p.drop 1)
  simp only[zLA]at hq
  generalize pre (·==47) (p.drop 1)=q at px gX hq
  refine⟨by omega,?_⟩
  (refine aa (px) ?_;refine gN (zLw h3 h4) ?_)
  have e:(1+(q:Int)).toNat=1+q:=by omega
  have el:(p.take (1+q)).length=1+q:=by rw[zLI];omega
  rw[e]
  exact⟨by omega,by omega,by omega,by rw[el];omega,(av (by kernel_rfl)),⟨_,_,f,rfl,rfl,by simp;omega,by simp;omega,gX⟩,by simp;omega⟩
 ·have h:p=[46]:=by simpa using c7
  subst h
  exact⟨⟨_,_,f,rfl,rfl,by simp at hlen ⊢;omega,by simp,gX⟩,by simp⟩
theorem gv (c:UInt8):PC Tryz.V 147 [.int .u8 c.toNat] (.bool (isAlpha c)):=by
 refine aV 3000 Tryz.func147 rfl Tryz.ntmps147 Tryz.results147 Tryz.call147 (by simp) (by simp[flat,flat.af]) (by simp[flat,flat.af]) ?_
 refine bo ?_
 unfold isAlpha
 by_cases h1:65≤c.toNat <;> by_cases h2:c.toNat≤90 <;> by_cases h3:97≤c.toNat <;> by_cases h4:c.toNat≤122 <;> simp[h1,h2,h3,h4] <;> omega
theorem fk (c:UInt8):PC Tryz.V 148 [.int .u8 c.toNat] (.bool (isDigit c)):=by
 refine aV 3000 Tryz.func148 rfl Tryz.ntmps148 Tryz.results148 Tryz.call148 (by simp) (by simp[flat,flat.af]) (by simp[flat,flat.af]) ?_
 refine bo ?_
 unfold isDigit
 by_cases h1:48≤c.toNat <;> by_cases h2:c.toNat≤57 <;> simp[h1,h2] <;> omega
theorem nd {s:Bytes}{k:Nat}(hk:k<s.length)(hr:k=0∨cO (s.take k)=true)(hc:isAlpha s[k]=true∨(0<k∧eT s[k]=true)):k+1=0∨cO (s.take (k+1))=true:=by
 right
 rcases Nat.eq_zero_or_pos k with h0|h0
 ·subst h0
  rcases hc with hc|⟨hc,-⟩
  ·exact oZ hk hc
  ·omega
 ·refine j8 h0 hk (hr.resolve_left (by omega)) ?_
  rcases hc with hc|⟨-,hc⟩
  ·simp[eT,hc]
  ·exact hc
theorem qB {b:Bool}(h:(!b)=true):b=false:=by cases b <;> simp at h ⊢
theorem qC {b:Bool}(h:(!b)=false):b=true:=by cases b <;> simp at h ⊢
theorem ke (s:Bytes)(hs:s.length≤4294967281):PC Tryz.V 82 [.str s] (.bool (cO s)):=by
 refine aV 3000 Tryz.func82 rfl Tryz.ntmps82 Tryz.results82 Tryz.call82 (by simp) (by simp[flat,flat.af]) (by simp[flat,flat.af]) ?_
 refine bo ?_
 refine az (fun σ=>∃ k:Nat,k≤s.length∧(k=0∨cO (s.take k)=true)∧lk 0 σ.t=some (.str s)∧lk 3 σ.t=some (.int .i64 k)) (fun σ=>s.length - fC 3 σ) ⟨0,by omega,.inl rfl,rfl,rfl⟩ ?_
 rintro⟨t,b⟩ ⟨k,hk,hr,h0,h3⟩
 simp only at h0 h3
 rw[ao h3]
 refine gN (zLw h0 h3) ?_
 refine⟨fun h=>⟨by simpa using h,?_⟩,fun h=>?_⟩
 ·have hk':k<s.length:=by simpa using h
  rw[show s.getD k 0=s[k] by simp[List.getD,hk']]
  (refine aa (gv s[k]) ?_;refine gN (zLw h0 h3) ?_)
  refine⟨fun ca=>⟨fun c0=>?_,fun c0=>?_⟩,fun ca=>⟨by omega,⟨k+1,by omega,nd hk' hr (.inl (qC ca)),by simp⟩,by rw[ao rfl];omega⟩⟩
  ·rw[show s.getD k 0=s[k] by simp[List.getD,hk']]
   refine⟨by omega,?_⟩
   (refine aa (fk s[k]) ?_;refine gN (zLw h0 h3) ?_)
   refine⟨fun cd=>⟨by omega,?_⟩,fun cd=>?_⟩
   ·rw[show s.getD k 0=s[k] by simp[List.getD,hk']]
    (refine aa (iS s[k] [43,45,46] (by simp)) ?_;refine gN (zLw h0 h3) ?_)
    refine⟨fun ci=>?_,fun ci=>⟨by omega,⟨k+1,by omega,nd hk' hr (.inr ⟨by simp at c0;omega,by unfold eT;rw[qC ci];simp⟩),by simp⟩,by rw[ao rfl];omega⟩⟩
    rw[xM (by simp at c0;omega) hk' (by unfold eT;rw[qB ca,qB cd,qB ci];rfl)]
   ·exact⟨by omega,⟨k+1,by omega,nd hk' hr (.inr ⟨by simp at c0;omega,by unfold eT;rw[qC cd];simp⟩),by simp⟩,by rw[ao rfl];omega⟩
  ·have lh:k=0:=by simp at c0;omega
   subst lh
   rw[oE hk' (by simpa using ca)]
 ·rcases hr with hr|hr
  ·have:s=[]:=List.eq_nil_of_length_eq_zero (by simp at h;omega)
   subst this;rfl
  ·rw[List.take_of_length_le (by simp at h;omega)]at hr
   rw[hr]
   cases s with
   | nil=>simp[cO]at hr
   | cons=>rfl
def jD (b r:Uri):Bytes:=if b.a8∧b.path=[] then 47::r.path else b.path.take (cF b.path)++r.path
theorem yy (b r:Uri):kZ b r=if r.path.head? = some 47 then r.path else jD b r:=rfl
theorem Bn (b r:Uri)(hb:b.path.length≤4294967281)(hr:r.path.length≤4294967281):PC Tryz.V 246 [rl b,rl r] (.str (jD b r)):=by
 (refine aV 3000 Tryz.func246 rfl Tryz.ntmps246 Tryz.results246 Tryz.call246 (by simp) (by simp[flat,flat.af,rl]) (by simp[flat,flat.af,rl]) ?_
  unfold rl
  refine bo ?_)
 refine⟨fun ha=>⟨fun hp=>⟨by omega,?_⟩,fun hp=>?_⟩,fun ha=>?_⟩
 ·rw[jD,if_pos ⟨ha,by simpa using hp⟩]
 ·have pq:¬ (b.a8=true∧b.path=[]):=by rintro⟨-,h4⟩;simp[h4]at hp
  (
   refine⟨by omega,az (fun σ=>∃ k:Nat,k≤b.path.length∧cF b.path≤k∧lk 2 σ.t=some (.p 0 0)∧lk 3 σ.t=some (.p 1 0)∧lk 5 σ.t=some (.int .i64 ((k:Int) - 1))∧σ.b=[.cells [.str b.scheme,.str b.authority,.str b.path,.str b.query,.str b.fragment,.bool b.bX,.bool b.a8,.bool b.aN,.bool b.aZ] 82 true,.cells [.str r.scheme,.str r.authority,.str r.path,.str r.query,.str r.fragment,.bool r.bX,.bool r.a8,.bool r.aN,.bool r.aZ] 82 true]) (fun σ=>match lk 5 σ.t with|some (.int _ n)=>(n+1).toNat|_=>0) ⟨b.path.length,by omega,iW _,rfl,rfl,rfl,rfl⟩ ?_⟩
   rintro⟨t,bx⟩ ⟨k,hk,hc,h2,h3,h5,qM⟩
   simp only at h2 h3 h5 qM
   subst qM
   refine gN (zLw h2 (zLw h3 h5)) ?_
   rw[jD,if_neg pq]
   refine⟨fun h=>?_,fun h=>?_⟩
   ·have lh:0<k:=by simp at h;omega
    obtain⟨k,rfl⟩:∃ m,k=m+1:=⟨k - 1,by omega⟩
    have e:(((k+1:Nat):Int) - 1).toNat=k:=by omega
    have e2:(((k+1:Nat):Int) - 1+1).toNat=k+1:=by omega
    rw[e,cK (n:=47) (by omega) 47 rfl]
    refine⟨by omega,fun q=>?_,fun q=>?_⟩
    ·rw[e2,rD (by omega) hc (by simpa using q)]
     exact⟨by omega,by omega,by simp;omega,(av (by kernel_rfl)),rfl⟩
    ·exact⟨by omega,⟨k,by omega,oX (by omega) hc (by simpa using q),by congr 1;omega⟩,by omega⟩
   ·rw[show cF b.path=0 by simp at h;omega]
    simp)
 ·have pq:¬ (b.a8=true∧b.path=[]):=by simp[ha]
  (
   refine⟨by omega,az (fun σ=>∃ k:Nat,k≤b.path.length∧cF b.path≤k∧lk 2 σ.t=some (.p 0 0)∧lk 3 σ.t=some (.p 1 0)∧lk 5 σ.t=some (.int .i64 ((k:Int) - 1))∧σ.b=[.cells [.str b.scheme,.str b.authority,.str b.path,.str b.query,.str b.fragment,.bool b.bX,.bool b.a8,.bool b.aN,.bool b.aZ] 82 true,.cells [.str r.scheme,.str r.authority,.str r.path,.str r.query,.str r.fragment,.bool r.bX,.bool r.a8,.bool r.aN,.bool r.aZ] 82 true]) (fun σ=>match lk 5 σ.t with|some (.int _ n)=>(n+1).toNat|_=>0) ⟨b.path.length,by omega,iW _,rfl,rfl,rfl,rfl⟩ ?_⟩
   rintro⟨t,bx⟩ ⟨k,hk,hc,h2,h3,h5,qM⟩
   simp only at h2 h3 h5 qM
   subst qM
   refine gN (zLw h2 (zLw h3 h5)) ?_
   rw[jD,if_neg pq]
   refine⟨fun h=>?_,fun h=>?_⟩
   ·have lh:0<k:=by simp at h;omega
    obtain⟨k,rfl⟩:∃ m,k=m+1:=⟨k - 1,by omega⟩
    have e:(((k+1:Nat):Int) - 1).toNat=k:=by omega
    have e2:(((k+1:Nat):Int) - 1+1).toNat=k+1:=by omega
    rw[e,cK (n:=47) (by omega) 47 rfl]
    refine⟨by omega,fun q=>?_,fun q=>?_⟩
    ·rw[e2,rD (by omega) hc (by simpa using q)]
     exact⟨by omega,by omega,by simp;omega,(av (by kernel_rfl)),rfl⟩
    ·exact⟨by omega,⟨k,by omega,oX (by omega) hc (by simpa using q),by congr 1;omega⟩,by omega⟩
   ·rw[show cF b.path=0 by simp at h;omega]
    simp)
theorem yX (b r:Uri):(jD b r).length≤1+b.path.length+r.path.length:=by
 unfold jD
 split
 ·simp;omega
 ·simp;omega
theorem zg (b r:Uri)(hb:b.path.length≤2147480000)(hr:r.path.length≤2147480000):PC Tryz.V 200 [rl b,rl r] (rl (eV b r)):=by
 have hml:=yX b r
 have pm:=Bn b r (by omega) (by omega)
 unfold rl at pm
 (refine aV 3000 Tryz.func200 rfl Tryz.ntmps200 Tryz.results200 Tryz.call200 (by simp) (by simp[flat,flat.af,rl]) (by simp[flat,flat.af,rl]) ?_
  unfold rl
  refine bo ?_)
 generalize hR:eV b r=R
 rw[eV]at hR
 refine⟨fun h1=>?_,fun h1=>?_⟩
 ·rw[if_pos h1]at hR
  (refine aa (eJ r.path (by omega)) ?_;refine bo ?_)
  rw[← hR]
 rw[if_neg (by simpa using h1)]at hR
 refine⟨fun h2=>?_,fun h2=>?_⟩
 ·rw[if_pos h2]at hR
  (refine aa (eJ r.path (by omega)) ?_;refine bo ?_)
  rw[← hR]
  exact⟨(av (by kernel_rfl)),rfl⟩
 rw[if_neg (by simpa using h2)]at hR
 refine⟨fun h3=>?_,fun h3=>?_⟩
 ·rw[if_pos (by simpa using h3)]at hR
  refine⟨fun h4=>?_,fun h4=>?_⟩
  ·rw[if_neg (by simpa using h4)]at hR
   rw[← hR]
   exact⟨(av (by kernel_rfl)),(av (by kernel_rfl)),(av (by kernel_rfl)),rfl⟩
  ·rw[if_pos (by simpa using h4)]at hR
   rw[← hR]
   exact⟨(av (by kernel_rfl)),(av (by kernel_rfl)),rfl⟩
 ·rw[if_neg (by simpa using h3),yy]at hR
  (refine aa (pm) ?_;refine bo ?_)
  (refine aa (eJ _ (by omega)) ?_;refine bo ?_)
  have hp0:0<r.path.length:=List.length_pos_iff.2 (by simpa using h3)
  rw[show Int.toNat 0=0 from rfl,cK (n:=47) hp0 47 rfl]
  have hh:r.path.head? = some r.path[0]:=by rw[List.head?_eq_getElem?,zLF hp0]
  rw[hh]at hR
  refine⟨by omega,fun h4=>?_,fun h4=>?_⟩
  ·rw[if_pos (by rw[beq_iff_eq.1 h4])]at hR
   (refine aa (eJ r.path (by omega)) ?_;refine bo ?_)
   rw[← hR]
   exact⟨(av (by kernel_rfl)),(av (by kernel_rfl)),rfl⟩
  ·rw[if_neg (by simpa using h4)]at hR
   rw[← hR]
   exact⟨(av (by kernel_rfl)),(av (by kernel_rfl)),rfl⟩
theorem dW (c:UInt8)(s:Bytes):pre (([c]:Bytes).contains ·) s=pre (·==c) s:=by
 congr 1
 funext x
 by_cases h:x=c
 ·subst h;simp
 ·simp[h]
theorem FK (u:Uri)(h:u.scheme.length+u.authority.length+u.path.length+u.query.length+u.fragment.length≤4611686018427387904):PC Tryz.V 201 [rl u] (.str (fg u)):=by
 (refine aV 3000 Tryz.func201 rfl Tryz.ntmps201 Tryz.results201 Tryz.call201 (by simp) (by simp[flat,flat.af,rl]) (by simp[flat,flat.af,rl]) ?_
  unfold rl
  refine bo ?_)
 unfold fg
 obtain⟨sc,au,pa,qu,fr,b1,b2,b3,b4⟩:=u
 simp only at h ⊢
 cases b1 <;> cases b2 <;> cases b3 <;> cases b4 <;> simp <;> omega
theorem cL {s:Bytes}(h:Lib.hasPrefix s [47,47]=true):aB s=((s.take (2+pre (·==47) (s.drop 2))).drop 2,true,s.drop (2+pre (·==47) (s.drop 2))):=by
 rw[jf h]
 have e:Lib.trimPrefix s [47,47]=s.drop 2:=by unfold Lib.trimPrefix;rw[if_pos h];rfl
 rw[e,List.drop_take,List.drop_drop]
 simp
theorem o7 (s:Bytes):PC Tryz.V 32 [.str s] (.fF [rl (aM s).1,.int .i64 (aM s).2]):=by
 (refine aV 3000 Tryz.func32 rfl Tryz.ntmps32 Tryz.results32 Tryz.call32 (by simp) (by simp[flat,flat.af,rl]) (by simp[flat,flat.af,rl]) ?_
  refine bo ?_)
 refine⟨fun h=>?_,fun h=>?_⟩
 ·have:aM s=(Uri.none,5):=if_pos (by simp at h;omega)
  rw[this];rfl
 ·have hq:aM s=aH (aL 63 (aL 35 s).1).1 (aL 35 s).2.1 (aL 63 (aL 35 s).1).2.1 (aL 35 s).2.2 (aL 63 (aL 35 s).1).2.2:=if_neg (by simp at h;omega)
  rw[hq]
  have hs:s.length≤4294967281:=by simp at h;omega
  have px:=bj s [35] hs (by simp)
  rw[dW]at px
  (refine aa (px) ?_;refine bo ?_)
  refine⟨fun cN=>?_,fun cN=>?_⟩
  ·have hk1':pre (·==35) s<s.length:=by simpa using cN
   rw[show aL 35 s=(s.take (pre (·==35) s),s.drop (pre (·==35) s+1),true) from if_pos hk1']
   simp only
   have wH:(s.take (pre (·==35) s)).length≤4294967281:=by rw[zLI];omega
   refine⟨by omega,by omega,by omega,(av (by kernel_rfl)),?_⟩
   generalize s.take (pre (·==35) s)=s1 at wH ⊢
   generalize s.drop (pre (·==35) s+1)=fr
   (
    have px2:=bj s1 [63] (by omega) (by simp)
    rw[dW]at px2
    (refine aa (px2) ?_;refine bo ?_)
    refine⟨fun bM=>?_,fun bM=>?_⟩
    ·have hk2':pre (·==63) s1<s1.length:=by simpa using bM
     rw[show aL 63 s1=(s1.take (pre (·==63) s1),s1.drop (pre (·==63) s1+1),true) from if_pos hk2']
     simp only
     have jZ:(s1.take (pre (·==63) s1)).length≤4294967281:=by rw[zLI];omega
     refine⟨by omega,by omega,by omega,(av (by kernel_rfl)),?_⟩
     generalize s1.take (pre (·==63) s1)=s2 at jZ ⊢
     generalize s1.drop (pre (·==63) s1+1)=qu
     (
      have px3:=bj s2 [58,47] (by omega) (by simp)
      rw[show pre (([58,47]:Bytes).contains ·) s2=pre aq s2 from rfl]at px3
      (refine aa (px3) ?_;refine bo ?_)
      refine⟨fun eh=>?_,fun eh=>?_⟩
      ·have hp:pre aq s2<s2.length:=by simpa using eh
       rw[cK (n:=58) hp 58 rfl]
       refine⟨by omega,fun h1=>⟨by omega,?_⟩,fun h1=>?_⟩
       ·have hh:(s2.drop (pre aq s2)).head? = some 58:=by
         rw[zLR,zLF hp,beq_iff_eq.1 h1]
        (refine aa (ke _ (by rw[zLI];omega)) ?_;refine bo ?_)
        refine⟨fun h2=>?_,fun h2=>?_⟩
        ·have fw:∀ (f q:Bytes) (hf hq:Bool),aH s2 f q hf hq=(Uri.none,6):=fun f q hf hq=>by
          unfold aH
          rw[if_pos hh,if_neg (by rw[qB h2];simp)]
         rw[fw];rfl
        ·have fw:∀ (f q:Bytes) (hf hq:Bool),aH s2 f q hf hq=(⟨s2.take (pre aq s2),(aB (s2.drop (pre aq s2+1))).1,(aB (s2.drop (pre aq s2+1))).2.2,q,f,true,(aB (s2.drop (pre aq s2+1))).2.1,hq,hf⟩,0):=fun f q hf hq=>by
          unfold aH
          rw[if_pos hh,if_pos (qC h2)]
         have wG:(s2.drop (pre aq s2+1)).length≤4294967281:=by rw[zLA];omega
         refine⟨by omega,by omega,by omega,(av (by kernel_rfl)),?_⟩
         (
          (refine aa (bK (s2.drop (pre aq s2+1)) [47,47]) ?_;refine bo ?_)
          cases gx:Lib.hasPrefix (s2.drop (pre aq s2+1)) [47,47]
          ·refine⟨fun h=>(by cases h),fun _=>?_⟩
           rw[fw,cg gx];rfl
          ·refine⟨fun _=>?_,fun h=>(by cases h)⟩
           rw[fw,cL gx]
           have vM:=eg gx
           simp only[zLy,zLz]at vM
           have px4:=bj ((s2.drop (pre aq s2+1)).drop 2) [47] (by rw[zLA];omega) (by simp)
           rw[dW]at px4
           have fP:=cw (·==47) ((s2.drop (pre aq s2+1)).drop 2)
           rw[zLA]at fP
           generalize pre (·==47) ((s2.drop (pre aq s2+1)).drop 2)=q at px4 fP ⊢
           refine⟨by omega,?_⟩
           (refine aa (px4) ?_;refine bo ?_)
           rw[show (2+(q:Int)).toNat=2+q by omega]
           exact⟨by omega,by omega,by omega,(av (by kernel_rfl)),rfl⟩)
       ·have fw:∀ (f q:Bytes) (hf hq:Bool),aH s2 f q hf hq=(⟨[],(aB s2).1,(aB s2).2.2,q,f,false,(aB s2).2.1,hq,hf⟩,0):=fun f q hf hq=>by
         unfold aH
         rw[if_neg (by rw[zLR,zLF hp];simpa using h1)]
        have wG:=jZ
        (
         (refine aa (bK (s2) [47,47]) ?_;refine bo ?_)
         cases gx:Lib.hasPrefix (s2) [47,47]
         ·refine⟨fun h=>(by cases h),fun _=>?_⟩
          rw[fw,cg gx];rfl
         ·refine⟨fun _=>?_,fun h=>(by cases h)⟩
          rw[fw,cL gx]
          have vM:=eg gx
          simp only[zLy,zLz]at vM
          have px4:=bj ((s2).drop 2) [47] (by rw[zLA];omega) (by simp)
          rw[dW]at px4
          have fP:=cw (·==47) ((s2).drop 2)
          rw[zLA]at fP
          generalize pre (·==47) ((s2).drop 2)=q at px4 fP ⊢
          refine⟨by omega,?_⟩
          (refine aa (px4) ?_;refine bo ?_)
          rw[show (2+(q:Int)).toNat=2+q by omega]
          exact⟨by omega,by omega,by omega,(av (by kernel_rfl)),rfl⟩)
      ·have fw:∀ (f q:Bytes) (hf hq:Bool),aH s2 f q hf hq=(⟨[],(aB s2).1,(aB s2).2.2,q,f,false,(aB s2).2.1,hq,hf⟩,0):=fun f q hf hq=>by
        unfold aH
        rw[if_neg (by rw[zLX (by simp at eh;omega)];simp)]
       have wG:=jZ
       (
        (refine aa (bK (s2) [47,47]) ?_;refine bo ?_)
        cases gx:Lib.hasPrefix (s2) [47,47]
        ·refine⟨fun h=>(by cases h),fun _=>?_⟩
         rw[fw,cg gx];rfl
        ·refine⟨fun _=>?_,fun h=>(by cases h)⟩
         rw[fw,cL gx]
         have vM:=eg gx
         simp only[zLy,zLz]at vM
         have px4:=bj ((s2).drop 2) [47] (by rw[zLA];omega) (by simp)
         rw[dW]at px4
         have fP:=cw (·==47) ((s2).drop 2)
         rw[zLA]at fP
         generalize pre (·==47) ((s2).drop 2)=q at px4 fP ⊢
         refine⟨by omega,?_⟩
         (refine aa (px4) ?_;refine bo ?_)
         rw[show (2+(q:Int)).toNat=2+q by omega]
         exact⟨by omega,by omega,by omega,(av (by kernel_rfl)),rfl⟩))
    ·have hk2':¬ pre (·==63) s1<s1.length:=by simpa using bM
     rw[show aL 63 s1=(s1,[],false) from if_neg hk2']
     simp only
     have jZ:s1.length≤4294967281:=wH
     generalize s1=s2 at jZ ⊢
     (
      have px3:=bj s2 [58,47] (by omega) (by simp)
      rw[show pre (([58,47]:Bytes).contains ·) s2=pre aq s2 from rfl]at px3
      (refine aa (px3) ?_;refine bo ?_)
      refine⟨fun eh=>?_,fun eh=>?_⟩
      ·have hp:pre aq s2<s2.length:=by simpa using eh
       rw[cK (n:=58) hp 58 rfl]
       refine⟨by omega,fun h1=>⟨by omega,?_⟩,fun h1=>?_⟩
       ·have hh:(s2.drop (pre aq s2)).head? = some 58:=by
         rw[zLR,zLF hp,beq_iff_eq.1 h1]
        (refine aa (ke _ (by rw[zLI];omega)) ?_;refine bo ?_)
        refine⟨fun h2=>?_,fun h2=>?_⟩
        ·have fw:∀ (f q:Bytes) (hf hq:Bool),aH s2 f q hf hq=(Uri.none,6):=fun f q hf hq=>by
          unfold aH
          rw[if_pos hh,if_neg (by rw[qB h2];simp)]
         rw[fw];rfl
        ·have fw:∀ (f q:Bytes) (hf hq:Bool),aH s2 f q hf hq=(⟨s2.take (pre aq s2),(aB (s2.drop (pre aq s2+1))).1,(aB (s2.drop (pre aq s2+1))).2.2,q,f,true,(aB (s2.drop (pre aq s2+1))).2.1,hq,hf⟩,0):=fun f q hf hq=>by
          unfold aH
          rw[if_pos hh,if_pos (qC h2)]
         have wG:(s2.drop (pre aq s2+1)).length≤4294967281:=by rw[zLA];omega
         refine⟨by omega,by omega,by omega,(av (by kernel_rfl)),?_⟩
         (
          (refine aa (bK (s2.drop (pre aq s2+1)) [47,47]) ?_;refine bo ?_)
          cases gx:Lib.hasPrefix (s2.drop (pre aq s2+1)) [47,47]
          ·refine⟨fun h=>(by cases h),fun _=>?_⟩
           rw[fw,cg gx];rfl
          ·refine⟨fun _=>?_,fun h=>(by cases h)⟩
           rw[fw,cL gx]
           have vM:=eg gx
           simp only[zLy,zLz]at vM
           have px4:=bj ((s2.drop (pre aq s2+1)).drop 2) [47] (by rw[zLA];omega) (by simp)
           rw[dW]at px4
           have fP:=cw (·==47) ((s2.drop (pre aq s2+1)).drop 2)
           rw[zLA]at fP
           generalize pre (·==47) ((s2.drop (pre aq s2+1)).drop 2)=q at px4 fP ⊢
           refine⟨by omega,?_⟩
           (refine aa (px4) ?_;refine bo ?_)
           rw[show (2+(q:Int)).toNat=2+q by omega]
           exact⟨by omega,by omega,by omega,(av (by kernel_rfl)),rfl⟩)
       ·have fw:∀ (f q:Bytes) (hf hq:Bool),aH s2 f q hf hq=(⟨[],(aB s2).1,(aB s2).2.2,q,f,false,(aB s2).2.1,hq,hf⟩,0):=fun f q hf hq=>by
         unfold aH
         rw[if_neg (by rw[zLR,zLF hp];simpa using h1)]
        have wG:=jZ
        (
         (refine aa (bK (s2) [47,47]) ?_;refine bo ?_)
         cases gx:Lib.hasPrefix (s2) [47,47]
         ·refine⟨fun h=>(by cases h),fun _=>?_⟩
          rw[fw,cg gx];rfl
         ·refine⟨fun _=>?_,fun h=>(by cases h)⟩
          rw[fw,cL gx]
          have vM:=eg gx
          simp only[zLy,zLz]at vM
          have px4:=bj ((s2).drop 2) [47] (by rw[zLA];omega) (by simp)
          rw[dW]at px4
          have fP:=cw (·==47) ((s2).drop 2)
          rw[zLA]at fP
          generalize pre (·==47) ((s2).drop 2)=q at px4 fP ⊢
          refine⟨by omega,?_⟩
          (refine aa (px4) ?_;refine bo ?_)
          rw[show (2+(q:Int)).toNat=2+q by omega]
          exact⟨by omega,by omega,by omega,(av (by kernel_rfl)),rfl⟩)
      ·have fw:∀ (f q:Bytes) (hf hq:Bool),aH s2 f q hf hq=(⟨[],(aB s2).1,(aB s2).2.2,q,f,false,(aB s2).2.1,hq,hf⟩,0):=fun f q hf hq=>by
        unfold aH
        rw[if_neg (by rw[zLX (by simp at eh;omega)];simp)]
       have wG:=jZ
       (
        (refine aa (bK (s2) [47,47]) ?_;refine bo ?_)
        cases gx:Lib.hasPrefix (s2) [47,47]
        ·refine⟨fun h=>(by cases h),fun _=>?_⟩
         rw[fw,cg gx];rfl
        ·refine⟨fun _=>?_,fun h=>(by cases h)⟩
         rw[fw,cL gx]
         have vM:=eg gx
         simp only[zLy,zLz]at vM
         have px4:=bj ((s2).drop 2) [47] (by rw[zLA];omega) (by simp)
         rw[dW]at px4
         have fP:=cw (·==47) ((s2).drop 2)
         rw[zLA]at fP
         generalize pre (·==47) ((s2).drop 2)=q at px4 fP ⊢
         refine⟨by omega,?_⟩
         (refine aa (px4) ?_;refine bo ?_)
         rw[show (2+(q:Int)).toNat=2+q by omega]
         exact⟨by omega,by omega,by omega,(av (by kernel_rfl)),rfl⟩)))
  ·have hk1':¬ pre (·==35) s<s.length:=by simpa using cN
   rw[show aL 35 s=(s,[],false) from if_neg hk1']
   simp only
   have wH:s.length≤4294967281:=hs
   generalize s=s1 at wH ⊢
   (
    have px2:=bj s1 [63] (by omega) (by simp)
    rw[dW]at px2
    (refine aa (px2) ?_;refine bo ?_)
    refine⟨fun bM=>?_,fun bM=>?_⟩
    ·have hk2':pre (·==63) s1<s1.length:=by simpa using bM
     rw[show aL 63 s1=(s1.take (pre (·==63) s1),s1.drop (pre (·==63) s1+1),true) from if_pos hk2']
     simp only
     have jZ:(s1.take (pre (·==63) s1)).length≤4294967281:=by rw[zLI];omega
     refine⟨by omega,by omega,by omega,(av (by kernel_rfl)),?_⟩
     generalize s1.take (pre (·==63) s1)=s2 at jZ ⊢
     generalize s1.drop (pre (·==63) s1+1)=qu
     (
      have px3:=bj s2 [58,47] (by omega) (by simp)
      rw[show pre (([58,47]:Bytes).contains ·) s2=pre aq s2 from rfl]at px3
      (refine aa (px3) ?_;refine bo ?_)
      refine⟨fun eh=>?_,fun eh=>?_⟩
      ·have hp:pre aq s2<s2.length:=by simpa using eh
       rw[cK (n:=58) hp 58 rfl]
       refine⟨by omega,fun h1=>⟨by omega,?_⟩,fun h1=>?_⟩
       ·have hh:(s2.drop (pre aq s2)).head? = some 58:=by
         rw[zLR,zLF hp,beq_iff_eq.1 h1]
        (refine aa (ke _ (by rw[zLI];omega)) ?_;refine bo ?_)
        refine⟨fun h2=>?_,fun h2=>?_⟩
        ·have fw:∀ (f q:Bytes) (hf hq:Bool),aH s2 f q hf hq=(Uri.none,6):=fun f q hf hq=>by
          unfold aH
          rw[if_pos hh,if_neg (by rw[qB h2];simp)]
         rw[fw];rfl
        ·have fw:∀ (f q:Bytes) (hf hq:Bool),aH s2 f q hf hq=(⟨s2.take (pre aq s2),(aB (s2.drop (pre aq s2+1))).1,(aB (s2.drop (pre aq s2+1))).2.2,q,f,true,(aB (s2.drop (pre aq s2+1))).2.1,hq,hf⟩,0):=fun f q hf hq=>by
          unfold aH
          rw[if_pos hh,if_pos (qC h2)]
         have wG:(s2.drop (pre aq s2+1)).length≤4294967281:=by rw[zLA];omega
         refine⟨by omega,by omega,by omega,(av (by kernel_rfl)),?_⟩
         (
          (refine aa (bK (s2.drop (pre aq s2+1)) [47,47]) ?_;refine bo ?_)
          cases gx:Lib.hasPrefix (s2.drop (pre aq s2+1)) [47,47]
          ·refine⟨fun h=>(by cases h),fun _=>?_⟩
           rw[fw,cg gx];rfl
          ·refine⟨fun _=>?_,fun h=>(by cases h)⟩
           rw[fw,cL gx]
           have vM:=eg gx
           simp only[zLy,zLz]at vM
           have px4:=bj ((s2.drop (pre aq s2+1)).drop 2) [47] (by rw[zLA];omega) (by simp)
           rw[dW]at px4
           have fP:=cw (·==47) ((s2.drop (pre aq s2+1)).drop 2)
           rw[zLA]at fP
           generalize pre (·==47) ((s2.drop (pre aq s2+1)).drop 2)=q at px4 fP ⊢
           refine⟨by omega,?_⟩
           (refine aa (px4) ?_;refine bo ?_)
           rw[show (2+(q:Int)).toNat=2+q by omega]
           exact⟨by omega,by omega,by omega,(av (by kernel_rfl)),rfl⟩)
       ·have fw:∀ (f q:Bytes) (hf hq:Bool),aH s2 f q hf hq=(⟨[],(aB s2).1,(aB s2).2.2,q,f,false,(aB s2).2.1,hq,hf⟩,0):=fun f q hf hq=>by
         unfold aH
         rw[if_neg (by rw[zLR,zLF hp];simpa using h1)]
        have wG:=jZ
        (
         (refine aa (bK (s2) [47,47]) ?_;refine bo ?_)
         cases gx:Lib.hasPrefix (s2) [47,47]
         ·refine⟨fun h=>(by cases h),fun _=>?_⟩
          rw[fw,cg gx];rfl
         ·refine⟨fun _=>?_,fun h=>(by cases h)⟩
          rw[fw,cL gx]
          have vM:=eg gx
          simp only[zLy,zLz]at vM
          have px4:=bj ((s2).drop 2) [47] (by rw[zLA];omega) (by simp)
          rw[dW]at px4
          have fP:=cw (·==47) ((s2).drop 2)
          rw[zLA]at fP
          generalize pre (·==47) ((s2).drop 2)=q at px4 fP ⊢
          refine⟨by omega,?_⟩
          (refine aa (px4) ?_;refine bo ?_)
          rw[show (2+(q:Int)).toNat=2+q by omega]
          exact⟨by omega,by omega,by omega,(av (by kernel_rfl)),rfl⟩)
      ·have fw:∀ (f q:Bytes) (hf hq:Bool),aH s2 f q hf hq=(⟨[],(aB s2).1,(aB s2).2.2,q,f,false,(aB s2).2.1,hq,hf⟩,0):=fun f q hf hq=>by
        unfold aH
        rw[if_neg (by rw[zLX (by simp at eh;omega)];simp)]
       have wG:=jZ
       (
        (refine aa (bK (s2) [47,47]) ?_;refine bo ?_)
        cases gx:Lib.hasPrefix (s2) [47,47]
        ·refine⟨fun h=>(by cases h),fun _=>?_⟩
         rw[fw,cg gx];rfl
        ·refine⟨fun _=>?_,fun h=>(by cases h)⟩
         rw[fw,cL gx]
         have vM:=eg gx
         simp only[zLy,zLz]at vM
         have px4:=bj ((s2).drop 2) [47] (by rw[zLA];omega) (by simp)
         rw[dW]at px4
         have fP:=cw (·==47) ((s2).drop 2)
         rw[zLA]at fP
         generalize pre (·==47) ((s2).drop 2)=q at px4 fP ⊢
         refine⟨by omega,?_⟩
         (refine aa (px4) ?_;refine bo ?_)
         rw[show (2+(q:Int)).toNat=2+q by omega]
         exact⟨by omega,by omega,by omega,(av (by kernel_rfl)),rfl⟩))
    ·have hk2':¬ pre (·==63) s1<s1.length:=by simpa using bM
     rw[show aL 63 s1=(s1,[],false) from if_neg hk2']
     simp only
     have jZ:s1.length≤4294967281:=wH
     generalize s1=s2 at jZ ⊢
     (
      have px3:=bj s2 [58,47] (by omega) (by simp)
      rw[show pre (([58,47]:Bytes).contains ·) s2=pre aq s2 from rfl]at px3
      (refine aa (px3) ?_;refine bo ?_)
      refine⟨fun eh=>?_,fun eh=>?_⟩
      ·have hp:pre aq s2<s2.length:=by simpa using eh
       rw[cK (n:=58) hp 58 rfl]
       refine⟨by omega,fun h1=>⟨by omega,?_⟩,fun h1=>?_⟩
       ·have hh:(s2.drop (pre aq s2)).head? = some 58:=by
         rw[zLR,zLF hp,beq_iff_eq.1 h1]
        (refine aa (ke _ (by rw[zLI];omega)) ?_;refine bo ?_)
        refine⟨fun h2=>?_,fun h2=>?_⟩
        ·have fw:∀ (f q:Bytes) (hf hq:Bool),aH s2 f q hf hq=(Uri.none,6):=fun f q hf hq=>by
          unfold aH
          rw[if_pos hh,if_neg (by rw[qB h2];simp)]
         rw[fw];rfl
        ·have fw:∀ (f q:Bytes) (hf hq:Bool),aH s2 f q hf hq=(⟨s2.take (pre aq s2),(aB (s2.drop (pre aq s2+1))).1,(aB (s2.drop (pre aq s2+1))).2.2,q,f,true,(aB (s2.drop (pre aq s2+1))).2.1,hq,hf⟩,0):=fun f q hf hq=>by
          unfold aH
          rw[if_pos hh,if_pos (qC h2)]
         have wG:(s2.drop (pre aq s2+1)).length≤4294967281:=by rw[zLA];omega
         refine⟨by omega,by omega,by omega,(av (by kernel_rfl)),?_⟩
         (
          (refine aa (bK (s2.drop (pre aq s2+1)) [47,47]) ?_;refine bo ?_)
          cases gx:Lib.hasPrefix (s2.drop (pre aq s2+1)) [47,47]
          ·refine⟨fun h=>(by cases h),fun _=>?_⟩
           rw[fw,cg gx];rfl
          ·refine⟨fun _=>?_,fun h=>(by cases h)⟩
           rw[fw,cL gx]
           have vM:=eg gx
           simp only[zLy,zLz]at vM
           have px4:=bj ((s2.drop (pre aq s2+1)).drop 2) [47] (by rw[zLA];omega) (by simp)
           rw[dW]at px4
           have fP:=cw (·==47) ((s2.drop (pre aq s2+1)).drop 2)
           rw[zLA]at fP
           generalize pre (·==47) ((s2.drop (pre aq s2+1)).drop 2)=q at px4 fP ⊢
           refine⟨by omega,?_⟩
           (refine aa (px4) ?_;refine bo ?_)
           rw[show (2+(q:Int)).toNat=2+q by omega]
           exact⟨by omega,by omega,by omega,(av (by kernel_rfl)),rfl⟩)
       ·have fw:∀ (f q:Bytes) (hf hq:Bool),aH s2 f q hf hq=(⟨[],(aB s2).1,(aB s2).2.2,q,f,false,(aB s2).2.1,hq,hf⟩,0):=fun f q hf hq=>by
         unfold aH
         rw[if_neg (by rw[zLR,zLF hp];simpa using h1)]
        have wG:=jZ
        (
         (refine aa (bK (s2) [47,47]) ?_;refine bo ?_)
         cases gx:Lib.hasPrefix (s2) [47,47]
         ·refine⟨fun h=>(by cases h),fun _=>?_⟩
          rw[fw,cg gx];rfl
         ·refine⟨fun _=>?_,fun h=>(by cases h)⟩
          rw[fw,cL gx]
          have vM:=eg gx
          simp only[zLy,zLz]at vM
          have px4:=bj ((s2).drop 2) [47] (by rw[zLA];omega) (by simp)
          rw[dW]at px4
          have fP:=cw (·==47) ((s2).drop 2)
          rw[zLA]at fP
          generalize pre (·==47) ((s2).drop 2)=q at px4 fP ⊢
          refine⟨by omega,?_⟩
          (refine aa (px4) ?_;refine bo ?_)
          rw[show (2+(q:Int)).toNat=2+q by omega]
          exact⟨by omega,by omega,by omega,(av (by kernel_rfl)),rfl⟩)
      ·have fw:∀ (f q:Bytes) (hf hq:Bool),aH s2 f q hf hq=(⟨[],(aB s2).1,(aB s2).2.2,q,f,false,(aB s2).2.1,hq,hf⟩,0):=fun f q hf hq=>by
        unfold aH
        rw[if_neg (by rw[zLX (by simp at eh;omega)];simp)]
       have wG:=jZ
       (
        (refine aa (bK (s2) [47,47]) ?_;refine bo ?_)
        cases gx:Lib.hasPrefix (s2) [47,47]
        ·refine⟨fun h=>(by cases h),fun _=>?_⟩
         rw[fw,cg gx];rfl
        ·refine⟨fun _=>?_,fun h=>(by cases h)⟩
         rw[fw,cL gx]
         have vM:=eg gx
         simp only[zLy,zLz]at vM
         have px4:=bj ((s2).drop 2) [47] (by rw[zLA];omega) (by simp)
         rw[dW]at px4
         have fP:=cw (·==47) ((s2).drop 2)
         rw[zLA]at fP
         generalize pre (·==47) ((s2).drop 2)=q at px4 fP ⊢
         refine⟨by omega,?_⟩
         (refine aa (px4) ?_;refine bo ?_)
         rw[show (2+(q:Int)).toNat=2+q by omega]
         exact⟨by omega,by omega,by omega,(av (by kernel_rfl)),rfl⟩)))
theorem u9 (c:UInt8):PC Tryz.V 151 [.int .u8 c.toNat] (.bool (bm c)) :=
 ⟨Tryz.call151,by simp[flat,flat.af],by simp[flat,flat.af],fun w _=>(A9 c w).mono fun _ _ ⟨h,k⟩=>⟨h,dJ k⟩⟩
theorem du (c:UInt8):PC Tryz.V 87 [.int .u8 c.toNat] (.bool (fE c)):=by
 refine aV 3000 Tryz.func87 rfl Tryz.ntmps87 Tryz.results87 Tryz.call87 (by simp) (by simp[flat,flat.af]) (by simp[flat,flat.af]) ?_
 refine bo ?_
 (refine aa (gv c) ?_;refine bo ?_)
 refine⟨fun h=>?_,fun h=>?_⟩
 ·(refine aa (fk c) ?_;refine bo ?_)
  refine⟨fun h2=>?_,fun h2=>?_⟩
  ·(refine aa (iS c [45,46,95,126] (by simp)) ?_;refine bo ?_)
   unfold fE;rw[h,h2];rfl
  ·unfold fE;rw[h,h2];rfl
 ·unfold fE;rw[h];rfl
theorem uZ (c:UInt8)(hc:bm c=true):PC Tryz.V 152 [.int .u8 c.toNat] (.int .u8 (cG c)):=by
 have key:=cW (p:=fun c=>!bm c||(decide ((c.toNat≤57→IntKind.u8.wrap ((c.toNat:Int) - 48)=cG c)∧(57<c.toNat→c.toNat≤70→IntKind.u8.wrap (IntKind.u8.wrap ((c.toNat:Int) - 65)+10)=cG c)∧(70<c.toNat→IntKind.u8.wrap (IntKind.u8.wrap ((c.toNat:Int) - 97)+10)=cG c)))) (by decide +kernel) c
 simp only[hc,Bool.not_true,Bool.false_or,decide_eq_true_eq]at key
 obtain⟨k1,k2,k3⟩:=key
 refine aV 3000 Tryz.func152 rfl Tryz.ntmps152 Tryz.results152 Tryz.call152 (by simp) (by simp[flat,flat.af]) (by simp[flat,flat.af]) ?_
 refine bo ?_
 refine⟨fun h=>?_,fun h=>⟨fun h2=>?_,fun h2=>?_⟩⟩
 ·rw[k1 (by simp at h;omega)]
 ·rw[k2 (by simp at h;omega) (by simp at h2;omega)]
 ·rw[k3 (by simp at h2;omega)]
theorem At (a b:UInt8)(ha:bm a=true)(hb:bm b=true):IntKind.u8.wrap (IntKind.u8.wrap (16 * (cG a:Int))+cG b)=((unhex a b).toNat:Int):=by
 have h1:=lj ha
 have h2:=lj hb
 have:∀ x,x<16→∀ y,y<16→IntKind.u8.wrap (IntKind.u8.wrap (16 * ((x:Nat):Int))+(y:Nat))=(((x * 16+y).toUInt8).toNat:Int):=by decide +kernel
 exact this _ (by omega) _ (by omega)
theorem sS (s:Bytes)(i:Nat)(hi:i<s.length)(hp:s[i]=37)(hs:s.length≤4294967281):PC Tryz.V 88 [.str s,.int .i64 i] (.fF [.int .u8 (((kz s i).getD 0).toNat:Int),.bool (kz s i).isSome]):=by
 have hg:((s.getD i 0).toNat:Int)=37:=by rw[show s.getD i 0=37 by rw[← hp];simp[List.getD,hi]];rfl
 refine aV 3000 Tryz.func88 rfl Tryz.ntmps88 Tryz.results88 Tryz.call88 (by simp) (by simp[flat,flat.af]) (by simp[flat,flat.af]) ?_
 simp (config := { maxSteps := 2000000 }) only[cq,↓Xn,↓Xo,↓Xg,↓Xd,↓Xe,↓Xf,Tryz.VΓ,Tryz.Γs,Xp,Xi,Nat.reduceAdd,Nat.reduceSub,Nat.reduceLT,Nat.reduceLeDiff,reduceIte,reduceCtorEq,Nat.reduceEqDiff,implies_true,forall_const,cp,hg,zLL,beq_self_eq_true,bne_self_eq_false,Int.reduceBEq,Int.reduceBNe,Int.reduceLT,Int.reduceLE]
 unfold kz
 rw[qK]
 refine⟨⟨by omega,by omega⟩,fun hl=>?_,fun hl=>?_⟩
 ·have hl:i+2<s.length:=(by simp at hl;omega)
  rw[if_pos hl]
  refine⟨⟨by omega,by omega⟩,⟨by omega,by omega⟩,⟨by omega,by omega⟩,?_⟩
  ·skip
   (refine aa (u9 _) ?_;refine bo ?_)
   refine⟨fun ha=>⟨⟨by omega,by omega⟩,⟨by omega,by omega⟩,?_⟩,fun ha=>?_⟩
   ·have ha:bm (s.getD (i+1) 0)=true:=by simpa using ha
    (refine aa (u9 _) ?_;refine bo ?_)
    refine⟨fun hb=>?_,fun hb=>⟨⟨by omega,by omega⟩,⟨by omega,by omega⟩,?_⟩⟩
    ·have hb:bm (s.getD (i+2) 0)=false:=by simpa using hb
     rw[ha,hb];rfl
    ·have hb:bm (s.getD (i+2) 0)=true:=by simpa using hb
     (refine aW (uZ _ ha) ?_;refine bo ?_)
     refine⟨⟨by omega,by omega⟩,⟨by omega,by omega⟩,?_⟩
     (refine aW (uZ _ hb) ?_;refine bo ?_)
     refine⟨(av (by kernel_rfl)),?_⟩
     rw[At _ _ ha hb,ha,hb];rfl
   ·have ha:bm (s.getD (i+1) 0)=false:=by simpa using ha
    rw[ha];rfl
 ·have hl:¬ i+2<s.length:=(by simp at hl;omega)
  rw[if_neg hl];rfl
theorem kf (c:UInt8):PC Tryz.V 89 [.int .u8 c.toNat] (.str (kN c)):=by
 have hc:=c.toNat_lt
 have d1:=uu (c.toNat / 16) (by omega)
 have d2:=uu (c.toNat % 16) (by omega)
 have key:=cW (p:=fun c=>decide (jc .quo .u8 (c.toNat:Int) 16=((c.toNat / 16:Nat):Int)∧jc .rem .u8 (c.toNat:Int) 16=((c.toNat % 16:Nat):Int))) (by decide +kernel) c
 obtain⟨s1,s2⟩:=of_decide_eq_true key
 have ec:=ym c
 have e1:([.int .u8 37,.int .u8 ((gE (c.toNat / 16)).toNat:Int),.int .u8 ((gE (c.toNat % 16)).toNat:Int)]:List SV).map rv=kN c:=by rw[← ec,jy]
 refine aV 3000 Tryz.func89 rfl Tryz.ntmps89 Tryz.results89 Tryz.call89 (by simp) (by simp[flat,flat.af]) (by simp[flat,flat.af]) ?_
 refine gN (zLw s1 (zLw s2 (zLw zLL (zLw d1 d2)))) ?_
 have e2:([.int .u8 37,.int .u8 ((gE (c.toNat / 16)).toNat:Int),.int .u8 ((gE (c.toNat % 16)).toNat:Int)]:List SV).all w9=true:=by rw[← ec,eK]
 simp only[List.map_cons,List.map_nil]at e1
 simp only[List.all_cons,List.all_nil,Bool.and_true]at e2
 exact⟨by decide,⟨by omega,by omega⟩,by decide,⟨by omega,by omega⟩,by omega,e2,(av (by kernel_rfl)),by rw[e1]⟩
def RnI (also s:Bytes)(σ:St):Prop:=∃ (i:Nat) (x:SV) (d:Bytes),lk 0 σ.t=some (.str s)∧lk 1 σ.t=some (.str also)∧lk 6 σ.t=some x∧lk 7 σ.t=some (.int .i64 i)∧i≤s.length∧d.length≤3 * i∧Sl 5 1 0 x σ.b (d.map dP) d.length∧comb d (bB also (aE (s.drop i)))=bB also (aE s)
theorem sP {also s:Bytes}{t:List (Nat × SV)}{b:List aw}{i i':Nat}{x:SV}{d:Bytes}(h0:lk 0 t=some (.str s))(h1:lk 1 t=some (.str also))(h6:lk 6 t=some x)(h7:lk 7 t=some (.int .i64 i'))(h:i'≤s.length∧d.length≤3 * i')(ht:Sl 5 1 0 x b (d.map dP) d.length)
 (hn:comb d (bB also (aE (s.drop i')))=bB also (aE s)) (aC:i<i'):RnI also s ⟨t,b⟩∧NoM s ⟨t,b⟩<s.length - i :=
 ⟨⟨i',x,d,h0,h1,h6,h7,h.1,h.2,ht,hn⟩,by rw[Ad h7];omega⟩
theorem gu (s also:Bytes)(ha:also.length≤1000):PC Tryz.V 36 [.str s,.str also] (.fF [.str (bk also s).1,.int .i64 (bk also s).2]):=by
 refine aV 3000 Tryz.func36 rfl Tryz.ntmps36 Tryz.results36 Tryz.call36 (by simp) (by simp[flat,flat.af]) (by simp[flat,flat.af]) ?_
 refine bo ?_
 unfold bk
 refine⟨fun hl=>?_,fun hl=>?_⟩
 ·have hl:16384<s.length:=(by simp at hl;omega)
  rw[if_pos hl]
 have hl:s.length≤16384:=(by simp at hl;omega)
 rw[if_neg (by omega)]
 refine az (RnI also s) (NoM s) ⟨0,.ah,[],rfl,rfl,rfl,rfl,by omega,by simp,.inl ⟨rfl,rfl,rfl⟩,wm _ (xV also _)⟩ ?_
 rintro⟨t,b⟩ ⟨i,x,d,h0,h1,h6,h7,hi,hd,ht,hn⟩
 simp only at h0 h1 h6 h7 ht
 rw[Ad h7]
 by_cases aC:i<s.length
 ·have hu:=oT aC
  have hg:s.getD i 0=s[i]:=by simp[List.getD,aC]
  refine gN (zLw h0 (zLw h1 (zLw h6 h7))) ?_
  refine⟨fun _=>⟨⟨by omega,by omega⟩,fun hc=>⟨⟨by omega,by omega⟩,?_⟩,fun hc=>?_⟩,fun h=>absurd h (by simp;omega)⟩
  ·have hc:¬ s[i]=37:=by
    intro e
    rw[hg,e]at hc
    simp at hc
   rw[if_neg hc]at hu
   rw[hu,bB]at hn
   rw[hg]
   have mD:dU also s[i]=true→comb (d++[s[i]]) (bB also (aE (s.drop (i+1))))=bB also (aE s):=fun hk=>by
    rw[← hn,if_pos hk,jv]
   (refine aa (du s[i]) ?_;refine gN (zLw h0 (zLw h1 (zLw h6 (zLw h7 hg)))) ?_)
   refine⟨fun hq=>⟨⟨by omega,by omega⟩,?_⟩,fun hq=>⟨⟨by omega,by omega⟩,?_⟩⟩
   ·have hq:=qB hq
    (refine aa (iS s[i] also (by omega)) ?_;refine gN (zLw h0 (zLw h1 (zLw h6 (zLw h7 hg)))) ?_)
    refine⟨fun qH=>?_,fun qH=>⟨⟨by omega,by omega⟩,?_⟩⟩
    ·have qH:=qB qH
     have hk:¬ dU also s[i]=true:=by unfold dU;rw[hq,qH];simp
     rw[if_neg hk]at hn
     have nI:bB also (aE s)=([],1):=by rw[← hn];rfl
     rw[nI]
    ·have qH:=qC qH
     have hk:dU also s[i]=true:=by unfold dU;rw[qH];simp
     (rcases ht with⟨rfl,kU,ye⟩|⟨j,rfl,mM,hj⟩
      ·obtain rfl:d=[]:=by simpa using kU
       refine gN (zLw h0 (zLw h1 (zLw h6 (zLw h7 (zLw hg @aO))))) ?_
       refine⟨by omega,⟨by unfold maxLen;omega,by omega⟩,⟨by omega,by omega⟩,sP (i':=i+1) (x:=.o (b++[aw.own [dP (s[i])] 5 1 1 true]).length 1) (d:=[]++[s[i]]) h0 h1 rfl (by simp only[lk,reduceIte,zLM.injEq,SV.int.injEq,true_and];omega) ⟨by omega,by simp;omega⟩ (.inr ⟨_,rfl,by omega,aO _ _⟩) (mD hk) (by omega)⟩
      ·have iG:j<b.length:=(zLx.1 hj).1
       have ho:∀ X,(b++[X])[j]? = some (.own (d.map dP) 5 1 d.length true):=fun X=>ad hj [X]
       refine gN (zLw h0 (zLw h1 (zLw h6 (zLw h7 (zLw hg (zLw @aO ho)))))) ?_
       refine⟨by omega,⟨by unfold maxLen;omega,by omega⟩,⟨by omega,by omega⟩,sP (i':=i+1) (x:=.o (b++[aw.own [dP (s[i])] 5 1 1 true]).length (d.length+1)) (d:=d++[s[i]]) h0 h1 rfl (by simp only[lk,reduceIte,zLM.injEq,SV.int.injEq,true_and];omega) ⟨by omega,by simp;omega⟩ (.inr ⟨(b++[aw.own [dP (s[i])] 5 1 1 true]).length,by simp,by omega,by rw[zLG (by simp)];simp[dP]⟩) (mD hk) (by omega)⟩)
   ·have hq:=qC hq
    have hk:dU also s[i]=true:=by unfold dU;rw[hq];simp
    (rcases ht with⟨rfl,kU,ye⟩|⟨j,rfl,mM,hj⟩
     ·obtain rfl:d=[]:=by simpa using kU
      refine gN (zLw h0 (zLw h1 (zLw h6 (zLw h7 (zLw hg @aO))))) ?_
      refine⟨by omega,⟨by unfold maxLen;omega,by omega⟩,⟨by omega,by omega⟩,sP (i':=i+1) (x:=.o (b++[aw.own [dP (s[i])] 5 1 1 true]).length 1) (d:=[]++[s[i]]) h0 h1 rfl (by simp only[lk,reduceIte,zLM.injEq,SV.int.injEq,true_and];omega) ⟨by omega,by simp;omega⟩ (.inr ⟨_,rfl,by omega,aO _ _⟩) (mD hk) (by omega)⟩
     ·have iG:j<b.length:=(zLx.1 hj).1
      have ho:∀ X,(b++[X])[j]? = some (.own (d.map dP) 5 1 d.length true):=fun X=>ad hj [X]
      refine gN (zLw h0 (zLw h1 (zLw h6 (zLw h7 (zLw hg (zLw @aO ho)))))) ?_
      refine⟨by omega,⟨by unfold maxLen;omega,by omega⟩,⟨by omega,by omega⟩,sP (i':=i+1) (x:=.o (b++[aw.own [dP (s[i])] 5 1 1 true]).length (d.length+1)) (d:=d++[s[i]]) h0 h1 rfl (by simp only[lk,reduceIte,zLM.injEq,SV.int.injEq,true_and];omega) ⟨by omega,by simp;omega⟩ (.inr ⟨(b++[aw.own [dP (s[i])] 5 1 1 true]).length,by simp,by omega,by rw[zLG (by simp)];simp[dP]⟩) (mD hk) (by omega)⟩)
  ·have hc:s[i]=37:=by
    have:s.getD i 0=37:=by
     rw[← UInt8.toNat_inj]
     have e37:(37:UInt8).toNat=37:=rfl
     have h2:=bne_eq_false_iff_eq.1 hc
     omega
    rw[← hg];exact this
   rw[if_pos hc]at hu
   have pe:=sS s i aC hc (by omega)
   cases he:kz s i with
   | none =>
     rw[he]at pe hu
     simp only at hu
     rw[hu]at hn
     have nI:bB also (aE s)=([],2):=by rw[← hn];rfl
     rw[nI]
     (refine aa pe ?_;simp only[cq,↓Xn,↓Xo,↓Xg,↓Xd,↓Xe,↓Xf,Tryz.VΓ,Tryz.Γs,Xp,Xi,Nat.reduceAdd,Nat.reduceSub,Nat.reduceLT,Nat.reduceLeDiff,reduceIte,reduceCtorEq,Nat.reduceEqDiff,implies_true,forall_const,cp,h0,h1,h6,h7,Option.isSome_none])
   | some v =>
     rw[he]at pe hu
     have hx:=he
     unfold kz at hx
     obtain⟨⟨a,bb,r⟩,hp,hv⟩:=Option.map_eq_some_iff.1 hx
     simp only at hv
     rw[hp]at hu
     simp only at hu
     have hi3:i+3≤s.length:=by
      obtain⟨h1,-,-⟩:=dh hp
      have:=congrArg List.length h1
      simp at this
      omega
     have mD:comb (d++nA v) (bB also (aE (s.drop (i+2+1))))=bB also (aE s):=by
      rw[← hn,hu,bB,jv,hv]
     simp only[Option.getD_some,Option.isSome_some]at pe
     (refine aa pe ?_;refine gN (zLw h0 (zLw h1 (zLw h6 h7))) ?_)
     (refine aa (du v) ?_;refine gN (zLw h0 (zLw h1 (zLw h6 h7))) ?_)
     refine⟨fun hq=>?_,fun hq=>?_⟩
     ·have Cb:comb (d++[v]) (bB also (aE (s.drop (i+2+1))))=bB also (aE s):=by
       rw[← mD];unfold nA;rw[if_pos hq]
      (rcases ht with⟨rfl,kU,ye⟩|⟨j,rfl,mM,hj⟩
       ·obtain rfl:d=[]:=by simpa using kU
        refine gN (zLw h0 (zLw h1 (zLw h6 (zLw h7 (zLw hg @aO))))) ?_
        refine⟨by omega,⟨by unfold maxLen;omega,by omega⟩,⟨by omega,by omega⟩,⟨by omega,by omega⟩,sP (i':=i+2+1) (x:=.o (b++[aw.own [dP (v)] 5 1 1 true]).length 1) (d:=[]++[v]) h0 h1 rfl (by simp only[lk,reduceIte,zLM.injEq,SV.int.injEq,true_and];omega) ⟨by omega,by simp;omega⟩ (.inr ⟨_,rfl,by omega,aO _ _⟩) (Cb) (by omega)⟩
       ·have iG:j<b.length:=(zLx.1 hj).1
        have ho:∀ X,(b++[X])[j]? = some (.own (d.map dP) 5 1 d.length true):=fun X=>ad hj [X]
        refine gN (zLw h0 (zLw h1 (zLw h6 (zLw h7 (zLw hg (zLw @aO ho)))))) ?_
        refine⟨by omega,⟨by unfold maxLen;omega,by omega⟩,⟨by omega,by omega⟩,⟨by omega,by omega⟩,sP (i':=i+2+1) (x:=.o (b++[aw.own [dP (v)] 5 1 1 true]).length (d.length+1)) (d:=d++[v]) h0 h1 rfl (by simp only[lk,reduceIte,zLM.injEq,SV.int.injEq,true_and];omega) ⟨by omega,by simp;omega⟩ (.inr ⟨(b++[aw.own [dP (v)] 5 1 1 true]).length,by simp,by omega,by rw[zLG (by simp)];simp[dP]⟩) (Cb) (by omega)⟩)
     ·have Cb:comb (d++kN v) (bB also (aE (s.drop (i+2+1))))=bB also (aE s):=by
       rw[← mD];unfold nA;rw[if_neg (by simp[hq])]
      (refine aa (kf v) ?_;refine gN (zLw h0 (zLw h1 (zLw h6 h7))) ?_)
      rcases ht with⟨rfl,kU,ye⟩|⟨j,rfl,mM,hj⟩
      ·obtain rfl:d=[]:=by simpa using kU
       refine gN (zLw h0 (zLw h1 (zLw h6 h7))) ?_
       exact⟨⟨iF _,by simp[kN];unfold maxLen;omega,by simp[kN]⟩,⟨by omega,by omega⟩,⟨by omega,by omega⟩,sP (i':=i+2+1) (d:=[]++kN v) h0 h1 rfl (by simp only[lk,reduceIte,zLM.injEq,SV.int.injEq,true_and];omega) ⟨by omega,by simp[kN];omega⟩ (.inr ⟨b.length,rfl,by omega,aO _ _⟩) Cb (by omega)⟩
      ·refine gN (zLw h0 (zLw h1 (zLw h6 (zLw h7 hj)))) ?_
       exact⟨⟨iF _,by simp[kN];unfold maxLen;omega,by simp[kN];omega⟩,⟨by omega,by omega⟩,⟨by omega,by omega⟩,sP (i':=i+2+1) (d:=d++kN v) h0 h1 rfl (by simp only[lk,reduceIte,zLM.injEq,SV.int.injEq,true_and];omega) ⟨by omega,by simp[kN];omega⟩ (.inr ⟨b.length,by simp,by omega,by rw[zLG (by simp)];simp⟩) Cb (by omega)⟩
 ·have j4:i=s.length:=by omega
  subst j4
  rw[List.drop_length,eO]at hn
  have nI:bB also (aE s)=(d,0):=by rw[← hn];simp[bB,comb]
  rw[nI]
  rcases ht with⟨rfl,kU,ye⟩|⟨j,rfl,mM,hj⟩
  ·obtain rfl:d=[]:=by simpa using kU
   refine gN (zLw h0 (zLw h1 (zLw h6 h7))) ?_
   exact fun h=>absurd h (by simp)
  ·refine gN (zLw h0 (zLw h1 (zLw h6 (zLw h7 hj)))) ?_
   refine⟨fun h=>absurd h (by simp),fun _=>⟨eK d,?_⟩⟩
   rw[jy]
theorem jG (s:Bytes):PC Tryz.V 11 [.str s] (.fF [cR (a7 s).1,.int .i64 (a7 s).2]):=by
 refine aV 3000 Tryz.func11 rfl Tryz.ntmps11 Tryz.results11 Tryz.call11 (by simp) (by simp[flat,flat.af]) (by simp[flat,flat.af,cR]) ?_
 refine bo ?_
 refine⟨fun h=>?_,fun h=>?_⟩
 ·have:a7 s=(cX.none,5):=if_pos (by simp at h;omega)
  rw[this];rfl
 have hl:¬ 4096<s.length:=(by simp at h;omega)
 have hq:a7 s=if (aM s).2≠0 then(cX.none,(aM s).2) else sB (aM s).1:=if_neg hl
 rw[hq]
 have ps:=o7 s
 unfold rl at ps
 have hp:=uE s
 have hz:=oU s
 revert ps hp hz
 generalize aM s=us
 obtain⟨r,c⟩:=us
 intro ps hp hz
 simp only at ps hp hz
 simp only
 unfold Uri.size at hz
 have pl:=gV r.scheme dw (by omega) (by decide)
 have pn:=bj r.authority [64] (by omega) (by decide)
 have hpm:=y7 r.authority 64
 have fP:=cw (·==64) r.authority
 rw[show (List.contains [64] ·:UInt8→Bool)=(·==64) from by funext c;simp;exact(Bool.beq_eq_decide_eq _ _).symm]at pn
 have ph:=uY r.authority (by omega)
 have p1:=gu r.path cU (by decide)
 have p2:=gu r.query cI (by decide)
 have p3:=gu r.fragment cI (by decide)
 (refine aa (ps) ?_;refine bo ?_)
 refine⟨fun h1=>?_,fun h1=>?_⟩
 ·rw[if_pos (by simpa using h1)];rfl
 rw[if_neg (by simpa using h1)]
 unfold sB
 cases ou:r.bX
 ·refine gN ou ?_
  rw[if_pos (.inl trivial)];rfl
 refine gN ou ?_
 rw[show lower dw=dw by decide]at pl
 (refine aa pl ?_;refine gN ou ?_)
 refine⟨fun h2=>?_,fun h2=>?_⟩
 ·rw[if_pos (.inr (by simpa using h2))];rfl
 rw[if_neg (by simpa using h2)]
 cases I0:r.a8
 ·refine gN I0 ?_
  rfl
 refine gN I0 ?_
 (refine aW pn ?_;refine gN I0 ?_)
 refine⟨(av (by kernel_rfl)),fun h3=>?_,fun h3=>?_⟩
 ·rw[if_pos (hpm.1 (by simp at h3;omega))];rfl
 rw[if_neg (fun k=>absurd (hpm.2 k) (by simp at h3;omega))]
 unfold kY
 (refine aa ph ?_;refine gN I0 ?_)
 refine⟨fun h4=>?_,fun h4=>?_⟩
 ·rw[if_pos (by simpa using h4)];rfl
 rw[if_neg (by simpa using h4)]
 have hN1:=eW cU r.path
 have hN2:=eW cI r.query
 have hN3:=eW cI r.fragment
 have hH:=tc r.authority (by simpa using h4)
 have p4:=eJ (bk cU r.path).1 (by omega)
 have hD:=gq (bk cU r.path).1
 generalize bk cU r.path=n1 at p1 p4 hN1 hD ⊢
 generalize bk cI r.query=n2 at p2 hN2 ⊢
 generalize bk cI r.fragment=n3 at p3 hN3 ⊢
 generalize (aF r.authority).1=hp at hH ⊢
 obtain⟨n1,e1⟩:=n1
 obtain⟨n2,e2⟩:=n2
 obtain⟨n3,e3⟩:=n3
 obtain⟨hh,pp⟩:=hp
 simp only at p1 p2 p3 p4 hN1 hN2 hN3 hH hD ⊢
 (refine aa p1 ?_;refine bo ?_)
 refine⟨fun h5=>?_,fun h5=>?_⟩
 ·rw[if_pos (by simpa using h5)];rfl
 rw[if_neg (by simpa using h5)]
 (refine aa p2 ?_;refine bo ?_)
 refine⟨fun h6=>?_,fun h6=>?_⟩
 ·rw[if_pos (by simpa using h6)];rfl
 rw[if_neg (by simpa using h6)]
 (refine aa p3 ?_;refine bo ?_)
 refine⟨fun h7=>?_,fun h7=>?_⟩
 ·rw[if_pos (by simpa using h7)];rfl
 rw[if_neg (by simpa using h7)]
 unfold lG
 (refine aa p4 ?_;refine bo ?_)
 generalize aG n1=d at hD ⊢
 have fin:∀ d':Bytes,d'.length≤4096 * 6→PC Tryz.V 38 [cR ⟨hh,pp,d',n2,n3,r.aN,r.aZ⟩] (.str (aT ⟨hh,pp,d',n2,n3,r.aN,r.aZ⟩)):=fun d' hd' =>
  eA _ ⟨by simp only;omega,by simp only;omega,by simp only;omega⟩
 unfold cR at fin
 refine⟨fun h8=>?_,fun h8=>?_⟩
 ·have f1:=fin [47] (by decide)
  have h8':d=[]:=by simpa using h8
  rw[if_pos h8']
  (refine aa f1 ?_;refine bo ?_)
  refine⟨fun h9=>?_,fun h9=>?_⟩
  ·rw[if_pos (by simp at h9;omega)];rfl
  ·rw[if_neg (by simp at h9;omega)];rfl
 ·have f1:=fin d (by omega)
  have h8':¬ d=[]:=by simpa using h8
  rw[if_neg h8']
  (refine aa f1 ?_;refine bo ?_)
  refine⟨fun h9=>?_,fun h9=>?_⟩
  ·rw[if_pos (by simp at h9;omega)];rfl
  ·rw[if_neg (by simp at h9;omega)];rfl
theorem Bh (u:cX)(hk:Fair u):PC Tryz.V 39 [cR u] (.bool (dQ u)):=by
 have pf:=qs u hk
 have pp:=Bi (aT u)
 unfold cR at pf pp
 (refine aV 3000 Tryz.func39 rfl Tryz.ntmps39 Tryz.results39 Tryz.call39 (by simp) (by simp[flat,flat.af,cR]) (by simp[flat,flat.af,cR]) ?_
  unfold cR
  refine bo ?_)
 (refine aa (pf) ?_;refine bo ?_)
 (refine aa (pp) ?_;refine bo ?_)
 unfold dQ
 generalize a7 (aT u)=x
 obtain⟨⟨a,b,c,d,e,f,g⟩,y⟩:=x
 obtain⟨a',b',c',d',e',f',g'⟩:=u
 simp only[eqS,Ek,Cp,Cp.eqF]
 refine⟨fun h=>?_,fun h=>?_⟩
 ·obtain rfl:y=0:=by simpa using h
  congr 1
  rw[Bool.eq_iff_iff]
  simp only[zLV,beq_iff_eq,decide_eq_true_eq,Prod.mk.injEq,cX.mk.injEq,and_true]
  constructor <;> (rintro⟨rfl,rfl,rfl,rfl,rfl,rfl,rfl⟩;exact⟨rfl,rfl,rfl,rfl,rfl,rfl,rfl⟩)
 ·congr 1
  exact(decide_eq_false (fun k=>by rw[(Prod.mk.inj k).2]at h;simp at h)).symm
theorem uX (u:cX)(hk:Fair u):PC Tryz.V 21 [cR u] (.bool (dQ u)):=by
 have pf:=eA u hk
 have pp:=jG (aT u)
 unfold cR at pf pp
 (refine aV 3000 Tryz.func21 rfl Tryz.ntmps21 Tryz.results21 Tryz.call21 (by simp) (by simp[flat,flat.af,cR]) (by simp[flat,flat.af,cR]) ?_
  unfold cR
  refine bo ?_)
 (refine aa (pf) ?_;refine bo ?_)
 (refine aa (pp) ?_;refine bo ?_)
 unfold dQ
 generalize a7 (aT u)=x
 obtain⟨⟨a,b,c,d,e,f,g⟩,y⟩:=x
 obtain⟨a',b',c',d',e',f',g'⟩:=u
 simp only[eqS,Ek,Cp,Cp.eqF]
 refine⟨fun h=>?_,fun h=>?_⟩
 ·obtain rfl:y=0:=by simpa using h
  congr 1
  rw[Bool.eq_iff_iff]
  simp only[zLV,beq_iff_eq,decide_eq_true_eq,Prod.mk.injEq,cX.mk.injEq,and_true]
  constructor <;> (rintro⟨rfl,rfl,rfl,rfl,rfl,rfl,rfl⟩;exact⟨rfl,rfl,rfl,rfl,rfl,rfl,rfl⟩)
 ·congr 1
  exact(decide_eq_false (fun k=>by rw[(Prod.mk.inj k).2]at h;simp at h)).symm
def wsvR (u:cX):SV:=cR u
theorem xL (s:Bytes):Uri.size (aM s).1≤100000:=by
 by_cases h:16384<s.length
 ·rw[show aM s=(Uri.none,5) from if_pos h];decide
 ·have:=oU s;omega
theorem yV (b r:Uri):Uri.size (eV b r)≤2 * (Uri.size b+Uri.size r)+2:=by
 have h1:=gq r.path
 have h2:=gq (kZ b r)
 have h3:(kZ b r).length≤b.path.length+r.path.length+1:=by
  have:=yz b r
  omega
 unfold eV
 split
 ·simp[Uri.size];omega
 split
 ·simp[Uri.size];omega
 split
 ·split <;> (simp[Uri.size];omega)
 ·simp[Uri.size];omega
theorem wW (u:cX)(ref:Bytes)(hk:Fair u):PC Tryz.V 146 [cR u,.str ref] (.fF [cR (ey u ref).1,.int .i64 (ey u ref).2]):=by
 show PC _ _ _ (.fF [wsvR (ey u ref).1,.int .i64 (ey u ref).2])
 have pf:=eA u hk
 have hvd:=uX u hk
 have s1:=o7 (aT u)
 have s2:=o7 ref
 have z1:=xL (aT u)
 have z2:=xL ref
 have pr:=zg (aM (aT u)).1 (aM ref).1 (by unfold Uri.size at z1;omega) (by unfold Uri.size at z2;omega)
 have hz:=yV (aM (aT u)).1 (aM ref).1
 unfold cR at pf hvd
 unfold rl at s1 s2 pr
 (refine aV 3000 Tryz.func146 rfl Tryz.ntmps146 Tryz.results146 Tryz.call146 (by simp) (by simp[flat,flat.af,cR]) (by simp[flat,flat.af,cR,wsvR]) ?_
  unfold cR
  refine bo ?_)
 unfold ey
 (refine aa (hvd) ?_;refine bo ?_)
 cases hv:dQ u
 ·refine bo ?_
  rfl
 refine bo ?_
 (refine aa (pf) ?_;refine bo ?_)
 (refine aa (s1) ?_;refine bo ?_)
 (refine aa (s2) ?_;refine bo ?_)
 refine⟨fun h1=>?_,fun h1=>?_⟩
 ·rw[if_pos (by simpa using h1)];rfl
 rw[if_neg (by simpa using h1)]
 generalize aM (aT u)=b at *
 generalize aM ref=r at *
 (refine aa (pr) ?_;refine bo ?_)
 generalize eV b.1 r.1=q at *
 have pl:=gV q.scheme dw (by unfold Uri.size at hz z1 z2;omega) (by decide)
 rw[show lower dw=dw by decide]at pl
 have pj:=FK q (by unfold Uri.size at *;omega)
 have pp:=jG (fg q)
 unfold rl at pj
 unfold cR at pp
 (refine aa (pl) ?_;refine bo ?_)
 refine⟨fun h2=>?_,fun h2=>?_⟩
 ·rw[if_pos (by simpa using h2)];rfl
 rw[if_neg (by simpa using h2)]
 (refine aa (pj) ?_;refine bo ?_)
 (refine aa (pp) ?_;refine bo ?_)
 rfl
def Sq (e s:Nat)(x:SV)(b:List aw)(c:List SV)(n:Nat):Prop:=(x=.ah∧c=[]∧n=0)∨∃ j m,x=.o j n∧b[j]? = some (.own c e s n m)
theorem Sq.within {e s:Nat}{x:SV}{b:List aw}{c:List SV}{n:Nat}(h:Sq e s x b c n):Vc.within b.length x=true:=by
 rcases h with⟨rfl,-⟩|⟨j,m,rfl,hj⟩
 ·rfl
 ·have:=(zLx.1 hj).1
  simp[Vc.within,this]
end Go.Proofs.YtnmlimehgifadaaGreatDoor
namespace Wf
open Go Go.RowKit
structure gz where
 host:Bytes
 port:Int
 target:Bytes
 raw:Bytes
 fail:Int
 since:Int
 Ho:Int
 deriving DecidableEq
def gz.none:gz:=⟨[],0,[],[],0,0,0⟩
def kA (h:Bytes)(p:Int)(t:Bytes)(now:Int)(a:gz):Bool :=
 (a.host==h&&a.port==p)&&a.target==t&&decide (a.since≤now)&&(a.Ho==0||decide (now<a.Ho))
def yv (a:gz):Bytes × Int :=
 if a.fail=1 then([],240) else if a.fail=2 then([],241) else if a.fail=3 then([],242) else if a.fail=4 then([],243) else(a.raw,0)
def wC:Option gz→Bytes × Int
 | Option.none=>([],241)
 | zLM a=>yv a
def dk (L:List gz)(u:cX)(now:Int):Bytes × Int :=
 if dQ u=false then([],8) else wC (L.find? (kA u.host u.port (bz u) now))
def lz (a:gz):Bool :=
 decide ((aF (aU a.host a.port)).2=0)&&decide ((aF (aU a.host a.port)).1=(a.host,a.port))&&Lib.hasPrefix a.target [47]&&decide (0≤a.fail)&&decide (a.fail≤4)
def lF (L:List gz):Bool:=decide (L.length≤256)&&L.all lz
def bp (L:List gz)(h:Bytes)(p:Int):List gz:=L.filter fun a=>!(a.host==h&&a.port==p)
theorem sg {α:Type}{p:α→Bool}{L:List α}(h:∀ a∈L,p a=false):L.find? p=none:=by
 rw[List.find?_eq_none]
 intro a ha
 rw[h a ha];simp
theorem find_at {α:Type}{p:α→Bool}{L:List α}{k:Nat}(hk:k<L.length)(h:∀ a∈L.take k,p a=false)(hp:p L[k]=true):L.find? p=some L[k]:=by
 have e:L=L.take k++L[k]::L.drop (k+1):=by
  rw[← List.drop_eq_getElem_cons hk,List.take_append_drop]
 generalize L[k]=x at e hp
 rw[e,List.find?_append,sg h]
 simp[List.find?_cons,hp]
def zA {α:Type}(p:α→Bool)(L:List α):Int:=if L.any p then(L.findIdx p:Int) else -1
theorem rU {α:Type}{p:α→Bool}{L:List α}(h:∀ a∈L,p a=false):zA p L=-1:=by
 unfold zA
 rw[if_neg]
 intro q
 obtain⟨a,ha,hp⟩:=List.any_eq_true.1 q
 rw[h a ha]at hp
 cases hp
theorem EX {α:Type}{p:α→Bool}{L:List α}{k:Nat}(hk:k<L.length)(h:∀ a∈L.take k,p a=false)(hp:p L[k]=true):zA p L=k:=by
 unfold zA
 rw[if_pos (List.any_eq_true.2 ⟨_,zLU hk,hp⟩)]
 congr 1
 refine(List.findIdx_eq hk).2 ⟨hp,fun j hj=>?_⟩
 have:=h L[j] (by rw[List.mem_take_iff_getElem];exact⟨j,by omega,rfl⟩)
 exact this
theorem vE {α:Type}(p:α→Bool)(L:List α):(zA p L=-1∧L.any p=false∧L.find? p=none)∨∃ (k:Nat) (h:k<L.length),zA p L=k∧L.any p=true∧L.find? p=some L[k]:=by
 by_cases h:L.any p=true
 ·right
  obtain⟨a,ha,hpa⟩:=List.any_eq_true.1 h
  have hk:L.findIdx p<L.length:=List.findIdx_lt_length_of_exists ⟨a,ha,hpa⟩
  refine⟨L.findIdx p,hk,by unfold zA;rw[if_pos h],h,?_⟩
  refine find_at hk (fun b hb=>?_) (List.findIdx_getElem (w:=hk))
  obtain⟨j,hj,rfl⟩:=List.mem_take_iff_getElem.1 hb
  exact by simpa using List.not_of_lt_findIdx (p:=p) (xs:=L) (i:=j) (by omega)
 ·left
  have h:=Bool.not_eq_true _ ▸ h
  have h2:∀ a∈L,p a=false:=by simpa using h
  exact⟨rU h2,h,sg h2⟩
end Wf
namespace Go.Proofs.YtnmlimehgifadaaGreatDoor
open Go Vc Go.RowKit Wf
def ac (a:gz):List SV:=[.str a.host,.int .i64 a.port,.str a.target,.str a.raw,.int .i64 a.fail,.int .u64 a.since,.int .u64 a.Ho]
theorem CO (L:List gz)(k:Nat)(h:k<L.length):((L.flatMap ac).drop (k * 7)).take 7=ac L[k]:=lT ac 7 (fun _=>rfl) L k h
theorem dO (L:List gz):(L.flatMap ac).length=L.length * 7:=iq ac 7 (fun _=>rfl) L
theorem Fi (L:List gz)(a:gz):(L++[a]).flatMap ac=L.flatMap ac++ac a:=by simp
def AnsFair (a:gz):Prop:=a.host.length≤140737488355328∧a.target.length≤140737488355328∧a.raw.length≤140737488355328
theorem jF (a:gz):PC Tryz.V 95 [.agg (ac a)] (.agg [.str a.host,.int .i64 a.port]):=by
 refine aV 3000 Tryz.func95 rfl Tryz.ntmps95 Tryz.results95 Tryz.call95 (by simp) (by simp[flat,flat.af,ac]) (by simp[flat,flat.af,ac]) ?_
 unfold ac
 exact bo True.intro
theorem wU (a:gz)(h:a.host.length≤2000)(hp:-9223372036854775808≤a.port∧a.port≤9223372036854775807)(ht:a.target.length≤140737488355328):PC Tryz.V 57 [.agg (ac a)] (.bool (lz a)):=by
 have p1:=jF a
 have p2:=oG a.host a.port (by omega) hp.1 hp.2
 refine aV 3000 Tryz.func57 rfl Tryz.ntmps57 Tryz.results57 Tryz.call57 (by simp) (by simp[flat,flat.af,ac]) (by simp[flat,flat.af,ac]) ?_
 unfold ac at p1 ⊢
 refine bo ?_
 (refine aa (p1) ?_;refine od ?_)
 (refine aa (p2) ?_;refine od ?_)
 have hl:=ie a.host hp.1 hp.2
 have p3:=qx (aU a.host a.port) (by omega)
 generalize hz:aF (aU a.host a.port)=z at p3
 obtain⟨⟨zh,zp⟩,ze⟩:=z
 simp only at p3
 (refine aa (p3) ?_;refine od ?_)
 have ev:lz a=((ze==0)&&((zh==a.host&&zp==a.port)&&(Lib.hasPrefix a.target [47]&&(decide (0≤a.fail)&&decide (a.fail≤4))))):=by
  unfold lz
  rw[hz]
  rw[Bool.eq_iff_iff]
  simp[and_assoc]
 refine⟨fun h1=>?_,fun h1=>⟨(av (by kernel_rfl)),by rw[ev,h1];rfl⟩⟩
 have p4:=ir a.target [47]
 (refine aW (p1) ?_;refine od ?_)
 refine⟨fun h2=>?_,fun h2=>⟨(av (by kernel_rfl)),by rw[ev,h1,h2];rfl⟩⟩
 (refine aW (p4) ?_;refine od ?_)
 exact⟨fun h3=>⟨fun h4=>⟨(av (by kernel_rfl)),by rw[ev,h1,h2,h3,h4];rfl⟩,fun h4=>⟨(av (by kernel_rfl)),by rw[ev,h1,h2,h3,h4];rfl⟩⟩,fun h3=>⟨(av (by kernel_rfl)),by rw[ev,h1,h2,h3];rfl⟩⟩
theorem zc (h:Bytes)(p:Int)(t:Bytes)(now:Int)(a:gz):PC Tryz.V 43 [.agg [.str h,.int .i64 p,.str t,.int .u64 now],.agg (ac a)] (.bool (kA h p t now a)):=by
 have p1:=jF a
 refine aV 3000 Tryz.func43 rfl Tryz.ntmps43 Tryz.results43 Tryz.call43 (by simp) (by simp[flat,flat.af,ac]) (by simp[flat,flat.af,ac]) ?_
 unfold ac at p1 ⊢
 refine bo ?_
 (refine aW (p1) ?_;refine od ?_)
 refine⟨fun h1=>⟨fun h2=>⟨fun h3=>⟨fun h4=>⟨(av (by kernel_rfl)),?_⟩,fun h4=>⟨(av (by kernel_rfl)),?_⟩⟩,fun h3=>⟨(av (by kernel_rfl)),?_⟩⟩,fun h2=>⟨(av (by kernel_rfl)),?_⟩⟩,fun h1=>⟨(av (by kernel_rfl)),?_⟩⟩
 all_goals unfold kA
 ·rw[h1,h2,h3,h4];simp
 ·rw[h1,h2,h3,h4];simp
 ·rw[h1,h2,h3];simp
 ·rw[h1,h2];simp
 ·rw[h1];simp
theorem yQ {bs:List aw}{j:Nat}{L:List gz}{m:Bool}(g:FuncId)(p:gz→Bool)(hp:∀ a∈L,PC Tryz.V g [.agg (ac a)] (.bool (p a)))(hj:bs[j]? = some (.own (L.flatMap ac) 33 7 L.length m))(hL:L.length≤9223372036854775807) :
 SC Tryz.V 42 [.o j L.length,.fn (.func g) []] bs (fun r b=>r=.int .i64 (zA p L)∧b=bs):=by
 have iG:j<bs.length:=(zLx.1 hj).1
 refine bJ 3000 Tryz.func42 rfl Tryz.ntmps42 Tryz.results42 Tryz.call42 (by simp) (aj bs.length _ (by simp[within,within.ax,iG])) ?_
 refine I8 ?_
 refine az (fun σ=>∃ q:Nat,q≤L.length∧lk 0 σ.t=some (.o j L.length)∧lk 1 σ.t=some (.fn (.func g) [])∧lk 6 σ.t=some (.o j L.length)∧lk 7 σ.t=some (.int .i64 L.length)∧lk 8 σ.t=some (.int .i64 q)∧σ.b=bs∧∀ a∈L.take q,p a=false) (fun σ=>L.length - fC 8 σ) ⟨0,by omega,rfl,rfl,rfl,rfl,rfl,rfl,by simp⟩ ?_
 rintro⟨t,b⟩ ⟨q,hq,h0,h1,h6,h7,h8,hb,cV⟩
 simp only at h0 h1 h6 h7 h8 hb
 subst hb
 rw[ao h8]
 by_cases aC:q<L.length
 ·have bg:decide ((q:Int)<L.length)=true:=decide_eq_true (by omega)
  have hu:=CO L q aC
  have oL:=dO L
  have hc:=hp _ (zLU aC)
  unfold ac at hj hu oL hc
  have ht:=zLJ aC
  refine gC (zLw h0 (zLw h1 (zLw h6 (zLw h7 (zLw h8 (zLw hj (zLw hu (zLw oL (zLw bg zLL))))))))) ?_
  refine⟨⟨by omega,by omega⟩,by omega,?_⟩
  (refine aa (hc) ?_;refine gN (zLw h0 (zLw h1 (zLw h6 (zLw h7 (zLw h8 (zLw hj (zLw oL bg))))))) ?_)
  refine⟨fun hpq=>by rw[EX aC cV hpq],fun hpq=>⟨⟨by omega,by omega⟩,⟨q+1,by omega,rfl,?_⟩,?_⟩⟩
  ·intro s hs
   rw[ht]at hs
   rcases zLZ.1 hs with hs|hs
   ·exact cV s hs
   ·rw[List.mem_singleton.1 hs];exact hpq
  ·rw[ao (k:=.i64) (n:=(q:Int)+1) rfl];omega
 ·have j4:q=L.length:=by omega
  subst j4
  rw[zLY]at cV
  have bg:decide ((L.length:Int)<L.length)=false:=by simp
  refine gN (zLw h0 (zLw h1 (zLw h6 (zLw h7 (zLw h8 (zLw hj bg)))))) ?_
  rw[rU cV]
theorem wR {bs:List aw}{j:Nat}{L:List gz}{m:Bool}(g:FuncId)(v:SV)(fv:flat v=true)(p:gz→Bool)(hp:∀ a∈L,PC Tryz.V g [v,.agg (ac a)] (.bool (p a)))(hj:bs[j]? = some (.own (L.flatMap ac) 33 7 L.length m))(hL:L.length≤9223372036854775807) :
 SC Tryz.V 42 [.o j L.length,.mv g [v]] bs (fun r b=>r=.int .i64 (zA p L)∧b=bs):=by
 have iG:j<bs.length:=(zLx.1 hj).1
 have hv:∀ β β',ai β v=ai β' v:=jt v fv
 refine bJ 3000 Tryz.func42 rfl Tryz.ntmps42 Tryz.results42 Tryz.call42 (by simp) (fun β β' hb=>by simp[bG,ai,hv β β',hb j iG]) ?_
 refine I8 ?_
 refine az (fun σ=>∃ q:Nat,q≤L.length∧lk 0 σ.t=some (.o j L.length)∧lk 1 σ.t=some (.mv g [v])∧lk 6 σ.t=some (.o j L.length)∧lk 7 σ.t=some (.int .i64 L.length)∧lk 8 σ.t=some (.int .i64 q)∧σ.b=bs∧∀ a∈L.take q,p a=false) (fun σ=>L.length - fC 8 σ) ⟨0,by omega,rfl,rfl,rfl,rfl,rfl,rfl,by simp⟩ ?_
 rintro⟨t,b⟩ ⟨q,hq,h0,h1,h6,h7,h8,hb,cV⟩
 simp only at h0 h1 h6 h7 h8 hb
 subst hb
 rw[ao h8]
 by_cases aC:q<L.length
 ·have bg:decide ((q:Int)<L.length)=true:=decide_eq_true (by omega)
  have hu:=CO L q aC
  have oL:=dO L
  have hc:=hp _ (zLU aC)
  unfold ac at hj hu oL hc
  have ht:=zLJ aC
  refine gC (zLw h0 (zLw h1 (zLw h6 (zLw h7 (zLw h8 (zLw hj (zLw hu (zLw oL (zLw bg zLL))))))))) ?_
  refine⟨⟨by omega,by omega⟩,by omega,?_⟩
  (refine aa (hc) ?_;refine gN (zLw h0 (zLw h1 (zLw h6 (zLw h7 (zLw h8 (zLw hj (zLw oL bg))))))) ?_)
  refine⟨fun hpq=>by rw[EX aC cV hpq],fun hpq=>⟨⟨by omega,by omega⟩,⟨q+1,by omega,rfl,?_⟩,?_⟩⟩
  ·intro s hs
   rw[ht]at hs
   rcases zLZ.1 hs with hs|hs
   ·exact cV s hs
   ·rw[List.mem_singleton.1 hs];exact hpq
  ·rw[ao (k:=.i64) (n:=(q:Int)+1) rfl];omega
 ·have j4:q=L.length:=by omega
  subst j4
  rw[zLY]at cV
  have bg:decide ((L.length:Int)<L.length)=false:=by simp
  refine gN (zLw h0 (zLw h1 (zLw h6 (zLw h7 (zLw h8 (zLw hj bg)))))) ?_
  rw[rU cV]
theorem ab_at (L:List gz)(k:Nat)(h:k<L.length)(i:Nat)(x:SV)(hx:(ac L[k])[i]? = some x):(L.flatMap ac)[k * 7+i]? = some x:=by
 have h1:=CO L k h
 have h2:i<7:=(zLx.1 hx).1
 rw[← h1,List.getElem?_take_of_lt h2,List.getElem?_drop]at hx
 exact hx
theorem tE {bs:List aw}{j:Nat}{L:List gz}{m:Bool}(g:FuncId)(p:gz→Bool)(hp:∀ a∈L,PC Tryz.V g [.agg (ac a)] (.bool (p a)))(hj:bs[j]? = some (.own (L.flatMap ac) 33 7 L.length m))(hL:L.length≤9223372036854775807) :
 SC Tryz.V 55 [.o j L.length,.fn (.func g) []] bs (fun r b=>r=.bool (L.any p)∧b=bs):=by
 have iG:j<bs.length:=(zLx.1 hj).1
 have s1:=yQ g p hp hj hL
 refine bJ 3000 Tryz.func55 rfl Tryz.ntmps55 Tryz.results55 Tryz.call55 (by simp) (aj bs.length _ (by simp[within,within.ax,iG])) ?_
 refine I8 ?_
 refine ae s1 ?_
 rintro r b ⟨rfl,rfl⟩
 refine I8 ?_
 rcases vE p L with⟨e,e2,-⟩|⟨k,hk,e,e2,-⟩
 ·rw[e,e2];rfl
 ·rw[e,e2,decide_eq_true (by omega)]
theorem uW (a:gz)(h:a.host.length≤2000)(hp:-9223372036854775808≤a.port∧a.port≤9223372036854775807)(ht:a.target.length≤140737488355328):PC Tryz.V 56 [.agg (ac a)] (.bool (!lz a)):=by
 have p1:=wU a h hp ht
 refine aV 3000 Tryz.func56 rfl Tryz.ntmps56 Tryz.results56 Tryz.call56 (by simp) (by simp[flat,flat.af,ac]) (by simp[flat,flat.af,ac]) ?_
 unfold ac at p1 ⊢
 refine bo ?_
 (refine aa (p1) ?_;exact od True.intro)
def CW (a:gz):Prop:=a.host.length≤2000∧(-9223372036854775808≤a.port∧a.port≤9223372036854775807)∧a.target.length≤140737488355328
theorem uK {bs:List aw}{j:Nat}{L:List gz}{m:Bool}(hj:bs[j]? = some (.own (L.flatMap ac) 33 7 L.length m))(hL:L.length≤9223372036854775807)(hs:∀ a∈L,CW a) :
 SC Tryz.V 27 [.o j L.length] bs (fun r b=>r=.bool (lF L)∧b=bs):=by
 have iG:j<bs.length:=(zLx.1 hj).1
 have s1:=tE 56 (fun a=>!lz a) (fun a ha=>uW a (hs a ha).1 (hs a ha).2.1 (hs a ha).2.2) hj hL
 refine bJ 3000 Tryz.func27 rfl Tryz.ntmps27 Tryz.results27 Tryz.call27 (by simp) (aj bs.length _ (by simp[within,within.ax,iG])) ?_
 refine I8 ?_
 refine⟨fun h=>?_,fun h=>?_⟩
 ·refine ae s1 ?_
  rintro r b ⟨rfl,rfl⟩
  refine I8 ?_
  unfold lF
  rw[decide_eq_true (by have:=of_decide_eq_true h;omega),Bool.true_and,List.any_eq_not_all_not]
  simp
 ·unfold lF
  rw[decide_eq_false (by have:=of_decide_eq_false h;omega),Bool.false_and]
theorem qb {bs:List aw}{j:Nat}{L:List gz}{m:Bool}(hj:bs[j]? = some (.own (L.flatMap ac) 33 7 L.length m))(hL:L.length≤9223372036854775807)(u:cX)(hu:Fair u)(now:Int) :
 SC Tryz.V 12 [.o j L.length,cR u,.int .u64 now] bs (fun r b=>r=.fF [.str (dk L u now).1,.int .i64 (dk L u now).2]∧Kp bs b):=by
 have iG:j<bs.length:=(zLx.1 hj).1
 have p1:=Bh u hu
 have p2:=qq u
 have p3:=qp u hu
 have pf:=fun a=>zc u.host u.port (bz u) now a
 refine bJ 3000 Tryz.func12 rfl Tryz.ntmps12 Tryz.results12 Tryz.call12 (by simp) (aj bs.length _ (by simp[within,within.ax,iG,cR])) ?_
 unfold cR at p1 p2 p3 ⊢
 refine I8 ?_
 (refine aa (p1) ?_;refine I8 ?_)
 refine⟨fun h=>⟨?_,(Kp.refl _).app _⟩,fun h=>?_⟩
 ·have h:dQ u=false:=by simpa using h
  unfold dk
  rw[if_pos h]
 have h:dQ u=true:=by simpa using h
 have ea:dk L u now=wC (L.find? (kA u.host u.port (bz u) now)):=by unfold dk;rw[if_neg (by rw[h];simp)]
 rw[ea]
 (refine aW (p2) ?_;refine I8 ?_)
 (refine aW (p3) ?_;refine I8 ?_)
 have iB:=fun X=>ad hj [X]
 have hj3:=fun X Y=>ad (iB X) [Y]
 have s2:=fun X Y=>wR (bs:=bs++[X]++[Y]) _ _ (by simp[flat,flat.af]) _ (fun a _=>pf a) (hj3 X Y) hL
 have hz:∀ X:aw,((bs++[X]).length=bs.length)=False:=fun X=>by simp
 refine⟨(by
  refine bE (fun n=>if n=bs.length then 0 else 1) ?_
  simp only[List.map_cons,List.map_nil,cM,dZ,reduceIte,hz]
  exact av (by kernel_rfl)),?_⟩
 refine ae (s2 _ _) ?_
 rintro r b ⟨rfl,rfl⟩
 rcases vE (kA u.host u.port (bz u) now) L with⟨e,-,e2⟩|⟨k,hk,e,-,e2⟩
 ·rw[e,e2]
  refine uo ?_
  exact⟨rfl,((Kp.refl _).app _).app _⟩
 ·rw[e,e2]
  have bM:decide ((k:Int)<0)=false:=decide_eq_false (by omega)
  have h4:=ab_at L k hk 4 _ rfl
  have h3:=ab_at L k hk 3 _ rfl
  have oL:=dO L
  refine gC (zLw bM (zLw h3 (zLw h4 (zLw oL (zLw hj3 zLL))))) ?_
  refine⟨⟨by omega,by omega⟩,by omega,fun q1=>⟨?_,((Kp.refl _).app _).app _⟩,fun q1=>⟨fun q2=>⟨?_,((Kp.refl _).app _).app _⟩,fun q2=>⟨fun q3=>⟨?_,((Kp.refl _).app _).app _⟩,fun q3=>⟨fun q4=>⟨?_,((Kp.refl _).app _).app _⟩,fun q4=>⟨⟨by omega,by omega⟩,by omega,?_,((Kp.refl _).app _).app _⟩⟩⟩⟩⟩
  all_goals simp only[beq_iff_eq,beq_eq_false_iff_ne,ne_eq]at *
  ·simp[wC,yv,q1]
  ·simp[wC,yv,q2]
  ·simp[wC,yv,q3]
  ·simp[wC,yv,q4]
  ·simp[wC,yv,q1,q2,q3,q4]
theorem wV (h:Bytes)(p:Int)(a:gz):PC Tryz.V 44 [.agg [.str h,.int .i64 p],.agg (ac a)] (.bool (!(a.host==h&&a.port==p))):=by
 have p1:=jF a
 refine aV 3000 Tryz.func44 rfl Tryz.ntmps44 Tryz.results44 Tryz.call44 (by simp) (by simp[flat,flat.af,ac]) (by simp[flat,flat.af,ac]) ?_
 unfold ac at p1 ⊢
 refine bo ?_
 (refine aW (p1) ?_;refine od ?_)
 exact(av (by kernel_rfl))
theorem yw {L:List gz}{k:Nat}(aC:k<L.length)(h:Bytes)(p:Int):bp (L.take (k+1)) h p=bp (L.take k) h p++if !(L[k].host==h&&L[k].port==p) then [L[k]] else []:=by
 unfold bp
 rw[zLJ aC,List.filter_append]
 congr 1
 rw[List.filter_cons]
 rfl
theorem mT (L:List gz)(h:Bytes)(p:Int):(bp L h p).length≤L.length:=List.length_filter_le _ _
def Sl1 (e s L:Nat)(x:SV)(b:List aw)(c:List SV)(n:Nat):Prop:=(x=.ah∧c=[]∧n=0)∨∃ j,x=.o j n∧0<n∧L≤j∧b[j]? = some (.own c e s n true)
def Ey (bs:List aw)(n:Nat):SV:=if n=0 then .ah else .o bs.length n
def Ez (e s:Nat)(bs:List aw)(c:List SV)(n:Nat):List aw:=if n=0 then bs else bs++[.own c e s n true]
theorem Ga {β β':Nat→Bt}{t:Bt}{fp:Nat→Prop}{w:World}{c:List SV}{e s n:Nat}{m:Bool}(hc:flat.af c=true)(h:Holds β t fp w (.own c e s n m)):Holds β' t fp w (.own c e s n m):=by
 have e1:c.map (ai β)=c.map (ai β'):=by rw[← bR,← bR];exact dT c hc β β'
 simp only[Holds]at h ⊢
 rw[← e1]
 exact h
theorem EC {V:Cx}{f:FuncId}{args:List SV}{bs:List aw}{e s n:Nat}{c:List SV}(hc:flat.af c=true)(h:SC V f args bs (fun r b=>Kp bs b∧Sl1 e s bs.length r b c n)):SC V f args bs (fun r b=>r=Ey bs n∧b=Ez e s bs c n):=by
 refine⟨h.1,fun β fp w qM hG hE=>(h.2 β fp w qM hG hE).mono ?_⟩
 rintro ex w' ⟨r,bs',β₂,fp₂,⟨⟨hlen,bf⟩,oq⟩,vS,-,a6,j5,iu,gI⟩
 have old:∀ {i r},bs[i]? = some r→bs'[i]? = some r:=fun {i r} hi=>(bf i (zLx.1 hi).1).trans hi
 have keep:∀ (γ β':Nat→Bt) (i:Nat) (r:aw) (fq:Nat→Prop),bs[i]? = some r→ct bs.length β₂ γ→ct bs.length β₂ β'→Holds γ (γ i) fq w' r→Holds β' (β' i) fq w' r:=by
  intro γ β' i r fq hi h1 h2 h3
  have g1:=(qM γ (fun i hi=>(vS i hi).trans (h1 i hi))).holds i r hi
  have g2:=(qM β' (fun i hi=>(vS i hi).trans (h2 i hi))).holds i r hi
  have e:γ i=β' i:=(h1 i (zLx.1 hi).1).symm.trans (h2 i (zLx.1 hi).1)
  rw[e]at g1 h3
  exact yW g1 g2 h3
 rcases oq with⟨rfl,-,rfl⟩|⟨j,rfl,hn,hj,tm⟩
 ·refine⟨.ah,bs,β₂,fp₂,⟨rfl,rfl⟩,vS,zLP _,fun β' hβ=>?_,j5,fun i r' hi=>iu i r' (old hi),fun i r' hi=>gI i r' (old hi)⟩
  have hc:∀ i,i<bs.length→(if i<bs.length then β' i else β₂ i)=β' i:=fun i hi=>if_pos hi
  have hA:ct bs.length β₂ (fun i=>if i<bs.length then β' i else β₂ i):=fun i hi=>(hβ i hi).trans (hc i hi).symm
  obtain⟨he,pz⟩:=a6 (fun i=>if i<bs.length then β' i else β₂ i) (fun i _=>by
   by_cases hi:i<bs.length
   ·exact hA i hi
   ·exact(if_neg hi).symm)
  exact⟨by rw[he];rfl,⟨fun i r hi=>keep _ β' i r _ hi hA hβ (pz.holds i r (old hi)),fun i r hi=>pz.lt i r (old hi),fun i j r r' hi hj=>pz.sep i j r r' (old hi) (old hj)⟩⟩
 ·have ye:n≠0:=by omega
  have hl:(bs++[aw.own c e s n true]).length=bs.length+1:=by simp
  have low:∀ {i r},(bs++[aw.own c e s n true])[i]? = some r→(i<bs.length∧bs[i]? = some r)∨(i=bs.length∧r=.own c e s n true):=fun {i r} hi=>by
   have h1:=(zLx.1 hi).1
   rw[hl]at h1
   rcases zLQ i bs.length with h2|h2
   ·rw[zLB h2]at hi
    exact .inl ⟨h2,hi⟩
   ·obtain rfl:i=bs.length:=by omega
    rw[aO]at hi
    exact .inr ⟨rfl,(zLM.inj hi).symm⟩
  refine⟨.o bs.length n,bs++[.own c e s n true],fun i=>if i=bs.length then β₂ j else β₂ i,fun i k=>if i=bs.length then fp₂ j k else fp₂ i k,⟨by rw[Ey,if_neg ye],by rw[Ez,if_neg ye]⟩,fun i hi=>?_,by simp,fun β' hβ=>?_,j5,fun i r' hi=>?_,fun i r' hi=>?_⟩
  ·simp only[if_neg (zLN hi)]
   exact vS i hi
  ·rw[hl]at hβ
   have hB:ct bs.length β₂ β':=fun i hi=>by
    have:=hβ i (by omega)
    simp only[if_neg (zLN hi)]at this
    exact this
   have hT:β₂ j=β' bs.length:=by
    have:=hβ bs.length (by omega)
    simp only[if_true]at this
    exact this
   have hA:ct bs.length β₂ (fun i=>if i=j then β' bs.length else if i<bs.length then β' i else β₂ i):=fun i hi=>by
    simp only[if_neg (show i≠j by omega),if_pos hi]
    exact hB i hi
   obtain⟨he,pz⟩:=a6 (fun i=>if i=j then β' bs.length else if i<bs.length then β' i else β₂ i) (fun i _=>by
    by_cases h1:i=j
    ·subst h1;simp only[if_true];exact hT
    ·by_cases hi:i<bs.length
     ·exact hA i hi
     ·simp only[if_neg h1,if_neg hi])
   refine⟨by rw[he];simp[ai],⟨fun i r hi=>?_,fun i r hi=>?_,fun i k r r' hi hk hik hm=>?_⟩⟩
   ·rcases low hi with⟨h2,h3⟩|⟨rfl,rfl⟩
    ·simp only[if_neg (zLN h2)]
     exact keep _ β' i r _ h3 hA hB (pz.holds i r (old h3))
    ·have h3:=pz.holds j _ tm
     simp only[if_true]at h3 ⊢
     exact Ga hc h3
   ·rcases low hi with⟨h2,h3⟩|⟨rfl,rfl⟩
    ·simp only[if_neg (zLN h2)]
     exact pz.lt i r (old h3)
    ·simp only[if_true]
     exact pz.lt j _ tm
   ·rcases low hi with⟨h2,h3⟩|⟨rfl,rfl⟩ <;> rcases low hk with⟨h4,h5⟩|⟨rfl,rfl⟩
    ·simp only[if_neg (zLN h2),if_neg (zLN h4)]
     exact pz.sep i k r r' (old h3) (old h5) hik hm
    ·simp only[if_neg (zLN h2),if_true]
     exact pz.sep i j r _ (old h3) tm (by omega) hm
    ·simp only[if_neg (zLN h4),if_true]
     exact pz.sep j k _ r' tm (old h5) (by omega) hm
    ·exact absurd rfl hik
  ·rcases low hi with⟨h2,h3⟩|⟨rfl,rfl⟩
   ·simp only[if_neg (zLN h2)]
    exact iu i r' (old h3)
   ·simp only[if_true]
    exact iu j _ tm
  ·rcases low hi with⟨h2,h3⟩|⟨rfl,rfl⟩
   ·simp only[if_neg (zLN h2)]
    exact gI i r' (old h3)
   ·simp only[if_true]
    exact gI j _ tm
theorem ld {bs:List aw}{j:Nat}{L:List gz}{m:Bool}(hj:bs[j]? = some (.own (L.flatMap ac) 33 7 L.length m))(hL:L.length≤1000000)(h:Bytes)(p:Int) :
 SC Tryz.V 13 [.o j L.length,.agg [.str h,.int .i64 p]] bs (fun r b=>Kp bs b∧Sl1 33 7 bs.length r b ((bp L h p).flatMap ac) (bp L h p).length):=by
 have iG:j<bs.length:=(zLx.1 hj).1
 refine bJ 3000 Tryz.func13 rfl Tryz.ntmps13 Tryz.results13 Tryz.call13 (by simp) (aj bs.length _ (by simp[within,within.ax,iG])) ?_
 refine I8 ?_
 have hp:=ad hj [.cells [.str h,.int .i64 p] 24 true]
 refine az (fun σ=>∃ (k:Nat) (x:SV),k≤L.length∧lk 5 σ.t=some x∧lk 6 σ.t=some (.mv 44 [.agg [.str h,.int .i64 p]])∧lk 11 σ.t=some (.o j L.length)∧lk 12 σ.t=some (.int .i64 L.length)∧lk 13 σ.t=some (.int .i64 k)∧σ.b[j]? = some (.own (L.flatMap ac) 33 7 L.length m) ∧
  Kp bs σ.b∧Sl1 33 7 bs.length x σ.b ((bp (L.take k) h p).flatMap ac) (bp (L.take k) h p).length) (fun σ=>L.length - fC 13 σ) ⟨0,.ah,by omega,rfl,rfl,rfl,rfl,rfl,hp,(Kp.refl _).app _,.inl ⟨rfl,rfl,rfl⟩⟩ ?_
 rintro⟨t,b⟩ ⟨k,x,hk,h5,h6,gj,mP,mO,hb,bf,oq⟩
 simp only at h5 h6 gj mP mO hb bf oq
 rw[ao mO]
 by_cases aC:k<L.length
 ·have bg:decide ((k:Int)<L.length)=true:=decide_eq_true (by omega)
  have hu:=CO L k aC
  have oL:=dO L
  have hx:=yw aC h p
  have hll:=mT (L.take k) h p
  rw[zLI]at hll
  have he:=wV h p L[k]
  have wH:∀ a:gz,(bp (L.take k) h p++[a]).length=(bp (L.take k) h p).length+1:=fun a=>by simp
  generalize L[k]=a at hu hx he
  unfold ac at hb hu oL he
  rcases oq with⟨rfl,kU,ye⟩|⟨i,rfl,D6,hLi,hi⟩
  ·refine gC (zLw h5 (zLw h6 (zLw gj (zLw mP (zLw mO (zLw hb (zLw hu (zLw oL (zLw bg zLL))))))))) ?_
   refine⟨⟨by omega,by omega⟩,by omega,?_⟩
   (refine aa (he) ?_;refine gC (zLw h5 (zLw h6 (zLw gj (zLw mP (zLw mO hb))))) ?_)
   refine⟨fun hq=>⟨by omega,⟨by unfold maxLen;omega,by omega⟩,⟨by omega,by omega⟩,⟨k+1,_,by omega,rfl,rfl,(((bf.app _).app _).app _).at hj,((bf.app _).app _).app _,?_⟩,?_⟩,fun hq=>⟨⟨by omega,by omega⟩,⟨k+1,_,by omega,rfl,rfl,(bf.app _).at hj,bf.app _,?_⟩,?_⟩⟩
   ·rw[hx,if_pos hq,Fi,kU,List.nil_append,wH,ye]
    exact .inr ⟨_,rfl,by omega,by have:=bf.1;simp;omega,by rw[aO];rfl⟩
   ·rw[ao (k:=.i64) (n:=(k:Int)+1) rfl];omega
   ·rw[hx,if_neg (by simp[hq]),List.append_nil]
    exact .inl ⟨rfl,kU,ye⟩
   ·rw[ao (k:=.i64) (n:=(k:Int)+1) rfl];omega
  ·refine gC (zLw h5 (zLw h6 (zLw gj (zLw mP (zLw mO (zLw hb (zLw hu (zLw oL (zLw bg zLL))))))))) ?_
   refine⟨⟨by omega,by omega⟩,by omega,?_⟩
   have hi1:=fun X=>ad hi [X]
   have hi2:=fun X Y=>ad (hi1 X) [Y]
   (refine aa (he) ?_;refine gC (zLw h5 (zLw h6 (zLw gj (zLw mP (zLw mO (zLw hb (zLw hi (zLw hi1 hi2)))))))) ?_)
   have hK:=fun Y Z X=>((((bf.app [Y]).app [Z]).set hLi .gone).app [X])
   refine⟨fun hq=>⟨by omega,⟨by unfold maxLen;omega,by omega⟩,⟨by omega,by omega⟩,⟨k+1,_,by omega,rfl,rfl,(hK _ _ _).at hj,hK _ _ _,?_⟩,?_⟩,fun hq=>⟨⟨by omega,by omega⟩,⟨k+1,_,by omega,rfl,rfl,(bf.app _).at hj,bf.app _,?_⟩,?_⟩⟩
   ·rw[hx,if_pos hq,Fi,wH]
    refine .inr ⟨_,rfl,by omega,by have:=bf.1;simp;omega,?_⟩
    rw[zLG (by simp)]
    simp
    rfl
   ·rw[ao (k:=.i64) (n:=(k:Int)+1) rfl];omega
   ·rw[hx,if_neg (by simp[hq]),List.append_nil]
    exact .inr ⟨i,rfl,D6,hLi,hi1 _⟩
   ·rw[ao (k:=.i64) (n:=(k:Int)+1) rfl];omega
 ·have j4:k=L.length:=by omega
  subst j4
  rw[zLY]at oq
  have bg:decide ((L.length:Int)<L.length)=false:=by simp
  refine gN (zLw h5 (zLw h6 (zLw gj (zLw mP (zLw mO (zLw hb bg)))))) ?_
  exact⟨bf,oq⟩
theorem Aa:∀ L:List gz,flat.af (L.flatMap ac)=true
 | []=>rfl
 | a::L=>by
   have:=Aa L
   simp[ac,flat.af,flat,this]
open Go Vc Go.RowKit
theorem Dv {V:Cx}{f:FuncId}{args args':List SV}{bs:List aw}{e s:Nat}{m:Bool}{R:SV→List aw→Prop}(h:SC V f args' (bs++[.own [] e s 0 m]) R)(ha:∀ β,bG (rm β bs.length ⟨0,0,0⟩) args'=bG β args):SC V f args bs R:=by
 refine⟨h.1,fun β fp w qM hG hE=>?_⟩
 have old:∀ {j r},(bs++[aw.own [] e s 0 m])[j]? = some r→(j<bs.length∧bs[j]? = some r)∨(j=bs.length∧r=.own [] e s 0 m):=fun {j r} hj=>by
  rcases zLQ j bs.length with aC|Ce
  ·rw[zLB aC]at hj
   exact .inl ⟨aC,hj⟩
  ·have iG:=(zLx.1 hj).1
   simp only[zLC,zLy,zLz]at iG
   obtain rfl:j=bs.length:=by omega
   rw[zLG (zLP _)]at hj
   simp only[Nat.sub_self,List.getElem?_cons_zero,zLM.injEq]at hj
   exact .inr ⟨rfl,hj.symm⟩
 let fp':Nat→Nat→Prop:=fun i k=>if i=bs.length then False else fp i k
 have ER:∀ k,¬ fp' bs.length k:=fun k hk=>by simp[fp']at hk
 have same:∀ {j},j<bs.length→fp' j=fp j:=fun {j} hj=>by funext k;simp[fp',zLN hj]
 have back:∀ {j r k},(bs++[aw.own [] e s 0 m])[j]? = some r→fp' j k→bs[j]? = some r∧fp j k:=fun {j r k} hj hk=>by
  rcases old hj with⟨h1,h2⟩|⟨rfl,-⟩
  ·exact⟨h2,by rw[← same h1];exact hk⟩
  ·exact absurd hk (ER k)
 rw[← ha β]
 refine(h.2 (rm β bs.length ⟨0,0,0⟩) fp' w (fun β' hβ=>?_) (fun i r hi hm k hk=>?_) hE).mono ?_
 ·have hβ:ct (bs.length+1) (rm β bs.length ⟨0,0,0⟩) β':=by simpa using hβ
  have hb:=qM β' (ct.eC hβ)
  refine⟨fun j r hj=>?_,fun j r hj k hk=>?_,fun i j r r' hi hj bt iX k hk bM=>?_⟩
  ·rcases old hj with⟨h1,h2⟩|⟨rfl,rfl⟩
   ·rw[same h1];exact hb.holds j r h2
   ·have:β' bs.length=⟨0,0,0⟩:=by rw[← hβ bs.length (by omega),gP]
    rw[this]
    exact .inl ⟨rfl,rfl,rfl,ER⟩
  ·obtain⟨h1,h2⟩:=back hj hk
   exact hb.lt j r h1 k h2
  ·obtain⟨h1,h2⟩:=back hi hk
   obtain⟨h3,h4⟩:=back hj bM
   exact hb.sep i j r r' h1 h3 bt iX k h2 h4
 ·obtain⟨h1,h2⟩:=back hi hk
  exact hG i r h1 hm k h2
 ·rintro ex w' ⟨r,bs',β₂,fp₂,hR,vS,hlen,a6,j5,iu,gI⟩
  rw[zLC]at vS hlen
  refine⟨r,bs',β₂,fp₂,hR,ct.eC vS,by simp at hlen;omega,a6,j5.mono (fun k ⟨i,r,hi,hm,hk⟩=>?_),fun i r' hi hm k hk=>?_,fun i r' hi k hk=>?_⟩
  ·obtain⟨h1,h2⟩:=back hi hk
   exact⟨i,r,h1,hm,h2⟩
  ·rcases iu i r' hi hm k hk with h1|⟨j,r,hj,hm',hk'⟩
   ·exact .inl h1
   ·obtain⟨h1,h2⟩:=back hj hk'
    exact .inr ⟨j,r,h1,hm',h2⟩
  ·rcases gI i r' hi k hk with h1|⟨j,r,hj,hk'⟩
   ·exact .inl h1
   ·obtain⟨h1,h2⟩:=back hj hk'
    exact .inr ⟨j,r,h1,h2⟩
theorem Kp.Ft {bs b:List aw}{X:aw}(h:Kp (bs++[X]) b):Kp bs b:=((Kp.refl bs).app [X]).trans h
def Sx (e s:Nat)(x:SV)(b:List aw)(c:List SV)(n:Nat):Prop:=(x=.ah∧c=[]∧n=0)∨∃ j m,x=.o j n∧0<n∧b[j]? = some (.own c e s n m)
theorem Sx.within {e s:Nat}{x:SV}{b:List aw}{c:List SV}{n:Nat}(h:Sx e s x b c n):Vc.within b.length x=true:=by
 rcases h with⟨rfl,-⟩|⟨j,m,rfl,-,hj⟩
 ·rfl
 ·have:=(zLx.1 hj).1
  simp[Vc.within,this]
open Go Vc Go.RowKit Wf
def Af (c:Int):List SV:=[.int .u8 c]
theorem HI (a:Int)(L:List Int):((a::L).flatMap Af).drop 1=L.flatMap Af:=by rw[List.flatMap_cons];rfl
def er (i:Nat)(bs b:List aw):Prop:=bs.length≤b.length∧∀ k,k<bs.length→k≠i→b[k]? = bs[k]?
theorem er.refl (i:Nat)(bs:List aw):er i bs bs:=⟨zLP _,fun _ _ _=>rfl⟩
theorem er.trans {i:Nat}{a b c:List aw}(h:er i a b)(k:er i b c):er i a c:=⟨Nat.le_trans h.1 k.1,fun q hq hn=>(k.2 q (Nat.lt_of_lt_of_le hq h.1) hn).trans (h.2 q hq hn)⟩
theorem er.app {i:Nat}{a b:List aw}(h:er i a b)(X:List aw):er i a (b++X):=⟨by simp;have:=h.1;omega,fun q hq hn=>by rw[zLB (Nat.lt_of_lt_of_le hq h.1)];exact h.2 q hq hn⟩
theorem er.of {i:Nat}{a b:List aw}(h:Kp a b):er i a b:=⟨h.1,fun q hq _=>h.2 q hq⟩
theorem er.at {i:Nat}{a b:List aw}(h:er i a b){k:Nat}{r:aw}(hk:a[k]? = some r)(hn:k≠i):b[k]? = some r:=(h.2 k (zLx.1 hk).1 hn).trans hk
def aR (b:List aw)(i:Nat)(L:List Int):Prop:=∃ x,b[i]? = some (.cells [x] 80 true)∧((x=.ah∧L=[])∨∃ j,x=.o j L.length∧j≠i∧b[j]? = some (.own (L.flatMap Af) 5 1 L.length false))∧∀ r∈L,0≤r∧r≤255
def gG (L:List Int)(n:Int):Int:=match L with
 | []=>0
 | a::_=>if n≤1 then 0 else a % n
def vk (L:List Int)(n:Int):List Int:=match L with
 | []=>[]
 | a::L=>if n≤1 then a::L else L
theorem nC (L:List Int){n:Int}(h:0<n):0≤gG L n∧gG L n<n:=by
 unfold gG
 split
 ·omega
 ·split
  ·omega
  ·exact⟨Int.emod_nonneg _ (by omega),Int.emod_lt_of_pos _ h⟩
theorem pJ {bs:List aw}{i:Nat}{L:List Int}(h:aR bs i L)(n:Int)(hn:n≤1000000):∃ nB,nB.length≤bs.length+1∧aR nB i (vk L n)∧er i bs nB∧SC Tryz.V 30 [.p i 0,.int .i64 n] bs (fun r b=>r=.int .i64 (gG L n)∧b=nB):=by
 obtain⟨x,hi,hx,hr⟩:=h
 have fD:i<bs.length:=(zLx.1 hi).1
 have sc:=fun nB=>bJ (V:=Tryz.V) (f:=30) (bs:=bs) 3000 Tryz.func30 rfl Tryz.ntmps30 Tryz.results30 Tryz.call30 (args:=[.p i 0,.int .i64 n]) (R:=fun r b=>r=.int .i64 (gG L n)∧b=nB) (by simp) (aj bs.length _ (by simp[within,within.ax,fD]))
 rcases hx with⟨rfl,rfl⟩|⟨j,rfl,ox,hj⟩
 ·refine⟨bs,by omega,⟨.ah,hi,.inl ⟨rfl,rfl⟩,hr⟩,er.refl _ _,sc _ ?_⟩
  refine gB hi ?_
  rfl
 ·cases L with
  | nil =>
    simp only[zLz]at hi hj
    refine⟨bs,by omega,⟨_,hi,.inr ⟨j,rfl,ox,hj⟩,hr⟩,er.refl _ _,sc _ ?_⟩
    have h0:(((0:Nat):Int)==0)=true:=rfl
    refine gB (zLw hi (zLw hj h0)) ?_
    rfl
  | cons a L =>
    have h0:((((a::L).length:Nat):Int)==0)=false:=by rw[beq_eq_false_iff_ne,zLy];omega
    simp only[zLy]at h0
    have ha:=hr a List.mem_cons_self
    have iG:j<bs.length:=(zLx.1 hj).1
    by_cases h1:n≤1
    ·refine⟨bs,by omega,?_,er.refl _ _,sc _ ?_⟩
     ·simp only[vk,if_pos h1]
      exact⟨_,hi,.inr ⟨j,rfl,ox,hj⟩,hr⟩
     ·have hd:decide (n≤1)=true:=decide_eq_true h1
      have hv:gG (a::L) n=0:=by simp only[gG,if_pos h1]
      rw[hv]
      exact gB (zLw hi (zLw hj (zLw hd h0))) True.intro
    ·have hd:decide (n≤1)=false:=decide_eq_false h1
     have hv:gG (a::L) n=a % n:=by simp only[gG,if_neg h1]
     have hL:vk (a::L) n=L:=by simp only[vk,if_neg h1]
     have kU:((a::L).flatMap Af)[Int.toNat 0 * 1]? = some (.int .u8 a):=rfl
     have dL:bs.set j (.own ((a::L).flatMap Af) 5 1 (L.length+1) false)=bs:=by
      apply List.ext_getElem?
      intro k
      by_cases hk:k=j
      ·subst hk;rw[zLH iG];exact hj.symm
      ·rw[zLD (fun e=>hk e.symm)]
     have eQ:∀ X,(bs++[X])[i]? = some (.cells [.o j (L.length+1)] 80 true):=fun X=>ad hi [X]
     have hrem:jc .rem .i64 a n=a % n:=Int.tmod_eq_emod_of_nonneg ha.1
     have hw:IntKind.i64.wrap a=a:=by simp[IntKind.wrap,IntKind.bits,IntKind.signed];omega
     have hlen:=iq Af 1 (fun _=>rfl) (a::L)
     have htk:(((a::L).flatMap Af).take ((L.length+1) * 1)).drop (Int.toNat 1 * 1)=L.flatMap Af:=by
      rw[List.take_of_length_le (by rw[hlen];simp)]
      exact HI a L
     rw[hL]
     refine⟨(bs++[aw.own (L.flatMap Af) 5 1 L.length false]).set i (.cells [.o bs.length L.length] 80 true),by simp,⟨_,zLH (by simp;omega),.inr ⟨_,rfl,by omega,by rw[zLD (by omega)];exact aO _ _⟩,fun r h=>hr r (List.mem_cons_of_mem _ h)⟩,⟨by simp,fun k hk hn=>by rw[zLD (fun e=>hn e.symm),zLB hk]⟩,sc _ ?_⟩
     rw[hv]
     refine gB (zLw hi (zLw hj (zLw hd (zLw h0 (zLw kU (zLw dL (zLw eQ (zLw hrem (zLw hw htk))))))))) ?_
     exact⟨by omega,by rw[hlen];simp[Int.toNat],by omega,by omega,by simp[Int.toNat]⟩
theorem yo {bs:List aw}{i:Nat}{L:List Int}(h:aR bs i L)(n:Int)(hn:n≤1000000):∃ nB,aR nB i (vk L n)∧er i bs nB∧SC Tryz.V 30 [.p i 0,.int .i64 n] bs (fun r b=>r=.int .i64 (gG L n)∧b=nB):=by
 obtain⟨nB,_,h⟩:=pJ h n hn
 exact⟨nB,h⟩
theorem er.outs {i:Nat}{bs nB:List aw}(h:er i bs nB)(hl:nB.length≤bs.length+1):Ac [(i,0,0),(bs.length,0,0)] nB bs:=by
 refine tU (fun j hj=>?_) (fun y hy=>by simp at hy;rcases hy with rfl|rfl <;> rfl)
 have h1:j≠i:=fun e=>hj (i,0,0) (by simp) e.symm
 have h2:j≠bs.length:=fun e=>hj (bs.length,0,0) (by simp) e.symm
 by_cases aC:j<bs.length
 ·exact h.2 j aC h1
 ·rw[zLO (by omega),zLO (by omega)]
theorem aR.app {b:List aw}{i:Nat}{L:List Int}(h:aR b i L)(X:List aw):aR (b++X) i L:=by
 obtain⟨x,hi,hx,hr⟩:=h
 refine⟨x,ad hi X,?_,hr⟩
 rcases hx with h|⟨j,h1,h2,h3⟩
 ·exact .inl h
 ·exact .inr ⟨j,h1,h2,ad h3 X⟩
theorem v8 {bs:List aw}{i:Nat}{L:List Int}(h:aR bs i L){q m:Nat}{T:List Bytes}{mm:Bool}(hm:0<m∧m≤1000)(hT:T.length=m)(hq:bs[q]? = some (.own (T.map .str) 9 1 m mm))(hqi:q≠i) :
 ∃ nB,aR nB i (vk L m)∧er i bs nB∧SC Tryz.V 59 [.p i 0,.o q m] bs (fun r b=>r=.str (T.getD (gG L m).toNat [])∧b=nB):=by
 obtain⟨nB,h1,h2,h3⟩:=yo h m (by omega)
 have fD:i<bs.length:=by obtain⟨x,hi,-⟩:=h;exact(zLx.1 hi).1
 have kK:q<bs.length:=(zLx.1 hq).1
 have hv:=nC L (n:=m) (by omega)
 have qH:=h2.at hq hqi
 refine⟨nB,h1,h2,bJ 3000 Tryz.func59 rfl Tryz.ntmps59 Tryz.results59 Tryz.call59 (by simp) (aj bs.length _ (by simp[within,within.ax,fD,kK])) ?_⟩
 have hat:(T.map SV.str)[(gG L m).toNat * 1]? = some (.str (T.getD (gG L m).toNat [])):=by
  rw[Nat.mul_one,List.getElem?_map,List.getD_eq_getElem?_getD,zLF (by omega)]
  rfl
 refine gB hq ?_
 refine ae h3 ?_
 rintro r b ⟨rfl,rfl⟩
 refine gB (zLw qH hat) ?_
 exact⟨hv,by rw[List.length_map,hT];omega⟩
theorem zs {T:List Bytes}{L:List Int}(h:0<T.length):T.getD (gG L T.length).toNat []∈T:=by
 have hv:=nC L (n:=T.length) (by omega)
 rw[List.getD_eq_getElem?_getD,zLF (by omega)]
 exact zLU _
def vJ:List Bytes:=[([97,46,101,120,97,109,112,108,101]:List UInt8),([98,46,101,120,97,109,112,108,101]:List UInt8),([99,46,101,120,97,109,112,108,101,58,56,52,52,51]:List UInt8),([100,46,101,120,97,109,112,108,101]:List UInt8)]
theorem GG {bs:List aw}{i:Nat}{L:List Int}(h:aR bs i L):∃ nB,aR nB i (vk L 4)∧er i bs nB∧SC Tryz.V 58 [.p i 0] bs (fun r b=>r=.str (vJ.getD (gG L 4).toNat [])∧b=nB):=by
 have fD:i<bs.length:=by obtain⟨x,hi,-⟩:=h;exact(zLx.1 hi).1
 obtain⟨nB,h1,h2,h3⟩:=v8 (h.app [.own (vJ.map .str) 9 1 4 true]) (q:=bs.length) (m:=4) (T:=vJ) (by omega) rfl (aO _ _) (by omega)
 refine⟨nB,h1,(er.of ((Kp.refl bs).app _)).trans h2,bJ 3000 Tryz.func58 rfl Tryz.ntmps58 Tryz.results58 Tryz.call58 (by simp) (aj bs.length _ (by simp[within,within.ax,fD])) ?_⟩
 refine uo ?_
 refine⟨by omega,ae h3 ?_⟩
 rintro r b ⟨rfl,rfl⟩
 refine uo ?_
 rfl
theorem fR {bs:List aw}{i:Nat}{L:List Int}(h:aR bs i L)(T:List Bytes){n m:Nat}(hn:T.length=n)(hm:0<n∧n≤1000)(hT:∀ s∈T,s.length≤m){X:aw}(hX:X=.own (T.map .str) 9 1 n true) :
 SC Tryz.V 59 [.p i 0,.o bs.length n] (bs++[X]) (fun r b=>∃ s L',r=.str s∧s.length≤m∧aR b i L'∧er i bs b):=by
 subst hX
 have fD:i<bs.length:=by obtain⟨x,hi,-⟩:=h;exact(zLx.1 hi).1
 obtain⟨nB,h1,h2,h3⟩:=v8 (h.app [.own (T.map .str) 9 1 n true]) (q:=bs.length) (m:=n) (T:=T) hm hn (aO _ _) (by omega)
 refine h3.mono ?_
 rintro r b ⟨rfl,rfl⟩
 have pw:=zs (T:=T) (L:=L) (by omega)
 rw[hn]at pw
 exact⟨_,_,rfl,hT _ pw,h1,(er.of ((Kp.refl bs).app _)).trans h2⟩
theorem dr {bs:List aw}{i:Nat}{L:List Int}(h:aR bs i L)(n:Int)(hn:0<n∧n≤1000000):SC Tryz.V 30 [.p i 0,.int .i64 n] bs (fun r b=>∃ v L',r=.int .i64 v∧(0≤v∧v<n)∧aR b i L'∧er i bs b):=by
 obtain⟨nB,h1,h2,h3⟩:=yo h n hn.2
 refine h3.mono ?_
 rintro r b ⟨rfl,rfl⟩
 exact⟨_,_,rfl,nC L hn.1,h1,h2⟩
theorem sc_host {bs:List aw}{i:Nat}{L:List Int}(h:aR bs i L):SC Tryz.V 58 [.p i 0] bs (fun r b=>∃ s L',r=.str s∧s.length≤20∧aR b i L'∧er i bs b):=by
 obtain⟨nB,h1,h2,h3⟩:=GG h
 refine h3.mono ?_
 rintro r b ⟨rfl,rfl⟩
 have pw:=zs (T:=vJ) (L:=L) (by decide)
 exact⟨_,_,rfl,(by decide:∀ s∈vJ,s.length≤20) _ pw,h1,h2⟩
theorem yn {bs:List aw}{i:Nat}{L:List Int}(h:aR bs i L):SC Tryz.V 28 [.p i 0] bs (fun r b=>∃ s L',r=.str s∧s.length≤100∧aR b i L'∧er i bs b):=by
 have fD:i<bs.length:=by obtain⟨x,hi,-⟩:=h;exact(zLx.1 hi).1
 refine bJ 3000 Tryz.func28 rfl Tryz.ntmps28 Tryz.results28 Tryz.call28 (by simp) (aj bs.length _ (by simp[within,within.ax,fD])) ?_
 refine uo ?_
 refine ae (sc_host h) ?_
 rintro r b ⟨x,L1,rfl,hx,h,hk⟩
 refine uo ?_
 refine ae (dr h 6 (by omega)) ?_
 rintro r b ⟨v,L2,rfl,hv,h,bM⟩
 replace hk:=hk.trans bM
 clear bM
 have hv6:(v=0∨v=1)∨v=2∨v=3∨4≤v:=by omega
 have fin:∀ {b s L'},s.length≤100→aR b i L'→er i bs b→∃ s' L',SV.str s=.str s'∧s'.length≤100∧aR b i L'∧er i bs b:=fun h1 h2 h3=>⟨_,_,rfl,h1,h2,h3⟩
 rcases hv6 with hv01|rfl|rfl|hv4
 ·have e1:(v==0||v==1)=true:=by rcases hv01 with rfl|rfl <;> rfl
  rcases hv01 with rfl|rfl
  all_goals
   refine uo ?_
   refine⟨by omega,ae (fR h [([97,99,99,116,58]:List UInt8),([65,67,67,84,58]:List UInt8)] (n:=2) (m:=10) rfl (by omega) (by decide) rfl) ?_⟩
   rintro r b ⟨s1,L3,rfl,GW,h,bM⟩
   replace hk:=hk.trans bM
   clear bM
   refine uo ?_
   refine⟨by omega,ae (fR h [([98,111,98]:List UInt8),([97,109,121]:List UInt8),([120,37,50,102,121]:List UInt8),([99,43,100]:List UInt8)] (n:=4) (m:=10) rfl (by omega) (by decide) rfl) ?_⟩
   rintro r b ⟨s2,L4,rfl,fw,h,bM⟩
   replace hk:=hk.trans bM
   clear bM
   refine uo ?_
   refine⟨by omega,by first|omega | (simp only[zLC,zLy,zLz];omega),by omega,ae (fR h [([97,46,101,120,97,109,112,108,101]:List UInt8),([66,46,101,120,97,109,112,108,101]:List UInt8),([99,46,101,120,97,109,112,108,101]:List UInt8)] (n:=3) (m:=10) rfl (by omega) (by decide) rfl) ?_⟩
   rintro r b ⟨s3,L5,rfl,hs3,h,bM⟩
   replace hk:=hk.trans bM
   clear bM
   refine uo ?_
   exact⟨by first|omega | (simp only[zLC,zLy,zLz];omega),fin (by first|omega | (simp only[zLC,zLy,zLz];omega)) h hk⟩
 ·refine uo ?_
  refine⟨by omega,ae (fR h [([98,111,98]:List UInt8),([37,54,49,109,121]:List UInt8),([99,43,100]:List UInt8)] (n:=3) (m:=10) rfl (by omega) (by decide) rfl) ?_⟩
  rintro r b ⟨s1,L3,rfl,GW,h,bM⟩
  replace hk:=hk.trans bM
  clear bM
  refine uo ?_
  refine⟨by omega,by first|omega | (simp only[zLC,zLy,zLz];omega),by omega,ae (fR h [([97,46,101,120,97,109,112,108,101]:List UInt8),([98,46,69,120,97,109,112,108,101]:List UInt8)] (n:=2) (m:=10) rfl (by omega) (by decide) rfl) ?_⟩
  rintro r b ⟨s3,L5,rfl,hs3,h,bM⟩
  replace hk:=hk.trans bM
  clear bM
  refine uo ?_
  exact⟨by first|omega | (simp only[zLC,zLy,zLz];omega),fin (by first|omega | (simp only[zLC,zLy,zLz];omega)) h hk⟩
 ·refine uo ?_
  refine⟨by omega,by omega,ae (fR h [([]:List UInt8),([47]:List UInt8),([47,117,47,98,111,98]:List UInt8),([47,46,47,120,63,121,61,49]:List UInt8),([47,126,97,35,109,101]:List UInt8)] (n:=5) (m:=10) rfl (by omega) (by decide) rfl) ?_⟩
  rintro r b ⟨s3,L5,rfl,hs3,h,bM⟩
  replace hk:=hk.trans bM
  clear bM
  refine uo ?_
  exact⟨by first|omega | (simp only[zLC,zLy,zLz];omega),fin (by first|omega | (simp only[zLC,zLy,zLz];omega)) h hk⟩
 ·have e0:(v==0)=false:=beq_eq_false_iff_ne.2 (by omega)
  have e1:(v==1)=false:=beq_eq_false_iff_ne.2 (by omega)
  have e2:(v==2)=false:=beq_eq_false_iff_ne.2 (by omega)
  have e3:(v==3)=false:=beq_eq_false_iff_ne.2 (by omega)
  refine gB (zLw e0 (zLw e1 (zLw e2 e3))) ?_
  refine⟨fun _=>⟨by omega,ae (fR h [([]:List UInt8),([58,117]:List UInt8),([58,117,58,98,111,98]:List UInt8),([58,97,37,55,101,98]:List UInt8)] (n:=4) (m:=10) rfl (by omega) (by decide) rfl) ?_⟩,fun _=>⟨by omega,by omega,ae (fR h [([]:List UInt8),([58,117]:List UInt8),([58,117,58,98,111,98]:List UInt8),([58,97,37,55,101,98]:List UInt8)] (n:=4) (m:=10) rfl (by omega) (by decide) rfl) ?_⟩⟩
  all_goals
   rintro r b ⟨s3,L5,rfl,hs3,h,bM⟩
   replace hk:=hk.trans bM
   clear bM
   refine uo ?_
   exact⟨by first|omega | (simp only[zLC,zLy,zLz];omega),fin (by first|omega | (simp only[zLC,zLy,zLz];omega)) h hk⟩
end Go.Proofs.YtnmlimehgifadaaGreatDoor
namespace Wf
open Go Go.RowKit
def r5 (d:Nat):UInt8:=if d<10 then(48+d).toUInt8 else(87+d).toUInt8
def ll (n:Nat):Bytes:=if _h:n=0 then [] else ll (n / 16)++[r5 (n % 16)]
termination_by n
decreasing_by omega
theorem IP (k:Nat):List.drop (k % 16) (48::List.take (k % 16) [49,50,51,52,53,54,55,56,57,97,98,99,100,101,102])=[r5 (k % 16)]:=by
 have:(List.range 16).all (fun d=>List.drop d (48::List.take d [49,50,51,52,53,54,55,56,57,97,98,99,100,101,102])==[r5 d])=true:=by decide +kernel
 rw[List.all_eq_true]at this
 simpa using this (k % 16) (by simp;omega)
theorem IN {k n:Nat}{l:Bytes}(h0:0<k)(h:ll k++l=ll n):ll (k / 16)++(r5 (k % 16)::l)=ll n:=by
 rw[← h];conv=>rhs;rw[ll,dif_neg (by omega)]
 simp
theorem nK {n:Nat}(h:0<n):ll n=ll (n / 16)++[r5 (n % 16)]:=by
 rw[ll,dif_neg (by omega)]
theorem jq:ll 0=[]:=by rw[ll];rfl
theorem th (n:Nat):(ll n).length≤n:=by
 induction n using Nat.strongRecOn with
 | _ n ih =>
   rcases Nat.eq_zero_or_pos n with rfl|h
   ·simp[jq]
   ·rw[nK h];have:=ih (n / 16) (by omega);simp;omega
def cu (size:Int)(s:Bytes):Nat:=(min (max size 1) s.length).toNat
theorem jd {size:Int}{s:Bytes}(h:s≠[]):0<cu size s∧cu size s≤s.length:=by
 have:=List.length_pos_iff.2 h;unfold cu;omega
def crlf:Bytes:=[13,10]
def encode (size:Int)(s:Bytes):Bytes :=
 if _h:s=[] then [48,13,10,13,10] else ll (cu size s)++crlf++s.take (cu size s)++crlf++encode size (s.drop (cu size s))
termination_by s.length
decreasing_by have:=jd (size:=size) _h;simp;omega
theorem sh {size:Int}{s:Bytes}(h:s≠[]):encode size s=ll (cu size s)++crlf++s.take (cu size s)++crlf++encode size (s.drop (cu size s)):=by
 rw[encode,dif_neg h]
theorem gZ {size:Int}:encode size []=[48,13,10,13,10]:=by rw[encode];rfl
theorem Cq {size:Int}{s0 s acc:Bytes}(h:s≠[])(he:acc++encode size s=encode size s0):(acc++(ll (cu size s)++(13::10::(s.take (cu size s)++[13,10]))))++encode size (s.drop (cu size s))=encode size s0:=by
 rw[← he,sh h];simp[crlf]
def newline:Bytes→Int × Bytes
 | 13::10::r=>(0,r)
 | []=>(191,[])
 | [13]=>(191,[13])
 | r=>(190,r)
def isNL (c:UInt8):Bool:=[13,10].contains c
def sizeOf' (r:Bytes)(n:Nat):Nat:=if (bA bm 16 4611686018427387904 (r.take n)).2=0 then(bA bm 16 4611686018427387904 (r.take n)).1 else 4611686018427387904
def zG (r:Bytes):Nat:=pre (fun c=>!bm c) r
def sepAt (r:Bytes):Bool:=match r.drop (zG r) with
 | c::_=>c==59||c==13
 | []=>false
def sizes (r:Bytes)(old:Nat):Int × Nat × Bytes :=
 if zG r=r.length then(191,old,r)
 else if zG r=0∨sepAt r=false then(190,old,r)
 else if (newline (r.drop (pre isNL r))).1=0 then(0,sizeOf' r (zG r),(newline (r.drop (pre isNL r))).2)
 else((newline (r.drop (pre isNL r))).1,old,(newline (r.drop (pre isNL r))).2)
def trailerGo:Nat→Bytes→Int
 | 0,_=>0
 | f+1,r =>
   if (newline (r.drop (pre isNL r))).1≠0 then(newline (r.drop (pre isNL r))).1
   else if r.take (pre isNL r)=[] then 0
   else trailerGo f (newline (r.drop (pre isNL r))).2
def chunkGo (most:Int):Nat→Bytes→Bytes→Nat→Bytes × Int
 | 0,_,_,_=>([],0)
 | f+1,acc,r,old =>
   if (sizes r old).1≠0 then([],(sizes r old).1)
   else if most<0∨most - acc.length<(sizes r old).2.1 then([],142)
   else if (sizes r old).2.1=0 then
    if trailerGo ((sizes r old).2.2.length+1) (sizes r old).2.2≠0 then([],trailerGo ((sizes r old).2.2.length+1) (sizes r old).2.2) else(acc,0)
   else if (sizes r old).2.2.length<(sizes r old).2.1 then([],191)
   else if (newline ((sizes r old).2.2.drop (sizes r old).2.1)).1≠0 then([],(newline ((sizes r old).2.2.drop (sizes r old).2.1)).1)
   else chunkGo most f (acc++(sizes r old).2.2.take (sizes r old).2.1) (newline ((sizes r old).2.2.drop (sizes r old).2.1)).2 (sizes r old).2.1
def chunked (s:Bytes)(most:Int):Bytes × Int:=chunkGo most (s.length+1) [] s 0
open Go Go.RowKit
theorem pre_append {p:UInt8→Bool}{a b:Bytes}(h:∀ c∈a,p c=false):pre p (a++b)=a.length+pre p b:=by
 induction a with
 | nil=>simp
 | cons c a ih =>
   rw[zLK,bV,h c (by simp),ih (fun x hx=>h x (by simp[hx]))]
   simp;omega
open Go Go.RowKit
end Wf
namespace Go.Proofs.YtnmlimehgifadaaGreatDoor
open Go.RowKit Wf
attribute [local go_sem] dX dK get_list
open Go.RowKit Wf
attribute [local go_sem] dX dK get_list
open Go.RowKit Wf
attribute [local go_sem] dX dK get_list
open Go.RowKit Wf
attribute [local go_sem] dX dK get_list
theorem FF (n:Nat)(w:World)(h0:0<n)(hn:n≤1000000000) :
 Calls Tryz.prog 159 #[.int .i64 n] w fun e w'=>e=.returned (Value.string ⟨zLS (ll n)⟩)∧w=w':=by
 go_enter Tryz.func159,Tryz.ntmps159
 go_wp2
 go_loop [0,3] (fun t i=>∃ (k:Nat) (l:Bytes),0<k∧k+l.length≤n∧t=.int .i64 k∧i=(Value.string ⟨zLS (l)⟩)∧ll k++l=ll n) (fun t i=>(intOf t).toNat)
 case atStart=>exact⟨n,[],h0,by simp,rfl,rfl,by simp⟩
 case round =>
  obtain⟨k,l,lh,hk,rfl,rfl,heq⟩:=hrel
  have Heq:=hid (IN lh heq)
  clear heq
  by_cases hz:k / 16=0
  ·have hz':((k:Int) / 16==0)=true:=by simp;omega
   go_wp2
   go_ret
   refine⟨iQ ?_,rfl⟩
   have:=Heq.out
   rw[hz,jq]at this
   rw[IP]
   exact this
  ·have hz':((k:Int) / 16==0)=false:=by simp;omega
   go_wp2
   go_round
   case rel=>exact⟨k / 16,r5 (k % 16)::l,by omega,by simp;omega,by go_num,by rw[IP];rfl,Heq.out⟩
   case measure=>simp[intOf];omega
theorem yY (s:Bytes)(size:Int)(w:World)(hs:s.length≤1100000)(h1:-9223372036854775808≤size)(h2:size≤9223372036854775807) :
 Calls Tryz.prog 97 #[(Value.string ⟨zLS (s)⟩),.int .i64 size] w fun e w'=>e=.returned (Value.string ⟨zLS (encode size s)⟩)∧Below w.heap.size w w':=by
 go_enter Tryz.func97,Tryz.ntmps97
 go_wp2
 go_loopw [0,5] (fun v o wr=>∃ s' acc:Bytes,v=(Value.string ⟨zLS (s')⟩)∧o=(Value.string ⟨zLS (acc)⟩)∧s'.length≤s.length∧Below w.heap.size w wr∧acc.length+100 * s'.length≤100 * s.length∧acc++encode size s'=encode size s) (fun v _ _=>j0 v)
 case atStart=>exact⟨s,[],rfl,rfl,by omega,Below.refl _ _,by simp,by simp⟩
 case round =>
  obtain⟨s',acc,rfl,rfl,hs',hw,hl,heq⟩:=hrel
  have Heq:=hid heq
  have Hw:=hid hw
  clear heq hw
  cases hn:s'.isEmpty
  ·have bt:s'≠[]:=by rintro rfl;simp at hn
   obtain⟨hp1,hp2⟩:=jd (size:=size) bt
   have jL:min (max 1 size) (s'.length:Int)=(cu size s':Int):=by unfold cu;omega
   have hnx:=Cq (size:=size) bt Heq.out
   clear Heq
   generalize cu size s'=n at *
   have mL:=th n
   have Hnx:=hid hnx
   have Hcl:=hid jL
   clear jL hnx bt
   go_wp2
   rw[Hcl.out]
   go_quiet ((go_at_call 159;exact DD (FF _ _ hp1 (by omega))))
   go_wp2
   refine⟨⟨s'.drop n,_,rfl,rfl,by simp;omega,below_drewN Hw.out _,by simp;omega,Hnx.out⟩,?_⟩
   simp[sLen_mk];omega
  ·have bt:s'=[]:=by simpa using hn
   have heq:=Heq.out
   rw[bt,gZ]at heq
   have Heq2:=hid heq
   clear heq
   go_wp2_with fail
   go_ret
   exact⟨iQ Heq2.out,Hw.out⟩
open Go.RowKit Wf
attribute [local go_sem] dX dK get_list
open Go Vc Go.RowKit
open Go Vc Go.RowKit Wf
def BAt (i:Nat)(l:Bytes)(b:List aw):Prop:=b[i]? = some (.ext (BldR 253 5 l))∨(l=[]∧b[i]? = some (.cells [.v (.pointer none),.ah] 253 true))
theorem BAt.lt {i:Nat}{l:Bytes}{b:List aw}(h:BAt i l b):i<b.length:=by
 rcases h with h|⟨-,h⟩ <;> exact(zLx.1 h).1
theorem BAt.set {i:Nat}{l m:Bytes}{b:List aw}(h:BAt i l b):BAt i m (b.set i (.ext (BldR 253 5 m))):=.inl (zLH h.lt)
end Go.Proofs.YtnmlimehgifadaaGreatDoor
namespace Wf
open Go Go.RowKit
def fB (c:UInt8):Bool:=c==32||c==9
def trimB (s:Bytes):Bytes:=((s.dropWhile fB).reverse.dropWhile fB).reverse
def yF (c:UInt8):Bool:=isAlpha c||isDigit c||[33,35,36,37,38,39,42,43,45,46,94,95,96,124,126].contains c
def gT (c:UInt8):Bool:=c==9||(decide (32≤c.toNat)&&c != 127)
def nameB (s:Bytes):Bool:=!s.isEmpty&&s.all yF
def valueB (s:Bytes):Bool:=s.all gT
def fieldOf (l:Bytes):Option (Bytes × Bytes):=if (aL 58 l).2.2&&nameB (aL 58 l).1&&valueB (aL 58 l).2.1 then some (lower (aL 58 l).1,trimB (aL 58 l).2.1) else none
def Io:Bytes:=[72,84,84,80,47,49,46]
def dE (f:Bytes × Bytes):Bytes:=f.1++[58,32]++f.2
def headText (status:Nat)(fs:List (Bytes × Bytes)):Bytes:=Io++[49,32]++bD status++[32,45]++[13,10]++fs.flatMap (fun f=>dE f++[13,10])++[13,10]
def no13 (l:Bytes):Prop:=∀ c∈l,c≠13
def FieldOk (f:Bytes × Bytes):Prop:=nameB f.1=true∧lower f.1=f.1∧valueB f.2=true∧trimB f.2=f.2
theorem tok_plain:∀ c:UInt8,yF c=true→c≠13∧(c==58)=false:=by
 intro c
 have:=cW (p:=fun c=>!yF c||(c != 13&&!(c==58))) (by decide +kernel) c
 intro h
 rw[h]at this
 simpa using this
theorem print_plain:∀ c:UInt8,gT c=true→c≠13:=by
 intro c
 have:=cW (p:=fun c=>!gT c||c != 13) (by decide +kernel) c
 intro h
 rw[h]at this
 simpa using this
theorem FieldOk.line {f:Bytes × Bytes}(h:FieldOk f):dE f≠[]∧no13 (dE f):=by
 obtain⟨h1,-,h3,-⟩:=h
 unfold nameB at h1
 rw[zLV]at h1
 have h1:=List.all_eq_true.1 h1.2
 have h3:=List.all_eq_true.1 h3
 refine⟨by simp[dE],fun c hc=>?_⟩
 unfold dE at hc
 rcases zLZ.1 hc with hc|hc
 ·rcases zLZ.1 hc with hc|hc
  ·exact(tok_plain c (h1 c hc)).1
  ·rcases List.mem_cons.1 hc with rfl|hc
   ·decide
   ·rw[List.mem_singleton.1 hc];decide
 ·exact print_plain c (h3 c hc)
theorem FieldOk.read {f:Bytes × Bytes}(h:FieldOk f):fieldOf (dE f)=some f:=by
 obtain⟨h1,h2,h3,h4⟩:=h
 have hn:=h1
 unfold nameB at h1
 rw[zLV]at h1
 have hp:=List.all_eq_true.1 h1.2
 have e:dE f=f.1++58::32::f.2:=by simp[dE]
 have dM:pre (·==58) (f.1++58::32::f.2)=f.1.length:=by
  rw[pre_append (fun c hc=>(tok_plain c (hp c hc)).2),bV]
  simp
 have hc:aL 58 (dE f)=(f.1,32::f.2,true):=by
  unfold aL
  rw[e,dM,if_pos (by simp)]
  simp
 have ht:trimB (32::f.2)=f.2:=by
  have:trimB (32::f.2)=trimB f.2:=by unfold trimB;rw[List.dropWhile_cons,if_pos (by decide)]
  rw[this,h4]
 have hv:valueB (32::f.2)=true:=by unfold valueB at h3 ⊢;rw[List.all_cons,h3];rfl
 unfold fieldOf
 rw[hc]
 simp only[hn,hv,Bool.and_self,if_true,h2,ht]
open Go Go.RowKit
def teN:Bytes:=[116,114,97,110,115,102,101,114,45,101,110,99,111,100,105,110,103]
def clN:Bytes:=[99,111,110,116,101,110,116,45,108,101,110,103,116,104]
def chN:Bytes:=[99,104,117,110,107,101,100]
structure Resp where
 url:cX
 minor:Int
 status:Int
 fields:List (Bytes × Bytes)
 body:Bytes
 deriving DecidableEq
def Resp.none:Resp:=⟨cX.none,0,0,[],[]⟩
def EG (st:Nat)(fs:List (Bytes × Bytes))(body:Bytes):Bytes:=headText st (fs++[(clN,bD body.length)])++body
section
variable {H:Nat→Bytes} {st k:Nat}
end
open Go Go.RowKit
theorem GN (L M:List gz)(A:gz→Bool)(u:cX)(now:Int)(hM:∀ a∈M,¬ (a.host=u.host∧a.port=u.port))(hA:∀ a∈L,a.host=u.host→a.port=u.port→A a=true):dk (M++L.filter A) u now=dk L u now:=by
 unfold dk
 split
 ·rfl
 ·congr 1
  rw[List.find?_append,sg (fun a ha=>by
   unfold kA
   have:=hM a ha
   cases h1:(a.host==u.host) with
   | false=>simp
   | true =>
     cases h2:(a.port==u.port) with
     | false=>simp
     | true=>exact absurd ⟨by simpa using h1,by simpa using h2⟩ this)]
  simp only[Option.none_or]
  clear hM
  induction L with
  | nil=>rfl
  | cons a L ih =>
    have ih:=ih (fun b hb=>hA b (List.mem_cons_of_mem _ hb))
    have ha:=hA a (by simp)
    rw[List.filter_cons]
    cases hq:A a with
    | true=>simp only[if_true,List.find?_cons];rw[ih]
    | false =>
      have hf:kA u.host u.port (bz u) now a=false:=by
       unfold kA
       cases h1:(a.host==u.host) with
       | false=>simp
       | true =>
         cases h2:(a.port==u.port) with
         | false=>simp
         | true=>rw[ha (by simpa using h1) (by simpa using h2)]at hq;cases hq
      simp only[Bool.false_eq_true,if_false,List.find?_cons,hf]
      exact ih
theorem CK (L:List gz)(h:Bytes)(p:Int)(u:cX)(now:Int)(bt:¬ (h=u.host∧p=u.port)):dk (bp L h p) u now=dk L u now:=by
 have:=GN L [] (fun a=>!(a.host==h&&a.port==p)) u now (by simp) (fun a _ h1 h2=>by
  have:(a.host==h&&a.port==p)=false:=by
   rw[h1,h2,Bool.eq_false_iff]
   intro q
   rw[zLV,beq_iff_eq,beq_iff_eq]at q
   exact bt ⟨q.1.symm,q.2.symm⟩
  rw[this];rfl)
 rw[List.nil_append]at this
 exact this
open Go Go.RowKit
def dc:List (Bytes × Bytes)→Nat
 | []=>0
 | f::l=>f.1.length+f.2.length+dc l
theorem Iq {l:List (Bytes × Bytes)}:∀ f∈l,f.1.length+f.2.length≤dc l:=by
 induction l with
 | nil=>intro f h;cases h
 | cons g l ih =>
   intro f h
   rw[dc]
   rcases List.mem_cons.1 h with rfl|h
   ·omega
   ·have:=ih f h;omega
open Go Go.RowKit
def eb (st:Nat)(fs:List (Bytes × Bytes))(body:Bytes)(ch:Bool):Bytes:=if ch then headText st (fs++[(teN,chN)])++encode 50 body else EG st fs body
end Wf
namespace Go.Proofs.YtnmlimehgifadaaGreatDoor
open Go Vc Go.RowKit Wf
theorem rem_nat (x y:Nat):jc .rem .i64 (x:Int) (y:Int)=((x % y:Nat):Int):=by
 have h:jc .rem .i64 (x:Int) (y:Int)=Int.tmod x y:=rfl
 rw[h]
 first
 | exact(Int.ofNat_tmod x y).symm
 | exact Int.ofNat_tmod x y
 | (rw[Int.tmod_eq_emod_of_nonneg (by omega)];omega)
theorem quo_nat (x y:Nat)(hx:x≤9223372036854775807):jc .quo .i64 (x:Int) (y:Int)=((x / y:Nat):Int):=by
 have h:jc .quo .i64 (x:Int) (y:Int)=IntKind.i64.wrap (Int.tdiv x y):=rfl
 have h2:Int.tdiv (x:Int) y=((x / y:Nat):Int):=by
  first
  | exact(Int.ofNat_tdiv x y).symm
  | exact Int.ofNat_tdiv x y
  | (rw[Int.tdiv_eq_ediv_of_nonneg (by omega)];omega)
 have h3:x / y≤x:=Nat.div_le_self x y
 rw[h,h2]
 generalize x / y=z at h3 ⊢
 simp[IntKind.wrap,IntKind.bits,IntKind.signed]
 omega
theorem eY (n:Nat)(hn:n≤1000000000):PC Tryz.V 98 [.int .i64 n] (.str (bD n)):=by
 refine aV 3000 Tryz.func98 rfl Tryz.ntmps98 Tryz.results98 Tryz.call98 (by simp) (by simp[flat,flat.af]) (by simp[flat,flat.af]) ?_
 refine od ?_
 refine az (fun σ=>∃ (m:Nat) (l:Bytes),m≤1000000000∧l.length+(bD m).length=(bD n).length∧bD m++l=bD n∧lk 0 σ.t=some (.int .i64 m)∧lk 3 σ.t=some (.str l)) (fun σ=>match lk 0 σ.t with|some (.int _ n)=>n.toNat|_=>0) ⟨n,[],hn,by simp,by simp,rfl,rfl⟩ ?_
 rintro⟨t,b⟩ ⟨m,l,hm,hl,he,g0,g3⟩
 simp only at g0 g3
 have key2:∀ d:Nat,d<10→IntKind.u8.wrap (48+(d:Int))=((oQ d).toNat:Int):=by decide +kernel
 have kr:=rem_nat m 10
 have kq:=quo_nat m 10 (by omega)
 have kd:=key2 (m % 10) (by omega)
 rw[show ((10:Nat):Int)=10 from rfl]at kr kq
 have hu:w9 (.int .u8 (oQ (m % 10)).toNat)=true:=by have:=(oQ (m % 10)).toNat_lt;simp[w9];omega
 have hv:rv (.int .u8 (oQ (m % 10)).toNat)=oQ (m % 10):=by simp[rv]
 refine gB (zLw g0 (zLw g3 (zLw kr (zLw kq (zLw kd (zLw hu hv)))))) ?_
 have hln:=bP 9 n (by omega)
 refine⟨by decide,⟨by omega,by omega⟩,by decide,by omega,by decide,fun h=>?_,fun h=>⟨⟨m / 10,oQ (m % 10)::l,by omega,?_,?_,rfl,rfl⟩,?_⟩⟩
 ·have h:m / 10=0:=by have:=beq_iff_eq.1 h;omega
  rw[← he,e7 (by omega),show m % 10=m by omega]
  rfl
 ·have h:¬ m / 10=0:=by have:=beq_eq_false_iff_ne.1 h;omega
  rw[← hl,iK (n:=m) (by omega),zLy];omega
 ·have h:¬ m / 10=0:=by have:=beq_eq_false_iff_ne.1 h;omega
  rw[← he,jS (n:=m) (by omega)];simp
 ·have h:¬ m / 10=0:=by have:=beq_eq_false_iff_ne.1 h;omega
  omega
theorem HX (n:Nat)(h2:n≤9223372036854775807):PC Tryz.V 153 [.int .i64 n] (.str (bD n)) :=
 ⟨Tryz.call153,by simp[flat,flat.af],by simp[flat,flat.af],fun w _=>(kF n w (by omega) (by omega)).mono fun _ _ ⟨h,k⟩=>⟨by rw[h,if_neg (by omega)];rfl,k⟩⟩
theorem qw (s:Bytes)(n:Int)(hs:s.length≤1100000)(h1:-9223372036854775808≤n)(h2:n≤9223372036854775807):PC Tryz.V 97 [.str s,.int .i64 n] (.str (encode n s)) :=
 ⟨Tryz.call97,by simp[flat,flat.af],by simp[flat,flat.af],fun w _=>(yY s n w hs h1 h2).mono fun _ _ ⟨h,k⟩=>⟨by rw[h];simp[ai],k⟩⟩
def xx (fs:List (Bytes × Bytes)):Bytes:=fs.flatMap (fun f=>dE f++[13,10])
theorem Gz {fs:List (Bytes × Bytes)}{k:Nat}(h:k<fs.length):xx (fs.take (k+1))=xx (fs.take k)++(dE fs[k]++[13,10]):=by
 unfold xx
 rw[zLJ h,zLW]
 simp
theorem vV:∀ fs:List (Bytes × Bytes),(xx fs).length=dc fs+4 * fs.length
 | []=>rfl
 | f::l=>by
   have:=vV l
   unfold xx at this ⊢
   rw[List.flatMap_cons,zLC,this,dc]
   simp[dE]
   omega
theorem eM:∀ (l r:List (Bytes × Bytes)),dc (l++r)=dc l+dc r
 | [],r=>by simp[dc]
 | f::l,r=>by rw[zLK,dc,eM l r,dc];omega
theorem F2 (fs:List (Bytes × Bytes))(k:Nat):dc (fs.take k)≤dc fs:=by
 have h:=eM (fs.take k) (fs.drop k)
 rw[List.take_append_drop]at h
 omega
theorem wP {bs:List aw}{j:Nat}{fs:List (Bytes × Bytes)}{m:Bool}(hj:bs[j]? = some (.own (fs.flatMap fc) 100 2 fs.length m))(hn:fs.length≤1000000)(hm:dc fs≤1000000000)(st:Nat)(jn:st≤1000000000) :
 SC Tryz.V 96 [.agg [.int .i64 1,.int .i64 st,.o j fs.length]] bs (fun r b=>r=.str (headText st fs)∧Kp bs b):=by
 have iG:j<bs.length:=(zLx.1 hj).1
 have p1:=HX st (by omega)
 have tj:=bP 9 st (by omega)
 refine bJ 3000 Tryz.func96 rfl Tryz.ntmps96 Tryz.results96 Tryz.call96 (by simp) (aj bs.length _ (by simp[within,within.ax,iG])) ?_
 refine uo ?_
 (refine aa (p1) ?_;refine uo ?_)
 refine⟨by omega,by omega,?_⟩
 have hT:headText st fs=72::84::84::80::47::49::46::49::32::(bD st++[32,45,13,10])++xx fs++[13,10]:=by
  unfold headText Io xx
  simp
 rw[hT]
 refine az (fun σ=>∃ (k:Nat) (acc:Bytes),k≤fs.length∧acc=72::84::84::80::47::49::46::49::32::(bD st++[32,45,13,10])++xx (fs.take k)∧lk 4 σ.t=some (.str acc)∧lk 19 σ.t=some (.o j fs.length)∧lk 20 σ.t=some (.int .i64 fs.length)∧lk 21 σ.t=some (.int .i64 k)∧σ.b[j]? = some (.own (fs.flatMap fc) 100 2 fs.length m)∧Kp bs σ.b) (fun σ=>fs.length - fC 21 σ) ⟨0,_,by omega,by simp[xx],rfl,rfl,rfl,rfl,ad hj _,(Kp.refl _).app _⟩ ?_
 rintro⟨t,b⟩ ⟨k,acc,hk,hacc,h4,wJ,yi,qR,hb,bf⟩
 simp only at h4 wJ yi qR hb bf
 rw[ao qR]
 have hal:acc.length≤2000000000+4000000:=by
  rw[hacc]
  have h1:=vV (fs.take k)
  have h2:=F2 fs k
  rw[zLI]at h1
  simp only[zLC,zLy,zLz,h1]
  omega
 by_cases aC:k<fs.length
 ·have bg:decide ((k:Int)<fs.length)=true:=decide_eq_true (by omega)
  have hu:=fc_at fs k aC
  have oL:=fc_len fs
  have hx:=Gz aC
  have kT:=Iq fs[k] (zLU aC)
  generalize fs[k]=f at hu hx kT
  unfold fc at hb hu oL
  refine gC (zLw h4 (zLw wJ (zLw yi (zLw qR (zLw hb (zLw hu (zLw oL (zLw bg zLL)))))))) ?_
  refine⟨⟨by omega,by omega⟩,by omega,by omega,by simp;omega,by simp;omega,by simp;omega,⟨by omega,by omega⟩,⟨k+1,_,by omega,?_,rfl,rfl,ad hb _,bf.app _⟩,?_⟩
  ·rw[hacc,hx];simp[dE]
  ·rw[ao (k:=.i64) (n:=(k:Int)+1) rfl];omega
 ·have j4:k=fs.length:=by omega
  subst j4
  rw[zLY]at hacc
  have bg:decide ((fs.length:Int)<fs.length)=false:=by simp
  refine gC (zLw h4 (zLw wJ (zLw yi (zLw qR (zLw hb bg))))) ?_
  exact⟨by omega,by rw[hacc];simp,bf⟩
theorem gm {bs:List aw}{j n:Nat}{cs:List SV}{m:Bool}(fs:List (Bytes × Bytes))(hj:bs[j]? = some (.own cs 100 2 n m))(hc:cs=fs.flatMap fc)(hnn:n=fs.length)(hn:fs.length≤1000000)(hm:dc fs≤1000000000)(st:Nat)(jn:st≤1000000000) :
 SC Tryz.V 96 [.agg [.int .i64 1,.int .i64 st,.o j n]] bs (fun r b=>r=.str (headText st fs)∧b=bs):=by
 subst hc hnn
 exact jl (by simp[flat]) (wP hj hn hm st jn)
theorem ga (st:Nat)(jn:st≤1000000000)(fs:List (Bytes × Bytes)):(headText st fs).length≤dc fs+4 * fs.length+100:=by
 have h1:=vV fs
 have h2:=bP 9 st (by omega)
 unfold xx at h1
 unfold headText Io
 simp only[zLC,zLy,zLz,h1]
 omega
theorem pG (n:Int):∀ (m:Nat)(s:Bytes),s.length≤m→(encode n s).length≤6 * s.length+5
 | 0,s,h=>by rw[List.length_eq_zero_iff.1 (Nat.le_zero.1 h),gZ];simp
 | m+1,s,h=>by
   by_cases hs:s=[]
   ·rw[hs,gZ];simp
   ·have h1:=jd (size:=n) hs
    have h2:=th (cu n s)
    have h3:=pG n m (s.drop (cu n s)) (by simp;omega)
    rw[sh hs]
    simp only[zLC,zLA,zLI]at h3 ⊢
    have:crlf.length=2:=rfl
    omega
theorem fj {bs:List aw}{x:SV}{fs:List (Bytes × Bytes)}(hx:Sx 100 2 x bs (fs.flatMap fc) fs.length)(hn:fs.length≤1000)(hm:dc fs≤1000000)(st:Nat)(jn:st≤1000000000)(body:Bytes)(hb:body.length≤1100000)(ch:Bool) :
 SC Tryz.V 45 [.int .i64 st,.str [],.str body,x,.bool ch] bs (fun r b=>r=.str (eb st fs body ch)∧b=bs):=by
 refine jl (by simp[flat]) ?_
 have zB:=hx.within
 have p1:=qw body 50 hb (by omega) (by omega)
 have C7:=pG 50 _ body (zLP _)
 have p2:=eY body.length (by omega)
 have oo:∀ X,oh (bs++[X]) 2 x=some (fs.length,fs.flatMap fc):=fun X=>by
  rcases hx with⟨rfl,hc,hl⟩|⟨j,m,rfl,hl,hj⟩
  ·rw[hc,hl];rfl
  ·simp[oh,ad hj [X]]
 have j1:=Jh fs
 have q1:∀ X X' Y Z,(bs++[X]++[Y]++[Z])[(bs++[X']).length]? = some Y:=fun X X' Y Z=>by
  rw[show (bs++[X']).length=(bs++[X]).length by simp]
  exact ad (aO _ _) [Z]
 have q2:∀ X X' Y Z W,((bs++[X]++[Y]++[Z]).set (bs++[X']).length .gone++[W])[bs.length]? = some X:=fun X X' Y Z W=>by
  rw[zLB (by simp),zLD (by simp)]
  exact ad (ad (aO _ _) _) _
 have q3:∀ (X X' Y Z W W':aw) ,(((bs++[X]++[Y]++[Z]).set (bs++[X']).length .gone++[W]).set bs.length W')[bs.length]? = some W':=fun X X' Y Z W W'=>by
  rw[zLH (by simp)]
 refine bJ 3000 Tryz.func45 rfl Tryz.ntmps45 Tryz.results45 Tryz.call45 (by simp) (aj bs.length _ (by simp[within,within.ax,zB])) ?_
 have q4:∀ X X' Y Z W W' A B C,(((bs++[X]++[Y]++[Z]).set (bs++[X']).length .gone++[W]).set bs.length W')[(bs++[A]++[B]++[C]).length]? = some W:=fun X X' Y Z W W' A B C=>by
  rw[zLD (by simp),show (bs++[A]++[B]++[C]).length=((bs++[X]++[Y]++[Z]).set (bs++[X']).length .gone).length by simp]
  exact aO _ _
 have q5:∀ X X' Y Z W W',Kp bs (((bs++[X]++[Y]++[Z]).set (bs++[X']).length .gone++[W]).set bs.length W'):=fun X X' Y Z W W'=>(((((Kp.refl bs).app [X]).app [Y]).app [Z]).set (by simp) .gone).app [W] |>.set (zLP _) W'
 cases ch
 ·refine gB (zLw oo (zLw j1 (zLw q1 (zLw q2 q3)))) ?_
  refine⟨⟨by unfold maxLen;omega,by omega⟩,?_⟩
  (refine aW (p2) ?_;refine gB (zLw oo (zLw j1 (zLw q1 (zLw q2 q3)))) ?_)
  refine⟨by omega,⟨by unfold maxLen;omega,by omega⟩,?_,?_⟩
  ·refine bE (fun n=>n - bs.length) ?_
   simp only[List.map_cons,List.map_nil,cM,dZ,zLC,zLy,zLz,Nat.zero_add,Nat.add_assoc,Nat.reduceAdd,Nat.add_sub_cancel_left,Nat.sub_self]
   exact av (by kernel_rfl)
  have hd:=bP 9 body.length (by omega)
  have hh:=ga st jn (fs++[(clN,bD body.length)])
  rw[eM]at hh
  simp only[dc,zLC,zLy,zLz]at hh
  have jL:clN.length=14:=rfl
  refine ae (gm (fs++[(clN,bD body.length)]) (q4 _ _ _ _ _ _ _ _ _) (by rw[zLW];rfl) (by simp) (by simp;omega) (by rw[eM];simp only[dc];omega) st jn) ?_
  rintro r b ⟨rfl,rfl⟩
  refine uo ?_
  exact⟨by omega,rfl,q5 _ _ _ _ _ _⟩
 ·refine gB (zLw oo (zLw j1 (zLw q1 (zLw q2 q3)))) ?_
  refine⟨⟨by unfold maxLen;omega,by omega⟩,by omega,⟨by unfold maxLen;omega,by omega⟩,?_⟩
  have hh:=ga st jn (fs++[(teN,chN)])
  rw[eM]at hh
  simp only[dc,zLC,zLy,zLz]at hh
  have jL:teN.length=17:=rfl
  have jL:chN.length=7:=rfl
  refine ae (gm (fs++[(teN,chN)]) (q4 _ _ _ _ _ _ _ _ _) (by rw[zLW];rfl) (by simp) (by simp;omega) (by rw[eM];simp only[dc];omega) st jn) ?_
  rintro r b ⟨rfl,rfl⟩
  refine uo ?_
  (refine aa (p1) ?_;refine uo ?_)
  exact⟨by omega,rfl,q5 _ _ _ _ _ _⟩
def cB (u:cX)(raw:Bytes):gz:=⟨u.host,u.port,bz u,raw,0,0,0⟩
theorem dC (u:cX)(hu:Fair u)(raw:Bytes):PC Tryz.V 80 [.agg (uc u),.str raw] (.agg (ac (cB u raw))):=by
 have p1:=nv u hu
 refine aV 3000 Tryz.func80 rfl Tryz.ntmps80 Tryz.results80 Tryz.call80 (by simp) (by simp[flat,flat.af,uc]) (by simp[flat,flat.af,ac]) ?_
 unfold cR at p1
 unfold uc ac cB
 refine bo ?_
 (refine aW (p1) ?_;refine od ?_)
 exact(av (by kernel_rfl))
theorem my {bs:List aw}(u:cX)(hu:Fair u):SC Tryz.V 78 [.agg (uc u)] bs (fun r b=>r=.agg (ac (cB u (eb 404 [] [] false)))∧b=bs):=by
 have p1:=dC u hu (eb 404 [] [] false)
 have s1:=fun X Y=>fj (bs:=bs++[X]++[Y]) (x:=.ah) (fs:=[]) (.inl ⟨rfl,rfl,rfl⟩) (by decide) (by decide) 404 (by omega) [] (by simp) false
 refine jl (by simp[flat,flat.af,ac]) ?_
 refine bJ 3000 Tryz.func78 rfl Tryz.ntmps78 Tryz.results78 Tryz.call78 (by simp) (aj bs.length _ (by simp[within,within.ax,uc])) ?_
 unfold uc ac cB at p1
 unfold uc ac cB
 simp only at p1 ⊢
 refine uo ?_
 have hn:∀ X,(bs++[X]).length=bs.length+1:=fun X=>by simp
 have t1:∀ X Y Z,((bs++[X]++[Y]).set (bs.length+1) Z)[bs.length+1]? = some Z:=fun X Y Z=>zLH (by simp)
 have t0:∀ X Y,(bs++[X]++[Y])[bs.length+1]? = some Y:=fun X Y=>by rw[← hn X];exact aO _ _
 refine aS [] (s1 _ _) (fun _ _ _=>rfl) ?_
 rw[hn]
 refine gB (zLw t0 t1) ?_
 (refine aW (p1) ?_;refine gB (zLw t0 t1) ?_)
 have z1:(bs.length=bs.length+1)=False:=by simp
 exact⟨(by
  refine bE (fun n=>if n=bs.length+1 then 0 else 1) ?_
  simp only[List.map_cons,List.map_nil,cM,dZ,reduceIte,z1]
  exact av (by kernel_rfl)),(((Kp.refl bs).app _).app _).set (by omega) _⟩
def FG (st:Nat)(kind:Bytes)(fs:List (Bytes × Bytes))(body:Bytes)(ch:Bool):Bytes:=if kind=[] then eb st fs body ch else eb st ((([99,111,110,116,101,110,116,45,116,121,112,101]:List UInt8),kind)::fs) body ch
theorem qh {bs:List aw}{x:SV}{fs:List (Bytes × Bytes)}(hx:Sx 100 2 x bs (fs.flatMap fc) fs.length)(hn:fs.length≤1000)(hm:dc fs≤1000000)(st:Nat)(jn:st≤1000000000)(kind:Bytes)(hk:kind.length≤1000000)(body:Bytes)(hb:body.length≤1100000)(ch:Bool) :
 SC Tryz.V 45 [.int .i64 st,.str kind,.str body,x,.bool ch] bs (fun r b=>r=.str (FG st kind fs body ch)∧b=bs):=by
 unfold FG
 by_cases C6:kind=[]
 ·rw[if_pos C6,C6]
  exact fj hx hn hm st jn body hb ch
 rw[if_neg C6]
 have mF:(kind != [])=true:=by simpa using C6
 refine jl (by simp[flat]) ?_
 have zB:=hx.within
 have p1:=qw body 50 hb (by omega) (by omega)
 have C7:=pG 50 _ body (zLP _)
 have p2:=eY body.length (by omega)
 have oo:∀ X Y Z,oh (bs++[X]++[Y]++[Z]) 2 x=some (fs.length,fs.flatMap fc):=fun X Y Z=>by
  rcases hx with⟨rfl,hc,hl⟩|⟨j,m,rfl,hl,hj⟩
  ·rw[hc,hl];rfl
  ·simp only[oh,ad (ad (ad hj [X]) [Y]) [Z],and_self,if_true]
 have j1:=Jh fs
 refine bJ 3000 Tryz.func45 rfl Tryz.ntmps45 Tryz.results45 Tryz.call45 (by simp) (aj bs.length _ (by simp[within,within.ax,zB])) ?_
 cases ch
 ·refine gB (zLw oo (zLw j1 mF)) ?_
  refine⟨by omega,⟨by unfold maxLen;omega,by omega⟩,?_⟩
  have mD:∀ X Y,(bs++[X]++[Y]).length=bs.length+2:=fun X Y=>by simp
  rw[mD]
  have s0:∀ X Y Z,(bs++[X]++[Y]++[Z])[bs.length]? = some X:=fun X Y Z=>ad (ad (aO _ _) _) _
  have s2:∀ X Y Z,(bs++[X]++[Y]++[Z])[bs.length+2]? = some Z:=fun X Y Z=>by rw[← mD X Y];exact aO _ _
  have sk:∀ X Y Z,Kp bs (bs++[X]++[Y]++[Z]):=fun X Y Z=>(((Kp.refl bs).app _).app _).app _
  have sl:∀ X Y Z,(bs++[X]++[Y]++[Z]).length=bs.length+3:=fun X Y Z=>by simp
  generalize hS:(bs++[_]++[_]++[_])=S
  replace s0:S[bs.length]? = _:=hS ▸ s0 _ _ _
  replace s2:S[bs.length+2]? = _:=hS ▸ s2 _ _ _
  replace sk:Kp bs S:=hS ▸ sk _ _ _
  replace sl:S.length=bs.length+3:=hS ▸ sl _ _ _
  replace oo:oh S 2 x=_:=hS ▸ oo _ _ _
  clear hS
  have u0:∀ X,(S.set (bs.length+2) .gone++[X])[bs.length]? = S[bs.length]? := fun X=>by rw[zLB (by simp;omega),zLD (by omega)]
  have u0:∀ X Y,((S.set (bs.length+2) .gone++[X]).set bs.length Y)[bs.length]? = some Y:=fun X Y=>zLH (by simp;omega)
  have u1:∀ X Y,((S.set (bs.length+2) .gone++[X]).set bs.length Y)[S.length]? = some X:=fun X Y=>by
   rw[zLD (by omega),show S.length=(S.set (bs.length+2) .gone).length by simp];exact aO _ _
  have uk:∀ X Y,Kp bs ((S.set (bs.length+2) .gone++[X]).set bs.length Y):=fun X Y=>((sk.set (by omega) _).app _).set (zLP _) _
  have ul:∀ X Y,((S.set (bs.length+2) .gone++[X]).set bs.length Y).length=bs.length+4:=fun X Y=>by simp;omega
  have ux:∀ X,(S.set (bs.length+2) .gone++[X])[bs.length]? = S[bs.length]? := fun X=>by rw[zLB (by simp;omega),zLD (by omega)]
  refine gB (zLw oo (zLw j1 (zLw mF (zLw s0 (zLw s2 ux))))) ?_
  refine⟨⟨by unfold maxLen;omega,by omega⟩,?_⟩
  generalize G3:((S.set (bs.length+2) .gone++[_]).set bs.length _)=S2
  replace u0:S2[bs.length]? = _:=G3 ▸ u0 _ _
  replace u1:S2[S.length]? = _:=G3 ▸ u1 _ _
  replace uk:Kp bs S2:=G3 ▸ uk _ _
  replace ul:S2.length=bs.length+4:=G3 ▸ ul _ _
  clear G3 oo s0 s2 ux
  rw[sl]at u0 u1 ⊢
  clear sk sl
  have v0:=fun X=>ad u0 [X]
  have v1:=fun X=>ad u1 [X]
  have q2:∀ Z W,((S2++[Z]).set (bs.length+3) .gone++[W])[bs.length]? = S2[bs.length]? := fun Z W=>by
   rw[zLB (by simp;omega),zLD (by omega),zLB (by omega)]
  have q3:∀ Z W W',(((S2++[Z]).set (bs.length+3) .gone++[W]).set bs.length W')[bs.length]? = some W':=fun Z W W'=>zLH (by simp;omega)
  have q4:∀ Z W W' A,(((S2++[Z]).set (bs.length+3) .gone++[W]).set bs.length W')[(S2++[A]).length]? = some W:=fun Z W W' A=>by
   rw[zLD (by simp;omega),show (S2++[A]).length=((S2++[Z]).set (bs.length+3) .gone).length by simp]
   exact aO _ _
  have q5:∀ Z W W',Kp bs (((S2++[Z]).set (bs.length+3) .gone++[W]).set bs.length W'):=fun Z W W'=>(((uk.app _).set (by omega) .gone).app _).set (zLP _) W'
  refine gB (zLw j1 (zLw mF (zLw u0 (zLw @v0 (zLw @v1 q3))))) ?_
  (refine aW (p2) ?_;refine gB (zLw j1 (zLw mF (zLw u0 (zLw @v0 (zLw @v1 (zLw q2 q3)))))) ?_)
  have z1:(S2.length=bs.length)=False:=by simp;omega
  have z2:∀ X,((S2++[X]).length=bs.length)=False:=fun X=>by simp;omega
  have z3:(bs.length+3=bs.length)=False:=by simp
  refine⟨by omega,⟨by unfold maxLen;omega,by omega⟩,(by
   refine bE (fun n=>if n=bs.length then 0 else 1) ?_
   simp only[List.map_cons,List.map_nil,cM,dZ,reduceIte,z1,z2,z3]
   exact av (by kernel_rfl)),?_⟩
  have hd:=bP 9 body.length (by omega)
  have hh:=ga st jn ((([99,111,110,116,101,110,116,45,116,121,112,101]:List UInt8),kind)::fs++[(clN,bD body.length)])
  rw[eM]at hh
  have jL:clN.length=14:=rfl
  simp only[dc,zLC,zLy,zLz,zLK]at hh
  refine ae (gm ((([99,111,110,116,101,110,116,45,116,121,112,101]:List UInt8),kind)::fs++[(clN,bD body.length)]) (q4 _ _ _ _) (by rw[zLK,List.flatMap_cons,zLW];rfl) (by simp;omega) (by simp;omega) (by rw[eM];simp only[dc,zLy,zLz];omega) st jn) ?_
  rintro r b ⟨rfl,rfl⟩
  simp only[cq,↓Xn,↓Xo,↓Xg,↓Xd,↓Xe,↓Xf,Tryz.VΓ,Tryz.Γs,Xp,Xi,Nat.reduceAdd,Nat.reduceSub,Nat.reduceLT,Nat.reduceLeDiff,reduceIte,reduceCtorEq,Nat.reduceEqDiff,implies_true,forall_const,cp,DU,beq_self_eq_true,bne_self_eq_false,Int.reduceBEq,Int.reduceBNe,Int.reduceLT,Int.reduceLE,zLK]
  exact⟨by omega,rfl,q5 _ _ _⟩
 ·refine gB (zLw oo (zLw j1 mF)) ?_
  refine⟨by omega,⟨by unfold maxLen;omega,by omega⟩,?_⟩
  have mD:∀ X Y,(bs++[X]++[Y]).length=bs.length+2:=fun X Y=>by simp
  rw[mD]
  have s0:∀ X Y Z,(bs++[X]++[Y]++[Z])[bs.length]? = some X:=fun X Y Z=>ad (ad (aO _ _) _) _
  have s2:∀ X Y Z,(bs++[X]++[Y]++[Z])[bs.length+2]? = some Z:=fun X Y Z=>by rw[← mD X Y];exact aO _ _
  have sk:∀ X Y Z,Kp bs (bs++[X]++[Y]++[Z]):=fun X Y Z=>(((Kp.refl bs).app _).app _).app _
  have sl:∀ X Y Z,(bs++[X]++[Y]++[Z]).length=bs.length+3:=fun X Y Z=>by simp
  generalize hS:(bs++[_]++[_]++[_])=S
  replace s0:S[bs.length]? = _:=hS ▸ s0 _ _ _
  replace s2:S[bs.length+2]? = _:=hS ▸ s2 _ _ _
  replace sk:Kp bs S:=hS ▸ sk _ _ _
  replace sl:S.length=bs.length+3:=hS ▸ sl _ _ _
  replace oo:oh S 2 x=_:=hS ▸ oo _ _ _
  clear hS
  have u0:∀ X,(S.set (bs.length+2) .gone++[X])[bs.length]? = S[bs.length]? := fun X=>by rw[zLB (by simp;omega),zLD (by omega)]
  have u0:∀ X Y,((S.set (bs.length+2) .gone++[X]).set bs.length Y)[bs.length]? = some Y:=fun X Y=>zLH (by simp;omega)
  have u1:∀ X Y,((S.set (bs.length+2) .gone++[X]).set bs.length Y)[S.length]? = some X:=fun X Y=>by
   rw[zLD (by omega),show S.length=(S.set (bs.length+2) .gone).length by simp];exact aO _ _
  have uk:∀ X Y,Kp bs ((S.set (bs.length+2) .gone++[X]).set bs.length Y):=fun X Y=>((sk.set (by omega) _).app _).set (zLP _) _
  have ul:∀ X Y,((S.set (bs.length+2) .gone++[X]).set bs.length Y).length=bs.length+4:=fun X Y=>by simp;omega
  have ux:∀ X,(S.set (bs.length+2) .gone++[X])[bs.length]? = S[bs.length]? := fun X=>by rw[zLB (by simp;omega),zLD (by omega)]
  refine gB (zLw oo (zLw j1 (zLw mF (zLw s0 (zLw s2 ux))))) ?_
  refine⟨⟨by unfold maxLen;omega,by omega⟩,?_⟩
  generalize G3:((S.set (bs.length+2) .gone++[_]).set bs.length _)=S2
  replace u0:S2[bs.length]? = _:=G3 ▸ u0 _ _
  replace u1:S2[S.length]? = _:=G3 ▸ u1 _ _
  replace uk:Kp bs S2:=G3 ▸ uk _ _
  replace ul:S2.length=bs.length+4:=G3 ▸ ul _ _
  clear G3 oo s0 s2 ux
  rw[sl]at u0 u1 ⊢
  clear sk sl
  have v0:=fun X=>ad u0 [X]
  have v1:=fun X=>ad u1 [X]
  have q2:∀ Z W,((S2++[Z]).set (bs.length+3) .gone++[W])[bs.length]? = S2[bs.length]? := fun Z W=>by
   rw[zLB (by simp;omega),zLD (by omega),zLB (by omega)]
  have q3:∀ Z W W',(((S2++[Z]).set (bs.length+3) .gone++[W]).set bs.length W')[bs.length]? = some W':=fun Z W W'=>zLH (by simp;omega)
  have q4:∀ Z W W' A,(((S2++[Z]).set (bs.length+3) .gone++[W]).set bs.length W')[(S2++[A]).length]? = some W:=fun Z W W' A=>by
   rw[zLD (by simp;omega),show (S2++[A]).length=((S2++[Z]).set (bs.length+3) .gone).length by simp]
   exact aO _ _
  have q5:∀ Z W W',Kp bs (((S2++[Z]).set (bs.length+3) .gone++[W]).set bs.length W'):=fun Z W W'=>(((uk.app _).set (by omega) .gone).app _).set (zLP _) W'
  refine gB (zLw j1 (zLw mF (zLw u0 (zLw @v0 (zLw @v1 (zLw q2 q3)))))) ?_
  refine⟨by omega,⟨by unfold maxLen;omega,by omega⟩,?_⟩
  have hh:=ga st jn ((([99,111,110,116,101,110,116,45,116,121,112,101]:List UInt8),kind)::fs++[(teN,chN)])
  rw[eM]at hh
  have jL:teN.length=17:=rfl
  have hcl2:chN.length=7:=rfl
  simp only[dc,zLC,zLy,zLz,zLK]at hh
  refine ae (gm ((([99,111,110,116,101,110,116,45,116,121,112,101]:List UInt8),kind)::fs++[(teN,chN)]) (q4 _ _ _ _) (by rw[zLK,List.flatMap_cons,zLW];rfl) (by simp;omega) (by simp;omega) (by rw[eM];simp only[dc,zLy,zLz];omega) st jn) ?_
  rintro r b ⟨rfl,rfl⟩
  simp only[cq,↓Xn,↓Xo,↓Xg,↓Xd,↓Xe,↓Xf,Tryz.VΓ,Tryz.Γs,Xp,Xi,Nat.reduceAdd,Nat.reduceSub,Nat.reduceLT,Nat.reduceLeDiff,reduceIte,reduceCtorEq,Nat.reduceEqDiff,implies_true,forall_const,cp,DU,beq_self_eq_true,bne_self_eq_false,Int.reduceBEq,Int.reduceBNe,Int.reduceLT,Int.reduceLE,zLK]
  (refine aa (p1) ?_;simp only[cq,↓Xn,↓Xo,↓Xg,↓Xd,↓Xe,↓Xf,Tryz.VΓ,Tryz.Γs,Xp,Xi,Nat.reduceAdd,Nat.reduceSub,Nat.reduceLT,Nat.reduceLeDiff,reduceIte,reduceCtorEq,Nat.reduceEqDiff,implies_true,forall_const,cp,DU,beq_self_eq_true,bne_self_eq_false,Int.reduceBEq,Int.reduceBNe,Int.reduceLT,Int.reduceLE,zLK])
  exact⟨by omega,rfl,q5 _ _ _⟩
theorem er.fu {i:Nat}{a b:List aw}(h:er i a b){k:Nat}(hk:a.length≤k)(X:aw):er i a (b.set k X):=⟨by simp;exact h.1,fun q hq hn=>by rw[zLD (by omega)];exact h.2 q hq hn⟩
theorem aR.set {b:List aw}{i:Nat}{L:List Int}(h:aR b i L){k:Nat}(hk:k≠i){c:List SV}{e s n:Nat}(hr:b[k]? = some (.own c e s n true))(X:aw):aR (b.set k X) i L:=by
 obtain⟨x,hi,hx,hq⟩:=h
 refine⟨x,by rw[zLD hk];exact hi,?_,hq⟩
 rcases hx with h|⟨j,h1,h2,h3⟩
 ·exact .inl h
 ·exact .inr ⟨j,h1,h2,by rw[zLD (by rintro rfl;rw[hr]at h3;simp at h3)];exact h3⟩
theorem Dw {bs:List aw}{i:Nat}{L:List Int}(h:aR bs i L):SC Tryz.V 68 [.p i 0] bs (fun r b=>∃ fs L' q,r=.o q fs.length∧0<fs.length∧fs.length≤2∧dc fs≤200∧bs.length≤q∧b[q]? = some (.own (fs.flatMap fc) 100 2 fs.length true)∧aR b i L'∧er i bs b):=by
 have fD:i<bs.length:=by obtain⟨x,hi,-⟩:=h;exact(zLx.1 hi).1
 refine bJ 3000 Tryz.func68 rfl Tryz.ntmps68 Tryz.results68 Tryz.call68 (by simp) (aj bs.length _ (by simp[within,within.ax,fD])) ?_
 refine uo ?_
 refine⟨by omega,ae (fR h [([109,97,120,45,97,103,101,61,49,48,48]:List UInt8),([109,97,120,45,97,103,101,61,49,48,48,48,44,32,112,117,98,108,105,99]:List UInt8),([109,97,120,45,97,103,101,61,53]:List UInt8),([109,97,120,45,97,103,101,61,57,57,57,57,57,57,57,57,57]:List UInt8),([110,111,45,115,116,111,114,101,44,32,109,97,120,45,97,103,101,61,57]:List UInt8),([112,114,105,118,97,116,101]:List UInt8),([109,97,120,45,97,103,101,61,120]:List UInt8)] (n:=7) (m:=30) rfl (by omega) (by decide) rfl) ?_⟩
 rintro r b ⟨s1,L1,rfl,GW,h,hk⟩
 have ug:=hk.1
 refine uo ?_
 refine⟨by omega,ae (dr (h.app _) 4 (by omega)) ?_⟩
 rintro r b2 ⟨v,L2,rfl,hv,h2,bM⟩
 have g1:=bM.at (aO b _) (by omega)
 have mE:=(hk.app _).trans bM
 clear bM
 have qN:b.length<b2.length:=(zLx.1 g1).1
 have kcc:(([99,97,99,104,101,45,99,111,110,116,114,111,108]:List UInt8):Bytes).length=13:=rfl
 have kag:(([97,103,101]:List UInt8):Bytes).length=3:=rfl
 by_cases hv0:v=0
 ·have e0:(v==0)=true:=beq_iff_eq.2 hv0
  refine gB (zLw g1 e0) ?_
  refine⟨by omega,ae (fR h2 [([52,48]:List UInt8),([51]:List UInt8),([49,48,48,48]:List UInt8),([121]:List UInt8)] (n:=4) (m:=10) rfl (by omega) (by decide) rfl) ?_⟩
  rintro r b3 ⟨s2,L3,rfl,fw,h3,eh⟩
  have g3:=eh.at g1 (by omega)
  have g4:=fun X=>ad g3 [X]
  have hkl3:=eh.1
  refine gB (zLw g3 g4) ?_
  refine⟨by omega,⟨by unfold maxLen;omega,by omega⟩,[(([99,97,99,104,101,45,99,111,110,116,114,111,108]:List UInt8),s1),(([97,103,101]:List UInt8),s2)],L3,_,rfl,by simp,by simp,by simp only[dc];omega,by simp;omega,?_,((h3.app _).set (by omega) (g4 _) _).app _,(((mE.trans eh).app _).fu ug _).app _⟩
  have e:∀ X Y,(b3++[X]).length=((b3++[X]).set b.length Y).length:=fun X Y=>by simp
  rw[e _ .gone,aO]
  rfl
 ·have e0:(v==0)=false:=beq_eq_false_iff_ne.2 hv0
  refine gB (zLw g1 e0) ?_
  exact⟨[(([99,97,99,104,101,45,99,111,110,116,114,111,108]:List UInt8),s1)],L2,b.length,rfl,by simp,by simp,by simp only[dc];omega,ug,g1,h2,mE⟩
def Ro (a b:List aw):Prop:=∀ (j:Nat) (c:List SV) (e s n:Nat),a[j]? = some (.own c e s n false)→b[j]? = some (.own c e s n false)
theorem Ro.refl (a:List aw):Ro a a:=fun _ _ _ _ _ h=>h
theorem Ro.trans {a b c:List aw}(h:Ro a b)(k:Ro b c):Ro a c:=fun j _ _ _ _ x=>k j _ _ _ _ (h j _ _ _ _ x)
end Go.Proofs.YtnmlimehgifadaaGreatDoor
namespace Vc
open Go.Proofs.YtnmlimehgifadaaGreatDoor
open Go Vc Go.RowKit Wf
theorem Kp.ro {a b:List aw}(h:Kp a b):Ro a b:=fun _ _ _ _ _ x=>h.at x
end Vc
namespace Go.Proofs.YtnmlimehgifadaaGreatDoor
open Go Vc Go.RowKit Wf
theorem Ro.app {a b:List aw}(h:Ro a b)(X:List aw):Ro a (b++X):=fun j _ _ _ _ x=>ad (h j _ _ _ _ x) X
end Go.Proofs.YtnmlimehgifadaaGreatDoor
namespace Vc
open Go.Proofs.YtnmlimehgifadaaGreatDoor
open Go Vc Go.RowKit Wf
theorem Hb.ro {a b:List aw}(h:Hb a b):Ro a b:=fun j c e s n x=>by
 have hl:j<b.length:=by rw[h.1];exact(zLx.1 x).1
 rcases h.2 j b[j] (zLF hl) with h1|⟨c',e',s',n',m',h1,h2⟩
 ·rw[zLF hl,← h1,x]
 ·rw[x]at h1
  cases h1
  rw[zLF hl,h2]
end Vc
namespace Go.Proofs.YtnmlimehgifadaaGreatDoor
open Go Vc Go.RowKit Wf
theorem Ro.set {a b:List aw}(h:Ro a b){q:Nat}(hq:∀ c e s n,b[q]? ≠ some (.own c e s n false))(X:aw):Ro a (b.set q X):=fun j c e s n x=>by
 have:=h j c e s n x
 have bt:q≠j:=by rintro rfl;exact hq _ _ _ _ this
 rw[zLD bt]
 exact this
theorem Ro.oj {a b:List aw}(h:Ro a b){q:Nat}{c:List SV}{e s n:Nat}(hq:b[q]? = some (.own c e s n true))(X:aw):Ro a (b.set q X):=h.set (fun c e s n hx=>by rw[hq]at hx;cases hx) X
structure Tv where
 k:Int
 t:Bytes
 xk:SV
 xi:SV
def tv (v:Tv):List SV:=[.int .i64 v.k,.str v.t,v.xk,v.xi]
def Rs (b:List aw)(x:SV)(L:List Bytes):Prop:=(x=.ah∧L=[])∨∃ j,x=.o j L.length∧b[j]? = some (.own (L.map SV.str) 9 1 L.length false)
def Ri (b:List aw)(x:SV)(L:List Tv):Prop:=(x=.ah∧L=[])∨∃ j,x=.o j L.length∧b[j]? = some (.own (L.flatMap tv) 139 4 L.length false)
theorem Rs.ro {a b:List aw}{x:SV}{L:List Bytes}(h:Rs a x L)(k:Ro a b):Rs b x L:=by
 rcases h with h|⟨j,h1,h2⟩
 ·exact .inl h
 ·exact .inr ⟨j,h1,k _ _ _ _ _ h2⟩
theorem Ri.ro {a b:List aw}{x:SV}{L:List Tv}(h:Ri a x L)(k:Ro a b):Ri b x L:=by
 rcases h with h|⟨j,h1,h2⟩
 ·exact .inl h
 ·exact .inr ⟨j,h1,k _ _ _ _ _ h2⟩
theorem Rs.within {b:List aw}{x:SV}{L:List Bytes}(h:Rs b x L):Vc.within b.length x=true:=by
 rcases h with⟨rfl,-⟩|⟨j,rfl,h2⟩
 ·rfl
 ·have:=(zLx.1 h2).1
  simp[Vc.within,this]
theorem Ri.within {b:List aw}{x:SV}{L:List Tv}(h:Ri b x L):Vc.within b.length x=true:=by
 rcases h with⟨rfl,-⟩|⟨j,rfl,h2⟩
 ·rfl
 ·have:=(zLx.1 h2).1
  simp[Vc.within,this]
def Tr (b:List aw):Nat→Tv→Prop
 | 0,_=>False
 | d+1,v=>v.t.length≤20000∧(v.k=0∨v.k=5∨v.k=6∨v.k=7)∧∃ (K:List Bytes) (L:List Tv),Rs b v.xk K∧Ri b v.xi L∧K.length≤16∧L.length≤16∧(∀ s∈K,s.length≤20000)∧(v.k=7→K.length=L.length)∧(v.k≠7→K=[])∧∀ x∈L,Tr b d x
theorem Tr.ro {a b:List aw}(k:Ro a b):∀ {d:Nat}{v:Tv},Tr a d v→Tr b d v
 | 0,_,h=>h
 | _+1,_,⟨h1,h2,K,L,h3,h4,h5,h6,h7,h8,h9,dH⟩=>⟨h1,h2,K,L,h3.ro k,h4.ro k,h5,h6,h7,h8,h9,fun x hx=>(dH x hx).ro k⟩
theorem Tr.up {b:List aw}:∀ {d:Nat}{v:Tv},Tr b d v→Tr b (d+1) v
 | 0,_,h=>h.elim
 | _+1,_,⟨h1,h2,K,L,h3,h4,h5,h6,h7,h8,h9,dH⟩=>⟨h1,h2,K,L,h3,h4,h5,h6,h7,h8,h9,fun x hx=>(dH x hx).up⟩
theorem Tr.le {b:List aw}{d d2:Nat}{v:Tv}(h:Tr b d v)(hd:d≤d2):Tr b d2 v:=by
 induction hd with
 | refl=>exact h
 | step _ ih=>exact ih.up
theorem Tr.zero (b:List aw)(d:Nat):Tr b (d+1) ⟨0,[],.ah,.ah⟩:=⟨by simp,.inl rfl,[],[],.inl ⟨rfl,rfl⟩,.inl ⟨rfl,rfl⟩,by simp,by simp,by simp,by simp,by simp,by simp⟩
theorem Tr.text (b:List aw)(d:Nat)(s:Bytes)(hs:s.length≤20000):Tr b (d+1) ⟨5,s,.ah,.ah⟩:=⟨hs,.inr (.inl rfl),[],[],.inl ⟨rfl,rfl⟩,.inl ⟨rfl,rfl⟩,by simp,by simp,by simp,by simp,by simp,by simp⟩
theorem Tr.within {b:List aw}:∀ {d:Nat}{v:Tv},Tr b d v→Vc.within b.length (.agg (tv v))=true
 | 0,_,h=>h.elim
 | _+1,_,⟨_,_,_,_,h3,h4,_⟩=>by simp[Vc.within,Vc.within.ax,tv,h3.within,h4.within]
theorem sE (L:List Tv)(k:Nat)(h:k<L.length):((L.flatMap tv).drop (k * 4)).take 4=tv L[k]:=lT tv 4 (fun _=>rfl) L k h
theorem lJ (L:List Tv):(L.flatMap tv).length=L.length * 4:=iq tv 4 (fun _=>rfl) L
end Go.Proofs.YtnmlimehgifadaaGreatDoor
namespace Vc
open Go Go.RowKit Wf
mutual
def HK (ρ:Nat→Nat):SV→SV
 | .p i off=>.p (ρ i) off
 | .o i n=>.o (ρ i) n
 | .f i n=>.f (ρ i) n
 | .agg l=>.agg (nk ρ l)
 | .fF l=>.fF (nk ρ l)
 | .fn f l=>.fn f (nk ρ l)
 | .mv f l=>.mv f (nk ρ l)
 | .ifc t x=>.ifc t (HK ρ x)
 | .bool b=>.bool b
 | .int k n=>.int k n
 | .str l=>.str l
 | .ah=>.ah
 | .v x=>.v x
def nk (ρ:Nat→Nat):List SV→List SV
 | []=>[]
 | x::r=>HK ρ x::nk ρ r
end
mutual
theorem CB (ρ:Nat→Nat)(β:Nat→Bt)(x:SV):ai β (HK ρ x)=ai (fun i=>β (ρ i)) x:=by
 cases x <;> simp only[HK,ai]
 ·rw[ju ρ β _]
 ·rw[ju ρ β _]
 ·rw[ju ρ β _]
 ·rw[ju ρ β _]
 ·rw[CB ρ β _]
theorem ju (ρ:Nat→Nat)(β:Nat→Bt)(l:List SV):bG β (nk ρ l)=bG (fun i=>β (ρ i)) l:=by
 cases l with
 | nil=>rfl
 | cons x r =>
   simp only[nk,bG]
   rw[CB ρ β x,ju ρ β r]
end
mutual
theorem uP {ρ:Nat→Nat}{m:Nat}(hρ:∀ k,k<m→ρ k=k)(x:SV)(h:within m x=true):HK ρ x=x:=by
 cases x <;> simp only[within,decide_eq_true_eq]at h <;> simp only[HK]
 ·rw[hρ _ h]
 ·rw[hρ _ h]
 ·rw[hρ _ h]
 ·rw[ez hρ _ h]
 ·rw[ez hρ _ h]
 ·rw[ez hρ _ h]
 ·rw[ez hρ _ h]
 ·rw[uP hρ _ h]
theorem ez {ρ:Nat→Nat}{m:Nat}(hρ:∀ k,k<m→ρ k=k)(l:List SV)(h:within.ax m l=true):nk ρ l=l:=by
 cases l with
 | nil=>rfl
 | cons x r =>
   simp only[within.ax,zLV]at h
   simp only[nk]
   rw[uP hρ x h.1,ez hρ r h.2]
end
theorem HJ (ρ:Nat→Nat)(l:List SV):nk ρ l=l.map (HK ρ):=by
 induction l with
 | nil=>rfl
 | cons x r ih=>rw[nk,ih];rfl
variable {V:Cx} {f:FuncId} {args:List SV} {bs:List aw} {R:SV→List aw→Prop}
def Kept (bs b:List aw)(ρ:Nat→Nat)(m i:Nat)(X:aw):Prop:=X=.gone∨∃ (c:List SV) (e s n:Nat) (mm:Bool),X=.own c e s n false∧bs.length≤ρ i∧b[ρ i]? = some (.own (nk ρ c) e s n mm)∧within.ax m c=true
theorem SC.pick (h:SC V f args bs (fun r b=>∃ (ρ:Nat→Nat)(Xs:List aw)(r2:SV),Kp bs b∧(∀ k,k<bs.length→ρ k=k)∧(∀ q X,Xs[q]? = some X→Kept bs b ρ (bs.length+Xs.length) (bs.length+q) X)∧r=HK ρ r2∧within (bs.length+Xs.length) r2=true∧R r2 (bs++Xs))):SC V f args bs R:=by
 refine⟨h.1,fun β fp w qM hG hE=>(h.2 β fp w qM hG hE).mono ?_⟩
 rintro ex w' ⟨r,bs',β₂,fp₂,⟨ρ,Xs,r2,⟨hlen,bf⟩,hρ,hX,rfl,hw,hR⟩,vS,-,a6,j5,iu,gI⟩
 have old:∀ {i r},bs[i]? = some r→bs'[i]? = some r:=fun {i r} hi=>(bf i (zLx.1 hi).1).trans hi
 obtain⟨he,wI⟩:=a6 β₂ (fun _ _=>rfl)
 have low:∀ {i X},(bs++Xs)[i]? = some X→(i<bs.length∧bs[i]? = some X)∨(bs.length≤i∧(X=.gone∨∃ (c:List SV) (e s n:Nat) (mm:Bool),X=.own c e s n false∧bs.length≤ρ i∧bs'[ρ i]? = some (.own (nk ρ c) e s n mm)∧within.ax (bs.length+Xs.length) c=true)):=fun {i X} hi=>by
  rcases zLQ i bs.length with h1|h1
  ·rw[zLB h1]at hi
   exact .inl ⟨h1,hi⟩
  ·rw[zLG h1]at hi
   have:=hX _ _ hi
   rw[show bs.length+(i - bs.length)=i by omega]at this
   exact .inr ⟨h1,this⟩
 have ng:∀ {i X},(bs++Xs)[i]? = some X→X≠.gone→bs'[ρ i]? ≠ none∧(i<bs.length∧ρ i=i∨bs.length≤i∧bs.length≤ρ i):=fun {i X} hi hg=>by
  rcases low hi with⟨h1,h2⟩|⟨h1,h2|⟨c,e,s,n,mm,-,h3,h4,-⟩⟩
  ·rw[hρ i h1,old h2]
   exact⟨by simp,.inl ⟨h1,rfl⟩⟩
  ·exact absurd h2 hg
  ·rw[h4]
   exact⟨by simp,.inr ⟨h1,h3⟩⟩
 refine⟨r2,bs++Xs,fun i=>β₂ (ρ i),fun i k=>(bs++Xs)[i]? ≠ some .gone∧fp₂ (ρ i) k,hR,fun i hi=>?_,by simp,fun β' hβ=>?_,j5,fun i X hi hm k hk=>?_,fun i X hi k hk=>?_⟩
 ·show β i=β₂ (ρ i)
  rw[hρ i hi]
  exact vS i hi
 ·rw[zLC]at hβ
  have e1:∀ c,within.ax (bs.length+Xs.length) c=true→(nk ρ c).map (ai β₂)=c.map (ai β'):=fun c hc=>by
   rw[← bR,← bR,ju]
   exact aj _ c hc _ _ hβ
  have hB:ct bs.length β₂ β':=fun i hi=>by
   have:β₂ (ρ i)=β' i:=hβ i (by omega)
   rw[← this,hρ i hi]
  refine⟨by rw[he,CB];rw[tA _ r2 hw _ _ hβ],⟨fun i X hi=>?_,fun i X hi k hk=>?_,fun i j X Y hi hj hij hm k hk bM=>?_⟩⟩
  ·rcases low hi with⟨h1,h2⟩|⟨h1,rfl|⟨c,e,s,n,mm,rfl,h3,h4,h5⟩⟩
   ·have g1:=(qM β₂ vS).holds i X h2
    have g2:=(qM β' (fun i hi=>(vS i hi).trans (hB i hi))).holds i X h2
    have e:β₂ i=β' i:=hB i h1
    have g3:=wI.holds i X (old h2)
    rw[e]at g1 g3
    have g4:=yW g1 g2 g3
    by_cases hg:X=.gone
    ·subst hg
     intro k hk
     exact hk.1 hi
    ·have:(fun k=>(bs++Xs)[i]? ≠ some .gone∧fp₂ (ρ i) k)=fp₂ i:=by
      funext k
      rw[hρ i h1,hi]
      simp[hg]
     rw[this]
     exact g4
   ·intro k hk
    exact hk.1 hi
   ·have g3:=wI.holds _ _ h4
    have hi2:i<bs.length+Xs.length:=by
     have:=(zLx.1 hi).1
     simpa using this
    have e:β₂ (ρ i)=β' i:=hβ i hi2
    rw[e]at g3
    have:(fun k=>(bs++Xs)[i]? ≠ some .gone∧fp₂ (ρ i) k)=fp₂ (ρ i):=by
     funext k
     rw[hi]
     simp
    rw[this]
    rcases g3 with⟨k1,k2,k3,k4⟩|⟨k1,k2,k3,k4,k5,-,k7⟩
    ·refine .inl ⟨k1,k2,?_,k4⟩
     cases c with
     | nil=>rfl
     | cons x r=>simp[nk]at k3
    ·refine .inr ⟨k1,k2,k3,?_,?_,(by simp),k7⟩
     ·rw[HJ,List.length_map]at k4
      exact k4
     ·rw[e1 c h5]at k5
      exact k5
  ·obtain⟨X',hX'⟩:∃ X',bs'[ρ i]? = some X':=by
    have:=(ng hi (fun e=>hk.1 (e ▸ hi))).1
    cases hh:bs'[ρ i]? with
    | none=>exact absurd hh this
    | some x=>exact⟨x,rfl⟩
   exact wI.lt _ _ hX' k hk.2
  ·have hgi:X≠.gone:=fun e=>hk.1 (e ▸ hi)
   have hgj:Y≠.gone:=fun e=>bM.1 (e ▸ hj)
   rcases low hi with⟨h1,h2⟩|⟨h1,rfl|⟨c,e,s,n,mm,rfl,h3,h4,h5⟩⟩
   ·rcases low hj with⟨l1,l2⟩|⟨l1,rfl|⟨c',e',s',n',mm',rfl,l3,l4,l5⟩⟩
    ·have a1:=hk.2
     have a2:=bM.2
     rw[hρ i h1]at a1
     rw[hρ j l1]at a2
     exact wI.sep i j X Y (old h2) (old l2) hij hm k a1 a2
    ·exact hgj rfl
    ·have a1:=hk.2
     rw[hρ i h1]at a1
     have IE:X.cP=true:=hm.resolve_right (by simp[aw.cP])
     exact wI.sep i (ρ j) X _ (old h2) l4 (by omega) (.inl IE) k a1 bM.2
   ·exact hgi rfl
   ·rcases low hj with⟨l1,l2⟩|⟨l1,rfl|⟨c',e',s',n',mm',rfl,l3,l4,l5⟩⟩
    ·have a2:=bM.2
     rw[hρ j l1]at a2
     have IE:Y.cP=true:=hm.resolve_left (by simp[aw.cP])
     exact wI.sep (ρ i) j _ Y h4 (old l2) (by omega) (.inr IE) k hk.2 a2
    ·exact hgj rfl
    ·rcases hm with hm|hm <;> simp[aw.cP]at hm
 ·rcases low hi with⟨h1,h2⟩|⟨h1,rfl|⟨c,e,s,n,mm,rfl,h3,h4,h5⟩⟩
  ·have a1:=hk.2
   rw[hρ i h1]at a1
   exact iu i X (old h2) hm k a1
  ·simp[aw.cP]at hm
  ·simp[aw.cP]at hm
 ·rcases low hi with⟨h1,h2⟩|⟨h1,rfl|⟨c,e,s,n,mm,rfl,h3,h4,h5⟩⟩
  ·have a1:=hk.2
   rw[hρ i h1]at a1
   exact gI i X (old h2) k a1
  ·exact absurd hi hk.1
  ·exact gI _ _ h4 k hk.2
def GF:aw→aw
 | .own c e s n _=>.own c e s n false
 | r=>r
def fM (lo:Nat)(b:List aw):List aw:=b.take lo++(b.drop lo).map GF
theorem qV (lo:Nat)(b:List aw):(fM lo b).length=b.length:=by
 simp[fM];omega
theorem qU {lo:Nat}{b:List aw}{k:Nat}(h:k<lo)(hl:lo≤b.length):(fM lo b)[k]? = b[k]? := by
 unfold fM
 rw[zLB (by simp;omega),List.getElem?_take]
 simp[h]
theorem ij {lo:Nat}{b:List aw}{k:Nat}(h:lo≤k){r:aw}(hr:b[k]? = some r):(fM lo b)[k]? = some (GF r):=by
 have hk:=(zLx.1 hr).1
 unfold fM
 rw[zLG (by simp;omega),List.getElem?_map,List.getElem?_drop,zLI,Nat.min_eq_left (by omega),show lo+(k - lo)=k by omega,hr]
 rfl
theorem eZ {lo:Nat}{b:List aw}(hl:lo≤b.length):Hb b (fM lo b):=⟨qV lo b,fun i r hi=>by
 have fD:=(zLx.1 hi).1
 rw[qV]at fD
 have hb:=zLF fD
 rcases zLQ i lo with h|h
 ·rw[qU h hl]at hi
  exact .inl hi
 ·rw[ij h hb]at hi
  rw[hb]
  have hi:=(zLM.inj hi).symm
  cases hx:b[i] with
  | own c e s n m=>rw[hx]at hi;exact .inr ⟨c,e,s,n,m,rfl,hi⟩
  | cells c T m=>rw[hx]at hi;exact .inl (by rw[hi];rfl)
  | ext R=>rw[hx]at hi;exact .inl (by rw[hi];rfl)
  | gone=>rw[hx]at hi;exact .inl (by rw[hi];rfl)⟩
theorem Kp.fM {bs b:List aw}(h:Kp bs b):Kp bs (fM bs.length b):=⟨by rw[qV];exact h.1,fun k hk=>by rw[qU hk h.1];exact h.2 k hk⟩
theorem SC.si (h:SC V f args bs (fun r b=>bs.length≤b.length∧R r (fM bs.length b))):SC V f args bs R :=
 SC.dim (h.mono fun r b ⟨h1,h2⟩=>⟨_,eZ h1,h2⟩)
theorem aQ (b l:List aw)(k:Nat):(b++l)[b.length+k]? = l[k]? := by
 rw[zLG (by omega),Nat.add_sub_cancel_left]
theorem aI (b l:List aw):(b++l)[b.length]? = l[0]? := aQ b l 0
theorem zX (b l:List aw)(k:Nat)(X:aw):(b++l).set (b.length+k) X=b++l.set k X:=by
 rw[List.set_append_right _ _ (by omega),Nat.add_sub_cancel_left]
theorem ly (b l:List aw)(X:aw):(b++l).set b.length X=b++l.set 0 X:=zX b l 0 X
def dy:=zLw (zLw (@aQ) (zLw (@aI) (@zX))) (zLw (zLw (@ly) (@List.append_assoc.{0})) (zLw (zLw (@zLK.{0}) (@List.nil_append.{0})) (zLw (zLw (@zLC.{0}) (@zLy.{0})) (zLw (zLw (@zLz.{0}) (@Nat.zero_add)) (zLw (zLw (@List.set_cons_succ.{0}) (@List.set_cons_zero.{0})) (@Nat.add_assoc))))))
theorem gA {P Q H : Prop} (hs : H) (h : Q) (e : H → P = Q := by intro hs; simp only [cq, ↓Xn, ↓Xo, ↓Xg, ↓Xd, ↓Xe, ↓Xf, Tryz.VΓ, Tryz.Γs, Xp, Xi, Nat.reduceAdd, Nat.reduceSub, Nat.reduceLT, Nat.reduceLeDiff, reduceIte, reduceCtorEq, Nat.reduceEqDiff, implies_true, forall_const, cp, dy, beq_self_eq_true, bne_self_eq_false, Int.reduceBEq, Int.reduceBNe, Int.reduceLT, Int.reduceLE, hs] <;> rfl) : P := (e hs).symm ▸ h
theorem dz {P Q : Prop} (h : Q) (e : P = Q := by simp only [cq, ↓Xn, ↓Xo, ↓Xg, ↓Xd, ↓Xe, ↓Xf, Tryz.VΓ, Tryz.Γs, Xp, Xi, Nat.reduceAdd, Nat.reduceSub, Nat.reduceLT, Nat.reduceLeDiff, reduceIte, reduceCtorEq, Nat.reduceEqDiff, implies_true, forall_const, cp, dy, beq_self_eq_true, bne_self_eq_false, Int.reduceBEq, Int.reduceBNe, Int.reduceLT, Int.reduceLE] <;> rfl) : P := e.symm ▸ h
theorem gL {P Q H : Prop} (hs : H) (h : Q) (e : H → P = Q := by intro hs; simp only [cq, ↓Xn, ↓Xo, ↓Xg, ↓Xd, ↓Xe, ↓Xf, Tryz.VΓ, Tryz.Γs, Xp, Xi, Nat.reduceAdd, Nat.reduceSub, Nat.reduceLT, Nat.reduceLeDiff, reduceIte, reduceCtorEq, Nat.reduceEqDiff, implies_true, forall_const, cp, dy, beq_self_eq_true, bne_self_eq_false, Int.reduceBEq, Int.reduceBNe, Int.reduceLT, Int.reduceLE, _root_.List.length_cons, _root_.List.length_nil, Nat.reduceAdd, _root_.Int.cast_ofNat_Int, decide_true, decide_false, _root_.Bool.true_eq_false, _root_.Bool.false_eq_true, Int.reduceToNat, _root_.Nat.zero_mul, hs] <;> rfl) : P := (e hs).symm ▸ h
theorem gL0 {P Q : Prop} (h : Q) (e : P = Q := by simp only [cq, ↓Xn, ↓Xo, ↓Xg, ↓Xd, ↓Xe, ↓Xf, Tryz.VΓ, Tryz.Γs, Xp, Xi, Nat.reduceAdd, Nat.reduceSub, Nat.reduceLT, Nat.reduceLeDiff, reduceIte, reduceCtorEq, Nat.reduceEqDiff, implies_true, forall_const, cp, dy, beq_self_eq_true, bne_self_eq_false, Int.reduceBEq, Int.reduceBNe, Int.reduceLT, Int.reduceLE, _root_.List.length_cons, _root_.List.length_nil, Nat.reduceAdd, _root_.Int.cast_ofNat_Int, decide_true, decide_false, _root_.Bool.true_eq_false, _root_.Bool.false_eq_true, Int.reduceToNat, _root_.Nat.zero_mul] <;> rfl) : P := e.symm ▸ h
theorem outs1 {n:Nat}{b:List aw}(hn:n=b.length)(X:aw):Ac [(n,0,0)] (b++[X]) b:=by
 subst hn
 refine tU (fun j hj=>?_) (by simp)
 have h1:=hj _ List.mem_cons_self
 simp only at h1
 rcases zLQ j b.length with h|h
 ·rw[zLB h]
 ·rw[zLO (by simp;omega),zLO h]
theorem outs2 {n m:Nat}{b:List aw}(hn:n=b.length)(hm:m=b.length+1)(X Y:aw):Ac [(n,0,0),(m,0,0)] (b++[X,Y]) b:=by
 subst hn hm
 refine tU (fun j hj=>?_) (by simp)
 have h1:=hj (b.length,0,0) (by simp)
 have h2:=hj (b.length+1,0,0) (by simp)
 simp only at h1 h2
 rcases zLQ j b.length with h|h
 ·rw[zLB h]
 ·rw[zLO (by simp;omega),zLO h]
theorem aJ {l1:List aw}{n:Nat}(hn:l1.length=n)(l:List aw)(k:Nat):(l1++l)[n+k]? = l[k]? := by
 subst hn;exact aQ _ _ _
theorem aK {l1:List aw}{i:Nat}(hi:i<l1.length)(l:List aw)(X:aw):(l1++l).set i X=l1.set i X++l:=List.set_append_left _ _ hi
theorem bN {l1:List aw}{i:Nat}(hi:i<l1.length)(X:aw)(l:List aw):(l1.set i X++l)[i]? = some X:=by
 rw[zLB (by simpa using hi),zLH hi]
theorem ak {l1:List aw}{i j:Nat}{r:aw}(h:l1[j]? = some r)(hn:i≠j)(X:aw):(l1.set i X)[j]? = some r:=by
 rw[zLD hn];exact h
theorem rN {n:Nat}{b:List aw}(l:List aw)(hn:n=b.length+l.length)(X:aw):Ac [(n,0,0)] (b++(l++[X])) (b++l):=by
 rw[← List.append_assoc]
 exact outs1 (by simpa using hn) X
theorem iE {n m:Nat}{b:List aw}(l:List aw)(hn:n=b.length+l.length)(hm:m=b.length+l.length+1)(X Y:aw):Ac [(n,0,0),(m,0,0)] (b++(l++[X,Y])) (b++l):=by
 rw[← List.append_assoc]
 exact outs2 (by simpa using hn) (by simpa using hm) X Y
theorem jC {V:Cx}{E:Fin}{n f:Nat}{ops:Array Oper}{k:List Item}{σ:St}{t:OT}(J:St→Prop)(cV:OT.wY ops [] t=true)(h:∀ (E':Fin)(k':List Item),dx V n E' f (.iy ops [] t::.cut J::k') σ)(h2:∀ σ',J σ'→dx V n E f k σ'):DA V n E f ops k σ (.all t) :=
 qk J cV (h E k) h2
end Vc
