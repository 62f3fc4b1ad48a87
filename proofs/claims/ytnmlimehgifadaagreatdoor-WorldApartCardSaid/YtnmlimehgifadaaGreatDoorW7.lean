/- Texts of this claim, laid together: TreeY, AcctP, DidP, DidQ, DidR, WebP, WebQ, PctD, MailP, RefSplit, MailW, DidW, MailV, MailR, DidV, WebW, WebV, IdentP, AcctW, IdentW. -/
import Derived.Lib.Replace
import Derived.Test.YtnmlimehgifadaaGreatDoorW6
open And renaming intro → zMy
open List renaming getElem?_eq_some_iff → zMz, mem_cons_of_mem → zMA, length_cons → zMB, flatMap_cons → zMC, length_append → zMD, mem_cons_self → zME, getElem?_set_self → zMF, all_eq_true → zMG, length_nil → zMH, append_nil → zMI, getElem_mem → zMJ, cons_append → zMK, mem_cons → zML, take_length → zMM, take_succ_eq_append_getElem → zMN, getElem?_append_right → zMO, flatten_cons → zMP, length_set → zMQ, mem_append → zMR, mem_singleton → zMS, flatMap_append → zMU, nil_append → zMX, flatMap_nil → zMY, flatMap_map → zMZ, mem_of_getLast? → zM0, getElem?_set_ne → zM1, getElem?_append_left → zM3, mem_flatMap → zM5, mem_map → zM6, map_cons → zM7, take_append_drop → zM8, getD → zM9, length_drop → zNb, getLast?_append → zNc, isPrefixOf_iff_prefix → zNd, getElem_of_mem → zNf
open Prod renaming mk → zMT
open Nat renaming le_refl → zMV, mul_le_mul_right → zNa
open Option renaming some → zMW
open Bool renaming and_eq_true → zM4
set_option linter.all false
set_option maxHeartbeats 16000000
set_option maxRecDepth 20000
namespace Go.Proofs.YtnmlimehgifadaaGreatDoor
open Go Vc Go.RowKit Wf
def Wb:Nat→Nat
 | 0=>200000
 | d+1=>16 * (Wb d+130000)+200000
theorem JE:∀ d,d≤5→Wb d≤1000000000000:=by decide
theorem uv (d:Nat):Wb (d+1)=16 * (Wb d+130000)+200000:=rfl
attribute [irreducible] Wb
structure OW (bs:List aw) (d:Nat) (v:Tv) (n k m:Nat) (σ:St):Prop where
 h1:lk 1 σ.t=some (.p bs.length 0)
 j6:lk 32 σ.t=some v.xi
 jP:lk 33 σ.t=some (.int .i64 n)
 ky:lk 34 σ.t=some (.int .i64 k)
 bf:Kp bs σ.b
 de:σ.b[bs.length]? = some (.cells [.int .i64 v.k,.str v.t,v.xk,v.xi] 139 true)
 hy:∃ (y:SV) (W:Bytes),lk 5 σ.t=some y∧W.length≤m * (Wb d+130000)∧((y=.ah∧W=[]∧m=0)∨∃ q,0<m∧y=.o q W.length∧bs.length<q∧σ.b[q]? = some (.own (W.map dP) 5 1 W.length true))
theorem qc:∀ (d:Nat),d≤5→∀ {bs:List aw} {v:Tv},Tr bs d v→SC Tryz.V 134 [.agg (tv v)] bs (fun r b=>∃ s:Bytes,r=.str s∧s.length≤Wb d∧Kp bs b)
 | 0,_,_,_,h=>h.elim
 | d+1,hd,bs,v,hv=>by
   have ih:=fun {bs:List aw} {v:Tv} (h:Tr bs d v)=>qc d (by omega) h
   have C3:=hv.lb
   obtain⟨kk,tt,xk,xi⟩:=v
   obtain⟨v1,v2,v3,v4⟩:=C3
   simp only at v1 v2 v3 v4
   have ho:(one xk&&one xi)=true:=by rw[v3,v4];rfl
   obtain⟨g1,g2,K,L,g3,g4,g5,g6,g7,g8,g9,g10⟩:=hv
   simp only at g1 g2 g3 g4 g8 g9
   refine bJ 3000 Tryz.func134 rfl Tryz.ntmps134 Tryz.results134 Tryz.call134 (by simp) (aj bs.length _ (by simp[within,within.ax,tv,v1,v2])) ?_
   have ov:=g4.len
   unfold tv
   have hwb:200000≤Wb (d+1):=by rw[uv];omega
   rcases g2 with rfl|rfl|rfl|rfl
   rotate_left
   refine gA (zMy ho ov) ?_
   refine ae (lQ _ (by omega)) ?_
   rintro r b1 ⟨u,e,rfl,hu,cN⟩
   refine dz ?_
   exact⟨_,rfl,by omega,((Kp.refl bs).app _).trans cN⟩
   refine gA (zMy ho ov) ?_
   refine az (fun σ=>∃ k,k≤L.length∧OW bs d ⟨6,tt,xk,xi⟩ L.length k k σ) (fun σ=>L.length - fC 34 σ) ⟨0,by omega,rfl,rfl,rfl,rfl,(Kp.refl bs).app _,aI _ _,⟨.ah,[],rfl,by simp,.inl ⟨rfl,rfl,rfl⟩⟩⟩ ?_
   rintro⟨t,b⟩ ⟨k,hk,h1,j6,jP,ky,bf,de,y,W,h5,hW,hy⟩
   simp only at h1 j6 jP ky bf de h5 hy
   rw[ao ky]
   have pO:=JE d (by omega)
   have hkm:(k+1) * (Wb d+130000)=k * (Wb d+130000)+(Wb d+130000):=by rw[Nat.add_mul,Nat.one_mul]
   have hkM:k * (Wb d+130000)≤16 * (Wb d+130000):=zNa _ (by omega)
   by_cases aC:k<L.length
   ·have bg:decide ((k:Int)<L.length)=true:=decide_eq_true (by omega)
    rcases g4 with⟨-,rfl⟩|⟨j,rfl,hj⟩
    ·exact absurd aC (by simp)
    have tm:=bf.at hj
    have hu:List.take 4 (List.drop (k * 4) (L.flatMap tv))=[.int .i64 L[k].k,.str L[k].t,L[k].xk,L[k].xi]:=sE L k aC
    have oL:=lJ L
    have hx:=g10 L[k] (zMJ aC)
    generalize L[k]=x at hu hx
    obtain⟨x1,x2,x3,x4⟩:=hx.lb
    have nG:(one x.xk&&one x.xi)=true:=by rw[x3,x4];rfl
    have qN:=bf.1
    rcases hy with⟨rfl,rfl,rfl⟩|⟨q,lh,rfl,hq,bU⟩
    ·clear hkm hkM hW
     have c0:decide ((0:Int)<((0:Nat):Int))=false:=rfl
     refine gA (zMy h1 (zMy h5 (zMy j6 (zMy jP (zMy ky (zMy bg (zMy tm (zMy hu (zMy nG (zMy (ad de) c0)))))))))) ?_
     refine⟨by omega,by omega,?_⟩
     refine ae (ih (hx.ro (bf.ro.app _))) ?_
     rintro r b2 ⟨u2,rfl,hu2,bM⟩
     have eN:=(bf.app [_]).trans bM
     have nL:=bM.at (ad de _)
     have xl:=bM.1
     simp only[zMD,zMB,zMH]at xl
     refine gA (zMy h1 (zMy h5 (zMy j6 (zMy jP (zMy ky @iF))))) ?_
     refine⟨⟨by unfold maxLen;omega,by omega⟩,by omega,⟨1,by omega,h1,j6,jP,rfl,eN.app _,ad nL _,⟨.o b2.length u2.length,u2,rfl,by omega,.inr ⟨b2.length,by omega,rfl,by omega,aI _ _⟩⟩⟩,?_⟩
     rw[ao (k:=.i64) (n:=(1:Int)) rfl];omega
    ·have c0:decide ((0:Int)<k)=true:=decide_eq_true (by omega)
     have kK:=(zMz.1 bU).1
     have kR:∀ (l:List aw) X,(b++l).set q X=b.set q X++l:=fun l X=>aK kK l X
     have hb3:=fun Y=>ad (ak de (show q≠bs.length by omega) Y)
     have D8:∀ (l:List aw) Y,(b.set q Y++l)[b.length]? = l[0]? := fun l Y=>aJ (by simp) l 0
     simp only[cq,↓Xn,↓Xo,↓Xg,↓Xd,↓Xe,↓Xf,Tryz.VΓ,Tryz.Γs,Xp,Xi,Nat.reduceAdd,Nat.reduceSub,Nat.reduceLT,Nat.reduceLeDiff,reduceIte,reduceCtorEq,Nat.reduceEqDiff,implies_true,forall_const,cp,dy,beq_self_eq_true,bne_self_eq_false,Int.reduceBEq,Int.reduceBNe,Int.reduceLT,Int.reduceLE,h1,h5,j6,jP,ky,bg,tm,hu,nG,ad de,c0,ad bU,kR,hb3,D8,zMQ]
     refine⟨by omega,by omega,by omega,⟨by unfold maxLen;omega,by omega⟩,?_⟩
     refine ae (ih (hx.ro (bf.ro.trans (((Ro.refl b).oj bU .gone).app _)))) ?_
     rintro r b2 ⟨u2,rfl,hu2,bM⟩
     have eN:=((bf.set (j:=q) (by omega) .gone).app _).trans bM
     have nL:=bM.at (ad (ak de (show q≠bs.length by omega) .gone) _)
     have hr:=bM.at (aJ (l1:=b.set q .gone) (n:=b.length) (by simp) _ 2)
     have B0:=(zMz.1 hr).1
     have fw:∀ (l:List aw) X,(b2++l).set (b.length+2) X=b2.set (b.length+2) X++l:=fun l X=>aK B0 l X
     simp only[cq,↓Xn,↓Xo,↓Xg,↓Xd,↓Xe,↓Xf,Tryz.VΓ,Tryz.Γs,Xp,Xi,Nat.reduceAdd,Nat.reduceSub,Nat.reduceLT,Nat.reduceLeDiff,reduceIte,reduceCtorEq,Nat.reduceEqDiff,implies_true,forall_const,cp,dy,beq_self_eq_true,bne_self_eq_false,Int.reduceBEq,Int.reduceBNe,Int.reduceLT,Int.reduceLE,h1,h5,j6,jP,ky,iF,hr,ad hr,fw,zMQ]
     refine⟨⟨by unfold maxLen;omega,by omega⟩,by omega,⟨k+1,by omega,h1,j6,jP,rfl,(eN.set (by omega) _).app _,ad (ak nL (by omega) _) _,⟨_,W++[44]++u2,rfl,by simp;omega,.inr ⟨b2.length,by omega,by simp;omega,by omega,?_⟩⟩⟩,?_⟩
     ·rw[show (b2.set (b.length+2) aw.gone++[_])[b2.length]? = some _ from aJ (by simp) _ 0]
      simp[dP]
      omega
     ·rw[ao (k:=.i64) (n:=(k:Int)+1) rfl];omega
   ·have bg:decide ((k:Int)<L.length)=false:=decide_eq_false (by omega)
    have hWb:=uv d
    rcases hy with⟨rfl,rfl,-⟩|⟨q,lh,rfl,hq,bU⟩
    ·refine gA (zMy h1 (zMy h5 (zMy j6 (zMy jP (zMy ky (zMy bg de)))))) ?_
     exact⟨_,rfl,by simp;omega,bf⟩
    ·refine gA (zMy h1 (zMy h5 (zMy j6 (zMy jP (zMy ky (zMy bg (zMy de bU))))))) ?_
     refine⟨eK W,by simp;omega,by simp;omega,_,rfl,by simp;omega,bf⟩
   refine gA (zMy ho ov) ?_
   refine az (fun σ=>∃ k,k≤L.length∧OW bs d ⟨7,tt,xk,xi⟩ L.length k k σ) (fun σ=>L.length - fC 34 σ) ⟨0,by omega,rfl,rfl,rfl,rfl,(Kp.refl bs).app _,aI _ _,⟨.ah,[],rfl,by simp,.inl ⟨rfl,rfl,rfl⟩⟩⟩ ?_
   rintro⟨t,b⟩ ⟨k,hk,h1,j6,jP,ky,bf,de,y,W,h5,hW,hy⟩
   simp only at h1 j6 jP ky bf de h5 hy
   rw[ao ky]
   have pO:=JE d (by omega)
   have hkm:(k+1) * (Wb d+130000)=k * (Wb d+130000)+(Wb d+130000):=by rw[Nat.add_mul,Nat.one_mul]
   have hkM:k * (Wb d+130000)≤16 * (Wb d+130000):=zNa _ (by omega)
   by_cases aC:k<L.length
   ·have bg:decide ((k:Int)<L.length)=true:=decide_eq_true (by omega)
    rcases g4 with⟨-,rfl⟩|⟨j,rfl,hj⟩
    ·exact absurd aC (by simp)
    have tm:=bf.at hj
    have hu:List.take 4 (List.drop (k * 4) (L.flatMap tv))=[.int .i64 L[k].k,.str L[k].t,L[k].xk,L[k].xi]:=sE L k aC
    have oL:=lJ L
    have hx:=g10 L[k] (zMJ aC)
    generalize L[k]=x at hu hx
    obtain⟨x1,x2,x3,x4⟩:=hx.lb
    have nG:(one x.xk&&one x.xi)=true:=by rw[x3,x4];rfl
    have qN:=bf.1
    rcases g3 with⟨-,rfl⟩|⟨jk,rfl,hjk⟩
    ·exact absurd (g8 rfl) (by simp;omega)
    have hbk:=bf.at hjk
    have mE:=g8 rfl
    have hltK:k<K.length:=by omega
    have Cc:(K.map SV.str)[k * 1]? = some (.str K[k]):=by simp[hltK]
    have hKl:=g7 K[k] (zMJ hltK)
    rcases hy with⟨rfl,rfl,rfl⟩|⟨q,lh,rfl,hq,bU⟩
    ·clear hkm hkM hW
     have c0:decide ((0:Int)<((0:Nat):Int))=false:=rfl
     refine gA (zMy h1 (zMy h5 (zMy j6 (zMy jP (zMy ky (zMy bg (zMy tm (zMy hu (zMy nG (zMy (ad de) (zMy c0 (zMy (ad hbk) Cc)))))))))))) ?_
     refine⟨by omega,by omega,by omega,by simp;omega,?_⟩
     refine ae (lQ _ (by omega)) ?_
     rintro r b1 ⟨u,e,rfl,hu1,cN⟩
     have iY:=(bf.app [_]).trans cN
     have Gm:=cN.at (ad de _)
     have hx7:=cN.at (aI b _)
     have hbl1:=cN.1
     simp only[zMD,zMB,zMH]at hbl1
     refine gA (zMy h1 (zMy h5 (zMy j6 (zMy jP (zMy ky (zMy @iF (zMy nG (zMy hx7 (ad hx7))))))))) ?_
     refine⟨⟨by unfold maxLen;omega,by omega⟩,by omega,⟨by unfold maxLen;omega,by omega⟩,?_⟩
     refine ae (ih (hx.ro ((bf.ro.app _).trans (cN.ro.app _)))) ?_
     rintro r b2 ⟨u2,rfl,hu2,bM⟩
     have eN:=(iY.app _).trans bM
     have nL:=bM.at (ad Gm _)
     have hr:=bM.at (aQ b1 _ 2)
     have B0:=(zMz.1 hr).1
     have fw:∀ (l:List aw) X,(b2++l).set (b1.length+2) X=b2.set (b1.length+2) X++l:=fun l X=>aK B0 l X
     simp only[cq,↓Xn,↓Xo,↓Xg,↓Xd,↓Xe,↓Xf,Tryz.VΓ,Tryz.Γs,Xp,Xi,Nat.reduceAdd,Nat.reduceSub,Nat.reduceLT,Nat.reduceLeDiff,reduceIte,reduceCtorEq,Nat.reduceEqDiff,implies_true,forall_const,cp,dy,beq_self_eq_true,bne_self_eq_false,Int.reduceBEq,Int.reduceBNe,Int.reduceLT,Int.reduceLE,h1,h5,j6,jP,ky,iF,hr,ad hr,fw,zMQ]
     refine⟨⟨by unfold maxLen;omega,by omega⟩,by omega,⟨1,by omega,h1,j6,jP,rfl,(eN.set (by omega) _).app _,ad (ak nL (by omega) _) _,⟨_,u++[58]++u2,rfl,by simp;omega,.inr ⟨b2.length,by omega,by simp;omega,by omega,?_⟩⟩⟩,?_⟩
     ·rw[show (b2.set (b1.length+2) aw.gone++[_])[b2.length]? = some _ from aJ (by simp) _ 0]
      simp[dP]
      omega
     ·rw[ao (k:=.i64) (n:=(1:Int)) rfl];omega
    ·have c0:decide ((0:Int)<k)=true:=decide_eq_true (by omega)
     have kK:=(zMz.1 bU).1
     have kR:∀ (l:List aw) X,(b++l).set q X=b.set q X++l:=fun l X=>aK kK l X
     have hb3:=fun Y=>ad (ak de (show q≠bs.length by omega) Y)
     have D8:∀ (l:List aw) Y,(b.set q Y++l)[b.length]? = l[0]? := fun l Y=>aJ (by simp) l 0
     have hbk2:=fun Y=>ad (ak hbk (show q≠jk by rintro rfl;rw[bU]at hbk;simp at hbk) Y)
     simp only[cq,↓Xn,↓Xo,↓Xg,↓Xd,↓Xe,↓Xf,Tryz.VΓ,Tryz.Γs,Xp,Xi,Nat.reduceAdd,Nat.reduceSub,Nat.reduceLT,Nat.reduceLeDiff,reduceIte,reduceCtorEq,Nat.reduceEqDiff,implies_true,forall_const,cp,dy,beq_self_eq_true,bne_self_eq_false,Int.reduceBEq,Int.reduceBNe,Int.reduceLT,Int.reduceLE,h1,h5,j6,jP,ky,bg,tm,hu,nG,ad de,c0,ad bU,kR,hb3,D8,zMQ,hbk2,Cc]
     refine⟨by omega,by omega,by omega,⟨by unfold maxLen;omega,by omega⟩,by omega,by simp;omega,?_⟩
     refine ae (lQ _ (by omega)) ?_
     rintro r b1 ⟨u,e,rfl,hu1,cN⟩
     have iY:=((bf.set (j:=q) (by omega) .gone).app _).trans cN
     have Gm:=cN.at (ad (ak de (show q≠bs.length by omega) .gone) _)
     have hx7:b1[b.length]? = some (.cells [.int .i64 x.k,.str x.t,x.xk,x.xi] 139 true):=cN.at (aJ (l1:=b.set q .gone) (n:=b.length) (by simp) _ 0)
     have hr:=cN.at (aJ (l1:=b.set q .gone) (n:=b.length) (by simp) _ 2)
     have B0:=(zMz.1 hr).1
     have GW:∀ (l:List aw) X,(b1++l).set (b.length+2) X=b1.set (b.length+2) X++l:=fun l X=>aK B0 l X
     have xh:∀ (l:List aw) Y k,(b1.set (b.length+2) Y++l)[b1.length+k]? = l[k]? := fun l Y k=>aJ (by simp) l k
     have Ai:∀ (l:List aw) Y,(b1.set (b.length+2) Y++l)[b1.length]? = l[0]? := fun l Y=>aJ (by simp) l 0
     have hg3:∀ (l:List aw) Y X,(b1.set (b.length+2) Y++l).set b1.length X=b1.set (b.length+2) Y++l.set 0 X:=fun l Y X=>by
      have:=ly (b1.set (b.length+2) Y) l X
      rwa [zMQ]at this
     have hx8:=fun Y=>ad (ak hx7 (show b.length+2≠b.length by omega) Y)
     have hro1:Ro b1 (b1.set (b.length+2) .gone):=(Ro.refl b1).oj hr .gone
     simp only[cq,↓Xn,↓Xo,↓Xg,↓Xd,↓Xe,↓Xf,Tryz.VΓ,Tryz.Γs,Xp,Xi,Nat.reduceAdd,Nat.reduceSub,Nat.reduceLT,Nat.reduceLeDiff,reduceIte,reduceCtorEq,Nat.reduceEqDiff,implies_true,forall_const,cp,dy,beq_self_eq_true,bne_self_eq_false,Int.reduceBEq,Int.reduceBNe,Int.reduceLT,Int.reduceLE,h1,h5,j6,jP,ky,iF,nG,hr,ad hr,GW,xh,Ai,hg3,hx8,zMQ]
     refine⟨⟨by unfold maxLen;omega,by omega⟩,by omega,⟨by unfold maxLen;omega,by omega⟩,?_⟩
     refine ae (ih (hx.ro ((bf.ro.trans ((((Ro.refl b).oj bU .gone).app _).trans cN.ro)).trans (hro1.app _)))) ?_
     rintro r b2 ⟨u2,rfl,hu2,bM⟩
     have eN:=((iY.set (j:=b.length+2) (by omega) .gone).app _).trans bM
     have nL:=bM.at (ad (ak Gm (show b.length+2≠bs.length by omega) .gone) _)
     have Iw:=bM.at (aJ (l1:=b1.set (b.length+2) .gone) (n:=b1.length) (by simp) _ 2)
     have hr2l:=(zMz.1 Iw).1
     have hbl1:=iY.1
     have fw:∀ (l:List aw) X,(b2++l).set (b1.length+2) X=b2.set (b1.length+2) X++l:=fun l X=>aK hr2l l X
     simp only[cq,↓Xn,↓Xo,↓Xg,↓Xd,↓Xe,↓Xf,Tryz.VΓ,Tryz.Γs,Xp,Xi,Nat.reduceAdd,Nat.reduceSub,Nat.reduceLT,Nat.reduceLeDiff,reduceIte,reduceCtorEq,Nat.reduceEqDiff,implies_true,forall_const,cp,dy,beq_self_eq_true,bne_self_eq_false,Int.reduceBEq,Int.reduceBNe,Int.reduceLT,Int.reduceLE,h1,h5,j6,jP,ky,iF,Iw,ad Iw,fw,zMQ]
     refine⟨⟨by unfold maxLen;omega,by omega⟩,by omega,⟨k+1,by omega,h1,j6,jP,rfl,(eN.set (by omega) _).app _,ad (ak nL (by omega) _) _,⟨_,W++[44]++u++[58]++u2,rfl,by simp;omega,.inr ⟨b2.length,by omega,by simp;omega,by omega,?_⟩⟩⟩,?_⟩
     ·rw[show (b2.set (b1.length+2) aw.gone++[_])[b2.length]? = some _ from aJ (by simp) _ 0]
      simp[dP]
      omega
     ·rw[ao (k:=.i64) (n:=(k:Int)+1) rfl];omega
   ·have bg:decide ((k:Int)<L.length)=false:=decide_eq_false (by omega)
    have hWb:=uv d
    rcases hy with⟨rfl,rfl,-⟩|⟨q,lh,rfl,hq,bU⟩
    ·refine gA (zMy h1 (zMy h5 (zMy j6 (zMy jP (zMy ky (zMy bg de)))))) ?_
     exact⟨_,rfl,by simp;omega,bf⟩
    ·refine gA (zMy h1 (zMy h5 (zMy j6 (zMy jP (zMy ky (zMy bg (zMy de bU))))))) ?_
     refine⟨eK W,by simp;omega,by simp;omega,_,rfl,by simp;omega,bf⟩
   refine gA (zMy ho ov) ?_
   refine az (fun σ=>∃ k,k≤L.length∧OW bs d ⟨0,tt,xk,xi⟩ L.length k k σ) (fun σ=>L.length - fC 34 σ) ⟨0,by omega,rfl,rfl,rfl,rfl,(Kp.refl bs).app _,aI _ _,⟨.ah,[],rfl,by simp,.inl ⟨rfl,rfl,rfl⟩⟩⟩ ?_
   rintro⟨t,b⟩ ⟨k,hk,h1,j6,jP,ky,bf,de,y,W,h5,hW,hy⟩
   simp only at h1 j6 jP ky bf de h5 hy
   rw[ao ky]
   have pO:=JE d (by omega)
   have hkm:(k+1) * (Wb d+130000)=k * (Wb d+130000)+(Wb d+130000):=by rw[Nat.add_mul,Nat.one_mul]
   have hkM:k * (Wb d+130000)≤16 * (Wb d+130000):=zNa _ (by omega)
   by_cases aC:k<L.length
   ·have bg:decide ((k:Int)<L.length)=true:=decide_eq_true (by omega)
    rcases g4 with⟨-,rfl⟩|⟨j,rfl,hj⟩
    ·exact absurd aC (by simp)
    have tm:=bf.at hj
    have hu:List.take 4 (List.drop (k * 4) (L.flatMap tv))=[.int .i64 L[k].k,.str L[k].t,L[k].xk,L[k].xi]:=sE L k aC
    have oL:=lJ L
    have hx:=g10 L[k] (zMJ aC)
    generalize L[k]=x at hu hx
    obtain⟨x1,x2,x3,x4⟩:=hx.lb
    have nG:(one x.xk&&one x.xi)=true:=by rw[x3,x4];rfl
    have qN:=bf.1
    rcases hy with⟨rfl,rfl,rfl⟩|⟨q,lh,rfl,hq,bU⟩
    ·clear hkm hkM hW
     have c0:decide ((0:Int)<((0:Nat):Int))=false:=rfl
     refine gA (zMy h1 (zMy h5 (zMy j6 (zMy jP (zMy ky (zMy bg (zMy tm (zMy hu (zMy nG (zMy (ad de) c0)))))))))) ?_
     refine⟨by omega,by omega,?_⟩
     refine ae (ih (hx.ro (bf.ro.app _))) ?_
     rintro r b2 ⟨u2,rfl,hu2,bM⟩
     have eN:=(bf.app [_]).trans bM
     have nL:=bM.at (ad de _)
     have xl:=bM.1
     simp only[zMD,zMB,zMH]at xl
     refine gA (zMy h1 (zMy h5 (zMy j6 (zMy jP (zMy ky @iF))))) ?_
     refine⟨⟨by unfold maxLen;omega,by omega⟩,by omega,⟨1,by omega,h1,j6,jP,rfl,eN.app _,ad nL _,⟨.o b2.length u2.length,u2,rfl,by omega,.inr ⟨b2.length,by omega,rfl,by omega,aI _ _⟩⟩⟩,?_⟩
     rw[ao (k:=.i64) (n:=(1:Int)) rfl];omega
    ·have c0:decide ((0:Int)<k)=true:=decide_eq_true (by omega)
     have kK:=(zMz.1 bU).1
     have kR:∀ (l:List aw) X,(b++l).set q X=b.set q X++l:=fun l X=>aK kK l X
     have hb3:=fun Y=>ad (ak de (show q≠bs.length by omega) Y)
     have D8:∀ (l:List aw) Y,(b.set q Y++l)[b.length]? = l[0]? := fun l Y=>aJ (by simp) l 0
     simp only[cq,↓Xn,↓Xo,↓Xg,↓Xd,↓Xe,↓Xf,Tryz.VΓ,Tryz.Γs,Xp,Xi,Nat.reduceAdd,Nat.reduceSub,Nat.reduceLT,Nat.reduceLeDiff,reduceIte,reduceCtorEq,Nat.reduceEqDiff,implies_true,forall_const,cp,dy,beq_self_eq_true,bne_self_eq_false,Int.reduceBEq,Int.reduceBNe,Int.reduceLT,Int.reduceLE,h1,h5,j6,jP,ky,bg,tm,hu,nG,ad de,c0,ad bU,kR,hb3,D8,zMQ]
     refine⟨by omega,by omega,by omega,⟨by unfold maxLen;omega,by omega⟩,?_⟩
     refine ae (ih (hx.ro (bf.ro.trans (((Ro.refl b).oj bU .gone).app _)))) ?_
     rintro r b2 ⟨u2,rfl,hu2,bM⟩
     have eN:=((bf.set (j:=q) (by omega) .gone).app _).trans bM
     have nL:=bM.at (ad (ak de (show q≠bs.length by omega) .gone) _)
     have hr:=bM.at (aJ (l1:=b.set q .gone) (n:=b.length) (by simp) _ 2)
     have B0:=(zMz.1 hr).1
     have fw:∀ (l:List aw) X,(b2++l).set (b.length+2) X=b2.set (b.length+2) X++l:=fun l X=>aK B0 l X
     simp only[cq,↓Xn,↓Xo,↓Xg,↓Xd,↓Xe,↓Xf,Tryz.VΓ,Tryz.Γs,Xp,Xi,Nat.reduceAdd,Nat.reduceSub,Nat.reduceLT,Nat.reduceLeDiff,reduceIte,reduceCtorEq,Nat.reduceEqDiff,implies_true,forall_const,cp,dy,beq_self_eq_true,bne_self_eq_false,Int.reduceBEq,Int.reduceBNe,Int.reduceLT,Int.reduceLE,h1,h5,j6,jP,ky,iF,hr,ad hr,fw,zMQ]
     refine⟨⟨by unfold maxLen;omega,by omega⟩,by omega,⟨k+1,by omega,h1,j6,jP,rfl,(eN.set (by omega) _).app _,ad (ak nL (by omega) _) _,⟨_,W++[44]++u2,rfl,by simp;omega,.inr ⟨b2.length,by omega,by simp;omega,by omega,?_⟩⟩⟩,?_⟩
     ·rw[show (b2.set (b.length+2) aw.gone++[_])[b2.length]? = some _ from aJ (by simp) _ 0]
      simp[dP]
      omega
     ·rw[ao (k:=.i64) (n:=(k:Int)+1) rfl];omega
   ·have bg:decide ((k:Int)<L.length)=false:=decide_eq_false (by omega)
    have hWb:=uv d
    rcases hy with⟨rfl,rfl,-⟩|⟨q,lh,rfl,hq,bU⟩
    ·refine gA (zMy h1 (zMy h5 (zMy j6 (zMy jP (zMy ky (zMy bg de)))))) ?_
     exact⟨_,rfl,by simp;omega,bf⟩
    ·refine gA (zMy h1 (zMy h5 (zMy j6 (zMy jP (zMy ky (zMy bg (zMy de bU))))))) ?_
     refine⟨eK W,by simp;omega,by simp;omega,_,rfl,by simp;omega,bf⟩
theorem gn {d:Nat}(hd:d≤5){bs:List aw}{v:Tv}(hv:Tr bs d v):SC Tryz.V 76 [.agg (tv v)] bs (fun r b=>∃ (s:Bytes) (e:Int),r=.fF [.str s,.int .i64 e]∧s.length≤1048576∧Kp bs b):=by
 have C3:=hv.lb
 obtain⟨v1,v2,v3,v4⟩:=C3
 have ho:(one v.xk&&one v.xi)=true:=by rw[v3,v4];rfl
 refine bJ 3000 Tryz.func76 rfl Tryz.ntmps76 Tryz.results76 Tryz.call76 (by simp) (aj bs.length _ (by simp[within,within.ax,tv,v1,v2])) ?_
 have e1:∀ X,Tr (bs++[X]) d v:=fun X=>hv.ro ((Ro.refl bs).app _)
 have s1:=fun X=>yP d (e1 X)
 unfold tv at s1 ⊢
 refine gA ho ?_
 refine ae (s1 _) ?_
 rintro r b1 ⟨y,rfl,cN⟩
 have mF:=((Kp.refl bs).app _).trans cN
 have de:=cN.at (aI bs _)
 cases y
 ·refine gA Bool.not_false ?_
  exact⟨_,_,rfl,by simp,mF⟩
 have s2:=sL d ((e1 _).ro cN.ro)
 unfold tv at s2
 refine gA (zMy Bool.not_true (zMy de ho)) ?_
 refine ae s2 ?_
 rintro r b2 ⟨y,rfl,bM⟩
 have hkb2:=mF.trans bM
 have nL:=bM.at de
 cases y
 rotate_left
 ·refine dz ?_
  exact⟨_,_,rfl,by simp,hkb2⟩
 have s3:=qe d ((e1 _).ro (cN.ro.trans bM.ro))
 unfold tv at s3
 refine gA (zMy nL ho) ?_
 refine ae s3 ?_
 rintro r b3 ⟨v',rfl,eh,hT⟩
 refine dz ?_
 refine ae (qc d hd hT) ?_
 rintro r b4 ⟨s,rfl,hs,j3⟩
 have hkb4:=(hkb2.trans eh).trans j3
 by_cases hl:s.length≤1048576
 ·have c0:decide (1048576<(s.length:Int))=false:=decide_eq_false (by omega)
  refine gA c0 ?_
  exact⟨_,_,rfl,hl,hkb4⟩
 ·have c0:decide (1048576<(s.length:Int))=true:=decide_eq_true (by omega)
  refine gA c0 ?_
  exact⟨_,_,rfl,by simp,hkb4⟩
end Go.Proofs.YtnmlimehgifadaaGreatDoor
namespace Wf
open Go Go.RowKit
structure mR where
 user:Bytes
 host:Bytes
 deriving DecidableEq
def mR.none:mR:=⟨[],[]⟩
def rT:Bytes:=[33,36,38,39,40,41,42,43,44,59,61]
def mK:Bytes:=[97,99,99,116,58]
def zZ (n:Bytes × Int)(h:Bytes × Int):mR × Int :=
 if n.2≠0∨n.1=[]∨n.1.head? = some 37 then(mR.none,80)
 else if h.2≠0 then(mR.none,h.2)
 else(⟨n.1,h.1⟩,0)
def rf (s:Bytes):mR × Int :=
 if (aL 64 s).2.2=false then(mR.none,6)
 else zZ (bk rT (aL 64 s).1) (bF (aL 64 s).2.1)
def bI (s:Bytes):mR × Int :=
 if 4096<s.length then(mR.none,5)
 else if s.length<5∨lower (s.take 5)≠mK then(mR.none,60)
 else rf (s.drop 5)
def db (a:mR):Bytes:=mK++a.user++[64]++a.host
theorem yq {c:UInt8}{s:Bytes}(h:(aL c s).2.2=true):s.length=(aL c s).1.length+1+(aL c s).2.1.length:=by
 have:=congrArg List.length (uncut c s)
 rw[if_pos h]at this
 simp at this;omega
theorem user_no {s:Bytes}(h:Can rT s):(64:UInt8) ∉ s:=by
 intro hc
 have:=so h _ hc
 revert this;decide
structure Fl (a:mR):Prop where
 user:Can rT a.user
 ne:a.user≠[]
 no:a.user.head? ≠ some 37
 host:bF a.host=(a.host,0)
theorem wD {s:Bytes}{a:mR}(h:bI s=(a,0)):Fl a∧(db a).length≤s.length∧s.length≤4096:=by
 unfold bI at h
 split at h
 ·simp at h
 split at h
 ·simp at h
 rename_i h1 h2
 unfold rf at h
 split at h
 ·simp at h
 rename_i h3
 have hlen:=yq (c:=64) (s:=s.drop 5) (by simpa using h3)
 rw[zNb]at hlen
 unfold zZ at h
 split at h
 ·simp at h
 rename_i h4
 simp only[not_or]at h4
 split at h
 ·rename_i h5;exact absurd (zMT.inj h).2 h5
 rename_i h5
 simp only[zMT.injEq,and_true]at h
 subst h
 have e:bF (aL 64 (s.drop 5)).2.1=((bF (aL 64 (s.drop 5)).2.1).1,0):=by
  have:(bF (aL 64 (s.drop 5)).2.1).2=0:=by simpa using h5
  rw[← this]
 obtain⟨k1,k2,k3⟩:=jJ e
 refine⟨⟨qD (by simpa using h4.1),h4.2.1,h4.2.2,k3⟩,?_,by omega⟩
 have:=eW rT (aL 64 (s.drop 5)).1
 have hl:(bF (aL 64 (s.drop 5)).2.1).1.length=(aL 64 (s.drop 5)).2.1.length:=by rw[k1,fm]
 simp only[db,mK,zMD,zMB,zMH]
 simp only[not_or]at h2
 omega
theorem GO {a:mR}(h:Fl a)(hl:(db a).length≤4096):bI (db a)=(a,0):=by
 have e1:(db a).take 5=mK:=rfl
 have e2:(db a).drop 5=a.user++64::a.host:=by show a.user++[64]++a.host=_;simp
 have l5:5≤(db a).length:=by simp[db,mK]
 have lu:a.user.length≤4096:=by simp[db]at hl;omega
 unfold bI
 rw[if_neg (by omega),if_neg (by rw[e1,show lower mK=mK by decide];simp;omega),e2]
 unfold rf
 rw[gg (dS (user_no h.user)),if_neg (by simp)]
 simp only
 rw[q7 h.user (by omega),h.host]
 unfold zZ
 rw[if_neg (by simp[h.ne,h.no]),if_neg (by simp)]
theorem GP {s:Bytes}{a:mR}(h:bI s=(a,0)):bI (db a)=(a,0)∧(db a).length≤s.length:=by
 obtain⟨h1,h2,h3⟩:=wD h
 exact⟨GO h1 (by omega),h2⟩
open Go Go.RowKit
structure fQ where
 method:Bytes
 id:Bytes
 deriving DecidableEq
def fQ.none:fQ:=⟨[],[]⟩
structure DidUrl where
 did:fQ
 path:Bytes
 query:Bytes
 fragment:Bytes
 aN:Bool
 aZ:Bool
 deriving DecidableEq
def DidUrl.none:DidUrl:=⟨fQ.none,[],[],[],false,false⟩
def cz (c:UInt8):Bool:=isAlpha c||isDigit c||([46,45,95]:Bytes).contains c
def iT (c:UInt8):Bool:=isDigit c||decide (97≤c.toNat∧c.toNat≤122)
def fI (s:Bytes):Bool:=!s.isEmpty&&s.all iT
def iJ (c:UInt8):Bytes:=if cz c then [c] else kN c
def aP (s:Bytes):Bytes:=s.flatMap iJ
def nR:PU→Bytes
 | .lit c=>[c]
 | .hex a b=>iJ (unhex a b)
 | .bad=>[]
def sY:PU→Bool
 | .lit c=>cz c||c==58
 | _=>true
def dI (s:Bytes):Bytes × Int :=
 if PU.bad∈aE s then([],2) else if (aE s).all sY=false then([],1) else((aE s).flatMap nR,0)
def pI (m:Bytes)(c:Bytes × Int):fQ × Int :=
 if c.2≠0 then(fQ.none,c.2) else if c.1=[]∨c.1.getLast? = some 58 then(fQ.none,3) else(⟨m,c.1⟩,0)
def og (s:Bytes):fQ × Int :=
 if (aL 58 s).2.2=false then(fQ.none,6)
 else if fI (aL 58 s).1=false then(fQ.none,100)
 else pI (aL 58 s).1 (dI (aL 58 s).2.1)
def nS:Bytes:=[100,105,100,58]
def bd (s:Bytes):fQ × Int :=
 if 4096<s.length then(fQ.none,5)
 else if nS.isPrefixOf s=false then(fQ.none,60)
 else og (s.drop 4)
def bC (d:fQ):Bytes:=nS++d.method++[58]++d.id
theorem rr:∀ (l:List PU),(∀ x∈l,(∀ c,x=.lit c→c≠37)∧(∀ a b,x=.hex a b→bm a=true∧bm b=true)∧x≠.bad)→aE (l.flatMap PU.str)=l
 | [],_=>rfl
 | .lit c::r,h=>by
   have h1:=(h _ zME).1 c rfl
   rw[zMC,PU.str,List.singleton_append,dm h1,rr r (fun x hx=>h x (zMA _ hx))]
 | .hex a b::r,h=>by
   have h1:=(h _ zME).2.1 a b rfl
   rw[zMC,PU.str]
   simp only[zMK,zMX]
   rw[fh h1.1 h1.2,rr r (fun x hx=>h x (zMA _ hx))]
 | .bad::r,h=>((h _ zME).2.2 rfl).elim
theorem lI:∀ (f:Nat)(s:Bytes),s.length≤f→PU.bad ∉ bL f s→(bL f s).flatMap PU.str=s
 | 0,s,h,_=>by
   obtain rfl:=List.length_eq_zero_iff.1 (Nat.le_zero.1 h)
   rfl
 | f+1,[],_,_=>rfl
 | f+1,c::r,h,hb=>by
   rw[bL]at hb ⊢
   simp only[zMB]at h
   split
   ·rename_i hc
    rw[if_pos hc]at hb
    cases hp:di r with
    | none=>rw[hp]at hb;simp at hb
    | some x =>
      obtain⟨a,b,r'⟩:=x
      rw[hp]at hb
      obtain⟨rfl,-,-⟩:=dh hp
      simp only[zML,reduceCtorEq,false_or]at hb
      simp only[zMB]at h
      simp only[zMC,PU.str,lI f r' (by omega) hb]
      rw[hc];rfl
   ·rename_i hc
    rw[if_neg hc]at hb
    simp only[zML,reduceCtorEq,false_or]at hb
    simp only[zMC,PU.str,lI f r (by omega) hb]
    rfl
theorem jx {s:Bytes}(h:PU.bad ∉ aE s):(aE s).flatMap PU.str=s:=lI _ s (zMV _) h
theorem mY:∀ (f:Nat)(s:Bytes)(a b:UInt8),PU.hex a b∈bL f s→bm a=true∧bm b=true
 | 0,_,_,_,h=>by simp[bL]at h
 | _+1,[],_,_,h=>by simp[bL]at h
 | f+1,d::r,a,b,h=>by
   rw[bL]at h
   split at h
   ·cases hp:di r with
    | none=>rw[hp]at h;simp at h
    | some x =>
      obtain⟨a',b',r'⟩:=x
      rw[hp]at h
      obtain⟨-,h2,h3⟩:=dh hp
      simp only[zML,PU.hex.injEq]at h
      rcases h with⟨rfl,rfl⟩|h
      ·exact⟨h2,h3⟩
      ·exact mY f _ a b h
   ·simp only[zML,reduceCtorEq,false_or]at h
    exact mY f _ a b h
theorem mV {s:Bytes}{a b:UInt8}(h:PU.hex a b∈aE s):bm a=true∧bm b=true:=mY _ s a b h
theorem eH:∀ (n:Nat)(a b:Bytes),a.length≤n→PU.bad ∉ aE a→aE (a++58::b)=aE a++.lit 58::aE b
 | 0,a,b,h,_=>by
   obtain rfl:=List.length_eq_zero_iff.1 (Nat.le_zero.1 h)
   rw[zMX,dm (by decide)];rfl
 | n+1,[],b,_,_=>by rw[zMX,dm (by decide)];rfl
 | n+1,c::a,b,h,hb=>by
   simp only[zMB]at h
   by_cases hc:c=37
   ·subst hc
    cases hp:di a with
    | none=>rw[ru hp]at hb;simp at hb
    | some x =>
      obtain⟨u,v,r⟩:=x
      obtain⟨rfl,h1,h2⟩:=dh hp
      rw[fh h1 h2]at hb ⊢
      simp only[zMB]at h
      simp only[zMK]
      rw[fh h1 h2,eH n r b (by omega) (by simpa using hb)]
   ·rw[dm hc]at hb ⊢
    rw[zMK,dm hc,eH n a b (by omega) (by simpa using hb)]
    rfl
def canD:PU→Prop
 | .lit c=>(cz c||c==58)=true
 | .hex a b=>cz (unhex a b)=false∧a=gE ((unhex a b).toNat / 16)∧b=gE ((unhex a b).toNat % 16)∧bm a=true∧bm b=true
 | .bad=>False
def rh (s:Bytes):Prop:=∃ l:List PU,s=l.flatMap PU.str∧∀ x∈l,canD x
theorem rI {c:UInt8}(h:(cz c||c==58)=true):c≠37∧c≠47∧c≠63∧c≠35:=by
 have:=cW (p:=fun c=>!(cz c||c==58)||(c != 37&&c != 47&&c != 63&&c != 35)) (by decide +kernel) c
 rw[h]at this
 simpa[and_assoc] using this
theorem IM {c:UInt8}(h:bm c=true):c≠37∧c≠47∧c≠63∧c≠35∧c≠58:=by
 have:=cW (p:=fun c=>!(bm c)||(c != 37&&c != 47&&c != 63&&c != 35&&c != 58)) (by decide +kernel) c
 rw[h]at this
 simpa[and_assoc] using this
theorem Er {l:List PU}(h:∀ x∈l,canD x):aE (l.flatMap PU.str)=l :=
 rr l fun x hx=>by
  have:=h x hx
  cases x with
  | lit c=>exact⟨fun d e=>by cases e;exact(rI this).1,by simp,by simp⟩
  | hex a b=>exact⟨by simp,fun u v e=>by cases e;exact this.2.2.2,by simp⟩
  | bad=>exact this.elim
theorem Es {s:Bytes}(h:rh s):dI s=(s,0):=by
 obtain⟨l,rfl,hl⟩:=h
 unfold dI
 rw[Er hl,if_neg (fun k=>absurd (hl _ k) (by simp[canD])),if_neg ?_]
 ·congr 1
  have:∀ m:List PU,(∀ x∈m,canD x)→m.flatMap nR=m.flatMap PU.str:=by
   intro m
   induction m with
   | nil=>intro _;rfl
   | cons x m ih =>
     intro hm
     rw[zMC,zMC,ih (fun y hy=>hm y (zMA _ hy))]
     congr 1
     have:=hm x zME
     cases x with
     | lit c=>rfl
     | hex a b =>
       simp only[nR,iJ,PU.str]
       rw[if_neg (by simp[this.1])]
       unfold kN
       rw[← this.2.1,← this.2.2.1]
     | bad=>exact this.elim
  exact this l hl
 ·simp only[Bool.not_eq_false]
  refine zMG.2 fun x hx=>?_
  have:=hl x hx
  cases x with
  | lit c=>exact this
  | hex a b=>rfl
  | bad=>rfl
theorem GK {s x:Bytes}(h:dI s=(x,0)):rh x∧x.length≤s.length∧(∀ c∈s,c≠47∧c≠63∧c≠35):=by
 unfold dI at h
 split at h
 ·simp at h
 rename_i hb
 split at h
 ·simp at h
 rename_i ha
 simp only[zMT.injEq,and_true]at h
 subst h
 have ha:(aE s).all sY=true:=by simpa using ha
 have hs:=jx hb
 have hlit:∀ c,PU.lit c∈aE s→(cz c||c==58)=true:=fun c hc=>zMG.1 ha _ hc
 have hhex:=fun a b=>mV (s:=s) (a:=a) (b:=b)
 generalize aE s=l at *
 subst hs
 have key:∀ m:List PU,(∀ c,PU.lit c∈m→(cz c||c==58)=true)→(∀ a b,PU.hex a b∈m→bm a=true∧bm b=true)→PU.bad ∉ m →
  rh (m.flatMap nR)∧(m.flatMap nR).length≤(m.flatMap PU.str).length∧(∀ c∈m.flatMap PU.str,c≠47∧c≠63∧c≠35):=by
  intro m
  induction m with
  | nil=>intro _ _ _;exact⟨⟨[],rfl,by simp⟩,by simp,by simp⟩
  | cons x m ih =>
    intro h1 h2 h3
    obtain⟨⟨l',e',k'⟩,i2,i3⟩:=ih (fun c hc=>h1 c (zMA _ hc)) (fun a b hc=>h2 a b (zMA _ hc)) (fun hc=>h3 (zMA _ hc))
    simp only[zMC,zMD]
    cases x with
    | lit c =>
      have hc:=h1 c zME
      refine⟨⟨.lit c::l',by rw[e'];rfl,fun y hy=>?_⟩,by rw[show (nR (.lit c)).length=1 from rfl,show (PU.str (.lit c)).length=1 from rfl];omega,fun d hd=>?_⟩
      ·rcases zML.1 hy with rfl|hy
       ·exact hc
       ·exact k' y hy
      ·rcases zMR.1 hd with hd|hd
       ·obtain rfl:=zMS.1 hd;exact(rI hc).2
       ·exact i3 d hd
    | hex a b =>
      obtain⟨ha',hb'⟩:=h2 a b zME
      have r6:∀ d∈PU.str (.hex a b)++m.flatMap PU.str,d≠47∧d≠63∧d≠35:=by
       intro d hd
       rcases zMR.1 hd with hd|hd
       ·simp only[PU.str,zML,List.not_mem_nil,or_false]at hd
        rcases hd with rfl|rfl|rfl
        ·decide
        ·have:=IM ha';exact⟨this.2.1,this.2.2.1,this.2.2.2.1⟩
        ·have:=IM hb';exact⟨this.2.1,this.2.2.1,this.2.2.2.1⟩
       ·exact i3 d hd
      have q1:(nR (.hex a b)).length≤3:=by simp only[nR,iJ];split <;> simp[kN]
      have q2:(PU.str (.hex a b)).length=3:=rfl
      have q3:(if cz (unhex a b)=true then 1 else 3)=(nR (.hex a b)).length:=by simp only[nR,iJ];split <;> simp[kN]
      by_cases hp:cz (unhex a b)=true
      ·refine⟨⟨.lit (unhex a b)::l',by rw[e',zMC];simp only[nR,iJ,hp,PU.str,if_true],fun y hy=>?_⟩,by omega,r6⟩
       rcases zML.1 hy with rfl|hy
       ·show (cz _||_)=true;rw[hp];rfl
       ·exact k' y hy
      ·have hp:cz (unhex a b)=false:=by simpa using hp
       have hn:=(unhex a b).toNat_lt
       have hv:=jj (unhex a b)
       refine⟨⟨.hex (gE ((unhex a b).toNat / 16)) (gE ((unhex a b).toNat % 16))::l',by rw[e',zMC];simp only[nR,iJ,hp,PU.str,kN,Bool.false_eq_true,if_false],fun y hy=>?_⟩,by omega,r6⟩
       rcases zML.1 hy with rfl|hy
       ·exact⟨by rw[hv];exact hp,by rw[hv],by rw[hv],fK _ (by omega),fK _ (by omega)⟩
       ·exact k' y hy
    | bad=>exact(h3 zME).elim
 exact key l hlit hhex hb
structure Ae (d:fQ):Prop where
 method:fI d.method=true
 id:rh d.id
 ne:d.id≠[]
 last:d.id.getLast? ≠ some 58
theorem xX {s:Bytes}(h:fI s=true):∀ c∈s,c≠47∧c≠63∧c≠35∧c≠58:=by
 intro c hc
 unfold fI at h
 simp only[zM4]at h
 have h1:=zMG.1 h.2 c hc
 have:=cW (p:=fun c=>!(iT c)||(c != 47&&c != 63&&c != 35&&c != 58)) (by decide +kernel) c
 rw[h1]at this
 simpa[and_assoc] using this
theorem zS {s:Bytes}{d:fQ}(h:bd s=(d,0)):Ae d∧(bC d).length≤s.length∧s.length≤4096∧∀ c∈s,c≠47∧c≠63∧c≠35:=by
 unfold bd at h
 split at h
 ·simp at h
 split at h
 ·simp at h
 rename_i h1 h2
 have h2:nS.isPrefixOf s=true:=by simpa using h2
 obtain⟨r,rfl⟩:=zNd.1 h2
 have e4:(nS++r).drop 4=r:=rfl
 rw[e4]at h
 unfold og at h
 split at h
 ·simp at h
 split at h
 ·simp at h
 rename_i h3 h4
 have h3:(aL 58 r).2.2=true:=by simpa using h3
 have h4:fI (aL 58 r).1=true:=by simpa using h4
 unfold pI at h
 split at h
 ·rename_i h5;exact absurd (zMT.inj h).2 h5
 split at h
 ·simp at h
 rename_i h5 h6
 simp only[not_or]at h6
 simp only[zMT.injEq,and_true]at h
 subst h
 have e:dI (aL 58 r).2.1=((dI (aL 58 r).2.1).1,0):=by
  have:(dI (aL 58 r).2.1).2=0:=by simpa using h5
  rw[← this]
 obtain⟨k1,k2,k3⟩:=GK e
 have hlen:=yq h3
 refine⟨⟨h4,k1,h6.1,h6.2⟩,?_,by omega,?_⟩
 ·simp only[bC,zMD,zMB,zMH];omega
 ·have hu:=uncut 58 r
  rw[if_pos h3]at hu
  intro c hc
  rcases zMR.1 hc with hc|hc
  ·have:∀ c∈nS,c≠47∧c≠63∧c≠35:=by decide
   exact this c hc
  ·rw[hu]at hc
   rcases zMR.1 hc with hc|hc
   ·have:=xX h4 c hc;exact⟨this.1,this.2.1,this.2.2.1⟩
   ·rcases zMR.1 hc with hc|hc
    ·obtain rfl:=zMS.1 hc;decide
    ·exact k3 c hc
theorem zT (s:Bytes)(h:(bd s).2≠0):(bd s).1=fQ.none:=by
 unfold bd at h ⊢
 split
 ·rfl
 rename_i h1
 rw[if_neg h1]at h
 split
 ·rfl
 rename_i h2
 rw[if_neg h2]at h
 unfold og at h ⊢
 split
 ·rfl
 rename_i h3
 rw[if_neg h3]at h
 split
 ·rfl
 rename_i h4
 rw[if_neg h4]at h
 unfold pI at h ⊢
 split
 ·rfl
 rename_i h5
 rw[if_neg h5]at h
 split
 ·rfl
 rename_i h6
 rw[if_neg h6]at h
 exact absurd rfl h
theorem Cu {d:fQ}(h:Ae d)(hl:(bC d).length≤4096):bd (bC d)=(d,0):=by
 unfold bd
 have e1:nS.isPrefixOf (bC d)=true:=rfl
 have e2:(bC d).drop 4=d.method++58::d.id:=by show d.method++[58]++d.id=_;simp
 rw[if_neg (by omega),if_neg (by rw[e1];simp),e2]
 unfold og
 rw[gg (dS (fun k=>(xX h.method _ k).2.2.2 rfl)),if_neg (by simp),if_neg (by simp[h.method])]
 simp only
 rw[Es h.id]
 unfold pI
 rw[if_neg (by simp),if_neg (by simp only[not_or];exact⟨h.ne,h.last⟩)]
open Go Go.RowKit
def repB (c:UInt8)(new:Bytes)(d:UInt8):Bytes:=if d=c then new else [d]
theorem lit_mem {s:Bytes}{c:UInt8}(hb:PU.bad ∉ aE s)(hc:c≠37)(hx:bm c=false):c∈s↔PU.lit c∈aE s:=by
 have hs:=jx hb
 constructor
 ·intro h
  rw[← hs]at h
  obtain⟨u,hu,h⟩:=zM5.1 h
  cases u with
  | lit d=>obtain rfl:=zMS.1 h;exact hu
  | hex a b =>
    have:=mV hu
    simp only[PU.str,zML,List.not_mem_nil,or_false]at h
    rcases h with rfl|rfl|rfl
    ·exact absurd rfl hc
    ·rw[this.1]at hx;cases hx
    ·rw[this.2]at hx;cases hx
  | bad=>simp[PU.str]at h
 ·intro h
  rw[← hs]
  exact zM5.2 ⟨_,h,zMS.2 rfl⟩
theorem kC:∀ (n:Nat)(a b:Bytes),a.length≤n→PU.bad∈aE a→PU.bad∈aE (a++58::b)
 | _,[],b,_,h=>by simp[eO]at h
 | 0,c::a,b,h,_=>by simp at h
 | n+1,c::a,b,h,hb=>by
   simp only[zMB]at h
   by_cases hc:c=37
   ·subst hc
    cases hp:di a with
    | none =>
      have:di (a++58::b)=none:=by
       rcases a with _|⟨u,_|⟨v,r⟩⟩
       ·cases b <;> simp[di,show bm 58=false by decide]
       ·simp[di,show bm 58=false by decide]
       ·unfold di at hp ⊢
        simp only[zMK]
        by_cases hx:(bm u&&bm v)=true
        ·simp[hx]at hp
        ·simp[hx]
      rw[zMK,ru this];simp
    | some x =>
      obtain⟨u,v,r⟩:=x
      obtain⟨rfl,h1,h2⟩:=dh hp
      rw[fh h1 h2]at hb
      simp only[zMB]at h
      simp only[zMK]
      rw[fh h1 h2]
      exact zMA _ (kC n r b (by omega) (by simpa using hb))
   ·rw[dm hc]at hb
    rw[zMK,dm hc]
    exact zMA _ (kC n a b (by omega) (by simpa using hb))
theorem oY:∀ (l:List Bytes)(x:Bytes),((∃ y∈x::l,PU.bad∈aE y)↔PU.bad∈aE (x++l.flatMap (58::·))) ∧
 ((∀ y∈x::l,PU.bad ∉ aE y)→aE (x++l.flatMap (58::·))=aE x++l.flatMap (fun y=>.lit 58::aE y))
 | [],x=>by simp
 | y::l,x=>by
   obtain⟨h1,h2⟩:=oY l y
   have e:x++(y::l).flatMap (58::·)=x++58::(y++l.flatMap (58::·)):=by simp
   rw[e]
   constructor
   ·constructor
    ·rintro⟨z,hz,hb⟩
     by_cases hx:PU.bad∈aE x
     ·exact kC _ _ _ (zMV _) hx
     ·rw[eH _ _ _ (zMV _) hx]
      rcases zML.1 hz with rfl|hz
      ·exact absurd hb hx
      ·exact List.mem_append_right _ (zMA _ (h1.1 ⟨z,hz,hb⟩))
    ·intro hb
     by_cases hx:PU.bad∈aE x
     ·exact⟨x,zME,hx⟩
     ·rw[eH _ _ _ (zMV _) hx]at hb
      rcases zMR.1 hb with hb|hb
      ·exact absurd hb hx
      ·simp only[zML,reduceCtorEq,false_or]at hb
       obtain⟨z,hz,hb⟩:=h1.2 hb
       exact⟨z,zMA _ hz,hb⟩
   ·intro h
    rw[eH _ _ _ (zMV _) (h x zME),h2 (fun z hz=>h z (zMA _ hz))]
    simp
def dR (y:Bytes):Bool:=y.all fun c=>cz c||c==37
def jR (y:Bytes):Bytes:=(aE y).map PU.val
theorem yf {c:UInt8}(h:bm c=true):cz c=true:=by
 have:=cW (p:=fun c=>!(bm c)||cz c) (by decide +kernel) c
 rw[h]at this
 simpa using this
theorem jB {y:Bytes}(hb:PU.bad ∉ aE y)(hc:(58:UInt8) ∉ y):dR y=(aE y).all sY:=by
 have key:∀ l:List PU,(∀ a b,PU.hex a b∈l→bm a=true∧bm b=true)→(∀ c,PU.lit c∈l→c≠37)→(58:UInt8) ∉ l.flatMap PU.str →
  (l.flatMap PU.str).all (fun c=>cz c||c==37)=l.all sY:=by
  intro l
  induction l with
  | nil=>intros;rfl
  | cons u l ih =>
    intro hh hl hc
    have ih:=ih (fun a b k=>hh a b (zMA _ k)) (fun c k=>hl c (zMA _ k)) (fun k=>hc (by rw[zMC];exact List.mem_append_right _ k))
    rw[zMC,List.all_append,List.all_cons,ih]
    congr 1
    cases u with
    | lit c =>
      have h1:c≠37:=hl c zME
      have h2:c≠58:=by rintro rfl;exact hc (by simp[PU.str])
      have e1:(c==37)=false:=by simpa using h1
      have e2:(c==58)=false:=by simpa using h2
      simp[PU.str,sY,e1,e2]
    | hex a b =>
      obtain⟨h1,h2⟩:=hh a b zME
      simp[PU.str,sY,yf h1,yf h2]
    | bad=>rfl
 have:=key (aE y) (fun a b=>mV) (sC y) (by rw[jx hb];exact hc)
 rw[jx hb]at this
 exact this
theorem xy {l:List PU}(h:∀ c,PU.lit c∈l→cz c=true)(hb:PU.bad ∉ l):l.flatMap nR=aP (l.map PU.val):=by
 induction l with
 | nil=>rfl
 | cons u l ih =>
   have ih:=ih (fun c k=>h c (zMA _ k)) (fun k=>hb (zMA _ k))
   rw[zMC,ih,zM7]
   show _=iJ u.val++aP (l.map PU.val)
   congr 1
   cases u with
   | lit c=>simp[nR,PU.val,iJ,h c zME]
   | hex a b=>rfl
   | bad=>exact absurd zME hb
def iD (x:Bytes)(l:List Bytes):Bytes:=aP (jR x)++l.flatMap fun y=>58::aP (jR y)
theorem Dt {s x:Bytes}{l:List Bytes}(e:s=x++l.flatMap (58::·))(hn:∀ y∈x::l,(58:UInt8) ∉ y) :
 dI s=if ∃ y∈x::l,PU.bad∈aE y then([],2) else if (x::l).all dR=false then([],1) else(iD x l,0):=by
 obtain⟨h1,h2⟩:=oY l x
 rw[← e]at h1 h2
 unfold dI
 by_cases hb:∃ y∈x::l,PU.bad∈aE y
 ·rw[if_pos hb,if_pos (h1.1 hb)]
 ·rw[if_neg hb,if_neg (fun k=>hb (h1.2 k))]
  have hb:∀ y∈x::l,PU.bad ∉ aE y:=fun y hy k=>hb ⟨y,hy,k⟩
  rw[h2 hb]
  have a6:(aE x++l.flatMap fun y=>PU.lit 58::aE y).all sY=(x::l).all dR:=by
   rw[List.all_append,List.all_cons,jB (hb x zME) (hn x zME)]
   congr 1
   have:∀ m:List Bytes,(∀ y∈m,PU.bad ∉ aE y∧(58:UInt8) ∉ y)→(m.flatMap fun y=>PU.lit 58::aE y).all sY=m.all dR:=by
    intro m
    induction m with
    | nil=>intro _;rfl
    | cons y m ih =>
      intro hm
      rw[zMC,List.all_append,List.all_cons,List.all_cons,ih (fun z hz=>hm z (zMA _ hz)),jB (hm y zME).1 (hm y zME).2]
      rfl
   exact this l fun y hy=>⟨hb y (zMA _ hy),hn y (zMA _ hy)⟩
  rw[a6]
  by_cases ha:(x::l).all dR=false
  ·rw[if_pos ha,if_pos ha]
  ·rw[if_neg ha,if_neg ha]
   have ha:(x::l).all dR=true:=by simpa using ha
   congr 1
   have hp:∀ y∈x::l,(aE y).flatMap nR=aP (jR y):=by
    intro y hy
    refine xy (fun c hc=>?_) (hb y hy)
    have h3:=zMG.1 ha y hy
    rw[jB (hb y hy) (hn y hy)]at h3
    have h4:(cz c||c==58)=true:=zMG.1 h3 _ hc
    have h5:c≠58:=by
     rintro rfl
     exact hn y hy ((lit_mem (hb y hy) (by decide) (by decide)).2 hc)
    simpa[h5] using h4
   rw[zMU,hp x zME]
   unfold iD
   congr 1
   have:∀ m:List Bytes,(∀ y∈m,(aE y).flatMap nR=aP (jR y))→(m.flatMap fun y=>PU.lit 58::aE y).flatMap nR=m.flatMap fun y=>58::aP (jR y):=by
    intro m
    induction m with
    | nil=>intro _;rfl
    | cons y m ih =>
      intro hm
      rw[zMC,zMU,zMC,zMC,ih (fun z hz=>hm z (zMA _ hz)),hm y zME]
      rfl
   exact this l fun y hy=>hp y (zMA _ hy)
theorem Jl (s:Bytes):(58:UInt8) ∉ aP s:=by
 intro hc
 obtain⟨d,-,hd⟩:=zM5.1 hc
 have h1:=cW (p:=fun d=>(iJ d).all fun c=>c != 58) (by decide +kernel) d
 have:=zMG.1 h1 _ hd
 simp at this
theorem Fb {s:Bytes}:aP s=[]↔s=[]:=by
 constructor
 ·intro h
  cases s with
  | nil=>rfl
  | cons c s =>
    have:iJ c++aP s=[]:=h
    have h2:iJ c=[]:=(List.append_eq_nil_iff.1 this).1
    unfold iJ kN at h2
    split at h2 <;> simp at h2
 ·rintro rfl;rfl
theorem CA {y:Bytes}(hb:PU.bad ∉ aE y):jR y=[]↔y=[]:=by
 constructor
 ·intro h
  have:aE y=[]:=List.map_eq_nil_iff.1 h
  rw[← jx hb,this];rfl
 ·rintro rfl;rfl
theorem FB {x:Bytes}{l:List Bytes}(hb:∀ y∈x::l,PU.bad ∉ aE y):(iD x l=[]∨(iD x l).getLast? = some 58)↔(x::l).getLast? = some []:=by
 have last:∀ y:Bytes,(aP y).getLast? ≠ some 58:=fun y k=>Jl y (zM0 k)
 rcases List.eq_nil_or_concat l with rfl|⟨m,z,rfl⟩
 ·unfold iD
  rw[zMY,zMI,Fb,CA (hb x zME)]
  simp[last]
 ·rw[List.concat_eq_append]at *
  have hz:=hb z (by simp)
  have e:iD x (m++[z])=iD x m++58::aP (jR z):=by simp[iD]
  rw[e,show x::(m++[z])=(x::m)++[z] by simp,zNc,zNc]
  simp only[List.getLast?_singleton,Option.some_or,zMW.injEq]
  constructor
  ·rintro(h|h)
   ·simp at h
   ·cases hd:aP (jR z) with
    | nil=>exact(CA hz).1 (Fb.1 hd)
    | cons a r =>
      rw[hd]at h
      rw[List.getLast?_cons_cons,← hd]at h
      cases hq:(aP (jR z)).getLast? with
      | none=>rw[List.getLast?_eq_none_iff]at hq;rw[hq]at hd;cases hd
      | some w=>rw[hq]at h;exact absurd (by rw[hq];simpa using h) (last (jR z))
  ·rintro rfl
   right
   simp[jR,eO,aP]
open Go Go.RowKit
theorem Bd {p:UInt8→Bool}:∀ {a:Bytes}(r:Bytes),(∀ c∈a,p c=false)→pre p (a++r)=a.length+pre p r
 | [],r,_=>by simp
 | c::a,r,h=>by
   have h1:=h c zME
   have ih:=Bd (a:=a) r (fun d hd=>h d (zMA _ hd))
   rw[zMK,bV,h1,if_neg (by simp),ih,zMB]
   omega
theorem GI {c:UInt8}{a:Bytes}(r:Bytes)(h:c ∉ a):aL c (a++r)=(a++(aL c r).1,(aL c r).2.1,(aL c r).2.2):=by
 have hp:pre (·==c) (a++r)=a.length+pre (·==c) r:=Bd r fun d hd=>by
  have:d≠c:=by rintro rfl;exact h hd
  simpa using this
 by_cases hr:pre (·==c) r<r.length
 ·rw[show aL c r=(r.take (pre (·==c) r),r.drop (pre (·==c) r+1),true) from if_pos hr]
  rw[show aL c (a++r)=((a++r).take (pre (·==c) (a++r)),(a++r).drop (pre (·==c) (a++r)+1),true) from if_pos (by rw[hp,zMD];omega)]
  rw[hp,List.take_length_add_append,Nat.add_assoc,List.drop_length_add_append]
 ·have hle:=cw (·==c) r
  rw[eR (s:=r) (by omega),eR (s:=a++r) (by rw[hp,zMD];omega)]
theorem oW (c:UInt8):∀ (n:Nat)(s:Bytes),s.length≤n→∃ x l,aA c s=x::l∧s=x++l.flatMap (c::·)∧∀ y∈x::l,c ∉ y:=by
 intro n
 induction n with
 | zero =>
   intro s h
   obtain rfl:=List.length_eq_zero_iff.1 (Nat.le_zero.1 h)
   exact⟨[],[],rfl,rfl,by simp⟩
 | succ n ih =>
   intro s h
   have pq:c ∉ s.take (pre (·==c) s):=by
    intro hm
    obtain⟨j,hj,e⟩:=zNf hm
    have iB:j<pre (·==c) s∧j<s.length:=by rw[List.length_take]at hj;omega
    have:=ib (p:=(·==c)) (l:=s) (k:=j) iB.1 iB.2
    rw[List.getElem_take]at e
    rw[e]at this
    simp at this
   by_cases hp:pre (·==c) s<s.length
   ·obtain⟨x,l,e1,e2,e3⟩:=ih (s.drop (pre (·==c) s+1)) (by simp;omega)
    refine⟨s.take (pre (·==c) s),x::l,by rw[cT hp,e1],?_,?_⟩
    ·have hg:=gr hp
     simp only[beq_iff_eq]at hg
     conv=>lhs;rw[← zM8 (pre (·==c) s) s,List.drop_eq_getElem_cons hp,hg,e2]
     simp
    ·intro y hy
     rcases zML.1 hy with rfl|hy
     ·exact pq
     ·exact e3 y hy
   ·have hq:=cw (·==c) s
    rw[List.take_of_length_le (by omega)]at pq
    exact⟨s,[],cC hp,by simp,by simpa using pq⟩
def eI:List Bytes→Bytes
 | []=>[]
 | x::l=>iD x l
theorem wN (l:List Bytes)(y:Bytes):eI (l++[y])=eI l++(if l=[] then [] else [58])++aP (jR y):=by
 cases l with
 | nil=>simp[eI,iD]
 | cons x l=>simp[eI,iD]
theorem wM {l:List Bytes}{k:Nat}(h:k<l.length):eI (l.take (k+1))=eI (l.take k)++(if k=0 then [] else [58])++aP (jR l[k]):=by
 rw[zMN h,wN]
 congr 2
 cases k with
 | zero=>simp
 | succ k=>cases l with
   | nil=>simp at h
   | cons x l=>simp
theorem Ju (c:UInt8):(iJ c).length≤3:=by unfold iJ;split <;> simp[kN]
theorem fT (s:Bytes):(aP s).length≤3 * s.length:=by
 induction s with
 | nil=>simp[aP]
 | cons c s ih =>
   have:=Ju c
   show (iJ c++aP s).length≤_
   rw[zMD,zMB]
   omega
theorem mZ:∀ (f:Nat)(s:Bytes),(bL f s).length≤f
 | 0,s=>by simp[bL]
 | f+1,[]=>by simp[bL]
 | f+1,c::r=>by
   rw[bL]
   split
   ·split
    ·rename_i a b r' h
     have:=mZ f r'
     simpa using this
    ·simp
   ·have:=mZ f r
    simpa using this
theorem lx (y:Bytes):(jR y).length≤y.length:=by
 have:=mZ y.length y
 simpa[jR,aE] using this
theorem yJ:∀ (l:List Bytes),(eI l).length≤3 * l.flatten.length+l.length
 | []=>by simp[eI]
 | x::l=>by
   have h1:=fT (jR x)
   have h2:=lx x
   have h3:∀ m:List Bytes,(m.flatMap fun y=>58::aP (jR y)).length≤3 * m.flatten.length+m.length:=by
    intro m
    induction m with
    | nil=>simp
    | cons y m ih =>
      have k1:=fT (jR y)
      have k2:=lx y
      simp only[zMC,zMD,zMB,zMP]at ih ⊢
      omega
   have h4:=h3 l
   simp only[eI,iD,zMD,zMP,zMB]
   omega
theorem Cw (m s:Bytes):pI m (dI s) =
 if ∃ y∈aA 58 s,PU.bad∈aE y then(fQ.none,2) else if (aA 58 s).all dR=false then(fQ.none,1)
 else if (aA 58 s).getLast? = some [] then(fQ.none,3) else(⟨m,eI (aA 58 s)⟩,0):=by
 obtain⟨x,l,e1,e2,e3⟩:=oW 58 _ s (zMV _)
 rw[e1,Dt e2 e3]
 by_cases hb:∃ y∈x::l,PU.bad∈aE y
 ·rw[if_pos hb,if_pos hb];rfl
 rw[if_neg hb,if_neg hb]
 by_cases ha:(x::l).all dR=false
 ·rw[if_pos ha,if_pos ha];rfl
 rw[if_neg ha,if_neg ha]
 have hb:∀ y∈x::l,PU.bad ∉ aE y:=fun y hy k=>hb ⟨y,hy,k⟩
 have hs:=FB hb
 unfold pI
 rw[if_neg (by simp)]
 by_cases hq:(x::l).getLast? = some []
 ·rw[if_pos hq,if_pos (hs.2 hq)]
 ·rw[if_neg hq,if_neg (fun k=>hq (hs.1 k))];rfl
theorem mg {y:Bytes}(h:y.length≤16384):ay y=if PU.bad∈aE y then([],2) else(jR y,0):=if_neg (by omega)
open Go Go.RowKit
def fe:Bytes:=[119,101,98]
def df:Bytes:=[47,46,119,101,108,108,45,107,110,111,119,110,47,100,105,100,46,106,115,111,110]
def fJ:Bytes:=[100,105,100,46,106,115,111,110]
def bw (d:fQ):(Bytes × Int) × Int :=
 if d.method≠fe then(([],0),100)
 else if (bd (bC d)).2≠0 then(([],0),(bd (bC d)).2)
 else aF (ay (aL 58 d.id).1).1
def j7 (x:Bytes):Bool:=(ay x).2==0&&(ay x).1 != []&&(ay x).1 != [46]&&(ay x).1 != [46,46]
def oD (x:Bytes):Bytes:=47::aD [] (ay x).1
def lM (l:List Bytes):Bytes:=if l=[] then df else l.flatMap oD++47::fJ
def la (u:cX):cX × Int:=if 4096<(aT u).length then(cX.none,5) else(u,0)
def eS (d:fQ):cX × Int :=
 if (bw d).2≠0 then(cX.none,(bw d).2)
 else if (aA 58 d.id).tail.all j7=false then(cX.none,110)
 else la ⟨(bw d).1.1,(bw d).1.2,lM (aA 58 d.id).tail,[],[],false,false⟩
def fL (c:UInt8):Bool:=c==37||fE c
def da (x:Bytes):Bool:=x.all fL&&(ay x).2==0&&(ay x).1 != []
def bW (x:Bytes):Bytes:=58::aP (ay x).1
def bn (u:cX):Bytes:=u.host++(if u.port=0 then [] else [37,51,65]++bD u.port.natAbs)
def mb (d:fQ):fQ × Int:=if 4096<(bC d).length then(fQ.none,5) else(d,0)
def jQ (u:cX)(l:List Bytes):fQ × Int :=
 if u.path=df then mb ⟨fe,bn u⟩
 else if l.all da=false then(fQ.none,110)
 else mb ⟨fe,bn u++l.flatMap bW⟩
def iZ (u:cX):fQ × Int :=
 if dQ u=false then(fQ.none,8)
 else if u.aN=true∨u.aZ=true∨(aA 47 u.path).tail.getLast? ≠ some fJ then(fQ.none,6)
 else if (aA 47 u.path).tail.length=1 then(fQ.none,110)
 else jQ u (aA 47 u.path).tail.dropLast
def eG (d:fQ):fQ × Int:=if (eS d).2≠0 then(fQ.none,(eS d).2) else iZ (eS d).1
theorem sI (c:UInt8):∀ (l:List Bytes)(x:Bytes),c ∉ x→(∀ y∈l,c ∉ y)→aA c (x++l.flatMap (c::·))=x::l
 | [],x,hx,_=>by
   rw[zMY,zMI]
   exact cC (by rw[dS hx];omega)
 | y::l,x,hx,hl=>by
   have hp:pre (·==c) (x++(y::l).flatMap (c::·))=x.length:=by
    rw[zMC,zMK]
    exact y8 (dS hx) c _ (by simp)
   rw[cT (by rw[hp];simp),hp,List.take_left,← List.drop_drop,List.drop_left,zMC,zMK,List.drop_succ_cons,List.drop_zero,
    sI c l y (hl y zME) (fun z hz=>hl z (zMA _ hz))]
theorem sG (c:UInt8):∀ (n:Nat)(s:Bytes),s.length≤n→∃ x l,aA c s=x::l∧s=x++l.flatMap (c::·)∧c ∉ x∧∀ y∈l,c ∉ y
 | n,s,h=>by
   by_cases hp:pre (·==c) s<s.length
   ·match n,h with
    | 0,h=>omega
    | n+1,h =>
      obtain⟨x,l,e1,e2,e3,e4⟩:=sG c n (s.drop (pre (·==c) s+1)) (by simp;omega)
      refine⟨s.take (pre (·==c) s),x::l,by rw[cT hp,e1],?_,?_,?_⟩
      ·have:=gr hp
       simp only[beq_iff_eq]at this
       conv=>lhs;rw[← zM8 (pre (·==c) s) s,List.drop_eq_getElem_cons hp,this,e2]
       simp
      ·intro hm
       have h1:=(Bc (·==c) s)
       obtain⟨k,hk,e⟩:=zNf hm
       have:=ib (p:=(·==c)) (l:=s.take (pre (·==c) s)) (k:=k) (by omega) hk
       rw[e]at this
       simp at this
      ·intro y hy
       rcases zML.1 hy with rfl|hy
       ·exact e3
       ·exact e4 y hy
   ·refine⟨s,[],cC hp,by simp,fun hm=>?_,by simp⟩
    obtain⟨k,hk,e⟩:=zNf hm
    have:=ib (p:=(·==c)) (l:=s) (k:=k) (by omega) hk
    rw[e]at this
    simp at this
theorem can_enc (also s:Bytes):Can also (aD [] s):=by
 induction s with
 | nil=>exact ik _
 | cons c s ih =>
   show Can also (lr [] c++aD [] s)
   refine mh ?_ ih
   unfold lr
   cases h:fE c
   ·simp;exact can_esc also h
   ·simp;exact qZ (by unfold dU;rw[h];rfl) (As h)
theorem Jp (s:Bytes):(47:UInt8) ∉ aD [] s:=by
 intro hc
 obtain⟨d,-,hd⟩:=zM5.1 hc
 have h1:=cW (p:=fun d=>(lr [] d).all fun c=>c != 47) (by decide +kernel) d
 have:=zMG.1 h1 _ hd
 simp at this
theorem Fc {s t:Bytes}(h:aD [] s=aD [] t):s=t:=by
 have h1:=(iO [] s).1
 rw[h,(iO [] t).1]at h1
 exact h1.symm
theorem mf:∀ s:Bytes,(aE (aP s)).map PU.val=s∧PU.bad ∉ aE (aP s)
 | []=>⟨rfl,by simp[aP,eO]⟩
 | c::s=>by
   obtain⟨h1,h2⟩:=mf s
   have e:aP (c::s)=iJ c++aP s:=rfl
   rw[e]
   unfold iJ
   split
   ·rename_i hc
    have bt:c≠37:=by rintro rfl;exact absurd hc (by decide)
    rw[List.singleton_append,dm bt]
    exact⟨by simp[PU.val,h1],by simpa using h2⟩
   ·rw[xF]
    exact⟨by simp[PU.val,h1,jj],by simpa using h2⟩
theorem xz {s:Bytes}(h:(aP s).length≤16384):ay (aP s)=(s,0):=by
 obtain⟨h1,h2⟩:=mf s
 unfold ay
 rw[if_neg (by omega),if_neg h2,h1]
theorem qW (s:Bytes):∀ c∈aP s,c≠58:=by
 intro c hc
 obtain⟨d,-,hd⟩:=zM5.1 hc
 have h1:=cW (p:=fun d=>(iJ d).all fun c=>c != 58) (by decide +kernel) d
 have:=zMG.1 h1 _ hd
 simpa using this
theorem wz:rh []:=⟨[],rfl,by simp⟩
theorem jT {a b:Bytes}(ha:rh a)(hb:rh b):rh (a++b):=by
 obtain⟨l,rfl,h1⟩:=ha
 obtain⟨m,rfl,h2⟩:=hb
 exact⟨l++m,by simp,fun x hx=>by
  rcases zMR.1 hx with h|h
  ·exact h1 x h
  ·exact h2 x h⟩
theorem wy {c:UInt8}(h:(cz c||c==58)=true):rh [c]:=⟨[.lit c],rfl,fun x hx=>by
 obtain rfl:=zMS.1 hx;exact h⟩
theorem JA {c:UInt8}(h:cz c=false):rh (kN c):=⟨[.hex (gE (c.toNat / 16)) (gE (c.toNat % 16))],rfl,fun x hx=>by
 obtain rfl:=zMS.1 hx
 have hn:=c.toNat_lt
 have hv:=jj c
 exact⟨by rw[hv];exact h,by rw[hv],by rw[hv],fK _ (by omega),fK _ (by omega)⟩⟩
theorem CH (s:Bytes):rh (aP s):=by
 induction s with
 | nil=>exact wz
 | cons c s ih =>
   show rh (iJ c++aP s)
   refine jT ?_ ih
   unfold iJ
   cases h:cz c
   ·simp;exact JA h
   ·simp;exact wy (by rw[h];rfl)
theorem pN {s:Bytes}(h:∀ c∈s,cz c=true):rh s:=by
 induction s with
 | nil=>exact wz
 | cons c s ih=>exact jT (a:=[c]) (wy (by rw[h c zME];rfl)) (ih fun d hd=>h d (zMA _ hd))
theorem D3 {x:Bytes}(h:bF x=(x,0)):∀ c∈x,cz c=true:=by
 intro c hc
 have h1:=kv h c hc
 have:=cW (p:=fun c=>!(ua c||c==46)||cz c) (by decide +kernel) c
 have h2:(ua c||c==46)=true:=by rcases h1 with h|rfl <;> simp[*]
 rw[h2]at this
 simpa using this
theorem sm (n:Nat):∀ c∈bD n,cz c=true:=by
 intro c hc
 have:=tz n c hc
 unfold cz;rw[this];simp
theorem host_ne {x:Bytes}(h:bF x=(x,0)):x≠[]:=by
 rintro rfl
 revert h;decide
theorem qG {u:cX}(h:aF (aU u.host u.port)=((u.host,u.port),0)):rh (bn u)∧(58:UInt8) ∉ bn u∧bn u≠[]∧(aE (bn u)).map PU.val=aU u.host u.port∧PU.bad ∉ aE (bn u):=by
 obtain⟨-,h1,-,-,h2,-⟩:=ck h
 have hp:=D3 h1
 have fP:∀ s:Bytes,(∀ c∈s,cz c=true)→∀ r,aE (s++r)=s.map PU.lit++aE r:=by
  intro s
  induction s with
  | nil=>intro _ r;rfl
  | cons c s ih =>
    intro hs r
    have:=(rI (c:=c) (by rw[hs c zME];rfl)).1
    rw[zMK,dm this,ih (fun d hd=>hs d (zMA _ hd))]
    rfl
 have vl:∀ s:Bytes,(s.map PU.lit).map PU.val=s:=by intro s;simp[Function.comp_def,PU.val]
 have n58:∀ s:Bytes,(∀ c∈s,cz c=true)→(58:UInt8) ∉ s:=fun s hs hm=>absurd (hs _ hm) (by decide)
 have nb:∀ s:Bytes,PU.bad ∉ s.map PU.lit:=by intro s;simp
 by_cases h0:u.port=0
 ·have e:bn u=u.host:=by unfold bn;rw[if_pos h0,zMI]
  have e2:aU u.host u.port=u.host:=by unfold aU;rw[if_pos h0]
  have e3:=fP u.host hp []
  rw[zMI,eO,zMI]at e3
  rw[e,e2,e3]
  exact⟨pN hp,n58 _ hp,host_ne h1,vl _,nb _⟩
 ·have e:bn u=u.host++([37,51,65]++bD u.port.natAbs):=by unfold bn;rw[if_neg h0]
  have e2:aU u.host u.port=u.host++[58]++bD u.port.natAbs:=by unfold aU;rw[if_neg h0,if_neg (by omega)]
  have e3:=fP u.host hp ([37,51,65]++bD u.port.natAbs)
  have e4:=fP _ (sm u.port.natAbs) []
  rw[zMI,eO,zMI]at e4
  have e5:aE ([37,51,65]++bD u.port.natAbs)=.hex 51 65::aE (bD u.port.natAbs):=fh (by decide) (by decide) _
  rw[e,e2,e3,e5,e4]
  refine⟨jT (pN hp) (jT (a:=[37,51,65]) ⟨[.hex 51 65],rfl,fun x hx=>?_⟩ (pN (sm _))),?_,by simp,?_,?_⟩
  ·obtain rfl:=zMS.1 hx
   refine⟨by decide,by decide,by decide,by decide,by decide⟩
  ·simp only[zMR,not_or]
   exact⟨n58 _ hp,by decide,n58 _ (sm _)⟩
  ·rw[List.map_append,zM7,vl,vl]
   simp[PU.val]
   decide
  ·simp
theorem yk (c:UInt8):∀ (l:List Bytes),l≠[]→(∀ x∈l,x≠[])→(l.flatMap (c::·)).getLast? = (l.getLast?.getD []).getLast?
 | [],h,_=>absurd rfl h
 | [x],_,h=>by
   have hx:=h x zME
   cases x with
   | nil=>exact absurd rfl hx
   | cons a x=>simp
 | x::y::l,_,h=>by
   have ih:=yk c (y::l) (by simp) (fun z hz=>h z (zMA _ hz))
   rw[zMC,zNc,ih]
   have bt:((y::l).getLast?.getD [])≠[]:=by
    cases hl:(y::l).getLast? with
    | none=>simp at hl
    | some z=>exact h z (zMA _ (zM0 hl))
   rw[List.getLast?_cons_cons]
   cases hz:((y::l).getLast?.getD []).getLast? with
   | none=>rw[List.getLast?_eq_none_iff]at hz;exact absurd hz bt
   | some z=>rfl
theorem Ev {u:cX}{ss:List Bytes}(hh:aF (aU u.host u.port)=((u.host,u.port),0))(hs:∀ s∈ss,s≠[]∧s≠[46]∧s≠[46,46])
 (hl:(bC ⟨fe,bn u++ss.flatMap fun s=>58::aP s⟩).length≤4096):Ae ⟨fe,bn u++ss.flatMap fun s=>58::aP s⟩:=by
 obtain⟨b1,b2,b3,b4,b5⟩:=qG hh
 have ef:(ss.flatMap fun s=>58::aP s)=(ss.map aP).flatMap (58::·):=by rw[zMZ]
 have bt:∀ s∈ss,aP s≠[]:=fun s hm e=>by
  have h1:s≠[]:=(hs s hm).1
  have:=(mf s).1
  rw[e,eO]at this
  exact h1 this.symm
 refine⟨show fI fe=true by decide,jT b1 ?_,by simp[b3],?_⟩
 ·clear hl bt hs ef
  induction ss with
  | nil=>exact wz
  | cons s ss ih=>exact jT (jT (a:=[58]) (wy (by decide)) (CH s)) ih
 ·simp only
  cases ss with
  | nil =>
    rw[zMY,zMI]
    intro k
    exact b2 (zM0 k)
  | cons s ss =>
    rw[ef,zNc,yk 58 _ (by simp) (by
     intro x hx
     obtain⟨t,ht,rfl⟩:=zM6.1 hx
     exact bt t ht)]
    obtain⟨t,ht,e⟩:∃ t∈s::ss,((s::ss).map aP).getLast?.getD []=aP t:=by
     rw[List.getLast?_map]
     cases hq:(s::ss).getLast? with
     | none=>simp at hq
     | some t=>exact⟨t,zM0 hq,rfl⟩
    rw[e]
    cases hz:(aP t).getLast? with
    | none=>rw[List.getLast?_eq_none_iff]at hz;exact absurd hz (bt t ht)
    | some z =>
      intro k
      obtain rfl:z=58:=by simpa using k
      exact qW t _ (zM0 hz) rfl
theorem Ap {u:cX}{ss:List Bytes}(hh:aF (aU u.host u.port)=((u.host,u.port),0))(hs:∀ s∈ss,s≠[]∧s≠[46]∧s≠[46,46])
 (hl:(bC ⟨fe,bn u++ss.flatMap fun s=>58::aP s⟩).length≤4096) :
 bw ⟨fe,bn u++ss.flatMap fun s=>58::aP s⟩=((u.host,u.port),0)∧(aA 58 (bn u++ss.flatMap fun s=>58::aP s)).tail=ss.map aP∧(ss.map aP).all j7=true∧∀ s∈ss,(ay (aP s)).1=s:=by
 obtain⟨b1,b2,b3,b4,b5⟩:=qG hh
 have ef:(ss.flatMap fun s=>58::aP s)=(ss.map aP).flatMap (58::·):=by rw[zMZ]
 have hlen:∀ s∈ss,(aP s).length≤4096:=by
  intro s hm
  have h1:(aP s).length≤(ss.flatMap fun s=>58::aP s).length:=by
   obtain⟨p,q,rfl⟩:=List.append_of_mem hm
   simp;omega
  simp[bC]at hl
  simp at h1
  omega
 have qN:(bn u).length≤4096:=by simp[bC]at hl;omega
 have Ge:∀ s∈ss,ay (aP s)=(s,0):=fun s hm=>xz (by have:=hlen s hm;omega)
 have bt:∀ s∈ss,aP s≠[]:=fun s hm e=>by
  have:=Ge s hm
  rw[e]at this
  exact(hs s hm).1 (zMT.inj this).1.symm
 have rX:aA 58 (bn u++ss.flatMap fun s=>58::aP s)=bn u::ss.map aP:=by
  rw[ef]
  refine sI 58 _ _ b2 fun y hy=>?_
  obtain⟨s,-,rfl⟩:=zM6.1 hy
  exact fun k=>qW s _ k rfl
 have IV:=Ev hh hs hl
 have hr:=Cu IV hl
 refine⟨?_,by rw[rX];rfl,zMG.2 fun x hx=>?_,fun s hm=>by rw[Ge s hm]⟩
 ·unfold bw
  rw[if_neg (by simp),hr,if_neg (by simp)]
  simp only
  have hc:(aL 58 (bn u++ss.flatMap fun s=>58::aP s)).1=bn u:=by
   cases ss with
   | nil=>rw[zMY,zMI,eR (dS b2)]
   | cons s ss=>rw[zMC,zMK,gg (dS b2)]
  rw[hc]
  have hd:ay (bn u)=(aU u.host u.port,0):=by
   unfold ay
   rw[if_neg (by omega),if_neg b5,b4]
  rw[hd]
  exact hh
 ·obtain⟨s,hm,rfl⟩:=zM6.1 hx
  unfold j7
  rw[Ge s hm]
  have:=hs s hm
  simp[this.1,this.2.1,this.2.2]
theorem AA {d:fQ}{u:cX}(h:eS d=(u,0)):bw d=((u.host,u.port),0)∧aF (aU u.host u.port)=((u.host,u.port),0)∧(∃ ss:List Bytes,(∀ s∈ss,s≠[]∧s≠[46]∧s≠[46,46])∧u=⟨u.host,u.port,if ss=[] then df else ss.flatMap (fun s=>47::aD [] s)++47::fJ,[],[],false,false⟩)∧(aT u).length≤4096:=by
 unfold eS at h
 split at h
 ·rename_i h1;exact absurd (zMT.inj h).2 h1
 rename_i h1
 split at h
 ·simp at h
 rename_i h2
 unfold la at h
 split at h
 ·simp at h
 rename_i h3
 simp only[zMT.injEq,and_true]at h
 subst h
 have h1:(bw d).2=0:=by simpa using h1
 have e:bw d=(((bw d).1.1,(bw d).1.2),0):=by rw[← h1]
 refine⟨e,?_,⟨(aA 58 d.id).tail.map fun x=>(ay x).1,?_,?_⟩,by omega⟩
 ·simp only
  unfold bw at e h1 ⊢
  split at h1
  ·simp at h1
  rename_i k1
  rw[if_neg k1]at e ⊢
  split at h1
  ·rename_i k2;exact absurd h1 k2
  rename_i k2
  rw[if_neg k2]at e ⊢
  exact(ck e).1
 ·intro s hs
  obtain⟨x,hx,rfl⟩:=zM6.1 hs
  have h2:(aA 58 d.id).tail.all j7=true:=by simpa using h2
  have:=zMG.1 h2 x hx
  unfold j7 at this
  simp only[zM4,bne_iff_ne,ne_eq]at this
  exact⟨this.1.1.2,this.1.2,this.2⟩
 ·simp only[cX.mk.injEq,true_and,and_true]
  unfold lM
  by_cases k:(aA 58 d.id).tail=[]
  ·rw[if_pos k,if_pos (by rw[k];rfl)]
  ·rw[if_neg k,if_neg (by rw[List.map_eq_nil_iff];exact k),zMZ]
   rfl
theorem HC {s:Bytes}(h:s≠[46]∧s≠[46,46]):l9 (aD [] s):=by
 refine⟨Jp s,fun e=>h.1 (Fc (e.trans (by decide))),fun e=>h.2 (Fc (e.trans (by decide)))⟩
theorem HW (ss:List Bytes):ss.flatMap (fun s=>47::aD [] s)++47::fJ=fx (ss.map (aD [])++[fJ]):=by
 unfold fx
 rw[zMU,zMZ]
 simp
theorem HV {ss:List Bytes}(h:∀ s∈ss,s≠[]∧s≠[46]∧s≠[46,46]):Can cU (ss.flatMap (fun s=>47::aD [] s)++47::fJ)∧(∃ r,ss.flatMap (fun s=>47::aD [] s)++47::fJ=47::r)∧aG (ss.flatMap (fun s=>47::aD [] s)++47::fJ)=ss.flatMap (fun s=>47::aD [] s)++47::fJ:=by
 refine⟨mh ?_ ?_,?_,?_⟩
 ·clear h
  induction ss with
  | nil=>exact ik _
  | cons s ss ih=>exact mh (mh (a:=[47]) (qZ (by decide) (by decide)) (can_enc _ s)) ih
 ·refine⟨(47::fJ).map PU.lit,by decide,?_⟩
  intro x hx
  obtain⟨c,hc,rfl⟩:=zM6.1 hx
  show dU cU c=true∧c≠37
  revert c;decide
 ·cases ss with
  | nil=>exact⟨_,rfl⟩
  | cons s ss=>exact⟨_,rfl⟩
 ·rw[HW]
  show en _ _ []=_
  rw[nO _ _ _ (zMV _),zMX]
  intro x hx
  rcases zMR.1 hx with hx|hx
  ·obtain⟨s,hs,rfl⟩:=zM6.1 hx
   exact HC (h s hs).2
  ·obtain rfl:=zMS.1 hx
   refine⟨by decide,by decide,by decide⟩
theorem AY:Can cU df∧aG df=df:=by
 refine⟨⟨df.map PU.lit,by decide,?_⟩,by decide +kernel⟩
 intro x hx
 obtain⟨c,hc,rfl⟩:=zM6.1 hx
 show dU cU c=true∧c≠37
 revert c;decide
theorem xK {d:fQ}{u:cX}(h:eS d=(u,0)):fW u∧u.aN=false∧u.aZ=false∧bw d=((u.host,u.port),0):=by
 obtain⟨h1,h2,⟨ss,h3,h4⟩,h5⟩:=AA h
 have hq:u.aN=false:=by rw[h4]
 have hf:u.aZ=false:=by rw[h4]
 have GX:u.query=[]:=by rw[h4]
 have j5:u.fragment=[]:=by rw[h4]
 have hp:Can cU u.path∧(∃ r,u.path=47::r)∧aG u.path=u.path:=by
  rw[h4]
  simp only
  split
  ·exact⟨AY.1,⟨_,rfl⟩,AY.2⟩
  ·exact HV h3
 exact⟨⟨h2,hp.1,hp.2.1,hp.2.2,by rw[GX];exact ik _,by rw[j5];exact ik _,fun _=>GX,fun _=>j5,h5⟩,hq,hf,h1⟩
theorem vU {d c:fQ}(h:mb d=(c,0)):c=d∧(bC d).length≤4096:=by
 unfold mb at h
 split at h
 ·simp at h
 ·exact⟨(zMT.inj h).1.symm,by omega⟩
theorem Az {u:cX}{ss:List Bytes}(hu:fW u)(hq:u.aN=false)(hf:u.aZ=false)(hs:∀ s∈ss,s≠[]∧s≠[46]∧s≠[46,46])(hp:u.path=if ss=[] then df else ss.flatMap (fun s=>47::aD [] s)++47::fJ)
 (hl:(bC ⟨fe,bn u++ss.flatMap fun s=>58::aP s⟩).length≤4096):eS ⟨fe,bn u++ss.flatMap fun s=>58::aP s⟩=(u,0):=by
 obtain⟨h1,h2,h3,h4⟩:=Ap hu.host hs hl
 have e:lM (ss.map aP)=u.path:=by
  rw[hp]
  unfold lM
  by_cases k:ss=[]
  ·rw[if_pos (by rw[k];rfl),if_pos k]
  ·rw[if_neg (by simpa using k),if_neg k,zMZ]
   congr 1
   clear hp hl h1 h2 h3 k hs
   induction ss with
   | nil=>rfl
   | cons s ss ih =>
     rw[zMC,zMC,ih (fun t ht=>h4 t (zMA _ ht)),oD,h4 s zME]
 unfold eS
 rw[h1,if_neg (by simp)]
 simp only
 rw[h2,h3,if_neg (by simp),e]
 have eu:(⟨u.host,u.port,u.path,[],[],false,false⟩:cX)=u:=by
  have q1:=hu.noq hq
  have q2:=hu.nof hf
  obtain⟨a,b,c,d,f,g,h⟩:=u
  simp only at hq hf q1 q2
  subst hq hf q1 q2
  rfl
 rw[eu]
 unfold la
 rw[if_neg (by have:=hu.len;omega)]
theorem Cm {also:Bytes}:∀ (l:List Bytes)(x:Bytes),Can also (x++l.flatMap (47::·))→Can also x∧∀ y∈l,Can also y
 | [],x,h=>⟨by simpa using h,by simp⟩
 | y::l,x,h=>by
   rw[zMC,zMK]at h
   obtain⟨h1,h2⟩:=h.split (by decide) (by decide)
   obtain⟨h3,h4⟩:=Cm l y (CE (by decide) h2).2
   refine⟨h1,fun z hz=>?_⟩
   rcases zML.1 hz with rfl|hz
   ·exact h3
   ·exact h4 z hz
theorem Jq {also x:Bytes}(h:Can also x)(hd:x.all fL=true):aD [] (ay x).1=x∨16384<x.length:=by
 by_cases hl:16384<x.length
 ·exact .inr hl
 left
 obtain⟨l,rfl,hk⟩:=h
 have hu:=nX also l hk
 have hb:PU.bad ∉ aE (l.flatMap PU.str):=by rw[hu];exact fun k=>(hk _ k).elim
 unfold ay
 rw[if_neg hl,if_neg hb,hu]
 clear hu hb hl
 simp only
 induction l with
 | nil=>rfl
 | cons y l ih =>
   rw[zMC,List.all_append,zM4]at hd
   have ih:=ih (fun z hz=>hk z (zMA _ hz)) hd.2
   have hy:=hk y zME
   rw[zMC,zM7]
   show lr [] y.val++aD [] (l.map PU.val)=_
   rw[ih]
   congr 1
   cases y with
   | lit c =>
     have:fL c=true:=by simpa[PU.str] using hd.1
     unfold fL at this
     have sb:(c==37)=false:=by simpa using hy.2
     rw[sb,Bool.false_or]at this
     simp[PU.val,lr,this,PU.str]
   | hex a b =>
     simp only[PU.val,lr,hy.1,PU.str]
     rw[if_neg (by simp)]
     unfold kN
     rw[← hy.2.1,← hy.2.2.1]
   | bad=>exact hy.elim
theorem from_to {u:cX}{x:fQ}(hu:fW u)(h:iZ u=(x,0)):eS x=(u,0)∧∃ ss:List Bytes,x=⟨fe,bn u++ss.flatMap fun s=>58::aP s⟩∧(bC x).length≤4096∧∀ s∈ss,s≠[]∧s≠[46]∧s≠[46,46]:=by
 unfold iZ at h
 split at h
 ·simp at h
 split at h
 ·simp at h
 rename_i h1 h2
 simp only[not_or,ne_eq,Classical.not_not]at h2
 obtain⟨h2,h3,h4⟩:=h2
 have h2:u.aN=false:=by simpa using h2
 have h3:u.aZ=false:=by simpa using h3
 split at h
 ·simp at h
 rename_i h5
 unfold jQ at h
 split at h
 ·rename_i h6
  obtain⟨rfl,hl⟩:=vU h
  refine⟨?_,[],by simp,hl,by simp⟩
  have:=Az (ss:=[]) hu h2 h3 (by simp) (by rw[if_pos rfl];exact h6) (by simpa using hl)
  simpa using this
 rename_i h6
 split at h
 ·simp at h
 rename_i h7
 have h7:(aA 47 u.path).tail.dropLast.all da=true:=by simpa using h7
 obtain⟨x0,l0,e1,e2,e3,e4⟩:=sG 47 _ u.path (zMV _)
 obtain⟨r,hr⟩:=hu.AH
 have hx0:x0=[]:=by
  cases x0 with
  | nil=>rfl
  | cons a x0 =>
    rw[e2]at hr
    have:a=47:=by simpa using(List.cons.inj hr).1
    subst this
    exact absurd zME e3
 subst hx0
 rw[e1,List.tail_cons]at h h4 h5 h7
 rw[zMX]at e2
 obtain⟨l,rfl⟩:∃ l,l0=l++[fJ]:=by
  have bt:l0≠[]:=by rintro rfl;simp at h4
  refine⟨l0.dropLast,?_⟩
  have:=List.dropLast_concat_getLast bt
  rw[List.getLast?_eq_some_getLast bt]at h4
  rw[← zMW.inj h4];exact this.symm
 rw[List.dropLast_concat]at h h7
 obtain⟨rfl,hl⟩:=vU h
 have IV:∀ y∈l,Can cU y:=by
  have:=hu.path
  rw[e2]at this
  exact fun y hy=>(Cm (l++[fJ]) [] (by simpa using this)).2 y (List.mem_append_left _ hy)
 have Gd:∀ y∈l,y≠[46]∧y≠[46,46]:=by
  intro y hy
  have hc:=(wo r).2
  have hd:=hu.dots
  rw[hr]at hd
  rw[hd]at hc
  rw[hr]at e1
  exact hc y (by rw[e1];exact zMA _ (List.mem_append_left _ hy))
 have hplen:u.path.length≤4096:=by have:=(im u).1;have:=hu.len;omega
 have Ih:∀ y∈l,y.length≤4096:=by
  intro y hy
  have:y.length≤u.path.length:=by
   rw[e2]
   obtain⟨p,q,rfl⟩:=List.append_of_mem hy
   simp;omega
  omega
 have henc:∀ y∈l,aD [] (ay y).1=y:=by
  intro y hy
  have hd:=zMG.1 h7 y hy
  unfold da at hd
  simp only[zM4]at hd
  rcases Jq (IV y hy) hd.1.1 with k|k
  ·exact k
  ·have:=Ih y hy;omega
 have hss:∀ s∈l.map (fun y=>(ay y).1),s≠[]∧s≠[46]∧s≠[46,46]:=by
  intro s hs
  obtain⟨y,hy,rfl⟩:=zM6.1 hs
  have hd:=zMG.1 h7 y hy
  unfold da at hd
  simp only[zM4,bne_iff_ne,ne_eq]at hd
  have he:=henc y hy
  refine⟨hd.2,fun k=>(Gd y hy).1 ?_,fun k=>(Gd y hy).2 ?_⟩
  ·rw[← he,k];decide
  ·rw[← he,k];decide
 have hid:l.flatMap bW=(l.map (fun y=>(ay y).1)).flatMap fun s=>58::aP s:=by
  rw[zMZ];rfl
 have hpath:u.path=if l.map (fun y=>(ay y).1)=[] then df else(l.map (fun y=>(ay y).1)).flatMap (fun s=>47::aD [] s)++47::fJ:=by
  rw[if_neg (by intro k;rw[List.map_eq_nil_iff]at k;subst k;simp at h5)]
  rw[e2,zMU,zMZ]
  have:∀ m:List Bytes,(∀ y∈m,aD [] (ay y).1=y)→m.flatMap (fun y=>47::aD [] (ay y).1)=m.flatMap (47::·):=by
   intro m
   induction m with
   | nil=>intro _;rfl
   | cons y m ih =>
     intro hm
     rw[zMC,zMC,ih (fun z hz=>hm z (zMA _ hz)),hm y zME]
  rw[this l henc]
  simp
 rw[hid]at hl ⊢
 exact⟨Az hu h2 h3 hss hpath hl,_,rfl,hl,hss⟩
theorem kP {d c:fQ}(h:eG d=(c,0)):∃ u,fW u∧eS c=(u,0)∧iZ u=(c,0)∧eG c=(c,0)∧bw c=((u.host,u.port),0)∧bd (bC c)=(c,0)∧(∃ r,c.id=bn u++r)∧c.method=fe:=by
 unfold eG at h
 split at h
 ·rename_i h1;exact absurd (zMT.inj h).2 h1
 rename_i h1
 have e:eS d=((eS d).1,0):=by
  have:(eS d).2=0:=by simpa using h1
  rw[← this]
 obtain⟨hu,-⟩:=xK e
 obtain⟨h2,ss,h3,h4,h5⟩:=from_to hu h
 have hw:=Ap hu.host h5 (by rw[← h3];exact h4)
 rw[← h3]at hw
 have hc:Ae c:=by
  have hl:(bC ⟨fe,bn (eS d).1++ss.flatMap fun s=>58::aP s⟩).length≤4096:=by rw[← h3];exact h4
  have:=Ev hu.host h5 hl
  rw[← h3]at this
  exact this
 exact⟨_,hu,h2,h,by unfold eG;rw[h2];simp only[ne_eq,not_true,if_false];exact h,hw.1,Cu hc h4,⟨ss.flatMap fun s=>58::aP s,by rw[h3]⟩,by rw[h3]⟩
open Go Go.RowKit
theorem qY (c:UInt8)(s:Bytes):∃ l,aA c s=(aL c s).1::l:=by
 by_cases hp:pre (·==c) s<s.length
 ·rw[cT hp,show aL c s=(s.take (pre (·==c) s),s.drop (pre (·==c) s+1),true) from if_pos hp]
  exact⟨_,rfl⟩
 ·rw[cC hp,show aL c s=(s,[],false) from if_neg hp]
  exact⟨_,rfl⟩
theorem CD {s:Bytes}(h:(dI s).2=0):PU.bad ∉ aE s:=by
 intro hb
 unfold dI at h
 rw[if_pos hb]at h
 simp at h
theorem wB {d:fQ}(hm:d.method=fe)(h:(bd (bC d)).2=0):d.id.length≤4096∧∀ y∈aA 58 d.id,PU.bad ∉ aE y∧y.length≤4096:=by
 obtain⟨m,i⟩:=d
 simp only at hm
 subst hm
 have ht:bC ⟨fe,i⟩=nS++(fe++58::i):=by simp[bC]
 unfold bd at h
 split at h
 ·simp at h
 rename_i h1
 have hp:nS.isPrefixOf (bC ⟨fe,i⟩)=true:=by rw[ht];exact zNd.2 ⟨_,rfl⟩
 rw[if_neg (by rw[hp];simp),ht,show (nS++(fe++58::i)).drop 4=fe++58::i from rfl]at h
 have hc:aL 58 (fe++58::i)=(fe,i,true):=by
  rw[GI (c:=58) (a:=fe) (58::i) (by decide)]
  rfl
 unfold og at h
 rw[hc]at h
 simp only at h
 rw[if_neg (by simp),if_neg (by decide)]at h
 have h2:(dI i).2=0:=by
  by_cases k:(dI i).2=0
  ·exact k
  ·unfold pI at h
   rw[if_pos k]at h
   exact h
 have hb:=CD h2
 obtain⟨x,l,e1,e2,e3⟩:=oW 58 _ i (zMV _)
 have hu:=(oY l x).1
 rw[← e2]at hu
 have fD:i.length≤4096:=by
  rw[ht]at h1
  simp only[zMD,zMB]at h1
  omega
 refine⟨fD,fun y hy=>⟨fun k=>hb (hu.1 ⟨y,by rw[← e1];exact hy,k⟩),?_⟩⟩
 have:=gR 58 i y hy
 omega
theorem Et {d:fQ}(hm:d.method=fe)(h:(bd (bC d)).2=0):ay (aL 58 d.id).1=(jR (aL 58 d.id).1,0):=by
 obtain⟨h1,h2⟩:=wB hm h
 obtain⟨l,e⟩:=qY 58 d.id
 obtain⟨h3,h4⟩:=h2 (aL 58 d.id).1 (by rw[e];exact zME)
 rw[mg (by omega),if_neg h3]
theorem fH (s:Bytes):(ay s).1.length≤s.length:=by
 unfold ay
 split
 ·simp
 ·split
  ·simp
  ·exact lx s
theorem FC (x:Bytes):(oD x).length≤3 * x.length+1:=by
 have h1:=dB [] (ay x).1
 have h2:=fH x
 unfold oD
 simp only[zMB]
 omega
theorem AK (x:Bytes):(bW x).length≤3 * x.length+1:=by
 have h1:=fT (ay x).1
 have h2:=fH x
 unfold bW
 simp only[zMB]
 omega
theorem E9:∀ l:List Bytes,(l.flatMap oD).length≤3 * l.flatten.length+l.length
 | []=>by simp
 | x::l=>by
   have:=FC x
   have:=E9 l
   simp only[zMC,zMD,zMP,zMB]
   omega
theorem yl:∀ l:List Bytes,(l.flatMap bW).length≤3 * l.flatten.length+l.length
 | []=>by simp
 | x::l=>by
   have:=AK x
   have:=yl l
   simp only[zMC,zMD,zMP,zMB]
   omega
theorem uF (c:UInt8)(s:Bytes):(aA c s).flatten.length+(aA c s).length=s.length+1:=by
 obtain⟨x,l,e1,e2,-⟩:=oW c _ s (zMV _)
 rw[e1]
 conv=>rhs;rw[e2]
 have:∀ l:List Bytes,(l.flatMap (c::·)).length=l.flatten.length+l.length:=by
  intro l
  induction l with
  | nil=>rfl
  | cons y l ih=>simp only[zMC,zMD,zMP,zMB,ih];omega
 simp only[zMP,zMD,zMB,this]
 omega
theorem v7 {d:fQ}(h:(bw d).2=0):aF (aU (bw d).1.1 (bw d).1.2)=(((bw d).1.1,(bw d).1.2),0)∧d.method=fe∧(bd (bC d)).2=0:=by
 unfold bw at h ⊢
 by_cases h1:d.method=fe
 ·rw[if_neg (by simp[h1])]at h ⊢
  by_cases h2:(bd (bC d)).2=0
  ·rw[if_neg (by simp[h2])]at h ⊢
   refine⟨?_,h1,h2⟩
   generalize hX:aF (ay (aL 58 d.id).1).1=X at h ⊢
   obtain⟨⟨x,p⟩,e⟩:=X
   simp only at h ⊢
   subst h
   exact(ck hX).1
  ·rw[if_pos h2]at h
   exact absurd h h2
 ·rw[if_pos h1]at h
  simp at h
theorem Ar {u:cX}(hv:dQ u=true):∃ (T:List Bytes) (z:Bytes),aA 47 u.path=(aL 47 u.path).1::T∧T.getLast? = some z∧0<T.length∧u.path.length≤4096:=by
 have hc:=xE hv
 obtain⟨r,hr⟩:=hc.AH
 have hl:=(im u).1
 have hlen:=hc.len
 obtain⟨T,hT⟩:=qY 47 u.path
 have h0:pre (·==47) (47::r)=0:=by simp[bV]
 have e:aA 47 (47::r)=[]::aA 47 r:=by
  rw[cT (by rw[h0];simp),h0]
  rfl
 have hT2:=hT
 rw[hr,e]at hT2
 have h2:=hY 47 r
 have h3:aA 47 r=T:=(List.cons.inj hT2).2
 have hT0:T≠[]:=by rintro rfl;rw[h3]at h2;simp at h2
 refine⟨T,T.getLast hT0,hT,List.getLast?_eq_some_getLast hT0,List.length_pos_iff.2 hT0,by omega⟩
theorem Ei {u:cX}{c z:Bytes}{T:List Bytes}(hv:dQ u=true)(hT:aA 47 u.path=c::T)(hz:T.getLast? = some z) :
 iZ u=if u.aN=true then(fQ.none,6) else if u.aZ=true then(fQ.none,6) else if (z != fJ)=true then(fQ.none,6) else if T.length=1 then(fQ.none,110) else jQ u T.dropLast:=by
 unfold iZ
 rw[if_neg (by rw[hv];simp),hT,List.tail_cons,hz]
 by_cases h1:u.aN=true
 ·rw[if_pos (.inl h1),if_pos h1]
 rw[if_neg h1]
 by_cases h2:u.aZ=true
 ·rw[if_pos (.inr (.inl h2)),if_pos h2]
 rw[if_neg h2]
 by_cases h3:z=fJ
 ·have hn:¬ (u.aN=true∨u.aZ=true∨some z≠some fJ):=by simp[h1,h2,h3]
  have hm:¬ (z != fJ)=true:=by simp[h3]
  rw[if_neg hn,if_neg hm]
 ·rw[if_pos (.inr (.inr (by simpa using h3))),if_pos (by simpa using h3)]
end Wf
namespace Go.Proofs.YtnmlimehgifadaaGreatDoor
open Go Vc Go.RowKit Wf
def gd:List PU→Bytes × Int
 | []=>([],0)
 | .bad::_=>([],2)
 | .lit c::r=>comb [c] (gd r)
 | .hex a b::r=>comb [unhex a b] (gd r)
theorem qX:∀ l:List PU,gd l=if PU.bad∈l then([],2) else(l.map PU.val,0)
 | []=>rfl
 | .bad::r=>by simp[gd]
 | .lit c::r=>by
   rw[gd,qX r]
   by_cases h:PU.bad∈r
   ·simp[h,comb]
   ·simp[h,comb,PU.val]
 | .hex a b::r=>by
   rw[gd,qX r]
   by_cases h:PU.bad∈r
   ·simp[h,comb]
   ·simp[h,comb,PU.val]
theorem GH (l:List PU):(gd l).2≠0→(gd l).1=[]:=by
 rw[qX]
 split
 ·intro _;rfl
 ·intro h;exact absurd rfl h
def DcI (s:Bytes)(σ:St):Prop:=∃ (i:Nat) (x:SV) (d:Bytes),lk 0 σ.t=some (.str s)∧lk 4 σ.t=some x∧lk 5 σ.t=some (.int .i64 i)∧i≤s.length∧d.length≤i∧Sl 5 1 0 x σ.b (d.map dP) d.length∧comb d (gd (aE (s.drop i)))=gd (aE s)
def DcM (s:Bytes)(σ:St):Nat:=match lk 5 σ.t with
 | some (.int _ k)=>s.length - k.toNat
 | _=>0
theorem JJ {s:Bytes}{σ:St}{k:Nat}(h:lk 5 σ.t=some (.int .i64 k)):DcM s σ=s.length - k:=by simp[DcM,h]
theorem Fg {s:Bytes}{t:List (Nat × SV)}{b:List aw}{i i':Nat}{x:SV}{d:Bytes}(h0:lk 0 t=some (.str s))(h4:lk 4 t=some x)(h5:lk 5 t=some (.int .i64 i'))(h:i'≤s.length∧d.length≤i')(ht:Sl 5 1 0 x b (d.map dP) d.length)
 (hn:comb d (gd (aE (s.drop i')))=gd (aE s)) (aC:i<i'):DcI s ⟨t,b⟩∧DcM s ⟨t,b⟩<s.length - i :=
 ⟨⟨i',x,d,h0,h4,h5,h.1,h.2,ht,hn⟩,by rw[JJ h5];omega⟩
theorem eX (s:Bytes):PC Tryz.V 116 [.str s] (.fF [.str (ay s).1,.int .i64 (ay s).2]):=by
 have hpd:ay s=if 16384<s.length then([],5) else gd (aE s):=by unfold ay;rw[qX]
 rw[hpd]
 refine aV 3000 Tryz.func116 rfl Tryz.ntmps116 Tryz.results116 Tryz.call116 (by simp) (by simp[flat,flat.af]) (by simp[flat,flat.af]) ?_
 refine bo ?_
 refine⟨fun hl=>?_,fun hl=>?_⟩
 ·have hl:16384<s.length:=(by simp at hl;omega)
  rw[if_pos hl]
 have hl:s.length≤16384:=(by simp at hl;omega)
 rw[if_neg (by omega)]
 refine az (DcI s) (DcM s) ⟨0,.ah,[],rfl,rfl,rfl,by omega,by simp,.inl ⟨rfl,rfl,rfl⟩,wm _ (GH _)⟩ ?_
 rintro⟨t,b⟩ ⟨i,x,d,h0,h4,h5,hi,hd,ht,hn⟩
 simp only at h0 h4 h5 ht
 rw[JJ h5]
 by_cases aC:i<s.length
 ·have hu:=oT aC
  have hg:s.getD i 0=s[i]:=by simp[zM9,aC]
  refine gN (zMy h0 (zMy h4 h5)) ?_
  refine⟨fun _=>⟨⟨by omega,by omega⟩,fun hc=>?_,fun hc=>?_⟩,fun h=>absurd h (by simp;omega)⟩
  ·have hc:s[i]=37:=by
    rw[cK (n:=37) aC 37 rfl]at hc
    simpa using hc
   rw[if_pos hc]at hu
   have pe:=sS s i aC hc (by omega)
   cases he:kz s i with
   | none =>
     rw[he]at pe hu
     simp only at hu
     rw[hu]at hn
     have nI:gd (aE s)=([],2):=by rw[← hn];rfl
     rw[nI]
     (refine aa pe ?_;simp only[cq,↓Xn,↓Xo,↓Xg,↓Xd,↓Xe,↓Xf,Tryz.VΓ,Tryz.Γs,Xp,Xi,Nat.reduceAdd,Nat.reduceSub,Nat.reduceLT,Nat.reduceLeDiff,reduceIte,reduceCtorEq,Nat.reduceEqDiff,implies_true,forall_const,cp,h0,h4,h5,Option.isSome_none])
   | some v =>
     rw[he]at pe hu
     have hx:=he
     unfold kz at hx
     obtain⟨⟨a,bb,r⟩,hp,hv⟩:=Option.map_eq_some_iff.1 hx
     simp only at hv
     rw[hp]at hu
     simp only at hu
     have hi3:i+3≤s.length:=by
      obtain⟨h1,-,-⟩:=dh hp
      have:=congrArg List.length h1
      simp at this
      omega
     have mD:comb (d++[v]) (gd (aE (s.drop (i+2+1))))=gd (aE s):=by
      rw[← hn,hu,gd,jv,hv]
     simp only[Option.getD_some,Option.isSome_some]at pe
     (refine aa pe ?_;refine gN (zMy h0 (zMy h4 h5)) ?_)
     (rcases ht with⟨rfl,kU,ye⟩|⟨j,rfl,mM,hj⟩
      ·obtain rfl:d=[]:=by simpa using kU
       refine gN (zMy h0 (zMy h4 (zMy h5 (zMy hg @aO)))) ?_
       refine⟨⟨by omega,by omega⟩,by omega,⟨by unfold maxLen;omega,by omega⟩,⟨by omega,by omega⟩,Fg (i':=i+2+1) (x:=.o (b++[aw.own [dP (v)] 5 1 1 true]).length 1) (d:=[]++[v]) h0 rfl (by simp only[lk,reduceIte,zMW.injEq,SV.int.injEq,true_and];omega) ⟨by omega,by simp only[zMX,zMB,zMH];omega⟩ (.inr ⟨_,rfl,by omega,aO _ _⟩) (mD) (by omega)⟩
      ·have iG:j<b.length:=(zMz.1 hj).1
       have ho:∀ X,(b++[X])[j]? = some (.own (d.map dP) 5 1 d.length true):=fun X=>ad hj [X]
       refine gN (zMy h0 (zMy h4 (zMy h5 (zMy hg (zMy @aO ho))))) ?_
       refine⟨⟨by omega,by omega⟩,by omega,⟨by unfold maxLen;omega,by omega⟩,⟨by omega,by omega⟩,Fg (i':=i+2+1) (x:=.o (b++[aw.own [dP (v)] 5 1 1 true]).length (d.length+1)) (d:=d++[v]) h0 rfl (by simp only[lk,reduceIte,zMW.injEq,SV.int.injEq,true_and];omega) ⟨by omega,by simp;omega⟩ (.inr ⟨(b++[aw.own [dP (v)] 5 1 1 true]).length,by simp,by omega,by rw[zMO (by simp)];simp[dP]⟩) (mD) (by omega)⟩)
  ·have hc:¬ s[i]=37:=by
    rw[cK (n:=37) aC 37 rfl]at hc
    simpa using hc
   rw[if_neg hc]at hu
   rw[hu,gd,jv]at hn
   rw[hg]
   (rcases ht with⟨rfl,kU,ye⟩|⟨j,rfl,mM,hj⟩
    ·obtain rfl:d=[]:=by simpa using kU
     refine gN (zMy h0 (zMy h4 (zMy h5 (zMy hg @aO)))) ?_
     refine⟨ by omega,⟨by unfold maxLen;omega,by omega⟩,⟨by omega,by omega⟩,Fg (i':=i+1) (x:=.o (b++[aw.own [dP (s[i])] 5 1 1 true]).length 1) (d:=[]++[s[i]]) h0 rfl (by simp only[lk,reduceIte,zMW.injEq,SV.int.injEq,true_and];omega) ⟨by omega,by simp only[zMX,zMB,zMH];omega⟩ (.inr ⟨_,rfl,by omega,aO _ _⟩) (hn) (by omega)⟩
    ·have iG:j<b.length:=(zMz.1 hj).1
     have ho:∀ X,(b++[X])[j]? = some (.own (d.map dP) 5 1 d.length true):=fun X=>ad hj [X]
     refine gN (zMy h0 (zMy h4 (zMy h5 (zMy hg (zMy @aO ho))))) ?_
     refine⟨ by omega,⟨by unfold maxLen;omega,by omega⟩,⟨by omega,by omega⟩,Fg (i':=i+1) (x:=.o (b++[aw.own [dP (s[i])] 5 1 1 true]).length (d.length+1)) (d:=d++[s[i]]) h0 rfl (by simp only[lk,reduceIte,zMW.injEq,SV.int.injEq,true_and];omega) ⟨by omega,by simp;omega⟩ (.inr ⟨(b++[aw.own [dP (s[i])] 5 1 1 true]).length,by simp,by omega,by rw[zMO (by simp)];simp[dP]⟩) (hn) (by omega)⟩)
 ·have j4:i=s.length:=by omega
  subst j4
  rw[List.drop_length,eO]at hn
  have nI:gd (aE s)=(d,0):=by rw[← hn];simp[gd,comb]
  rw[nI]
  rcases ht with⟨rfl,kU,ye⟩|⟨j,rfl,mM,hj⟩
  ·obtain rfl:d=[]:=by simpa using kU
   refine gN (zMy h0 (zMy h4 h5)) ?_
   exact fun h=>absurd h (by simp)
  ·refine gN (zMy h0 (zMy h4 (zMy h5 hj))) ?_
   refine⟨fun h=>absurd h (by simp),fun _=>⟨eK d,?_⟩⟩
   rw[jy]
theorem Jo {keep s:Bytes}{i:Nat}(h:i<s.length):aD keep (s.take (i+1))=aD keep (s.take i)++lr keep s[i]:=by
 unfold aD
 rw[zMN h,zMU,zMC,zMY,zMI]
theorem sub_one {s:Bytes}{i:Nat}(h:i<s.length):(s.take (i+1)).drop i=[s[i]]:=by
 rw[zMN h]
 exact List.drop_left' (by simp;omega)
def ReI (keep s:Bytes)(σ:St):Prop:=∃ i:Nat,i≤s.length∧lk 0 σ.t=some (.str s)∧lk 1 σ.t=some (.str keep)∧lk 5 σ.t=some (.str (aD keep (s.take i)))∧lk 6 σ.t=some (.int .i64 i)
def ReM (s:Bytes)(σ:St):Nat:=match lk 6 σ.t with
 | some (.int _ k)=>s.length - k.toNat
 | _=>0
theorem JG {s:Bytes}{σ:St}{k:Nat}(h:lk 6 σ.t=some (.int .i64 k)):ReM s σ=s.length - k:=by simp[ReM,h]
theorem zR (keep s:Bytes)(i:Nat):(aD keep (s.take i)).length≤3 * s.length:=by
 have:=dB keep (s.take i)
 have:(s.take i).length≤s.length:=by simp;omega
 omega
theorem EF {keep s:Bytes}{t:List (Nat × SV)}{b:List aw}{i:Nat}(hi:i<s.length)(h0:lk 0 t=some (.str s))(h1:lk 1 t=some (.str keep))(h5:lk 5 t=some (.str (aD keep (s.take i)++lr keep s[i])))(h6:lk 6 t=some (.int .i64 (i+1:Nat))):ReI keep s ⟨t,b⟩∧ReM s ⟨t,b⟩<s.length - i :=
 ⟨⟨i+1,by omega,h0,h1,by rw[Jo hi];exact h5,h6⟩,by rw[JG h6];omega⟩
theorem kg (s keep:Bytes)(hs:s.length≤1000000)(hk:keep.length≤1000):PC Tryz.V 119 [.str s,.str keep] (.str (aD keep s)):=by
 refine aV 3000 Tryz.func119 rfl Tryz.ntmps119 Tryz.results119 Tryz.call119 (by simp) (by simp[flat,flat.af]) (by simp[flat,flat.af]) ?_
 refine bo ?_
 refine az (ReI keep s) (ReM s) ⟨0,by omega,rfl,rfl,rfl,rfl⟩ ?_
 rintro⟨t,b⟩ ⟨i,hi,h0,h1,h5,h6⟩
 simp only at h0 h1 h5 h6
 rw[JG h6]
 have C7:=zR keep s i
 by_cases aC:i<s.length
 ·have hg:s.getD i 0=s[i]:=by simp[zM9,aC]
  have hnat:((s[i].toNat:Int) != 37)=(s[i] != 37):=by
   have h:=cK (s:=s) aC 37 (n:=37) rfl
   rw[hg]at h
   show (!((s[i].toNat:Int)==37))=!(s[i]==37)
   rw[h]
  have hb:lr keep s[i]=if fE s[i]||(s[i] != 37&&keep.contains s[i]) then [s[i]] else kN s[i]:=rfl
  refine gN (zMy h0 (zMy h1 (zMy h5 h6))) ?_
  refine⟨fun _=>⟨⟨by omega,by omega⟩,?_⟩,fun h=>absurd h (by simp;omega)⟩
  rw[hg]
  (refine aa (du s[i]) ?_;refine gN (zMy h0 (zMy h1 (zMy h5 (zMy h6 hg)))) ?_)
  refine⟨fun hq=>⟨⟨by omega,by omega⟩,fun sb=>⟨⟨by omega,by omega⟩,?_⟩,fun sb=>⟨⟨by omega,by omega⟩,?_⟩⟩,fun hq=>?_⟩
  ·have e2:List.contains keep s[i]=false→lr keep s[i]=kN s[i]:=fun tg=>by rw[hb,hq,tg];simp
   have e1:List.contains keep s[i]=true→lr keep s[i]=(s.take (i+1)).drop i:=fun tg=>by rw[hb,tg,← hnat,sb,sub_one aC];simp
   (refine aa (iS s[i] keep (by omega)) ?_;refine gN (zMy h0 (zMy h1 (zMy h5 (zMy h6 hg)))) ?_)
   refine⟨fun tg=>⟨⟨by omega,by omega⟩,⟨by omega,by omega,by omega⟩,by rw[sub_one aC,List.length_singleton];omega,⟨by omega,by omega⟩,EF aC h0 h1 (by rw[e1 tg];rfl) (by simp only[lk,reduceIte,zMW.injEq,SV.int.injEq,true_and];omega)⟩,fun tg=>⟨⟨by omega,by omega⟩,?_⟩⟩
   (refine aa (kf s[i]) ?_;refine gN (zMy h0 (zMy h1 (zMy h5 (zMy h6 hg)))) ?_)
   exact⟨by rw[show (kN s[i]).length=3 from rfl];omega,⟨by omega,by omega⟩,EF aC h0 h1 (by rw[e2 tg];rfl) (by simp only[lk,reduceIte,zMW.injEq,SV.int.injEq,true_and];omega)⟩
  ·have e2:lr keep s[i]=kN s[i]:=by rw[hb,hq,← hnat,sb];simp
   (refine aa (kf s[i]) ?_;refine gN (zMy h0 (zMy h1 (zMy h5 (zMy h6 hg)))) ?_)
   exact⟨by rw[show (kN s[i]).length=3 from rfl];omega,⟨by omega,by omega⟩,EF aC h0 h1 (by rw[e2];rfl) (by simp only[lk,reduceIte,zMW.injEq,SV.int.injEq,true_and];omega)⟩
  ·have e1:lr keep s[i]=(s.take (i+1)).drop i:=by rw[hb,hq,sub_one aC];simp
   exact⟨⟨by omega,by omega⟩,⟨by omega,by omega,by omega⟩,by rw[sub_one aC,List.length_singleton];omega,⟨by omega,by omega⟩,EF aC h0 h1 (by rw[e1];rfl) (by simp only[lk,reduceIte,zMW.injEq,SV.int.injEq,true_and];omega)⟩
 ·have j4:i=s.length:=by omega
  subst j4
  rw[zMM]at h5
  refine gN (zMy h0 (zMy h1 (zMy h5 h6))) ?_
  exact fun h=>absurd h (by simp)
end Go.Proofs.YtnmlimehgifadaaGreatDoor
namespace Wf
open Go Go.RowKit
structure lD where
 loc:Bytes
 host:Bytes
 deriving DecidableEq
def lD.none:lD:=⟨[],[]⟩
def atomS:Bytes:=[33,35,36,37,38,39,42,43,45,47,61,63,94,95,96,123,124,125,126]
def CJ (c:UInt8):Bool:=isAlpha c||isDigit c||atomS.contains c
def mo (s:Bytes):Bool:=!s.isEmpty&&s.all CJ
def n9 (s:Bytes):Bool:=(aA 46 s).all mo&&decide (s.length≤64)
def kj:Bytes:=[109,97,105,108,116,111,58]
def mC:Bytes:=[33,36,39,42,43]
def EU:Bytes:=[37,33,36,39,42,43]
def kI (c:UInt8):Bool:=fE c||EU.contains c
def zx (l:Bytes × Int)(h:Bytes × Int):lD × Int :=
 if l.2≠0 then(lD.none,l.2)
 else if n9 l.1=false then(lD.none,80)
 else if h.2≠0 then(lD.none,h.2)
 else if ipv4 h.1=true then(lD.none,50)
 else(⟨l.1,h.1⟩,0)
def qE (s:Bytes):lD × Int :=
 if (aL 64 s).2.2=false∨(63:UInt8)∈s∨(35:UInt8)∈s then(lD.none,6)
 else if (aL 64 s).1.all kI=false then(lD.none,1)
 else zx (ay (aL 64 s).1) (bF (aL 64 s).2.1)
def bQ (s:Bytes):lD × Int :=
 if 4096<s.length then(lD.none,5)
 else if s.length<7∨lower (s.take 7)≠kj then(lD.none,60)
 else qE (s.drop 7)
def dF (m:lD):Bytes:=kj++aD mC m.loc++[64]++m.host
theorem GD (s:Bytes):∀ c∈aD mC s,kI c=true∧c≠64∧c≠63∧c≠35:=by
 intro c hc
 obtain⟨d,-,hd⟩:=zM5.1 hc
 have h1:=cW (p:=fun d=>(lr mC d).all fun c=>kI c&&c != 64&&c != 63&&c != 35) (by decide +kernel) d
 have:=zMG.1 h1 c hd
 simpa[and_assoc] using this
theorem nE {s:Bytes}(h:n9 s=true):s.length≤64:=by
 unfold n9 at h
 simp only[zM4,decide_eq_true_eq]at h
 exact h.2
structure Fk (m:lD):Prop where
 loc:n9 m.loc=true
 host:bF m.host=(m.host,0)
 no:ipv4 m.host=false
theorem BB {s:Bytes}{m:lD}(h:bQ s=(m,0)):Fk m:=by
 unfold bQ at h
 split at h
 ·simp at h
 split at h
 ·simp at h
 unfold qE at h
 split at h
 ·simp at h
 split at h
 ·simp at h
 unfold zx at h
 split at h
 ·rename_i h5;exact absurd (zMT.inj h).2 h5
 split at h
 ·simp at h
 rename_i h6
 split at h
 ·rename_i h5;exact absurd (zMT.inj h).2 h5
 split at h
 ·simp at h
 rename_i h7 h8
 simp only[zMT.injEq,and_true]at h
 subst h
 have e:bF (aL 64 (s.drop 7)).2.1=((bF (aL 64 (s.drop 7)).2.1).1,0):=by
  have:(bF (aL 64 (s.drop 7)).2.1).2=0:=by simpa using h7
  rw[← this]
 exact⟨by simpa using h6,(jJ e).2.2,by simpa using h8⟩
theorem FV {m:lD}(h:Fk m):bQ (dF m)=(m,0):=by
 have e1:(dF m).take 7=kj:=rfl
 have e2:(dF m).drop 7=aD mC m.loc++64::m.host:=by show aD mC m.loc++[64]++m.host=_;simp
 have l7:7≤(dF m).length:=by simp[dF,kj]
 have h1:=dB mC m.loc
 have h2:=nE h.loc
 have h3:=(jJ h.host).2.1
 have hl:(dF m).length≤4096:=by simp[dF,kj];omega
 have hb:=GD m.loc
 have hh:=kv h.host
 have nh:∀ c∈m.host,c≠63∧c≠35:=by
  intro c hc
  have:=cW (p:=fun c=>!(ua c||c==46)||(c != 63&&c != 35)) (by decide +kernel) c
  have h2:(ua c||c==46)=true:=by rcases hh c hc with h|rfl <;> simp[*]
  rw[h2]at this
  simpa using this
 unfold bQ
 rw[if_neg (by omega),if_neg (by rw[e1,show lower kj=kj by decide];simp;omega),e2]
 unfold qE
 rw[gg (dS (fun k=>(hb _ k).2.1 rfl))]
 simp only
 rw[if_neg ?_,if_neg ?_,rK mC m.loc (by omega),h.host]
 ·unfold zx
  rw[if_neg (by simp),if_neg (by simp[h.loc]),if_neg (by simp),if_neg (by simp[h.no])]
 ·have:(aD mC m.loc).all kI=true:=zMG.2 fun c hc=>(hb c hc).1
  rw[this];simp
 ·simp only[zMR,zML,not_or,reduceCtorEq,not_false_eq_true,true_and,Bool.true_eq_false]
  exact⟨⟨fun k=>(hb _ k).2.2.1 rfl,by decide,fun k=>(nh _ k).1 rfl⟩,fun k=>(hb _ k).2.2.2 rfl,by decide,fun k=>(nh _ k).2 rfl⟩
end Wf
namespace Go.Proofs.YtnmlimehgifadaaGreatDoor
open Go Vc Go.RowKit Wf
theorem sH {c:UInt8}{s:Bytes}{a i:Nat}(hi:i<s.length)(ha:a≤i)(hp:i - a≤pre (·==c) (s.drop a))(hc:s[i]=c):aA c (s.drop a)=(s.take i).drop a::aA c (s.drop (i+1)):=by
 have dM:pre (·==c) (s.drop a)=i - a:=by
  apply Nat.le_antisymm _ hp
  apply Nat.le_of_not_lt
  intro aC
  have:=ib (p:=(·==c)) (l:=s.drop a) (k:=i - a) aC (by simp;omega)
  simp[show a+(i - a)=i by omega,hc]at this
 rw[cT (by rw[dM,zNb];omega),dM,List.drop_drop,List.drop_take,show a+(i - a+1)=i+1 by omega]
theorem xR {c:UInt8}{s:Bytes}{a i:Nat}(hi:i<s.length)(ha:a≤i)(hp:i - a≤pre (·==c) (s.drop a))(hc:s[i]≠c):i+1 - a≤pre (·==c) (s.drop a):=by
 apply Nat.le_of_not_lt
 intro aC
 have dM:pre (·==c) (s.drop a)=i - a:=by omega
 have:=gr (p:=(·==c)) (l:=s.drop a) (by rw[dM,zNb];omega)
 simp[dM,show a+(i - a)=i by omega]at this
 exact hc this
def SplI (bs:List aw)(s:Bytes)(c:UInt8)(σ:St):Prop:=∃ (i a:Nat) (x:SV) (dn:List Bytes),lk 0 σ.t=some (.str s)∧lk 1 σ.t=some (.int .u8 c.toNat)∧lk 5 σ.t=some x∧lk 6 σ.t=some (.int .i64 a)∧lk 7 σ.t=some (.int .i64 i) ∧
 a≤i∧i≤s.length∧dn.length≤a∧i - a≤pre (·==c) (s.drop a)∧dn++aA c (s.drop a)=aA c s∧Sl 9 1 bs.length x σ.b (dn.map SV.str) dn.length∧Kp bs σ.b
def SplM (s:Bytes)(σ:St):Nat:=match lk 7 σ.t with
 | some (.int _ k)=>s.length - k.toNat
 | _=>0
theorem Fj {s:Bytes}{σ:St}{k:Nat}(h:lk 7 σ.t=some (.int .i64 k)):SplM s σ=s.length - k:=by simp[SplM,h]
theorem yH {bs b:List aw}{s:Bytes}{c:UInt8}{t:List (Nat × SV)}{i i' a:Nat}{x:SV}{dn:List Bytes}(h0:lk 0 t=some (.str s))(h1:lk 1 t=some (.int .u8 c.toNat))(h5:lk 5 t=some x)(h6:lk 6 t=some (.int .i64 a))(h7:lk 7 t=some (.int .i64 i'))
 (h:a≤i'∧i'≤s.length∧dn.length≤a∧i' - a≤pre (·==c) (s.drop a)) (rX:dn++aA c (s.drop a)=aA c s) (oq:Sl 9 1 bs.length x b (dn.map SV.str) dn.length) (bf:Kp bs b) (aC:i<i'):SplI bs s c ⟨t,b⟩∧SplM s ⟨t,b⟩<s.length - i :=
 ⟨⟨i',a,x,dn,h0,h1,h5,h6,h7,h.1,h.2.1,h.2.2.1,h.2.2.2,rX,oq,bf⟩,by rw[Fj h7];omega⟩
theorem qi {bs:List aw}(s:Bytes)(c:UInt8)(hs:s.length≤1000000) :
 SC Tryz.V 126 [.str s,.int .u8 c.toNat] bs (fun r b=>∃ j,r=.o j (aA c s).length∧bs.length≤j∧b[j]? = some (.own ((aA c s).map SV.str) 9 1 (aA c s).length true)∧Kp bs b):=by
 refine bJ 3000 Tryz.func126 rfl Tryz.ntmps126 Tryz.results126 Tryz.call126 (by simp) (aj bs.length _ (by simp[within,within.ax])) ?_
 refine bo ?_
 refine az (SplI bs s c) (SplM s) ⟨0,0,.ah,[],rfl,rfl,rfl,rfl,rfl,by simp,by simp,by simp,by simp,by simp,.inl ⟨rfl,rfl,rfl⟩,Kp.refl _⟩ ?_
 rintro⟨t,b⟩ ⟨i,a,x,dn,h0,h1,h5,h6,h7,hai,his,hda,hp,rX,oq,bf⟩
 simp only at h0 h1 h5 h6 h7 oq bf
 rw[Fj h7]
 rcases oq with⟨rfl,kU,hda0⟩|⟨j,rfl,mM,hj⟩
 ·obtain rfl:dn=[]:=by simpa using kU
  refine gN (zMy h0 (zMy h1 (zMy h5 (zMy h6 (zMy h7 @aO))))) ?_
  refine⟨fun hc=>?_,fun hc=>?_⟩
  ·have hi:i<s.length:=by simpa using hc
   refine⟨⟨by omega,by omega⟩,fun hq=>⟨⟨by omega,by omega,by omega⟩,by omega,⟨by unfold maxLen;omega,by omega⟩,⟨by omega,by omega⟩,⟨by omega,by omega⟩,?_⟩,fun hq=>⟨⟨by omega,by omega⟩,?_⟩⟩
   ·rw[cK hi c rfl]at hq
    have jn:=sH hi hai hp (by simpa using hq)
    refine yH (i':=i+1) (a:=i+1) (dn:=[(s.take i).drop a]) h0 h1 (by simp[lk]) rfl rfl ⟨by omega,by omega,by simp,by omega⟩ ?_ (.inr ⟨(b++[aw.own [.str ((s.take i).drop a)] 9 1 1 true]).length,rfl,?_,aO _ _⟩) ((bf.app _).app _) (by omega)
    ·rw[← rX,jn];simp
    ·have:=bf.1;simp;omega
   ·rw[cK hi c rfl]at hq
    exact yH (i':=i+1) (dn:=[]) h0 h1 h5 h6 rfl ⟨by omega,by omega,by simp,xR hi hai hp (by simpa using hq)⟩ rX (.inl ⟨rfl,rfl,rfl⟩) bf (by omega)
  ·have hi:i=s.length:=by simp at hc;omega
   refine⟨⟨by omega,by omega⟩,by omega,⟨by unfold maxLen;omega,by omega⟩,?_⟩
   have hms:aA c s=[s.drop a]:=by
    rw[← rX,cC (by rw[zNb];omega)];rfl
   rw[hms]
   refine⟨(b++[aw.own [.str (s.drop a)] 9 1 1 true]).length,rfl,?_,aO _ _,(bf.app _).app _⟩
   have:=bf.1;simp;omega
 ·have h2:∀ X,(b++[X])[j]? = some (.own (dn.map SV.str) 9 1 dn.length true):=fun X=>ad hj _
  refine gN (zMy h0 (zMy h1 (zMy h5 (zMy h6 (zMy h7 (zMy @aO h2)))))) ?_
  have iG:j<b.length:=(zMz.1 hj).1
  refine⟨fun hc=>?_,fun hc=>?_⟩
  ·have hi:i<s.length:=by simpa using hc
   refine⟨⟨by omega,by omega⟩,fun hq=>⟨⟨by omega,by omega,by omega⟩,by omega,⟨by unfold maxLen;omega,by omega⟩,⟨by omega,by omega⟩,⟨by omega,by omega⟩,?_⟩,fun hq=>⟨⟨by omega,by omega⟩,?_⟩⟩
   ·rw[cK hi c rfl]at hq
    have jn:=sH hi hai hp (by simpa using hq)
    refine yH (i':=i+1) (a:=i+1) (dn:=dn++[(s.take i).drop a]) h0 h1 (by simp[lk];rfl) rfl rfl ⟨by omega,by omega,by simp;omega,by omega⟩ ?_ (.inr ⟨(b++[aw.own [.str ((s.take i).drop a)] 9 1 1 true]).length,by simp,?_,?_⟩) (((bf.app _).set mM _).app _) (by omega)
    ·rw[← rX,jn];simp
    ·have:=bf.1;simp;omega
    ·rw[zMO (by simp)];simp
   ·rw[cK hi c rfl]at hq
    exact yH (i':=i+1) (dn:=dn) h0 h1 h5 h6 rfl ⟨by omega,by omega,hda,xR hi hai hp (by simpa using hq)⟩ rX (.inr ⟨j,rfl,mM,hj⟩) bf (by omega)
  ·have hi:i=s.length:=by simp at hc;omega
   refine⟨⟨by omega,by omega⟩,by omega,⟨by unfold maxLen;omega,by omega⟩,?_⟩
   have hms:aA c s=dn++[s.drop a]:=by
    rw[← rX,cC (c:=c) (s:=s.drop a) (by rw[zNb];omega)]
   rw[hms]
   refine⟨(b++[aw.own [.str (s.drop a)] 9 1 1 true]).length,by simp,?_,?_,((bf.app _).set mM _).app _⟩
   ·have:=bf.1;simp;omega
   ·rw[zMO (by simp)];simp
def msv (m:lD):SV:=.agg [.str m.loc,.str m.host]
theorem Bo (s:Bytes)(hs:s.length≤1000000000):PC Tryz.V 118 [.str s] (.bool (ipv4 s)) :=
 ⟨Tryz.call118,by simp[flat,flat.af],by simp[flat,flat.af],fun w hE=>(iR s w hs).mono fun _ _ ⟨h,k⟩=>⟨h,k⟩⟩
theorem any_mem (s:Bytes)(a c:UInt8):decide (0≤Lib.indexAny s [a,c])=decide (a∈s∨c∈s):=by
 rw[lX]
 by_cases h:pre ([a,c].contains ·) s<s.length
 ·rw[if_pos h]
  have h1:=gr h
  have h2:s[pre ([a,c].contains ·) s]∈s:=zMJ h
  have h3:s[pre ([a,c].contains ·) s]=a∨s[pre ([a,c].contains ·) s]=c:=by simpa using h1
  simp only[Int.natCast_nonneg,decide_true]
  symm
  exact decide_eq_true (by rcases h3 with e|e <;> rw[e]at h2 <;> simp[h2])
 ·rw[if_neg h]
  simp only[show ¬ (0:Int)≤-1 by omega,decide_false]
  symm
  refine decide_eq_false ?_
  intro k
  have hle:=cw ([a,c].contains ·) s
  have:∀ d∈s,[a,c].contains d=false:=by
   intro d hd
   obtain⟨j,hj,rfl⟩:=zNf hd
   exact ib (p:=([a,c].contains ·)) (k:=j) (by omega) hj
  rcases k with k|k
  ·have:=this _ k;simp at this
  ·have:=this _ k;simp at this
theorem FJ (c:UInt8):PC Tryz.V 187 [.int .u8 c.toNat] (.bool (CJ c)):=by
 refine aV 3000 Tryz.func187 rfl Tryz.ntmps187 Tryz.results187 Tryz.call187 (by simp) (by simp[flat,flat.af]) (by simp[flat,flat.af]) ?_
 refine bo ?_
 (refine aa (gv c) ?_;refine bo ?_)
 unfold CJ
 refine⟨fun h=>?_,fun h=>by rw[h];rfl⟩
 (refine aa (fk c) ?_;refine bo ?_)
 rw[h]
 refine⟨fun h2=>?_,fun h2=>by rw[h2];rfl⟩
 (refine aa (iS c atomS (by decide)) ?_;refine bo ?_)
 rw[h2];rfl
theorem DI (s:Bytes):PC Tryz.V 117 [.str s] (.bool (n9 s)):=by
 refine aV 3000 Tryz.func117 rfl Tryz.ntmps117 Tryz.results117 Tryz.call117 (by simp) (by simp[flat,flat.af]) (by simp[flat,flat.af]) ?_
 refine bo ?_
 unfold n9
 refine⟨fun bt=>⟨fun hl=>?_,fun hl=>?_⟩,fun bt=>?_⟩
 ·have hl:¬ s.length≤64:=(by simp at hl;omega)
  rw[decide_eq_false hl,Bool.and_false]
 ·have hl:s.length≤64:=(by simp at hl;omega)
  rw[decide_eq_true hl,Bool.and_true]
  have oq:=gR 46 s
  refine ae (qi s 46 (by omega)) ?_
  rintro r b ⟨j,rfl,mM,hj,bf⟩
  have hct:=hY 46 s
  have hcc:=List.count_le_length (a:=(46:UInt8)) (l:=s)
  generalize aA 46 s=L at *
  simp only at mM hj bf
  refine gN hj ?_
  refine az (fun σ=>∃ k:Nat,k≤L.length∧lk 14 σ.t=some (.o j L.length)∧lk 15 σ.t=some (.int .i64 L.length)∧lk 16 σ.t=some (.int .i64 k)∧σ.b[j]? = some (.own (L.map SV.str) 9 1 L.length true)∧(L.take k).all mo=true) (fun σ=>L.length - fC 16 σ) ⟨0,by omega,rfl,rfl,rfl,hj,rfl⟩ ?_
  rintro⟨t,b⟩ ⟨k,hk,sd,wK,h16,hb,cV⟩
  simp only at sd wK h16 hb
  rw[ao h16]
  by_cases aC:k<L.length
  ·have jP:(L.map SV.str)[k * 1]? = some (.str L[k]):=by simp[aC]
   have mL:=oq L[k] (zMJ aC)
   generalize hx:L[k]=x at *
   have zF:mo x=false→L.all mo=false:=fun h=>by
    rw[← Bool.not_eq_true]
    intro h2
    have:=zMG.1 h2 x (hx ▸ zMJ aC)
    rw[h]at this;cases this
   refine gN (zMy sd (zMy wK (zMy h16 (zMy hb jP)))) ?_
   refine⟨fun _=>⟨⟨by omega,by omega⟩,by simp;omega,fun hn=>?_,fun hn=>?_⟩,fun h=>absurd h (by simp;omega)⟩
   ·have hn:x=[]:=by simpa using hn
    rw[zF (by rw[hn];rfl)]
   have hn:x.isEmpty=false:=by cases x <;> simp at hn ⊢
   refine az (fun σ=>∃ i:Nat,i≤x.length∧lk 4 σ.t=some (.str x)∧lk 5 σ.t=some (.int .i64 i)∧lk 14 σ.t=some (.o j L.length)∧lk 15 σ.t=some (.int .i64 L.length)∧lk 16 σ.t=some (.int .i64 k)∧σ.b[j]? = some (.own (L.map SV.str) 9 1 L.length true)∧(x.take i).all CJ=true) (fun σ=>x.length - fC 5 σ) ⟨0,by omega,rfl,rfl,sd,wK,h16,hb,rfl⟩ ?_
   rintro⟨t',b'⟩ ⟨i,hi,g4,g5,g14,g15,g16,gb,iH⟩
   simp only at g4 g5 g14 g15 g16 gb
   rw[ao g5]
   by_cases fD:i<x.length
   ·have hg:x.getD i 0=x[i]:=by simp[zM9,fD]
    refine gN (zMy g4 (zMy g5 (zMy g14 (zMy g15 (zMy g16 (zMy gb hg)))))) ?_
    refine⟨fun _=>⟨⟨by omega,by omega⟩,?_⟩,fun h=>absurd h (by simp;omega)⟩
    (refine aa (FJ x[i]) ?_;refine gN (zMy g4 (zMy g5 (zMy g14 (zMy g15 (zMy g16 (zMy gb hg)))))) ?_)
    refine⟨fun ha=>?_,fun ha=>⟨⟨by omega,by omega⟩,⟨i+1,by omega,rfl,aX fD iH (by simpa using ha)⟩,?_⟩⟩
    ·have ha:CJ x[i]=false:=by simpa using ha
     rw[zF (by unfold mo;rw[dj fD ha,Bool.and_false])]
    ·rw[ao (k:=.i64) (n:=(i:Int)+1) rfl];omega
   ·have j4:i=x.length:=by omega
    subst j4
    rw[zMM]at iH
    have hax:mo x=true:=by unfold mo;rw[hn,iH];rfl
    refine gN (zMy g4 (zMy g5 (zMy g14 (zMy g15 (zMy g16 gb))))) ?_
    refine⟨fun h=>absurd h (by simp),fun _=>⟨⟨by omega,by omega⟩,⟨k+1,by omega,rfl,aX aC cV (by rw[hx];exact hax)⟩,?_⟩⟩
    rw[ao (k:=.i64) (n:=(k:Int)+1) rfl];omega
  ·have j4:k=L.length:=by omega
   subst j4
   rw[zMM]at cV
   refine gN (zMy sd (zMy wK (zMy h16 hb))) ?_
   exact⟨fun h=>absurd h (by simp),fun _=>by rw[cV]⟩
 ·have bt:s=[]:=by simpa using bt
  subst bt;rfl
def mH (d:fQ):SV:=.agg [.str d.method,.str d.id]
def dusv (u:DidUrl):SV:=.agg [.str u.did.method,.str u.did.id,.str u.path,.str u.query,.str u.fragment,.bool u.aN,.bool u.aZ]
theorem pb (c:UInt8)(h:isDigit c=false):iT c=(decide (97≤c.toNat)&&decide (c.toNat≤122)):=by
 unfold iT;rw[h];simp[Bool.decide_and]
def jh (d:fQ):Prop:=d.method.length≤140737488355328∧d.id.length≤140737488355328
theorem tx (d:fQ):(bC d).length=d.method.length+d.id.length+5:=by simp[bC,nS];omega
theorem kD:∀ (f:Nat)(s:Bytes),(bL f s).length≤f
 | 0,_=>by simp[bL]
 | f+1,[]=>by simp[bL]
 | f+1,c::r=>by
   rw[bL]
   split
   ·split
    ·have:=kD f (by assumption);simp;omega
    ·simp
   ·have:=kD f r;simp;omega
theorem F8 (s:Bytes):(bF s).1.length≤s.length:=by
 unfold bF
 split
 ·simp
 split
 ·simp
 split
 ·simp
 ·simp only[fm];omega
theorem dec_len (s:Bytes):(ay s).1.length≤s.length:=by
 unfold ay
 split
 ·simp
 split
 ·simp
 ·have:=kD s.length s
  simpa[aE] using this
theorem Bk (m:lD)(h:m.loc.length≤300000∧m.host.length≤140737488355328):PC Tryz.V 64 [msv m] (.str (dF m)):=by
 have pe:=kg m.loc mC (by omega) (by decide)
 have hl:=dB mC m.loc
 refine aV 3000 Tryz.func64 rfl Tryz.ntmps64 Tryz.results64 Tryz.call64 (by simp) (by simp[flat,flat.af,msv]) (by simp[flat,flat.af,msv]) ?_
 unfold msv
 refine bo ?_
 (refine aW (pe) ?_;refine bo ?_)
 exact⟨by omega,by omega,by simp only[zMD,zMB,zMH];omega,(av (by kernel_rfl)),by simp[dF,kj]⟩
theorem pre_set (s:Bytes):pre ([63,35].contains ·) s<s.length↔((63:UInt8)∈s∨(35:UInt8)∈s):=by
 have h:=any_mem s 63 35
 rw[lX]at h
 by_cases k:pre ([63,35].contains ·) s<s.length
 ·rw[if_pos k]at h
  have:decide ((63:UInt8)∈s∨(35:UInt8)∈s)=true:=by rw[← h];simp
  exact⟨fun _=>of_decide_eq_true this,fun _=>k⟩
 ·rw[if_neg k]at h
  have:decide ((63:UInt8)∈s∨(35:UInt8)∈s)=false:=by rw[← h];rfl
  exact⟨fun h=>absurd h k,fun h=>absurd h (of_decide_eq_false this)⟩
theorem DH (s:Bytes):PC Tryz.V 63 [.str s] (.fF [msv (bQ s).1,.int .i64 (bQ s).2]):=by
 have pe:=gV (s.take 7) kj (by simp;omega) (by decide)
 rw[show lower kj=kj by decide]at pe
 refine aV 3000 Tryz.func63 rfl Tryz.ntmps63 Tryz.results63 Tryz.call63 (by simp) (by simp[flat,flat.af]) (by simp[flat,flat.af,msv]) ?_
 refine bo ?_
 unfold bQ
 refine⟨fun h=>?_,fun h=>⟨fun h2=>⟨⟨by omega,(by simp at h2;omega)⟩,?_⟩,fun h2=>?_⟩⟩
 ·have h:4096<s.length:=(by simp at h;omega)
  rw[if_pos h];rfl
 ·have h:¬ 4096<s.length:=(by simp at h;omega)
  have h2:¬ s.length<7:=(by simp at h2;omega)
  rw[if_neg h]
  (refine aa pe ?_;simp only[cq,↓Xn,↓Xo,↓Xg,↓Xd,↓Xe,↓Xf,Tryz.VΓ,Tryz.Γs,Xp,Xi,Nat.reduceAdd,Nat.reduceSub,Nat.reduceLT,Nat.reduceLeDiff,reduceIte,reduceCtorEq,Nat.reduceEqDiff,implies_true,forall_const,cp,Int.reduceToNat])
  refine⟨fun h3=>?_,fun h3=>⟨⟨by omega,by omega⟩,?_⟩⟩
  ·rw[if_pos (.inr (by simpa using h3))];rfl
  have h3:lower (s.take 7)=kj:=by simpa using h3
  rw[if_neg (by simp only[not_or];exact⟨h2,by simpa using h3⟩)]
  have hS:(s.drop 7).length≤4096:=by simp;omega
  generalize s.drop 7=S at hS ⊢
  have pi:=bj S [64] (by omega) (by decide)
  rw[show (List.contains [64] ·:UInt8→Bool)=(·==64) from by funext c;simp;exact(Bool.beq_eq_decide_eq _ _).symm]at pi
  have pj:=bj S [63,35] (by omega) (by decide)
  have hq:=pre_set S
  have fP:=cw (·==64) S
  have hpq:=cw ([63,35].contains ·) S
  unfold qE
  (refine aa pi ?_;refine bo ?_)
  refine⟨fun h4=>?_,fun h4=>?_⟩
  ·have h4:pre (·==64) S<S.length:=by
    have:=beq_eq_false_iff_ne.1 h4
    omega
   rw[show aL 64 S=(S.take (pre (·==64) S),S.drop (pre (·==64) S+1),true) from if_pos h4]
   generalize hk:pre (·==64) S=k at *
   simp only[Bool.true_eq_false,false_or]
   (refine aa pj ?_;refine bo ?_)
   refine⟨fun h5=>?_,fun h5=>?_⟩
   ·rw[if_pos (hq.1 (by have:=of_decide_eq_true h5;omega))];rfl
   rw[if_neg (fun h=>absurd (hq.2 h) (by have:=of_decide_eq_false h5;omega))]
   clear hq hpq pj pi pe hk h5
   refine az (fun σ=>∃ i:Nat,i≤k∧lk 0 σ.t=some (.str S)∧lk 2 σ.t=some (.p 0 0)∧lk 3 σ.t=some (.int .i64 0)∧lk 4 σ.t=some (.int .i64 k)∧lk 5 σ.t=some (.int .i64 i)∧σ.b=[.cells [.str [],.str []] 115 true]∧(S.take i).all kI=true) (fun σ=>k - fC 5 σ) ⟨0,by omega,rfl,rfl,rfl,rfl,rfl,rfl,rfl⟩ ?_
   rintro⟨t,b⟩ ⟨i,hi,g0,g2,g3,g4,g5,rfl,iH⟩
   simp only at g0 g2 g3 g4 g5
   rw[ao g5]
   by_cases aC:i<k
   ·have fD:i<S.length:=by omega
    have hg:S.getD i 0=S[i]:=by simp[zM9,fD]
    have zF:kI S[i]=false→(S.take k).all kI=false:=fun h=>by
     have e:(S.take k)[i]'(by simp;omega)=S[i]:=by simp
     exact dj (s:=S.take k) (k:=i) (by simp;omega) (by rw[e];exact h)
    refine gN (zMy g0 (zMy g2 (zMy g3 (zMy g4 (zMy g5 hg))))) ?_
    refine⟨fun _=>⟨⟨by omega,by omega⟩,?_⟩,fun h=>absurd h (by simp;omega)⟩
    (refine aa (du S[i]) ?_;refine gN (zMy g0 (zMy g2 (zMy g3 (zMy g4 (zMy g5 hg))))) ?_)
    refine⟨fun hu=>⟨⟨by omega,by omega⟩,?_⟩,fun hu=>⟨⟨by omega,by omega⟩,⟨i+1,by omega,rfl,aX fD iH (by unfold kI;rw[show fE S[i]=true by simpa using hu];rfl)⟩,by rw[ao (k:=.i64) (n:=(i:Int)+1) rfl];omega⟩⟩
    have hu:fE S[i]=false:=by simpa using hu
    (refine aa (iS S[i] EU (by decide)) ?_;refine gN (zMy g0 (zMy g2 (zMy g3 (zMy g4 (zMy g5 hg))))) ?_)
    refine⟨fun hk=>?_,fun hk=>⟨⟨by omega,by omega⟩,⟨i+1,by omega,rfl,aX fD iH (by unfold kI;rw[show EU.contains S[i]=true by simpa using hk];simp)⟩,by rw[ao (k:=.i64) (n:=(i:Int)+1) rfl];omega⟩⟩
    rw[if_pos (zF (by unfold kI;rw[hu,show EU.contains S[i]=false by simpa using hk];rfl))]
    rfl
   ·have j4:i=k:=by omega
    subst j4
    rw[iH]
    have pd:=eX (S.take i)
    have tj:=dec_len (S.take i)
    generalize ay (S.take i)=dd at pd tj ⊢
    obtain⟨d,e1⟩:=dd
    have ph:=xT (S.drop (i+1)) (by simp;omega)
    have hhl:=F8 (S.drop (i+1))
    generalize bF (S.drop (i+1))=hh at ph hhl ⊢
    obtain⟨hh,e2⟩:=hh
    simp only at pd ph tj hhl
    have tj:d.length≤4096:=by simp at tj;omega
    have hhl:hh.length≤4096:=by simp at hhl;omega
    simp only[Bool.true_eq_false,if_false]
    unfold zx
    refine gN (zMy g0 (zMy g2 (zMy g3 (zMy g4 g5)))) ?_
    refine⟨fun h=>absurd h (by simp),fun _=>⟨⟨by omega,by omega⟩,?_⟩⟩
    (refine aa pd ?_;refine gN (zMy g0 (zMy g2 (zMy g3 (zMy g4 g5)))) ?_)
    refine⟨fun h1=>(by rw[if_pos (by simpa using h1)];rfl),fun h1=>?_⟩
    rw[if_neg (by simpa using h1)]
    (refine aa (DI d) ?_;refine gN (zMy g0 (zMy g2 (zMy g3 (zMy g4 g5)))) ?_)
    refine⟨fun h2=>(by rw[if_pos (by simpa using h2)];rfl),fun h2=>⟨⟨by omega,by omega⟩,⟨by omega,by omega⟩,?_⟩⟩
    rw[if_neg (by simpa using h2)]
    (refine aa ph ?_;refine gN (zMy g0 (zMy g2 (zMy g3 (zMy g4 g5)))) ?_)
    refine⟨fun h3=>(by rw[if_pos (by simpa using h3)];rfl),fun h3=>?_⟩
    rw[if_neg (by simpa using h3)]
    (refine aa (Bo hh (by omega)) ?_;refine gN (zMy g0 (zMy g2 (zMy g3 (zMy g4 g5)))) ?_)
    refine⟨fun h4=>?_,fun h4=>?_⟩
    ·rw[if_pos (by simpa using h4)];rfl
    ·rw[if_neg (by simpa using h4)];rfl
  ·have h4:=beq_iff_eq.1 h4
   rw[eR (by omega)];rfl
 ·have h:¬ 4096<s.length:=(by simp at h;omega)
  have h2:s.length<7:=(by simp at h2;omega)
  rw[if_neg h,if_pos (.inl h2)];rfl
theorem sU (c:UInt8):PC Tryz.V 127 [.int .u8 c.toNat] (.bool (cz c)):=by
 refine aV 3000 Tryz.func127 rfl Tryz.ntmps127 Tryz.results127 Tryz.call127 (by simp) (by simp[flat,flat.af]) (by simp[flat,flat.af]) ?_
 refine bo ?_
 (refine aa (gv c) ?_;refine bo ?_)
 unfold cz
 refine⟨fun h=>?_,fun h=>by rw[h];rfl⟩
 (refine aa (fk c) ?_;refine bo ?_)
 rw[h]
 refine⟨fun h2=>?_,fun h2=>by rw[h2];rfl⟩
 (refine aa (iS c [46,45,95] (by decide)) ?_;refine bo ?_)
 rw[h2];rfl
theorem Cv {s:Bytes}{i:Nat}(h:i<s.length):aP (s.take (i+1))=aP (s.take i)++iJ s[i]:=by
 unfold aP
 rw[zMN h,zMU,zMC,zMY,zMI]
theorem Ej {n m k:Nat}:∀ {l:List Bytes},l.length≤n→(∀ y∈l,y.length≤m)→n * m≤k→l.flatten.length≤k:=by
 have:∀ (l:List Bytes),(∀ y∈l,y.length≤m)→l.flatten.length≤l.length * m:=by
  intro l
  induction l with
  | nil=>simp
  | cons x l ih =>
    intro h
    have h1:=h x zME
    have h2:=ih (fun y hy=>h y (zMA _ hy))
    rw[zMP,zMD,zMB,Nat.add_mul]
    omega
 intro l h1 h2 h3
 have:=this l h2
 exact Nat.le_trans this (Nat.le_trans (zNa _ h1) h3)
theorem tR (s:Bytes)(i:Nat):(aP (s.take i)).length≤3 * s.length:=by
 have:=fT (s.take i)
 have:(s.take i).length≤s.length:=by simp;omega
 omega
theorem kG (s:Bytes)(hs:s.length≤1000000):PC Tryz.V 128 [.str s] (.str (aP s)):=by
 refine aV 3000 Tryz.func128 rfl Tryz.ntmps128 Tryz.results128 Tryz.call128 (by simp) (by simp[flat,flat.af]) (by simp[flat,flat.af]) ?_
 refine bo ?_
 refine az (fun σ=>∃ i:Nat,i≤s.length∧lk 0 σ.t=some (.str s)∧lk 3 σ.t=some (.str (aP (s.take i)))∧lk 4 σ.t=some (.int .i64 i)) (fun σ=>s.length - fC 4 σ) ⟨0,by omega,rfl,rfl,rfl⟩ ?_
 rintro⟨t,b⟩ ⟨i,hi,h0,h3,h4⟩
 simp only at h0 h3 h4
 rw[ao h4]
 have C7:=tR s i
 by_cases aC:i<s.length
 ·have hg:s.getD i 0=s[i]:=by simp[zM9,aC]
  have next:∀ (x:Bytes) (t':List (Nat × SV)),x=iJ s[i]→lk 4 t'=some (.int .i64 ((i:Int)+1)) →
   (∃ k:Nat,k≤s.length∧SV.str (aP (s.take i)++x)=SV.str (aP (s.take k))∧SV.int IntKind.i64 ((i:Int)+1)=SV.int IntKind.i64 (k:Int))∧s.length - fC 4 ⟨t',b⟩<s.length - (i:Int).toNat:=fun x t' hx k4 =>
   ⟨⟨i+1,by omega,by rw[Cv aC,hx],rfl⟩,by rw[ao (σ:=⟨t',b⟩) k4];omega⟩
  refine gN (zMy h0 (zMy h3 (zMy h4 hg))) ?_
  refine⟨fun _=>⟨⟨by omega,by omega⟩,?_⟩,fun h=>absurd h (by simp;omega)⟩
  (refine aa (sU s[i]) ?_;refine gN (zMy h0 (zMy h3 (zMy h4 hg))) ?_)
  refine⟨fun hp=>⟨by omega,⟨by omega,by omega,by omega⟩,by rw[sub_one aC,List.length_singleton];omega,⟨by omega,by omega⟩,next _ _ (by rw[sub_one aC,show iJ s[i]=[s[i]] from if_pos hp]) rfl⟩,fun hp=>⟨⟨by omega,by omega⟩,?_⟩⟩
  (refine aa (kf s[i]) ?_;refine gN (zMy h0 (zMy h3 (zMy h4 hg))) ?_)
  exact⟨by rw[show (kN s[i]).length=3 from rfl];omega,⟨by omega,by omega⟩,next _ _ (by rw[show iJ s[i]=kN s[i] from if_neg (by rw[hp];simp)]) rfl⟩
 ·have j4:i=s.length:=by omega
  subst j4
  rw[zMM]at h3
  refine gN (zMy h0 (zMy h3 h4)) ?_
  exact fun h=>absurd h (by simp)
theorem zn (s:Bytes)(hs:s.length≤1000000):PC Tryz.V 125 [.str s] (.bool (fI s)):=by
 refine aV 3000 Tryz.func125 rfl Tryz.ntmps125 Tryz.results125 Tryz.call125 (by simp) (by simp[flat,flat.af]) (by simp[flat,flat.af]) ?_
 refine bo ?_
 refine az (fun σ=>∃ i:Nat,i≤s.length∧lk 0 σ.t=some (.str s)∧lk 3 σ.t=some (.int .i64 i)∧(s.take i).all iT=true) (fun σ=>s.length - fC 3 σ) ⟨0,by omega,rfl,rfl,rfl⟩ ?_
 rintro⟨t,b⟩ ⟨i,hi,h0,h3,cV⟩
 simp only at h0 h3
 rw[ao h3]
 by_cases aC:i<s.length
 ·have hg:s.getD i 0=s[i]:=by simp[zM9,aC]
  have lp:iT s[i]=false→fI s=false:=fun h=>by
   unfold fI
   rw[dj aC h,Bool.and_false]
  refine gN (zMy h0 (zMy h3 hg)) ?_
  refine⟨fun _=>⟨⟨by omega,by omega⟩,?_⟩,fun h=>absurd h (by simp;omega)⟩
  (refine aa (fk s[i]) ?_;refine gN (zMy h0 (zMy h3 hg)) ?_)
  have fin:iT s[i]=true→∀ (t':List (Nat × SV)),lk 3 t'=some (.int .i64 ((i:Int)+1))→(∃ k:Nat,k≤s.length∧SV.int IntKind.i64 ((i:Int)+1)=SV.int IntKind.i64 (k:Int)∧(s.take k).all iT=true)∧s.length - fC 3 ⟨t',b⟩<s.length - (i:Int).toNat:=fun hm t' k6 =>
   ⟨⟨i+1,by omega,rfl,aX aC cV hm⟩,by rw[ao (σ:=⟨t',b⟩) k6];omega⟩
  cases hd:isDigit s[i]
  ·refine⟨fun _=>⟨⟨by omega,by omega⟩,fun h1=>⟨⟨by omega,by omega⟩,fun h2=>?_,fun h2=>⟨⟨by omega,by omega⟩,fin ?_ _ rfl⟩⟩,fun h1=>?_⟩,fun h=>(by cases h)⟩
   ·rw[lp (by rw[pb _ hd];simp at h1 h2 ⊢;omega)]
   ·rw[pb _ hd];simp at h1 h2 ⊢;omega
   ·rw[lp (by rw[pb _ hd];simp at h1 ⊢;omega)]
  ·exact⟨fun h=>(by cases h),fun _=>⟨⟨by omega,by omega⟩,fin (by unfold iT;rw[hd];rfl) _ rfl⟩⟩
 ·have j4:i=s.length:=by omega
  subst j4
  rw[zMM]at cV
  refine gN (zMy h0 h3) ?_
  refine⟨fun h=>absurd h (by simp),fun _=>?_⟩
  unfold fI
  rw[cV,Bool.and_true]
  cases s <;> rfl
theorem jI (s:Bytes):PC Tryz.V 69 [.str s] (.fF [mH (bd s).1,.int .i64 (bd s).2]):=by
 refine aV 3000 Tryz.func69 rfl Tryz.ntmps69 Tryz.results69 Tryz.call69 (by simp) (by simp[flat,flat.af,mH,dusv]) (by simp[flat,flat.af,mH,dusv]) ?_
 refine bo ?_
 unfold bd
 refine⟨fun h=>?_,fun h=>?_⟩
 ·have h:4096<s.length:=(by simp at h;omega)
  rw[if_pos h];rfl
 have h:¬ 4096<s.length:=(by simp at h;omega)
 rw[if_neg h]
 have pp:=bK s nS
 rw[show Lib.hasPrefix s nS=nS.isPrefixOf s from rfl]at pp
 (refine aa pp ?_;refine bo ?_)
 refine⟨fun h2=>(by rw[if_pos (by simpa using h2)];rfl),fun h2=>?_⟩
 have h2:nS.isPrefixOf s=true:=by simpa using h2
 rw[if_neg (by rw[h2];simp),show Int.toNat 4=4 from rfl]
 have hS:(s.drop 4).length≤4096:=by simp;omega
 refine⟨⟨by omega,?_⟩,?_⟩
 ·have:=(zNd.1 h2).length_le
  rw[show nS.length=4 from rfl]at this
  omega
 generalize s.drop 4=S at hS ⊢
 have pi:=bj S [58] (by omega) (by decide)
 rw[dW]at pi
 (refine aa pi ?_;refine bo ?_)
 have fP:=cw (·==58) S
 unfold og
 refine⟨fun h3=>?_,fun h3=>?_⟩
 ·have h3:pre (·==58) S=S.length:=by simp at h3;omega
  rw[eR h3,if_pos rfl];rfl
 have h3:¬ pre (·==58) S=S.length:=by simp at h3;omega
 rw[show aL 58 S=(S.take (pre (·==58) S),S.drop (pre (·==58) S+1),true) from if_pos (by omega)]
 refine⟨⟨by omega,by omega⟩,?_⟩
 simp only[Int.toNat_natCast]
 have pm:=zn (S.take (pre (·==58) S)) (by simp;omega)
 (refine aa pm ?_;refine bo ?_)
 refine⟨fun h4=>?_,fun h4=>?_⟩
 ·rw[if_pos (by simpa using h4)];rfl
 rw[if_neg (by simpa using h4),Cw]
 have hM:(S.drop (pre (·==58) S+1)).length≤4096:=by simp;omega
 generalize S.drop (pre (·==58) S+1)=I at hM ⊢
 refine⟨⟨by omega,by omega⟩,⟨by omega,by omega⟩,?_⟩
 have oq:=gR 58 I
 have hct:=hY 58 I
 have hcc:=List.count_le_length (a:=(58:UInt8)) (l:=I)
 refine ae (qi I 58 (by omega)) ?_
 rintro r b ⟨j,rfl,mM,hj,bf⟩
 generalize aA 58 I=L at *
 simp only at mM hj bf
 have de:=bf.at (j:=0) rfl
 refine gN hj ?_
 refine az (fun σ=>∃ k:Nat,k≤L.length∧lk 0 σ.t=some (.str S)∧lk 2 σ.t=some (.p 0 0)∧lk 3 σ.t=some (.int .i64 0)∧lk 4 σ.t=some (.int .i64 (pre (·==58) S))∧lk 5 σ.t=some (.o j L.length)∧lk 46 σ.t=some (.o j L.length)∧lk 47 σ.t=some (.int .i64 L.length)∧lk 48 σ.t=some (.int .i64 k) ∧
  σ.b[0]? = some (.cells [.str [],.str []] 123 true)∧σ.b[j]? = some (.own (L.map SV.str) 9 1 L.length true)∧∀ y∈L.take k,PU.bad ∉ aE y) (fun σ=>L.length - fC 48 σ) ⟨0,by omega,rfl,rfl,rfl,rfl,rfl,rfl,rfl,rfl,de,hj,by simp⟩ ?_
 clear de hj bf
 rintro⟨t,b⟩ ⟨k,hk,h0,h2,h3,h4,h5,h46,Gv,h48,de,hj,cV⟩
 simp only at h0 h2 h3 h4 h5 h46 Gv h48 de hj
 rw[ao h48]
 have lE:∀ X,(b.set 0 X)[0]? = some X:=fun X=>zMF (zMz.1 de).1
 by_cases aC:k<L.length
 ·have hx:(L.map SV.str)[k * 1]? = some (.str L[k]):=by simp[aC]
  have mL:=oq L[k] (zMJ aC)
  have pd:=eX L[k]
  rw[mg (by omega)]at pd
  refine gN (zMy h0 (zMy h2 (zMy h3 (zMy h4 (zMy h5 (zMy h46 (zMy Gv (zMy h48 (zMy de (zMy hj (zMy lE hx))))))))))) ?_
  refine⟨fun _=>⟨⟨by omega,by omega⟩,by simp;omega,?_⟩,fun h=>absurd h (by simp;omega)⟩
  by_cases lp:PU.bad∈aE L[k]
  ·rw[if_pos lp]at pd
   rw[if_pos ⟨_,zMJ aC,lp⟩]
   (refine aa pd ?_;refine gK (zMy h0 (zMy h2 (zMy h3 (zMy h4 (zMy h5 (zMy h46 (zMy Gv (zMy h48 (zMy de (zMy hj (zMy lE hx))))))))))) ?_)
   rfl
  ·rw[if_neg lp]at pd
   (refine aa pd ?_;refine gK (zMy h0 (zMy h2 (zMy h3 (zMy h4 (zMy h5 (zMy h46 (zMy Gv (zMy h48 (zMy de (zMy hj (zMy lE hx))))))))))) ?_)
   refine⟨⟨by omega,by omega⟩,⟨k+1,by omega,rfl,fun y hy=>?_⟩,?_⟩
   ·rw[zMN aC]at hy
    rcases zMR.1 hy with hy|hy
    ·exact cV y hy
    ·rw[zMS.1 hy];exact lp
   ·rw[ao (k:=.i64) (n:=(k:Int)+1) rfl];omega
 ·have j4:k=L.length:=by omega
  subst j4
  rw[zMM]at cV
  rw[if_neg (fun⟨y,hy,hb⟩=>cV y hy hb)]
  refine gN (zMy h0 (zMy h2 (zMy h3 (zMy h4 (zMy h5 (zMy h46 (zMy Gv (zMy h48 (zMy de (zMy hj lE)))))))))) ?_
  refine⟨fun h=>absurd h (by simp),fun _=>?_⟩
  have hbad2:∀ y∈L,PU.bad ∉ aE y:=cV
  clear cV h46 Gv h48 aC hk
  refine az (fun σ=>∃ k:Nat,k≤L.length∧lk 0 σ.t=some (.str S)∧lk 2 σ.t=some (.p 0 0)∧lk 3 σ.t=some (.int .i64 0)∧lk 4 σ.t=some (.int .i64 (pre (·==58) S))∧lk 5 σ.t=some (.o j L.length)∧lk 61 σ.t=some (.o j L.length)∧lk 62 σ.t=some (.int .i64 L.length)∧lk 63 σ.t=some (.int .i64 k)∧lk 10 σ.t=some (.str (eI (L.take k))) ∧
   σ.b[0]? = some (.cells [.str [],.str []] 123 true)∧σ.b[j]? = some (.own (L.map SV.str) 9 1 L.length true)∧(L.take k).all dR=true) (fun σ=>L.length - fC 63 σ) ⟨0,by omega,h0,h2,h3,h4,h5,rfl,rfl,rfl,rfl,de,hj,rfl⟩ ?_
  clear de hj h0 h2 h3 h4 h5 lE
  rintro⟨t,b⟩ ⟨k,hk,h0,h2,h3,h4,h5,Gu,Gt,tP,dH,de,hj,cV⟩
  simp only at h0 h2 h3 h4 h5 Gu Gt tP dH de hj
  have lE:∀ X,(b.set 0 X)[0]? = some X:=fun X=>zMF (zMz.1 de).1
  rw[ao tP]
  by_cases aC:k<L.length
  ·have hx:(L.map SV.str)[k * 1]? = some (.str L[k]):=by simp[aC]
   have mL:=oq L[k] (zMJ aC)
   have hxb:=hbad2 L[k] (zMJ aC)
   refine gN (zMy h0 (zMy h2 (zMy h3 (zMy h4 (zMy h5 (zMy Gu (zMy Gt (zMy tP (zMy dH (zMy de (zMy hj (zMy lE hx)))))))))))) ?_
   refine⟨fun _=>⟨⟨by omega,by omega⟩,by simp;omega,?_⟩,fun h=>absurd h (by simp;omega)⟩
   have hidl:=yJ (L.take k)
   have hid2:(L.take k).flatten.length≤4097 * 4097:=Ej (n:=4097) (m:=4097) (by simp;omega) (fun y hy=>by have:=oq y (List.mem_of_mem_take hy);omega) (zMV _)
   have htl:(L.take k).length≤4097:=by simp;omega
   have hsj:=wM aC
   have hxa:dR L[k]=false→L.all dR=false:=fun h=>dj aC h
   have nG:dR L[k]=true→(L.take (k+1)).all dR=true:=fun h=>aX aC cV h
   clear cV
   generalize L[k]=x at *
   refine az (fun σ=>∃ i:Nat,i≤x.length∧lk 0 σ.t=some (.str S)∧lk 2 σ.t=some (.p 0 0)∧lk 3 σ.t=some (.int .i64 0)∧lk 4 σ.t=some (.int .i64 (pre (·==58) S))∧lk 5 σ.t=some (.o j L.length)∧lk 61 σ.t=some (.o j L.length)∧lk 62 σ.t=some (.int .i64 L.length)∧lk 63 σ.t=some (.int .i64 k)∧lk 11 σ.t=some (.int .i64 k)∧lk 10 σ.t=some (.str (eI (L.take k)))∧lk 12 σ.t=some (.str x)∧lk 13 σ.t=some (.int .i64 i) ∧
    σ.b[0]? = some (.cells [.str [],.str []] 123 true)∧σ.b[j]? = some (.own (L.map SV.str) 9 1 L.length true)∧(x.take i).all (fun c=>cz c||c==37)=true) (fun σ=>x.length - fC 13 σ) ⟨0,by omega,h0,h2,h3,h4,h5,Gu,Gt,tP,rfl,dH,rfl,rfl,de,hj,rfl⟩ ?_
   clear de hj h0 h2 h3 h4 h5 lE Gu Gt tP dH
   rintro⟨t,b⟩ ⟨i,hi,h0,h2,h3,h4,h5,Gu,Gt,tP,gj,dH,mP,mO,de,hj,cV⟩
   simp only at h0 h2 h3 h4 h5 Gu Gt tP gj dH mP mO de hj
   have lE:∀ X,(b.set 0 X)[0]? = some X:=fun X=>zMF (zMz.1 de).1
   rw[ao mO]
   by_cases fD:i<x.length
   ·have hg:x.getD i 0=x[i]:=by simp[zM9,fD]
    refine gN (zMy h0 (zMy h2 (zMy h3 (zMy h4 (zMy h5 (zMy Gu (zMy Gt (zMy tP (zMy dH (zMy de (zMy hj (zMy lE (zMy gj (zMy mP (zMy mO hg))))))))))))))) ?_
    refine⟨fun _=>⟨⟨by omega,by omega⟩,?_⟩,fun h=>absurd h (by simp;omega)⟩
    (refine aa (sU x[i]) ?_;refine gN (zMy h0 (zMy h2 (zMy h3 (zMy h4 (zMy h5 (zMy Gu (zMy Gt (zMy tP (zMy dH (zMy de (zMy hj (zMy lE (zMy gj (zMy mP (zMy mO hg))))))))))))))) ?_)
    have hb37:=cK fD 37 (n:=37) rfl
    have hb38:((x[i].toNat:Int) != 37)=(x[i] != 37):=by
     show (!_)=(!_);rw[← hb37,hg]
    rw[hb38]
    have fin:(cz x[i]||x[i]==37)=true→∀ (t':List (Nat × SV)),lk 13 t'=some (.int .i64 ((i:Int)+1))→(∃ m:Nat,m≤x.length∧SV.int IntKind.i64 ((i:Int)+1)=SV.int IntKind.i64 (m:Int)∧(x.take m).all (fun c=>cz c||c==37)=true)∧x.length - fC 13 ⟨t',b⟩<x.length - (i:Int).toNat:=fun hm t' k6 =>
     ⟨⟨i+1,by omega,rfl,aX fD cV hm⟩,by rw[ao (σ:=⟨t',b⟩) k6];omega⟩
    refine⟨fun hp=>⟨⟨by omega,by omega⟩,fun sb=>?_,fun sb=>⟨⟨by omega,by omega⟩,fin ?_ _ rfl⟩⟩,fun hp=>⟨⟨by omega,by omega⟩,fin ?_ _ rfl⟩⟩
    ·rw[if_pos (hxa (dj fD (by simp at hp sb ⊢;exact⟨hp,sb⟩)))];rfl
    ·simp at sb ⊢;exact .inr sb
    ·simp at hp ⊢;exact .inl hp
   ·have j4:i=x.length:=by omega
    subst j4
    rw[zMM]at cV
    have pd:=eX x
    rw[mg (by omega),if_neg hxb]at pd
    simp only at pd
    have pe:=kG (jR x) (by have:=lx x;omega)
    have tj:=fT (jR x)
    have hdl2:=lx x
    refine gN (zMy h0 (zMy h2 (zMy h3 (zMy h4 (zMy h5 (zMy Gu (zMy Gt (zMy tP (zMy dH (zMy de (zMy hj (zMy lE (zMy gj (zMy mP mO)))))))))))))) ?_
    refine⟨fun h=>absurd h (by simp),fun _=>?_⟩
    have hxp:dR x=true:=cV
    (refine aa pd ?_;refine gK (zMy h0 (zMy h2 (zMy h3 (zMy h4 (zMy h5 (zMy Gu (zMy Gt (zMy tP (zMy dH (zMy de (zMy hj (zMy lE (zMy gj (zMy mP mO)))))))))))))) ?_)
    refine⟨fun h0k=>⟨by omega,?_⟩,fun h0k=>?_⟩
    ·(refine aa pe ?_;refine gN (zMy h0 (zMy h2 (zMy h3 (zMy h4 (zMy h5 (zMy Gu (zMy Gt (zMy tP (zMy dH (zMy de (zMy hj (zMy lE (zMy gj (zMy mP mO)))))))))))))) ?_)
     refine⟨by simp;omega,⟨by omega,by omega⟩,⟨k+1,by omega,rfl,?_,nG hxp⟩,?_⟩
     ·rw[hsj,if_neg (by simp at h0k;omega)]
     ·rw[ao (k:=.i64) (n:=(k:Int)+1) rfl];omega
    ·(refine aa pe ?_;refine gN (zMy h0 (zMy h2 (zMy h3 (zMy h4 (zMy h5 (zMy Gu (zMy Gt (zMy tP (zMy dH (zMy de (zMy hj (zMy lE (zMy gj (zMy mP mO)))))))))))))) ?_)
     refine⟨by omega,⟨by omega,by omega⟩,⟨k+1,by omega,rfl,?_,nG hxp⟩,?_⟩
     ·rw[hsj,if_pos (by simp at h0k;omega),zMI]
     ·rw[ao (k:=.i64) (n:=(k:Int)+1) rfl];omega
  ·have j4:k=L.length:=by omega
   subst j4
   rw[zMM]at cV dH
   rw[if_neg (by rw[cV];simp)]
   have hL0:0<L.length:=by omega
   have hz:(L.map SV.str)[((L.length:Int) - 1).toNat * 1]? = some (.str (L[L.length - 1]'(by omega))):=by
    rw[show ((L.length:Int) - 1).toNat * 1=L.length - 1 by omega]
    simp[hL0]
   have CZ:L.getLast? = some (L[L.length - 1]'(by omega)):=by rw[List.getLast?_eq_getElem?];simp[hL0]
   rw[CZ]
   generalize L[L.length - 1]'(by omega)=z at hz
   simp only[zMW.injEq]
   have hpl2:=cw (·==58) S
   refine gN (zMy h0 (zMy h2 (zMy h3 (zMy h4 (zMy h5 (zMy Gu (zMy Gt (zMy tP (zMy dH (zMy de (zMy hj (zMy lE hz)))))))))))) ?_
   refine⟨fun h=>absurd h (by simp),fun _=>⟨⟨by omega,by omega⟩,⟨by omega,by omega⟩,by simp;omega,fun h=>?_,fun h=>?_⟩⟩
   ·rw[if_pos (by simpa using h)];rfl
   ·rw[if_neg (by simpa using h)]
    exact⟨⟨by omega,by omega⟩,rfl⟩
theorem fO (d:fQ)(h:jh d):PC Tryz.V 122 [mH d] (.str (bC d)):=by
 obtain⟨m,i⟩:=d
 simp only[jh]at h
 refine aV 3000 Tryz.func122 rfl Tryz.ntmps122 Tryz.results122 Tryz.call122 (by simp) (by simp[flat,flat.af,mH,dusv]) (by simp[flat,flat.af,mH,dusv]) ?_
 unfold mH
 refine bo ?_
 simp only[zMD,zMB,zMH]
 refine⟨by omega,by omega,by omega,?_⟩
 simp[bC,nS]
theorem sf {g:Bytes→Bytes}{L:List Bytes}{k:Nat}(h:k<L.length):(L.take (k+1)).flatMap g=(L.take k).flatMap g++g L[k]:=by
 rw[zMN h,zMU,zMC,zMY,zMI]
theorem mc {g:Bytes→Bytes}{L:List Bytes}{k:Nat}:((L.take k).flatMap g).length≤(L.flatMap g).length:=by
 conv=>rhs;rw[← zM8 k L]
 rw[zMU,zMD]
 omega
theorem kn:∀ {l:List Bytes}{x:Bytes},x∈l→x.length≤l.flatten.length
 | y::l,x,h=>by
   rw[zMP,zMD]
   rcases zML.1 h with rfl|h
   ·omega
   ·have:=kn h;omega
theorem CF {u:cX}(h:fW u):Fair u:=by
 have h1:=im u
 have h2:=h.len
 obtain⟨-,-,-,k4,k5,k6⟩:=ck h.host
 refine⟨?_,by omega,by omega⟩
 have hq:u.query.length≤4096:=by
  cases hb:u.aN
  ·rw[h.noq hb];simp
  ·have:=h1.2.1 hb;omega
 have hf:u.fragment.length≤4096:=by
  cases hb:u.aZ
  ·rw[h.nof hb];simp
  ·have:=h1.2.2 hb;omega
 omega
theorem Dh (d:fQ)(h:(eS d).2=0):Fair (eS d).1:=CF (xK (d:=d) (u:=(eS d).1) (by rw[← h])).1
theorem zi (p:Int)(h1:0≤p)(h2:p≤9223372036854775807):PC Tryz.V 153 [.int .i64 p] (.str (bD p.natAbs)) :=
 ⟨Tryz.call153,by simp[flat,flat.af],by simp[flat,flat.af],fun w _=>(kF p w (by omega) h2).mono fun _ _ ⟨h,k⟩=>⟨by rw[h,if_neg (by omega)];rfl,k⟩⟩
theorem qg {bs:List aw}(d:fQ)(h:jh d):SC Tryz.V 129 [mH d] bs (fun r b=>Kp bs b∧∃ x,r=.fF [x,.agg [.str (bw d).1.1,.int .i64 (bw d).1.2],.int .i64 (bw d).2] ∧
 ((bw d).2=0→∃ j,x=.o j (aA 58 d.id).length∧bs.length≤j∧b[j]? = some (.own ((aA 58 d.id).map SV.str) 9 1 (aA 58 d.id).length true))):=by
 have pf:=fO d h
 have pp:=jI (bC d)
 have hf:=@Et d
 have hd:=@wB d
 refine bJ 3000 Tryz.func129 rfl Tryz.ntmps129 Tryz.results129 Tryz.call129 (by simp) (aj bs.length _ (by simp[within,within.ax,mH])) ?_
 unfold mH
 unfold mH at pf pp
 unfold bw
 refine gN (zMy @aO (zMy @rb (zMy @ra (zMy @q9 (zMy @dV (zMy @p9 @nY)))))) ?_
 refine⟨fun h1=>?_,fun h1=>?_⟩
 ·rw[if_pos (by simpa[fe] using h1)]
  refine⟨((Kp.refl _).app _).app _,.ah,rfl,fun k=>by simp at k⟩
 have h1:d.method=fe:=by simpa[fe] using h1
 rw[if_neg (by simp[h1])]
 (refine aa pf ?_;refine gN (zMy @aO (zMy @rb (zMy @ra (zMy @q9 (zMy @dV (zMy @p9 @nY)))))) ?_)
 (refine aa pp ?_;refine gN (zMy @aO (zMy @rb (zMy @ra (zMy @q9 (zMy @dV (zMy @p9 @nY)))))) ?_)
 refine⟨fun h2=>?_,fun h2=>?_⟩
 ·rw[if_pos (by simpa using h2)]
  refine⟨(((Kp.refl _).app _).app _).app _,.ah,rfl,fun k=>absurd k (by simpa using h2)⟩
 have h2:(bd (bC d)).2=0:=by simpa using h2
 rw[if_neg (by simp[h2])]
 have hf:=hf h1 h2
 have hd:=hd h1 h2
 obtain⟨T,hT⟩:=qY 58 d.id
 have pd:=eX (aL 58 d.id).1
 rw[hf]at pd ⊢
 have wH:=iw 58 d.id
 have jZ:=lx (aL 58 d.id).1
 have ph:=uY (jR (aL 58 d.id).1) (by omega)
 refine ae (qi d.id 58 (by omega)) ?_
 rintro r b ⟨j,rfl,mM,hj,bf⟩
 rw[hT]at hj ⊢
 generalize (aL 58 d.id).1=c at *
 simp only at mM bf hj
 have EY:=bf.at (rb _ _ _)
 have mF:Kp bs b:=((((Kp.refl bs).app _).app _).app _).trans bf
 have qN:bs.length≤b.length:=mF.1
 simp only[zMD,zMB,zMH]at mM
 have iG:=(zMz.1 hj).1
 have D6:∀ X:aw,(bs++[X]).length=bs.length+1:=fun X=>by simp
 rw[D6]at EY
 have GW:∀ X,(b.set (bs.length+1) X)[bs.length+1]? = some X:=fun X=>zMF (zMz.1 EY).1
 simp only[cq,↓Xn,↓Xo,↓Xg,↓Xd,↓Xe,↓Xf,Tryz.VΓ,Tryz.Γs,Xp,Xi,Nat.reduceAdd,Nat.reduceSub,Nat.reduceLT,Nat.reduceLeDiff,reduceIte,reduceCtorEq,Nat.reduceEqDiff,implies_true,forall_const,cp,hj,EY,D6,GW,zM7,List.getElem?_cons_zero,Int.toNat_zero,Nat.zero_mul]
 refine⟨⟨by omega,by omega⟩,?_⟩
 (refine aa pd ?_;refine gN (zMy hj (zMy EY (zMy D6 GW))) ?_)
 have hzo:=fun X=>ad EY [X]
 have CZ:=(zMz.1 EY).1
 have fw:∀ X Y,((b++[X]).set (bs.length+1) Y)[bs.length+1]? = some Y:=fun X Y=>zMF (by simp;omega)
 (refine aa ph ?_;refine gN (zMy hj (zMy EY (zMy D6 (zMy GW (zMy @aO (zMy @dV (zMy hzo fw))))))) ?_)
 have bt:¬ b.length=bs.length+1:=by omega
 refine⟨(by
  refine bE (fun n=>if n=(bs.length+1) then 0 else 1) ?_
  simp only[zM7,List.map_nil,cM,dZ,reduceIte,bt]
  exact av (by kernel_rfl)),(mF.app _).set (by omega) _,.o j (T.length+1),rfl,fun _=>⟨j,rfl,by omega,?_⟩⟩
 rw[zM1 (by omega)]
 exact ad hj _
theorem tH (d:fQ)(h:jh d):PC Tryz.V 121 [mH d] (.fF [.agg [.str (bw d).1.1,.int .i64 (bw d).1.2],.int .i64 (bw d).2]):=by
 have hf:=fun(bs:List aw)=>qg (bs:=bs) d h
 unfold mH at hf
 refine aV 3000 Tryz.func121 rfl Tryz.ntmps121 Tryz.results121 Tryz.call121 (by simp) (by simp[flat,flat.af,mH,cR]) (by simp[flat,flat.af,mH,cR]) ?_
 unfold mH
 refine bo ?_
 refine ae (hf _) ?_
 rintro r b ⟨bf,x,rfl,-⟩
 have eQ:=bf.at (j:=1) rfl
 have qN:=(zMz.1 eQ).1
 have Ed:=fun X=>ad eQ [X]
 have IW:∀ X Y,((b++[X]).set 1 Y)[1]? = some Y:=fun X Y=>zMF (by simp;omega)
 exact gN (zMy eQ (zMy Ed (zMy IW (zMy @aO @dV)))) True.intro
theorem sT (d:fQ)(h:jh d):PC Tryz.V 70 [mH d] (.fF [cR (eS d).1,.int .i64 (eS d).2]):=by
 have hf:=fun(bs:List aw)=>qg (bs:=bs) d h
 have Ge:=@wB d
 have hha:=@v7 d
 unfold mH at hf
 unfold eS
 generalize bw d=A at hf hha ⊢
 obtain⟨⟨x,p⟩,e⟩:=A
 simp only at hf hha ⊢
 refine aV 3000 Tryz.func70 rfl Tryz.ntmps70 Tryz.results70 Tryz.call70 (by simp) (by simp[flat,flat.af,mH,cR]) (by simp[flat,flat.af,mH,cR]) ?_
 unfold mH
 refine bo ?_
 refine ae (hf _) ?_
 rintro r b ⟨bf,y,rfl,hx⟩
 have eQ:=bf.at (j:=1) rfl
 have qN:=(zMz.1 eQ).1
 have Ed:=fun X=>ad eQ [X]
 have IW:∀ X Y,((b++[X]).set 1 Y)[1]? = some Y:=fun X Y=>zMF (by simp;omega)
 refine gN (zMy eQ (zMy Ed (zMy IW (zMy @aO @dV)))) ?_
 refine⟨fun h1=>(by rw[if_pos (by simpa using h1)];rfl),fun h1=>?_⟩
 have h1:e=0:=by simpa using h1
 rw[if_neg (by simp[h1])]
 obtain⟨hh,hm,hp⟩:=hha h1
 obtain⟨hl,It⟩:=Ge hm hp
 obtain⟨j,rfl,mM,hj⟩:=hx h1
 have hsf:=uF 58 d.id
 obtain⟨T,hT⟩:=qY 58 d.id
 rw[hT]at It hsf hj ⊢
 generalize (aL 58 d.id).1=c at It hsf hj ⊢
 simp only[zMP,zMD,zMB,List.tail_cons,zM7]at hsf hj ⊢
 have iG:=(zMz.1 hj).1
 have hjo:=fun X=>ad hj [X]
 simp only[zMB,zMH]at mM
 refine gN (zMy eQ (zMy Ed (zMy IW (zMy @aO (zMy @dV (zMy hj hjo)))))) ?_
 refine⟨⟨by omega,by omega⟩,?_⟩
 have e0:T.length+1 - Int.toNat 1=T.length:=by simp
 have e1:List.drop (Int.toNat 1 * 1) (List.take ((T.length+1) * 1) (SV.str c::T.map SV.str))=T.map SV.str:=by
  rw[List.take_of_length_le (by simp)];simp
 simp only[e0,e1]
 have G2:=E9 T
 have cY:∀ q:Bytes,q.length≤100000→Fair ⟨x,p,q,[],[],false,false⟩:=fun q hq=>by
  obtain⟨-,-,-,k4,k5,k6⟩:=ck hh
  exact⟨by simp only[zMH];omega,by simp only;omega,by simp only;omega⟩
 refine az (fun σ=>∃ k:Nat,k≤T.length∧lk 2 σ.t=some (.p 1 0)∧lk 3 σ.t=some (.int .i64 0)∧lk 4 σ.t=some (.o j (T.length+1))∧lk 5 σ.t=some (.p b.length 0)∧lk 7 σ.t=some (.str ((T.take k).flatMap oD))∧lk 24 σ.t=some (.o (b.length+1) T.length)∧lk 25 σ.t=some (.int .i64 T.length)∧lk 26 σ.t=some (.int .i64 k) ∧
  σ.b[1]? = some (.cells [.str [],.int .i64 0,.str [],.str [],.str [],.bool false,.bool false] 35 true)∧σ.b[b.length]? = some (.cells [.str x,.int .i64 p] 24 true)∧σ.b[b.length+1]? = some (.own (T.map SV.str) 9 1 T.length false)∧(∃ c m,σ.b[j]? = some (.own c 9 1 (T.length+1) m))∧(T.take k).all j7=true) (fun σ=>T.length - fC 26 σ)
  ⟨0,by omega,rfl,rfl,rfl,rfl,rfl,rfl,rfl,rfl,ad (by rw[zM1 (by omega)];exact Ed _) _,ad (by rw[zM1 (by omega)];exact aO _ _) _,(by rw[zMO (by simp)];simp),⟨_,_,ad (zMF (by simp;omega)) _⟩,rfl⟩ ?_
 have hbL:1<b.length:=qN
 clear hj hjo eQ Ed IW bf hx
 generalize b.length=N at *
 rintro⟨t,B⟩ ⟨k,hk,h2,h3,h4,h5,h7,oP,ui,rq,jN,hBN,mS,⟨cj,mj,hBj⟩,cV⟩
 simp only at h2 h3 h4 h5 h7 oP ui rq jN hBN mS hBj
 rw[ao rq]
 have kT:=mc (g:=oD) (L:=T) (k:=k)
 have jM:∀ X,(B.set 1 X)[1]? = some X:=fun X=>zMF (zMz.1 jN).1
 by_cases aC:k<T.length
 ·have hx:(T.map SV.str)[k * 1]? = some (.str T[k]):=by simp[aC]
  have hsg:=It T[k] (zMA _ (zMJ aC))
  have IK:=sf (g:=oD) aC
  have pd:=eX T[k]
  have hup:oD T[k]=47::aD [] (ay T[k]).1:=rfl
  have tj:=fH T[k]
  have C7:=dB [] (ay T[k]).1
  have pe:=kg (ay T[k]).1 [] (by omega) (by simp)
  have hso:j7 T[k]=!((((ay T[k]).1==[])||((ay T[k]).1==[46]))||((ay T[k]).1==[46,46])):=by
   have hd0:(ay T[k]).2=0:=by rw[mg (by omega),if_neg hsg.1]
   unfold j7
   rw[hd0]
   cases h2:(ay T[k]).1==[] <;> cases h3:(ay T[k]).1==[46] <;> cases h4:(ay T[k]).1==[46,46] <;> simp_all [bne]
  have lp:j7 T[k]=false→T.all j7=false:=fun h=>dj aC h
  have Cd:j7 T[k]=true→(T.take (k+1)).all j7=true:=fun h=>aX aC cV h
  refine gN (zMy h2 (zMy h3 (zMy h4 (zMy h5 (zMy h7 (zMy oP (zMy ui (zMy rq (zMy jN (zMy hBN (zMy mS hx))))))))))) ?_
  refine⟨fun _=>⟨⟨by omega,by omega⟩,by simp;omega,?_⟩,fun h=>absurd h (by simp;omega)⟩
  generalize ay T[k]=X at *
  obtain⟨w,ew⟩:=X
  simp only at pd pe hso hup tj C7
  have fin:∀ (t':List (Nat × SV)),j7 T[k]=true→lk 26 t'=some (.int .i64 ((k:Int)+1))→T.length - fC 26 ⟨t',B⟩<T.length - (k:Int).toNat:=fun t' _ k6=>by rw[ao (σ:=⟨t',B⟩) k6];omega
  (refine aa pd ?_;refine gN (zMy h2 (zMy h3 (zMy h4 (zMy h5 (zMy h7 (zMy oP (zMy ui (zMy rq (zMy jN (zMy hBN (zMy mS jM))))))))))) ?_)
  refine⟨fun g1=>⟨fun g2=>⟨fun g3=>?_,fun g3=>?_⟩,fun g2=>?_⟩,fun g1=>?_⟩
  ·have hb:=lp (by rw[hso,g3];simp)
   simp only[hb,if_true]
   rfl
  ·have hso:j7 T[k]=true:=by rw[hso,g1,g2,g3];rfl
   (refine aa pe ?_;refine gN (zMy h2 (zMy h3 (zMy h4 (zMy h5 (zMy h7 (zMy oP (zMy ui (zMy rq (zMy jN (zMy hBN mS)))))))))) ?_)
   refine⟨by omega,by omega,⟨by omega,by omega⟩,⟨k+1,by omega,by rw[IK,hup],rfl,⟨cj,mj,hBj⟩,Cd hso⟩,fin _ hso rfl⟩
  ·have hb:=lp (by rw[hso,g2];simp)
   simp only[hb,if_true]
   rfl
  ·have hb:=lp (by rw[hso,g1];simp)
   simp only[hb,if_true]
   rfl
 ·have j4:k=T.length:=by omega
  subst j4
  rw[zMM]at h7 cV
  have E2:decide ((T.length:Int)<T.length)=false:=by simp
  have I3:=(zMz.1 jN).1
  have xq:=fun X=>ad jN [X]
  have xp:∀ X Y,((B++[X]).set 1 Y)[1]? = some Y:=fun X Y=>zMF (by simp;omega)
  have hTl:(((T.length+1:Nat):Int)==1)=decide (T=[]):=by
   cases T <;> simp
   omega
  have hpt:lM T=(if T=[] then [47,46,119,101,108,108,45,107,110,111,119,110] else T.flatMap oD)++[47,100,105,100,46,106,115,111,110]:=by
   unfold lM
   by_cases hT:T=[]
   ·rw[if_pos hT,if_pos hT];rfl
   ·rw[if_neg hT,if_neg hT];rfl
  have fP:(lM T).length≤100000:=by rw[hpt];split <;> simp only[zMD,zMB,zMH] <;> omega
  have pf:=eA ⟨x,p,lM T,[],[],false,false⟩ (cY _ fP)
  unfold cR at pf
  simp only at pf
  by_cases hT:T=[]
  ·rw[if_pos hT]at hpt
   rw[hpt]at pf ⊢
   have hTd:decide (T=[])=true:=decide_eq_true hT
   simp only[zMK,zMX]at pf
   refine gN (zMy h2 (zMy h3 (zMy h4 (zMy h5 (zMy h7 (zMy oP (zMy ui (zMy rq (zMy jN (zMy hBN (zMy mS (zMy hBj (zMy xq (zMy xp (zMy E2 (zMy cV (zMy hTl (zMy hTd (zMy @aO @dV))))))))))))))))))) ?_
   (refine aa pf ?_;refine gN (zMy h2 (zMy h3 (zMy h4 (zMy h5 (zMy h7 (zMy oP (zMy ui (zMy rq (zMy jN (zMy hBN (zMy mS (zMy hBj (zMy xq (zMy xp (zMy E2 (zMy cV (zMy hTl (zMy hTd (zMy @aO @dV))))))))))))))))))) ?_)
   unfold la
   exact⟨fun hl=>(by rw[if_pos (by simp only[decide_eq_true_eq,decide_eq_false_iff_not]at hl;omega)];rfl),fun hl=>(by rw[if_neg (by simp only[decide_eq_true_eq,decide_eq_false_iff_not]at hl;omega)];rfl)⟩
  ·rw[if_neg hT]at hpt
   rw[hpt]at pf ⊢
   have hTd:decide (T=[])=false:=decide_eq_false hT
   refine gN (zMy h2 (zMy h3 (zMy h4 (zMy h5 (zMy h7 (zMy oP (zMy ui (zMy rq (zMy jN (zMy hBN (zMy mS (zMy hBj (zMy xq (zMy xp (zMy E2 (zMy cV (zMy hTl (zMy hTd (zMy @aO @dV))))))))))))))))))) ?_
   refine⟨by omega,?_⟩
   (refine aa pf ?_;refine gN (zMy h2 (zMy h3 (zMy h4 (zMy h5 (zMy h7 (zMy oP (zMy ui (zMy rq (zMy jN (zMy hBN (zMy mS (zMy hBj (zMy xq (zMy xp (zMy E2 (zMy cV (zMy hTl (zMy hTd (zMy @aO @dV))))))))))))))))))) ?_)
   unfold la
   exact⟨fun hl=>(by rw[if_pos (by simp only[decide_eq_true_eq,decide_eq_false_iff_not]at hl;omega)];rfl),fun hl=>(by rw[if_neg (by simp only[decide_eq_true_eq,decide_eq_false_iff_not]at hl;omega)];rfl)⟩
theorem vY (x:Bytes):da x=(x.all fL&&!((ay x).1==[])):=by
 unfold da
 by_cases h:(ay x).2=0
 ·rw[h];cases x.all fL <;> simp[bne]
 ·have h2:(ay x).1=[]:=by
   unfold ay at h ⊢
   split
   ·rfl
   ·split
    ·rfl
    ·rename_i h1 h2;rw[if_neg h1,if_neg h2]at h;exact absurd rfl h
  rw[h2];cases x.all fL <;> simp
theorem oc {u:cX}{L:List Bytes}(h:u.path=df→L.all da=true)(hb:L.all da=false):jQ u L=(fQ.none,110):=by
 unfold jQ
 rw[if_neg (fun k=>by rw[h k]at hb;cases hb),if_pos hb]
theorem qS {u:cX}{L:List Bytes}(h:L.all da=true):jQ u L=mb ⟨fe,bn u++if u.path=df then [] else L.flatMap bW⟩:=by
 unfold jQ
 by_cases k:u.path=df
 ·rw[if_pos k,if_pos k,zMI]
 ·rw[if_neg k,if_neg k,if_neg (by rw[h];simp)]
theorem wX (u:cX)(hk:Fair u):PC Tryz.V 188 [cR u] (.fF [mH (iZ u).1,.int .i64 (iZ u).2]):=by
 have pv1:=uX u hk
 have fP:=hk.1
 unfold cR at pv1 ⊢
 cases hv:dQ u
 ·rw[hv]at pv1
  rw[show iZ u=(fQ.none,8) from if_pos hv]
  refine aV 3000 Tryz.func188 rfl Tryz.ntmps188 Tryz.results188 Tryz.call188 (by simp) (by simp[flat,flat.af,mH,cR]) (by simp[flat,flat.af,mH,cR]) ?_
  refine bo ?_
  (refine aa pv1 ?_;refine od ?_)
  rfl
 obtain⟨T,z,hT,CZ,hL0,hp4⟩:=Ar hv
 rw[Ei hv hT CZ]
 rw[hv]at pv1
 have hsf:=uF 47 u.path
 have hpth:u.path=df→T.dropLast.all da=true:=by
  intro k
  rw[k]at hT
  obtain rfl:T=[([46,119,101,108,108,45,107,110,111,119,110]:List UInt8),fJ]:=by
   have e:aA 47 df=[[],([46,119,101,108,108,45,107,110,111,119,110]:List UInt8),fJ]:=by decide +kernel
   rw[e]at hT
   exact(List.cons.inj hT).2.symm
  decide +kernel
 refine aV 3000 Tryz.func188 rfl Tryz.ntmps188 Tryz.results188 Tryz.call188 (by simp) (by simp[flat,flat.af,mH,cR]) (by simp[flat,flat.af,mH,cR]) ?_
 refine bo ?_
 (refine aa pv1 ?_;refine od ?_)
 refine ae (qi u.path 47 (by omega)) ?_
 rintro r b ⟨j,rfl,mM,hj,bf⟩
 rw[hT]at hsf hj ⊢
 generalize (aL 47 u.path).1=c at *
 clear hT
 simp only[zMP,zMD,zMB]at hsf
 simp only at mM hj bf
 have e0:T.length+1 - Int.toNat 1=T.length:=by simp
 have e1:List.drop (Int.toNat 1 * 1) (List.take ((T.length+1) * 1) (SV.str c::T.map SV.str))=T.map SV.str:=by
  rw[List.take_of_length_le (by simp)];simp
 have hz:(T.map SV.str)[((T.length:Int) - 1).toNat * 1]? = some (.str z):=by
  rw[show ((T.length:Int) - 1).toNat * 1=T.length - 1 by omega,List.getElem?_map,← List.getLast?_eq_getElem?,CZ]
  rfl
 simp only[zM7,zMB]at hj
 have iG:=(zMz.1 hj).1
 have hjo:=fun X=>ad hj [X]
 have eQ:=bf.at (j:=1) rfl
 have de:=bf.at (j:=0) rfl
 have Ed:=fun X=>ad eQ [X]
 have hbo0:=fun X=>ad de [X]
 simp only[zMB,zMH]at mM
 have hQ0:∀ Y Z,(b.set j Y++[Z])[0]? = b[0]? := fun Y Z=>by
  rw[zM3 (by rw[zMQ];omega),zM1 (by omega)]
 have hQ1:∀ Y Z,(b.set j Y++[Z])[1]? = b[1]? := fun Y Z=>by
  rw[zM3 (by rw[zMQ];omega),zM1 (by omega)]
 have hQn:∀ Y Z,(b.set j Y++[Z])[b.length]? = some Z:=fun Y Z=>by
  rw[zMO (by simp)];simp
 have hQs:∀ Y Z W,((b.set j Y++[Z]).set 1 W)[1]? = some W:=fun Y Z W=>zMF (by simp;omega)
 have hzS:(z != [100,105,100,46,106,115,111,110])=(z != fJ):=rfl
 have hQl:∀ Y Z,(b.set j Y++[Z]).length=b.length+1:=fun Y Z=>by simp
 have hD0:∀ Y Z V,(b.set j Y++[Z]++[V])[0]? = b[0]? := fun Y Z V=>by
  rw[zM3 (by simp)];exact hQ0 Y Z
 have xo:∀ Y Z V,(b.set j Y++[Z]++[V])[1]? = b[1]? := fun Y Z V=>by
  rw[zM3 (by simp;omega)];exact hQ1 Y Z
 have hDn:∀ Y Z V,(b.set j Y++[Z]++[V])[b.length+1]? = some V:=fun Y Z V=>by
  rw[zMO (by simp)];simp
 have hDs:∀ Y Z V X,((b.set j Y++[Z]++[V]).set 1 X)[1]? = some X:=fun Y Z V X=>zMF (by simp)
 have tj:T.dropLast.length=T.length - 1:=List.length_dropLast ..
 have e2:((T.length:Int) - 1).toNat=T.dropLast.length:=by omega
 have e3:List.take (T.dropLast.length * 1) (T.map SV.str)=T.dropLast.map SV.str:=by
  rw[Nat.mul_one,tj,List.dropLast_eq_take,List.map_take]
 rw[e2]at hz
 have hdf:T.dropLast.flatten.length≤T.flatten.length:=by
  rw[List.dropLast_eq_take]
  have:=congrArg (fun l=>(List.flatten l).length) (zM8 (T.length - 1) T)
  simp only[List.flatten_append,zMD]at this
  omega
 have IV:=xE hv
 obtain⟨-,-,-,k4,k5,k6⟩:=ck IV.host
 have hfd:=yl T.dropLast
 have cY:∀ q:Bytes,q.length≤100000→jh ⟨fe,q⟩:=fun q hq=>⟨show fe.length≤_ by decide,show q.length≤_ by omega⟩
 refine gN (zMy e0 (zMy e1 (zMy e2 (zMy e3 (zMy hz (zMy hj (zMy hjo (zMy de (zMy eQ (zMy hQ0 (zMy hQ1 (zMy hQn (zMy hQs (zMy hQl (zMy hD0 (zMy xo (zMy hDn (zMy hDs (zMy @aO hzS))))))))))))))))))) ?_
 refine⟨⟨by omega,by omega⟩,fun hq=>⟨fun hf=>⟨⟨by omega,by omega⟩,⟨by omega,by omega⟩,by simp;omega,fun EY=>?_,fun EY=>⟨⟨by omega,by omega⟩,⟨by omega,by omega⟩,fun wH=>?_,fun wH=>?_⟩⟩,fun hf=>?_⟩,fun hq=>?_⟩
 ·rw[if_neg (by rw[hq];simp),if_neg (by rw[hf];simp),if_pos EY];rfl
 ·rw[if_neg (by rw[hq];simp),if_neg (by rw[hf];simp),if_neg (by rw[EY];simp),if_pos (by simp at wH;omega)];rfl
 ·rw[if_neg (by rw[hq];simp),if_neg (by rw[hf];simp),if_neg (by rw[EY];simp),if_neg (by simp at wH;omega)]
  have pn:=zi u.port (by omega) (by omega)
  have hdc:=bP 19 u.port.natAbs (by omega)
  have hxs:∀ x∈T.dropLast,x.length≤4096:=fun x hx=>by
   have:=kn hx
   omega
  have hLl:T.dropLast.length≤5000:=by omega
  have hfdl:(T.dropLast.flatMap bW).length≤60000:=by omega
  have hE0:=(hD0 (.own (.str c::T.map SV.str) 9 1 (T.length+1) false) (.own (T.map SV.str) 9 1 T.length false) (.own (T.dropLast.map SV.str) 9 1 T.dropLast.length false)).trans de
  have hE1:=(xo (.own (.str c::T.map SV.str) 9 1 (T.length+1) false) (.own (T.map SV.str) 9 1 T.length false) (.own (T.dropLast.map SV.str) 9 1 T.dropLast.length false)).trans eQ
  have hEr:=hDn (.own (.str c::T.map SV.str) 9 1 (T.length+1) false) (.own (T.map SV.str) 9 1 T.length false) (.own (T.dropLast.map SV.str) 9 1 T.dropLast.length false)
  clear hD0 xo hDn hDs hQ0 hQ1 hQn hQs hQl hz e3 e1 hdf hfd
  refine⟨fun hp=>?_,fun hp=>?_⟩
  ·have hp0:¬ u.port=0:=by simpa using hp
   have IJ:u.host++(37::51::65::bD u.port.natAbs)=bn u:=by unfold bn;rw[if_neg hp0];rfl
   (refine aa pn ?_;refine bo ?_)
   rw[IJ]
   have qN:(bn u).length≤300:=by rw[← IJ];simp only[zMD,zMB];omega
   refine⟨by omega,by omega,?_⟩
   refine az (fun σ=>∃ k:Nat,k≤T.dropLast.length∧lk 1 σ.t=some (.p 0 0)∧lk 2 σ.t=some (.p 1 0)∧lk 3 σ.t=some (.int .i64 0)∧lk 5 σ.t=some (.str (bn u++if u.path=df then [] else(T.dropLast.take k).flatMap bW))∧lk 56 σ.t=some (.o (b.length+1) T.dropLast.length)∧lk 57 σ.t=some (.int .i64 T.dropLast.length)∧lk 58 σ.t=some (.int .i64 k) ∧
    σ.b[0]? = some (.cells [.str u.host,.int .i64 u.port,.str u.path,.str u.query,.str u.fragment,.bool u.aN,.bool u.aZ] 35 true)∧σ.b[1]? = some (.cells [.str [],.str []] 123 true)∧σ.b[b.length+1]? = some (.own (T.dropLast.map SV.str) 9 1 T.dropLast.length false)∧(T.dropLast.take k).all da=true) (fun σ=>T.dropLast.length - fC 58 σ)
    ⟨0,by omega,rfl,rfl,rfl,congrArg (fun x=>some (SV.str x)) (by split <;> simp),rfl,rfl,rfl,hE0,hE1,hEr,rfl⟩ ?_
   generalize b.length=N at *
   generalize T.dropLast=L at *
   rintro⟨t,B⟩ ⟨k,hk,h1,h2,h3,h5,sa,kM,jO,kW,jN,mS,cV⟩
   simp only at h1 h2 h3 h5 sa kM jO kW jN mS
   rw[ao jO]
   have jM:∀ X,(B.set 1 X)[1]? = some X:=fun X=>zMF (zMz.1 jN).1
   by_cases aC:k<L.length
   ·have hx:(L.map SV.str)[k * 1]? = some (.str L[k]):=by simp[aC]
    have mL:=hxs L[k] (zMJ aC)
    have IK:=sf (g:=bW) aC
    have lp:da L[k]=false→L.all da=false:=fun h=>dj aC h
    have Cd:da L[k]=true→(L.take (k+1)).all da=true:=fun h=>aX aC cV h
    refine gN (zMy h1 (zMy h2 (zMy h3 (zMy h5 (zMy sa (zMy kM (zMy jO (zMy kW (zMy jN (zMy mS (zMy hx jM))))))))))) ?_
    refine⟨fun _=>⟨⟨by omega,by omega⟩,by simp;omega,?_⟩,fun h=>absurd h (by simp;omega)⟩
    have hd:=vY L[k]
    have xf:bW L[k]=58::aP (ay L[k]).1:=rfl
    have tj:=fH L[k]
    have pd:=eX L[k]
    have pe:=kG (ay L[k]).1 (by omega)
    have C7:=fT (ay L[k]).1
    have Cg:=mc (g:=bW) (L:=L) (k:=k)
    generalize L[k]=x at *
    clear hx
    refine az (fun σ=>∃ i:Nat,i≤x.length∧lk 1 σ.t=some (.p 0 0)∧lk 2 σ.t=some (.p 1 0)∧lk 3 σ.t=some (.int .i64 0)∧lk 5 σ.t=some (.str (bn u++if u.path=df then [] else(L.take k).flatMap bW))∧lk 56 σ.t=some (.o (N+1) L.length)∧lk 57 σ.t=some (.int .i64 L.length)∧lk 58 σ.t=some (.int .i64 k)∧lk 7 σ.t=some (.str x)∧lk 8 σ.t=some (.int .i64 i) ∧
     σ.b[0]? = some (.cells [.str u.host,.int .i64 u.port,.str u.path,.str u.query,.str u.fragment,.bool u.aN,.bool u.aZ] 35 true)∧σ.b[1]? = some (.cells [.str [],.str []] 123 true)∧σ.b[N+1]? = some (.own (L.map SV.str) 9 1 L.length false)∧(x.take i).all fL=true) (fun σ=>x.length - fC 8 σ)
     ⟨0,by omega,h1,h2,h3,h5,sa,kM,jO,rfl,rfl,kW,jN,mS,rfl⟩ ?_
    clear h1 h2 h3 h5 sa kM jO kW jN mS jM cV hE0 hE1 hEr
    rintro⟨t,B⟩ ⟨i,hi,h1,h2,h3,h5,sa,kM,jO,h7,h8,kW,jN,mS,cV⟩
    simp only at h1 h2 h3 h5 sa kM jO h7 h8 kW jN mS
    rw[ao h8]
    have jM:∀ X,(B.set 1 X)[1]? = some X:=fun X=>zMF (zMz.1 jN).1
    by_cases fD:i<x.length
    ·have hg:x.getD i 0=x[i]:=by simp[zM9,fD]
     have Ij:fL x[i]=false→L.all da=false:=fun h=>lp (by rw[hd,dj fD h];rfl)
     refine gN (zMy h1 (zMy h2 (zMy h3 (zMy h5 (zMy sa (zMy kM (zMy jO (zMy kW (zMy jN (zMy mS (zMy h7 (zMy h8 (zMy hg jM))))))))))))) ?_
     refine⟨fun _=>⟨⟨by omega,by omega⟩,?_⟩,fun h=>absurd h (by simp;omega)⟩
     (refine aa (du x[i]) ?_;refine gN (zMy h1 (zMy h2 (zMy h3 (zMy h5 (zMy sa (zMy kM (zMy jO (zMy kW (zMy jN (zMy mS (zMy h7 (zMy h8 (zMy hg jM))))))))))))) ?_)
     have sb:((x[i].toNat:Int) != 37)=(x[i] != 37):=by
      have:=cK fD 37 (n:=37) rfl
      show (!_)=(!_)
      rw[← this,hg]
     rw[sb]
     have fin:fL x[i]=true→∀ (t':List (Nat × SV)),lk 8 t'=some (.int .i64 ((i:Int)+1))→(∃ m:Nat,m≤x.length∧SV.int IntKind.i64 ((i:Int)+1)=SV.int IntKind.i64 (m:Int)∧(x.take m).all fL=true)∧x.length - fC 8 ⟨t',B⟩<x.length - (i:Int).toNat:=fun hm t' k6 =>
      ⟨⟨i+1,by omega,rfl,aX fD cV hm⟩,by rw[ao (σ:=⟨t',B⟩) k6];omega⟩
     refine⟨fun hp=>⟨⟨by omega,by omega⟩,fun h9=>?_,fun h9=>⟨⟨by omega,by omega⟩,fin ?_ _ rfl⟩⟩,fun hp=>⟨⟨by omega,by omega⟩,fin ?_ _ rfl⟩⟩
     ·have hb:=Ij (by unfold fL;simp at hp h9 ⊢;exact⟨h9,hp⟩)
      rw[oc hpth hb];rfl
     ·unfold fL;simp at h9 ⊢;exact .inl h9
     ·unfold fL;simp at hp ⊢;exact .inr hp
    ·have j4:i=x.length:=by omega
     subst j4
     rw[zMM]at cV
     have E2:decide ((x.length:Int)<x.length)=false:=by simp
     generalize ay x=X at *
     obtain⟨w,ew⟩:=X
     simp only at pd pe hd xf tj C7
     refine gN (zMy h1 (zMy h2 (zMy h3 (zMy h5 (zMy sa (zMy kM (zMy jO (zMy kW (zMy jN (zMy mS (zMy h7 (zMy h8 (zMy jM E2))))))))))))) ?_
     (refine aa pd ?_;refine gN (zMy h1 (zMy h2 (zMy h3 (zMy h5 (zMy sa (zMy kM (zMy jO (zMy kW (zMy jN (zMy mS (zMy h7 (zMy h8 jM)))))))))))) ?_)
     have D9:∀ (S:Bytes) (t':List (Nat × SV)),da x=true→S=bn u++(if u.path=df then [] else(L.take (k+1)).flatMap bW)→lk 58 t'=some (.int .i64 ((k:Int)+1)) →
      (∃ m:Nat,m≤L.length∧SV.str S=SV.str (bn u++if u.path=df then [] else(L.take m).flatMap bW)∧SV.int IntKind.i64 ((k:Int)+1)=SV.int IntKind.i64 (m:Int)∧(L.take m).all da=true)∧L.length - fC 58 ⟨t',B⟩<L.length - (k:Int).toNat:=fun S t' h hS k6 =>
      ⟨⟨k+1,by omega,by rw[hS],rfl,Cd h⟩,by rw[ao (σ:=⟨t',B⟩) k6];omega⟩
     refine⟨fun g1=>(by rw[oc hpth (lp (by rw[hd,g1];simp))];rfl),fun g1=>?_⟩
     have hgx:da x=true:=by rw[hd,cV,g1];rfl
     refine⟨fun g2=>?_,fun g2=>?_⟩
     ·have bt:¬ u.path=df:=fun e=>by rw[e]at g2;exact absurd g2 (by decide)
      (refine aa pe ?_;refine gN (zMy h1 (zMy h2 (zMy h3 (zMy h5 (zMy sa (zMy kM (zMy jO (zMy kW (zMy jN (zMy mS (zMy h7 (zMy h8 jM)))))))))))) ?_)
      have hle:(bn u++if u.path=df then [] else(L.take k).flatMap bW).length≤100000:=by
       rw[if_neg bt,zMD];omega
      refine⟨by omega,by omega,⟨by omega,by omega⟩,D9 _ _ hgx ?_ rfl⟩
      rw[if_neg bt,if_neg bt,IK,xf,List.append_assoc]
     ·have he:u.path=df:=by simpa[df] using g2
      refine⟨⟨by omega,by omega⟩,?_⟩
      have:=D9 (bn u++if u.path=df then [] else(L.take k).flatMap bW) ((58,.int .i64 ((k:Int)+1))::t) hgx (by rw[if_pos he,if_pos he]) rfl
      refine⟨?_,?_⟩
      ·obtain⟨⟨m,q1,q2,q3,q4⟩,-⟩:=this
       exact⟨m,q1,q2,q3,q4⟩
      ·rw[ao (k:=.i64) (n:=(k:Int)+1) rfl];omega
   ·have j4:k=L.length:=by omega
    subst j4
    rw[zMM]at h5 cV
    have E2:decide ((L.length:Int)<L.length)=false:=by simp
    rw[qS cV]
    have hle:(bn u++if u.path=df then [] else L.flatMap bW).length≤100000:=by
     rw[zMD];split
     ·simp;omega
     ·omega
    generalize (bn u++if u.path=df then [] else L.flatMap bW)=S at *
    have pf:=fO ⟨fe,S⟩ (cY S hle)
    unfold mH at pf
    simp only at pf
    have I3:=(zMz.1 jN).1
    have xq:=fun X=>ad jN [X]
    have xp:∀ X Y,((B++[X]).set 1 Y)[1]? = some Y:=fun X Y=>zMF (by simp;omega)
    refine gN (zMy h1 (zMy h2 (zMy h3 (zMy h5 (zMy sa (zMy kM (zMy jO (zMy kW (zMy jN (zMy mS (zMy jM (zMy E2 (zMy xq (zMy xp (zMy @aO @dV))))))))))))))) ?_
    (refine aa pf ?_;refine gN (zMy h1 (zMy h2 (zMy h3 (zMy h5 (zMy sa (zMy kM (zMy jO (zMy kW (zMy jN (zMy mS (zMy jM (zMy E2 (zMy xq (zMy xp (zMy @aO @dV))))))))))))))) ?_)
    unfold mb
    exact⟨fun hl=>(by rw[if_pos (by simp only[decide_eq_true_eq,decide_eq_false_iff_not]at hl;omega)];rfl),fun hl=>(by rw[if_neg (by simp only[decide_eq_true_eq,decide_eq_false_iff_not]at hl;omega)];rfl)⟩
  ·have hp0:u.port=0:=by simpa using hp
   have IJ:u.host=bn u:=by unfold bn;rw[if_pos hp0,zMI]
   have qN:(bn u).length≤300:=by rw[← IJ];omega
   refine az (fun σ=>∃ k:Nat,k≤T.dropLast.length∧lk 1 σ.t=some (.p 0 0)∧lk 2 σ.t=some (.p 1 0)∧lk 3 σ.t=some (.int .i64 0)∧lk 5 σ.t=some (.str (bn u++if u.path=df then [] else(T.dropLast.take k).flatMap bW))∧lk 56 σ.t=some (.o (b.length+1) T.dropLast.length)∧lk 57 σ.t=some (.int .i64 T.dropLast.length)∧lk 58 σ.t=some (.int .i64 k) ∧
    σ.b[0]? = some (.cells [.str u.host,.int .i64 u.port,.str u.path,.str u.query,.str u.fragment,.bool u.aN,.bool u.aZ] 35 true)∧σ.b[1]? = some (.cells [.str [],.str []] 123 true)∧σ.b[b.length+1]? = some (.own (T.dropLast.map SV.str) 9 1 T.dropLast.length false)∧(T.dropLast.take k).all da=true) (fun σ=>T.dropLast.length - fC 58 σ)
    ⟨0,by omega,rfl,rfl,rfl,congrArg (fun x=>some (SV.str x)) (by rw[IJ];split <;> simp),rfl,rfl,rfl,hE0,hE1,hEr,rfl⟩ ?_
   generalize b.length=N at *
   generalize T.dropLast=L at *
   rintro⟨t,B⟩ ⟨k,hk,h1,h2,h3,h5,sa,kM,jO,kW,jN,mS,cV⟩
   simp only at h1 h2 h3 h5 sa kM jO kW jN mS
   rw[ao jO]
   have jM:∀ X,(B.set 1 X)[1]? = some X:=fun X=>zMF (zMz.1 jN).1
   by_cases aC:k<L.length
   ·have hx:(L.map SV.str)[k * 1]? = some (.str L[k]):=by simp[aC]
    have mL:=hxs L[k] (zMJ aC)
    have IK:=sf (g:=bW) aC
    have lp:da L[k]=false→L.all da=false:=fun h=>dj aC h
    have Cd:da L[k]=true→(L.take (k+1)).all da=true:=fun h=>aX aC cV h
    refine gN (zMy h1 (zMy h2 (zMy h3 (zMy h5 (zMy sa (zMy kM (zMy jO (zMy kW (zMy jN (zMy mS (zMy hx jM))))))))))) ?_
    refine⟨fun _=>⟨⟨by omega,by omega⟩,by simp;omega,?_⟩,fun h=>absurd h (by simp;omega)⟩
    have hd:=vY L[k]
    have xf:bW L[k]=58::aP (ay L[k]).1:=rfl
    have tj:=fH L[k]
    have pd:=eX L[k]
    have pe:=kG (ay L[k]).1 (by omega)
    have C7:=fT (ay L[k]).1
    have Cg:=mc (g:=bW) (L:=L) (k:=k)
    generalize L[k]=x at *
    clear hx
    refine az (fun σ=>∃ i:Nat,i≤x.length∧lk 1 σ.t=some (.p 0 0)∧lk 2 σ.t=some (.p 1 0)∧lk 3 σ.t=some (.int .i64 0)∧lk 5 σ.t=some (.str (bn u++if u.path=df then [] else(L.take k).flatMap bW))∧lk 56 σ.t=some (.o (N+1) L.length)∧lk 57 σ.t=some (.int .i64 L.length)∧lk 58 σ.t=some (.int .i64 k)∧lk 7 σ.t=some (.str x)∧lk 8 σ.t=some (.int .i64 i) ∧
     σ.b[0]? = some (.cells [.str u.host,.int .i64 u.port,.str u.path,.str u.query,.str u.fragment,.bool u.aN,.bool u.aZ] 35 true)∧σ.b[1]? = some (.cells [.str [],.str []] 123 true)∧σ.b[N+1]? = some (.own (L.map SV.str) 9 1 L.length false)∧(x.take i).all fL=true) (fun σ=>x.length - fC 8 σ)
     ⟨0,by omega,h1,h2,h3,h5,sa,kM,jO,rfl,rfl,kW,jN,mS,rfl⟩ ?_
    clear h1 h2 h3 h5 sa kM jO kW jN mS jM cV hE0 hE1 hEr
    rintro⟨t,B⟩ ⟨i,hi,h1,h2,h3,h5,sa,kM,jO,h7,h8,kW,jN,mS,cV⟩
    simp only at h1 h2 h3 h5 sa kM jO h7 h8 kW jN mS
    rw[ao h8]
    have jM:∀ X,(B.set 1 X)[1]? = some X:=fun X=>zMF (zMz.1 jN).1
    by_cases fD:i<x.length
    ·have hg:x.getD i 0=x[i]:=by simp[zM9,fD]
     have Ij:fL x[i]=false→L.all da=false:=fun h=>lp (by rw[hd,dj fD h];rfl)
     refine gN (zMy h1 (zMy h2 (zMy h3 (zMy h5 (zMy sa (zMy kM (zMy jO (zMy kW (zMy jN (zMy mS (zMy h7 (zMy h8 (zMy hg jM))))))))))))) ?_
     refine⟨fun _=>⟨⟨by omega,by omega⟩,?_⟩,fun h=>absurd h (by simp;omega)⟩
     (refine aa (du x[i]) ?_;refine gN (zMy h1 (zMy h2 (zMy h3 (zMy h5 (zMy sa (zMy kM (zMy jO (zMy kW (zMy jN (zMy mS (zMy h7 (zMy h8 (zMy hg jM))))))))))))) ?_)
     have sb:((x[i].toNat:Int) != 37)=(x[i] != 37):=by
      have:=cK fD 37 (n:=37) rfl
      show (!_)=(!_)
      rw[← this,hg]
     rw[sb]
     have fin:fL x[i]=true→∀ (t':List (Nat × SV)),lk 8 t'=some (.int .i64 ((i:Int)+1))→(∃ m:Nat,m≤x.length∧SV.int IntKind.i64 ((i:Int)+1)=SV.int IntKind.i64 (m:Int)∧(x.take m).all fL=true)∧x.length - fC 8 ⟨t',B⟩<x.length - (i:Int).toNat:=fun hm t' k6 =>
      ⟨⟨i+1,by omega,rfl,aX fD cV hm⟩,by rw[ao (σ:=⟨t',B⟩) k6];omega⟩
     refine⟨fun hp=>⟨⟨by omega,by omega⟩,fun h9=>?_,fun h9=>⟨⟨by omega,by omega⟩,fin ?_ _ rfl⟩⟩,fun hp=>⟨⟨by omega,by omega⟩,fin ?_ _ rfl⟩⟩
     ·have hb:=Ij (by unfold fL;simp at hp h9 ⊢;exact⟨h9,hp⟩)
      rw[oc hpth hb];rfl
     ·unfold fL;simp at h9 ⊢;exact .inl h9
     ·unfold fL;simp at hp ⊢;exact .inr hp
    ·have j4:i=x.length:=by omega
     subst j4
     rw[zMM]at cV
     have E2:decide ((x.length:Int)<x.length)=false:=by simp
     generalize ay x=X at *
     obtain⟨w,ew⟩:=X
     simp only at pd pe hd xf tj C7
     refine gN (zMy h1 (zMy h2 (zMy h3 (zMy h5 (zMy sa (zMy kM (zMy jO (zMy kW (zMy jN (zMy mS (zMy h7 (zMy h8 (zMy jM E2))))))))))))) ?_
     (refine aa pd ?_;refine gN (zMy h1 (zMy h2 (zMy h3 (zMy h5 (zMy sa (zMy kM (zMy jO (zMy kW (zMy jN (zMy mS (zMy h7 (zMy h8 jM)))))))))))) ?_)
     have D9:∀ (S:Bytes) (t':List (Nat × SV)),da x=true→S=bn u++(if u.path=df then [] else(L.take (k+1)).flatMap bW)→lk 58 t'=some (.int .i64 ((k:Int)+1)) →
      (∃ m:Nat,m≤L.length∧SV.str S=SV.str (bn u++if u.path=df then [] else(L.take m).flatMap bW)∧SV.int IntKind.i64 ((k:Int)+1)=SV.int IntKind.i64 (m:Int)∧(L.take m).all da=true)∧L.length - fC 58 ⟨t',B⟩<L.length - (k:Int).toNat:=fun S t' h hS k6 =>
      ⟨⟨k+1,by omega,by rw[hS],rfl,Cd h⟩,by rw[ao (σ:=⟨t',B⟩) k6];omega⟩
     refine⟨fun g1=>(by rw[oc hpth (lp (by rw[hd,g1];simp))];rfl),fun g1=>?_⟩
     have hgx:da x=true:=by rw[hd,cV,g1];rfl
     refine⟨fun g2=>?_,fun g2=>?_⟩
     ·have bt:¬ u.path=df:=fun e=>by rw[e]at g2;exact absurd g2 (by decide)
      (refine aa pe ?_;refine gN (zMy h1 (zMy h2 (zMy h3 (zMy h5 (zMy sa (zMy kM (zMy jO (zMy kW (zMy jN (zMy mS (zMy h7 (zMy h8 jM)))))))))))) ?_)
      have hle:(bn u++if u.path=df then [] else(L.take k).flatMap bW).length≤100000:=by
       rw[if_neg bt,zMD];omega
      refine⟨by omega,by omega,⟨by omega,by omega⟩,D9 _ _ hgx ?_ rfl⟩
      rw[if_neg bt,if_neg bt,IK,xf,List.append_assoc]
     ·have he:u.path=df:=by simpa[df] using g2
      refine⟨⟨by omega,by omega⟩,?_⟩
      have:=D9 (bn u++if u.path=df then [] else(L.take k).flatMap bW) ((58,.int .i64 ((k:Int)+1))::t) hgx (by rw[if_pos he,if_pos he]) rfl
      refine⟨?_,?_⟩
      ·obtain⟨⟨m,q1,q2,q3,q4⟩,-⟩:=this
       exact⟨m,q1,q2,q3,q4⟩
      ·rw[ao (k:=.i64) (n:=(k:Int)+1) rfl];omega
   ·have j4:k=L.length:=by omega
    subst j4
    rw[zMM]at h5 cV
    have E2:decide ((L.length:Int)<L.length)=false:=by simp
    rw[qS cV]
    have hle:(bn u++if u.path=df then [] else L.flatMap bW).length≤100000:=by
     rw[zMD];split
     ·simp;omega
     ·omega
    generalize (bn u++if u.path=df then [] else L.flatMap bW)=S at *
    have pf:=fO ⟨fe,S⟩ (cY S hle)
    unfold mH at pf
    simp only at pf
    have I3:=(zMz.1 jN).1
    have xq:=fun X=>ad jN [X]
    have xp:∀ X Y,((B++[X]).set 1 Y)[1]? = some Y:=fun X Y=>zMF (by simp;omega)
    refine gN (zMy h1 (zMy h2 (zMy h3 (zMy h5 (zMy sa (zMy kM (zMy jO (zMy kW (zMy jN (zMy mS (zMy jM (zMy E2 (zMy xq (zMy xp (zMy @aO @dV))))))))))))))) ?_
    (refine aa pf ?_;refine gN (zMy h1 (zMy h2 (zMy h3 (zMy h5 (zMy sa (zMy kM (zMy jO (zMy kW (zMy jN (zMy mS (zMy jM (zMy E2 (zMy xq (zMy xp (zMy @aO @dV))))))))))))))) ?_)
    unfold mb
    exact⟨fun hl=>(by rw[if_pos (by simp only[decide_eq_true_eq,decide_eq_false_iff_not]at hl;omega)];rfl),fun hl=>(by rw[if_neg (by simp only[decide_eq_true_eq,decide_eq_false_iff_not]at hl;omega)];rfl)⟩
 ·rw[if_neg (by rw[hq];simp),if_pos hf];rfl
 ·rw[if_pos hq];rfl
theorem tG (d:fQ)(h:jh d):PC Tryz.V 120 [mH d] (.fF [mH (eG d).1,.int .i64 (eG d).2]):=by
 have pt:=sT d h
 have IL:=Dh d
 unfold eG
 generalize eS d=X at pt IL ⊢
 obtain⟨u,e⟩:=X
 simp only at pt IL ⊢
 refine aV 3000 Tryz.func120 rfl Tryz.ntmps120 Tryz.results120 Tryz.call120 (by simp) (by simp[flat,flat.af,mH,cR]) (by simp[flat,flat.af,mH,cR]) ?_
 unfold mH
 unfold mH cR at pt
 refine bo ?_
 (refine aa pt ?_;refine bo ?_)
 refine⟨fun h1=>(by rw[if_pos (by simpa using h1)];rfl),fun h1=>?_⟩
 rw[if_neg (by simpa using h1)]
 have pf:=wX u (IL (by simpa using h1))
 unfold mH cR at pf
 (refine aa pf ?_;exact bo True.intro)
end Go.Proofs.YtnmlimehgifadaaGreatDoor
namespace Wf
open Go Go.RowKit
structure jg where
 kind:Int
 text:Bytes
 host:Bytes
 port:Int
 deriving DecidableEq
def jg.none:jg:=⟨0,[],[],0⟩
def rW (s:Bytes):jg × Int:=if (bI s).2≠0 then(jg.none,(bI s).2) else(⟨1,db (bI s).1,(bI s).1.host,0⟩,0)
def rV (s:Bytes):jg × Int:=if (bQ s).2≠0 then(jg.none,(bQ s).2) else(⟨2,dF (bQ s).1,(bQ s).1.host,0⟩,0)
def sZ (s:Bytes):jg × Int:=if (a7 s).2≠0 then(jg.none,(a7 s).2) else(⟨3,aT (a7 s).1,(a7 s).1.host,(a7 s).1.port⟩,0)
def ks (c:fQ × Int):jg × Int:=if c.2≠0 then(jg.none,c.2) else if (bw c.1).2≠0 then(jg.none,(bw c.1).2) else(⟨4,bC c.1,(bw c.1).1.1,(bw c.1).1.2⟩,0)
def s9 (s:Bytes):jg × Int:=if (bd s).2≠0 then(jg.none,(bd s).2) else ks (eG (bd s).1)
def BS:Bytes:=[97,99,99,116]
def DX:Bytes:=[109,97,105,108,116,111]
def Ig:Bytes:=[100,105,100]
def lZ (sch s:Bytes):jg × Int :=
 if sch=BS then rW s else if sch=DX then rV s else if sch=dw then sZ s else if sch=Ig then s9 s else(jg.none,60)
def bY (s:Bytes):jg × Int :=
 if 4096<s.length then(jg.none,5)
 else if (aL 58 s).2.2=false then(jg.none,60)
 else lZ (lower (aL 58 s).1) s
def ko (i:jg):Bool:=decide (bY i.text=(i,0))
theorem BV (c:fQ × Int)(h:(ks c).2≠0):(ks c).1=jg.none:=by
 unfold ks at h ⊢
 split
 ·rfl
 rename_i h1
 rw[if_neg h1]at h
 split
 ·rfl
 rename_i h2
 rw[if_neg h2]at h
 exact absurd rfl h
theorem BU (s:Bytes)(h:(bY s).2≠0):(bY s).1=jg.none:=by
 unfold bY at h ⊢
 split
 ·rfl
 rename_i h1
 rw[if_neg h1]at h
 split
 ·rfl
 rename_i h2
 rw[if_neg h2]at h
 unfold lZ at h ⊢
 split
 ·rename_i k;rw[if_pos k]at h
  unfold rW at h ⊢
  split
  ·rfl
  ·rename_i h3;rw[if_neg h3]at h;exact absurd rfl h
 rename_i k;rw[if_neg k]at h;clear k
 split
 ·rename_i k;rw[if_pos k]at h
  unfold rV at h ⊢
  split
  ·rfl
  ·rename_i h3;rw[if_neg h3]at h;exact absurd rfl h
 rename_i k;rw[if_neg k]at h;clear k
 split
 ·rename_i k;rw[if_pos k]at h
  unfold sZ at h ⊢
  split
  ·rfl
  ·rename_i h3;rw[if_neg h3]at h;exact absurd rfl h
 rename_i k;rw[if_neg k]at h;clear k
 split
 ·rename_i k;rw[if_pos k]at h
  unfold s9 at h ⊢
  split
  ·rfl
  ·rename_i h3;rw[if_neg h3]at h;exact BV _ h
 ·rfl
theorem lY {p:Bytes}{r:Bytes}(hp:(58:UInt8) ∉ p)(hl:(p++58::r).length≤4096):bY (p++58::r)=lZ (lower p) (p++58::r):=by
 unfold bY
 rw[if_neg (by omega),gg (dS hp),if_neg (by simp)]
theorem Ic {s:Bytes}{i:jg}(h:bY s=(i,0)):bY i.text=(i,0)∧aF (aU i.host i.port)=((i.host,i.port),0) ∧
 ((∃ a:mR,i.kind=1∧i.text=db a∧i.host=a.host∧i.port=0)∨(∃ m:lD,i.kind=2∧i.text=dF m∧i.host=m.host∧i.port=0) ∨
  (∃ u:cX,i.kind=3∧i.text=aT u∧fW u∧i.host=u.host∧i.port=u.port) ∨
  (∃ (c:fQ) (u:cX) (r:Bytes),i.kind=4∧i.text=bC c∧c.method=fe∧c.id=bn u++r∧i.host=u.host∧i.port=u.port)):=by
 have IC:∀ {x:Bytes},bF x=(x,0)→aF (aU x 0)=((x,0),0):=by
  intro x hx
  have jO:(58:UInt8) ∉ x:=fun k=>by
   have:=kv hx _ k
   revert this;decide
  have e:aU x 0=x:=if_pos rfl
  rw[e]
  unfold aF
  rw[eR (dS jO)]
  simp only
  unfold bZ
  rw[hx]
  simp
 unfold bY at h
 split at h
 ·simp at h
 split at h
 ·simp at h
 rename_i h1 h2
 unfold lZ at h
 split at h
 ·unfold rW at h
  split at h
  ·rename_i k;exact absurd (zMT.inj h).2 k
  rename_i k
  have e:bI s=((bI s).1,0):=by
   have:(bI s).2=0:=by simpa using k
   rw[← this]
  obtain⟨c1,c2,c3⟩:=wD e
  obtain⟨b1,b2⟩:=GP e
  generalize (bI s).1=a at *
  obtain rfl:=(zMT.inj h).1
  refine⟨?_,IC c1.host,.inl ⟨a,rfl,rfl,rfl,rfl⟩⟩
  have ea:db a=BS++58::(a.user++[64]++a.host):=by simp[db,mK,BS]
  simp only
  rw[ea,lY (by decide) (by rw[← ea];omega),← ea]
  unfold lZ
  rw[if_pos (by decide)]
  unfold rW
  rw[b1]
  simp
 split at h
 ·unfold rV at h
  split at h
  ·rename_i k;exact absurd (zMT.inj h).2 k
  rename_i k
  have e:bQ s=((bQ s).1,0):=by
   have:(bQ s).2=0:=by simpa using k
   rw[← this]
  have c1:=BB e
  have b1:=FV c1
  generalize (bQ s).1=a at *
  obtain rfl:=(zMT.inj h).1
  refine⟨?_,IC c1.host,.inr (.inl ⟨a,rfl,rfl,rfl,rfl⟩)⟩
  have ea:dF a=DX++58::(aD mC a.loc++[64]++a.host):=by simp[dF,kj,DX]
  have hl:(dF a).length≤4096:=by
   have h1:=dB mC a.loc
   have h2:=nE c1.loc
   have h3:=(jJ c1.host).2.1
   simp[dF,kj];omega
  simp only
  rw[ea,lY (by decide) (by rw[← ea];omega),← ea]
  unfold lZ
  rw[if_neg (by decide),if_pos (by decide)]
  unfold rV
  rw[b1]
  simp
 split at h
 ·unfold sZ at h
  split at h
  ·rename_i k;exact absurd (zMT.inj h).2 k
  rename_i k
  have e:a7 s=((a7 s).1,0):=by
   have:(a7 s).2=0:=by simpa using k
   rw[← this]
  have c1:=je e
  generalize (a7 s).1=a at *
  obtain rfl:=(zMT.inj h).1
  refine⟨?_,c1.host,.inr (.inr (.inl ⟨a,rfl,rfl,c1,rfl,rfl⟩))⟩
  have ea:aT a=dw++58::([47,47]++aU a.host a.port++bz a++(if a.aZ then [35]++a.fragment else [])):=by simp[aT,dw]
  simp only
  rw[ea,lY (by decide) (by rw[← ea];exact c1.len),← ea]
  unfold lZ
  rw[if_neg (by decide),if_neg (by decide),if_pos (by decide)]
  unfold sZ
  rw[c1.parse]
  simp
 split at h
 ·unfold s9 at h
  split at h
  ·rename_i k;exact absurd (zMT.inj h).2 k
  unfold ks at h
  split at h
  ·rename_i k;exact absurd (zMT.inj h).2 k
  rename_i k1 k2
  split at h
  ·rename_i k;exact absurd (zMT.inj h).2 k
  have e:eG (bd s).1=((eG (bd s).1).1,0):=by
   have:(eG (bd s).1).2=0:=by simpa using k2
   rw[← this]
  obtain⟨u,d1,d2,d3,d4,d5,d6,⟨r,d7⟩,d8⟩:=kP e
  generalize (eG (bd s).1).1=c at *
  rw[d5]at h
  obtain rfl:=(zMT.inj h).1
  refine⟨?_,d1.host,.inr (.inr (.inr ⟨c,u,r,rfl,rfl,d8,d7,rfl,rfl⟩))⟩
  have ea:bC c=Ig++58::(c.method++[58]++c.id):=by simp[bC,nS,Ig]
  have hl:=(zS d6).2.2.1
  simp only
  rw[ea,lY (by decide) (by rw[← ea];omega),← ea]
  unfold lZ
  rw[if_neg (by decide),if_neg (by decide),if_neg (by decide),if_pos (by decide)]
  unfold s9
  rw[d6]
  simp only[ne_eq,not_true,if_false]
  unfold ks
  rw[d4]
  simp only[ne_eq,not_true,if_false]
  rw[d5]
  simp
 ·simp at h
end Wf
namespace Go.Proofs.YtnmlimehgifadaaGreatDoor
open Go Vc Go.RowKit Wf
def asv (a:mR):SV:=.agg [.str a.user,.str a.host]
theorem Bl (a:mR)(h:a.user.length≤140737488355328∧a.host.length≤140737488355328):PC Tryz.V 62 [asv a] (.str (db a)):=by
 refine aV 3000 Tryz.func62 rfl Tryz.ntmps62 Tryz.results62 Tryz.call62 (by simp) (by simp[flat,flat.af,asv]) (by simp[flat,flat.af,asv]) ?_
 unfold asv
 refine bo ?_
 refine⟨by omega,by omega,by simp only[zMD,zMB,zMH];omega,?_⟩
 simp[db,mK]
theorem DJ (s:Bytes):PC Tryz.V 61 [.str s] (.fF [asv (bI s).1,.int .i64 (bI s).2]):=by
 have pe:=gV (s.take 5) mK (by simp;omega) (by decide)
 rw[show lower mK=mK by decide]at pe
 refine aV 3000 Tryz.func61 rfl Tryz.ntmps61 Tryz.results61 Tryz.call61 (by simp) (by simp[flat,flat.af]) (by simp[flat,flat.af,asv]) ?_
 refine bo ?_
 unfold bI
 refine⟨fun h=>?_,fun h=>⟨fun h2=>⟨⟨by omega,(by simp at h2;omega)⟩,?_⟩,fun h2=>?_⟩⟩
 ·have h:4096<s.length:=(by simp at h;omega)
  rw[if_pos h];rfl
 ·have h:¬ 4096<s.length:=(by simp at h;omega)
  have h2:¬ s.length<5:=(by simp at h2;omega)
  rw[if_neg h]
  (refine aa pe ?_;simp only[cq,↓Xn,↓Xo,↓Xg,↓Xd,↓Xe,↓Xf,Tryz.VΓ,Tryz.Γs,Xp,Xi,Nat.reduceAdd,Nat.reduceSub,Nat.reduceLT,Nat.reduceLeDiff,reduceIte,reduceCtorEq,Nat.reduceEqDiff,implies_true,forall_const,cp,Int.reduceToNat])
  refine⟨fun h3=>?_,fun h3=>⟨⟨by omega,by omega⟩,?_⟩⟩
  ·rw[if_pos (.inr (by simpa using h3))];rfl
  rw[if_neg (by simp only[not_or];exact⟨h2,by simpa using h3⟩)]
  have hS:(s.drop 5).length≤4096:=by simp;omega
  generalize s.drop 5=S at hS ⊢
  have pi:=bj S [64] (by omega) (by decide)
  rw[show (List.contains [64] ·:UInt8→Bool)=(·==64) from by funext c;simp;exact(Bool.beq_eq_decide_eq _ _).symm]at pi
  have fP:=cw (·==64) S
  unfold rf
  (refine aa pi ?_;refine bo ?_)
  refine⟨fun h4=>?_,fun h4=>?_⟩
  ·have h4:=beq_iff_eq.1 h4
   rw[eR (by omega)];rfl
  have h4:pre (·==64) S<S.length:=by
   have:=beq_eq_false_iff_ne.1 h4
   omega
  rw[show aL 64 S=(S.take (pre (·==64) S),S.drop (pre (·==64) S+1),true) from if_pos h4]
  simp only[Bool.true_eq_false,if_false]
  generalize hk:pre (·==64) S=k at *
  have pn:=gu (S.take k) rT (by decide)
  have ph:=xT (S.drop (k+1)) (by simp;omega)
  generalize bk rT (S.take k)=n at pn ⊢
  obtain⟨n,e1⟩:=n
  generalize bF (S.drop (k+1))=hh at ph ⊢
  obtain⟨hh,e2⟩:=hh
  simp only at pn ph
  unfold zZ
  simp only
  refine⟨⟨by omega,by omega⟩,?_⟩
  (refine aa pn ?_;refine bo ?_)
  refine⟨fun h2=>⟨fun h3=>⟨⟨by omega,?_⟩,fun h4=>?_,fun h4=>?_⟩,fun h3=>?_⟩,fun h2=>?_⟩
  ·cases n with
   | nil=>simp at h3
   | cons c r=>simp only[zMB];omega
  ·cases n with
   | nil=>simp at h3
   | cons c r =>
     have h4:c=37:=by
      rw[← UInt8.toNat_inj]
      have:((c.toNat:Int)==37)=true:=h4
      have:=beq_iff_eq.1 this
      have e:(37:UInt8).toNat=37:=rfl
      omega
     rw[if_pos (.inr (.inr (by rw[h4];rfl)))]
     rfl
  ·cases n with
   | nil=>simp at h3
   | cons c r =>
     have h4:c≠37:=by
      rintro rfl
      have:(((37:UInt8).toNat:Int)==37)=false:=h4
      simp at this
     rw[if_neg (by simp only[not_or];exact⟨by simpa using h2,by simp,by simpa using h4⟩)]
     refine⟨⟨by omega,by omega⟩,⟨by omega,by omega⟩,?_⟩
     (refine aa ph ?_;refine bo ?_)
     refine⟨fun h5=>?_,fun h5=>?_⟩
     ·rw[if_pos (by simpa using h5)];rfl
     ·rw[if_neg (by simpa using h5)];rfl
  ·rw[if_pos (.inr (.inl (by simpa using h3)))];rfl
  ·rw[if_pos (.inl (by simpa using h2))];rfl
 ·have h:¬ 4096<s.length:=(by simp at h;omega)
  have h2:s.length<5:=(by simp at h2;omega)
  rw[if_neg h,if_pos (.inl h2)];rfl
def iM (i:jg):SV:=.agg [.int .i64 i.kind,.str i.text,.str i.host,.int .i64 i.port]
theorem id_fits (s:Bytes)(h:(bI s).2=0):(bI s).1.user.length≤140737488355328∧(bI s).1.host.length≤140737488355328:=by
 have h1:=(wD (s:=s) (a:=(bI s).1) (by rw[← h])).2
 unfold db at h1
 simp at h1
 omega
theorem Ie (s:Bytes)(h:(bQ s).2=0):(bQ s).1.loc.length≤300000∧(bQ s).1.host.length≤140737488355328:=by
 have h1:=BB (s:=s) (m:=(bQ s).1) (by rw[← h])
 have h2:=nE h1.loc
 have h3:=(jJ h1.host).2.1
 exact⟨by omega,by omega⟩
theorem FL (s:Bytes):PC Tryz.V 65 [.str s] (.fF [iM (sZ s).1,.int .i64 (sZ s).2]):=by
 have p1:=jG s
 have p2:=fun h=>eA (a7 s).1 (CF (je (s:=s) (u:=(a7 s).1) (by rw[← (show (a7 s).2=0 from h)])))
 unfold sZ
 unfold cR at p1 p2
 (refine aV 3000 Tryz.func65 rfl Tryz.ntmps65 Tryz.results65 Tryz.call65 (by simp) (by simp[flat,flat.af,iM]) (by simp[flat,flat.af,iM]) ?_)
 unfold iM
 refine od ?_
 (refine aa p1 ?_;refine od ?_)
 refine⟨fun h=>?_,fun h=>?_⟩
 ·have h:(a7 s).2≠0:=by simpa using h
  simp[h,jg.none]
 ·have h:(a7 s).2=0:=by simpa using h
  (refine aW (p2 h) ?_;refine od ?_)
  simp only[h]
  exact⟨(av (by kernel_rfl)),by simp⟩
theorem BQ (s:Bytes):jh (bd s).1:=by
 by_cases h:(bd s).2=0
 ·have h1:=zS (s:=s) (d:=(bd s).1) (by rw[← h])
  have h2:=tx (bd s).1
  exact⟨by omega,by omega⟩
 ·rw[zT s h];exact⟨by decide,by decide⟩
theorem BR {d c:fQ}(h:eG d=(c,0)):jh c:=by
 obtain⟨u,h1,h2,h3,h4,h5,h6,h7,h8⟩:=kP h
 have h9:=zS h6
 have dH:=tx c
 exact⟨by omega,by omega⟩
theorem id_auth {d c:fQ}(h:eG d=(c,0)):(bw c).2=0:=by
 obtain⟨u,h1,h2,h3,h4,h5,h6,h7,h8⟩:=kP h
 rw[h5]
theorem tF (s:Bytes):PC Tryz.V 66 [.str s] (.fF [iM (s9 s).1,.int .i64 (s9 s).2]):=by
 have p1:=jI s
 have p2:=tG (bd s).1 (BQ s)
 unfold s9
 unfold mH at p1 p2
 (refine aV 3000 Tryz.func66 rfl Tryz.ntmps66 Tryz.results66 Tryz.call66 (by simp) (by simp[flat,flat.af,iM]) (by simp[flat,flat.af,iM]) ?_)
 unfold iM
 refine od ?_
 (refine aa p1 ?_;refine od ?_)
 refine⟨fun h=>?_,fun h=>?_⟩
 ·have h:(bd s).2≠0:=by simpa using h
  simp[h,jg.none]
 have h:(bd s).2=0:=by simpa using h
 simp only[h,ne_eq,not_true_eq_false,if_false]
 generalize hz:eG (bd s).1=z at p2
 obtain⟨c,e⟩:=z
 simp only at p2
 (refine aa p2 ?_;refine od ?_)
 refine⟨fun h=>?_,fun h=>?_⟩
 ·have h:e≠0:=by simpa using h
  simp[ks,h,jg.none]
 obtain rfl:e=0:=by simpa using h
 have p3:=tH c (BR hz)
 have p4:=fO c (BR hz)
 unfold mH at p3 p4
 have ha:=id_auth hz
 rw[ha]at p3
 (refine aa (p3) ?_;refine od ?_)
 (refine aW (p4) ?_;refine od ?_)
 exact⟨(av (by kernel_rfl)),by simp[ks,ha]⟩
theorem id_eqF (a b:jg):(a.kind==b.kind&&(a.text==b.text&&(a.host==b.host&&a.port==b.port)))=decide (a=b):=by
 obtain⟨a1,a2,a3,a4⟩:=a
 obtain⟨b1,b2,b3,b4⟩:=b
 rw[Bool.eq_iff_iff]
 simp
theorem Bu (hp:∀ s,PC Tryz.V 29 [.str s] (.fF [iM (bY s).1,.int .i64 (bY s).2]))(i:jg):PC Tryz.V 191 [iM i] (.bool (ko i)):=by
 have p1:=hp i.text
 unfold iM at p1
 (refine aV 3000 Tryz.func191 rfl Tryz.ntmps191 Tryz.results191 Tryz.call191 (by simp) (by simp[flat,flat.af,iM]) (by simp[flat,flat.af,iM]) ?_)
 unfold iM
 refine bo ?_
 (refine aa p1 ?_;refine gN @id_eqF ?_)
 unfold ko
 refine⟨fun h=>?_,fun h=>?_⟩
 ·have h:(bY i.text).2=0:=by simpa using h
  simp[Prod.ext_iff,h]
 ·have h:¬ (bY i.text).2=0:=by simpa using h
  simp[Prod.ext_iff,h]
theorem ki (s:Bytes):PC Tryz.V 29 [.str s] (.fF [iM (bY s).1,.int .i64 (bY s).2]):=by
 (refine aV 3000 Tryz.func29 rfl Tryz.ntmps29 Tryz.results29 Tryz.call29 (by simp) (by simp[flat,flat.af,iM]) (by simp[flat,flat.af,iM]) ?_)
 unfold iM
 refine bo ?_
 refine⟨fun h=>?_,fun h=>?_⟩
 ·have h:4096<s.length:=by simp at h;omega
  simp[bY,h,jg.none]
 have h:s.length≤4096:=by simp at h;omega
 have h0:¬ 4096<s.length:=by omega
 have dM:pre (fun x=>[58].contains x) s=pre (·==58) s:=by congr 1;funext x;simp only[List.contains_cons,List.contains_nil,Bool.or_false]
 (refine aa (bj s [58] (by omega) (by decide)) ?_;refine bo ?_)
 rw[dM]
 have hle:=cw (·==(58:UInt8)) s
 refine⟨fun h1=>?_,fun h1=>⟨⟨by omega,by omega⟩,?_⟩⟩
 ·have h1:pre (·==58) s=s.length:=by simp at h1;omega
  simp[bY,h0,aL,h1,jg.none]
 have h1:¬ pre (·==58) s=s.length:=by simp at h1;omega
 have hid:bY s=lZ (lower (s.take (pre (·==58) s))) s:=by
  unfold bY aL
  rw[if_neg h0,if_pos (show pre (·==58) s<s.length by omega)]
  rfl
 rw[hid]
 (refine aa (gU (s.take (pre (·==58) s)) (by simp;omega)) ?_;refine bo ?_)
 generalize lower (s.take (pre (·==58) s))=sch
 clear hid h1 hle dM
 refine⟨fun k1=>?_,fun k1=>⟨fun k2=>?_,fun k2=>⟨fun k3=>?_,fun k3=>⟨fun k4=>?_,fun k4=>?_⟩⟩⟩⟩
 ·rw[show lZ sch s=rW s by simp at k1;simp[lZ,BS,k1]]
  have p1:=DJ s
  have p2:=fun h=>Bl (bI s).1 (id_fits s h)
  unfold rW
  unfold asv at p1 p2
  (refine aa p1 ?_;refine od ?_)
  refine⟨fun h=>?_,fun h=>?_⟩
  ·have h:(bI s).2≠0:=by simpa using h
   simp[h,jg.none]
  ·have h:(bI s).2=0:=by simpa using h
   (refine aW (p2 h) ?_;refine od ?_)
   simp only[h]
   exact⟨(av (by kernel_rfl)),by simp⟩
 ·rw[show lZ sch s=rV s by simp at k1 k2;simp[lZ,BS,DX,k2]]
  have p1:=DH s
  have p2:=fun h=>Bk (bQ s).1 (Ie s h)
  unfold rV
  unfold msv at p1 p2
  (refine aa p1 ?_;refine od ?_)
  refine⟨fun h=>?_,fun h=>?_⟩
  ·have h:(bQ s).2≠0:=by simpa using h
   simp[h,jg.none]
  ·have h:(bQ s).2=0:=by simpa using h
   (refine aW (p2 h) ?_;refine od ?_)
   simp only[h]
   exact⟨(av (by kernel_rfl)),by simp⟩
 ·rw[show lZ sch s=sZ s by simp at k1 k2 k3;simp[lZ,BS,DX,dw,k3]]
  have p1:=FL s
  unfold iM at p1
  (refine aa p1 ?_;exact od True.intro)
  try done
 ·rw[show lZ sch s=s9 s by simp at k1 k2 k3 k4;simp[lZ,BS,DX,Ig,dw,k4]]
  have p1:=tF s
  unfold iM at p1
  (refine aa p1 ?_;exact od True.intro)
  try done
 ·rw[show lZ sch s=(jg.none,60) by simp at k1 k2 k3 k4;simp[lZ,BS,DX,Ig,dw,k1,k2,k3,k4]]
  rfl
end Go.Proofs.YtnmlimehgifadaaGreatDoor
