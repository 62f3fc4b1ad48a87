/- Texts of this claim, laid together: VcN, Perm, Vc7, Frame, Laid, ProgF, Open, VcB. -/
import Derived.Lib.ConvBytes
import Derived.Laws.IdiomStrings
import Derived.Laws.BytesArg
import Derived.Great.BuildSlice
import Derived.Still
import Derived.Test.YtnmlimehgifadaaGreatDoorRows
import Derived.WalkKit
import Derived.ProofKit
import Derived.OpenShut
import Derived.Shelf.Vars
import Derived.ShutString
import Derived.WideKeyArgs
import Derived.ChangeSame
import Derived.Deep.DeepHandedRow
import Derived.Deep.DeepLaidRun
import Derived.Lib.LaidTab
import Derived.Lib.SmallJoins
import Derived.SizedLaws
import Derived.Test.YtnmlimehgifadaaGreatDoorCards
import Derived.Test.YtnmlimehgifadaaGreatDoorTie
import Derived.Test.YtnmlimehgifadaaGreatDoorW2
open And renaming intro → zJ8
open Bool renaming and_eq_true → zJ9, or_eq_true → zKf
open List renaming getElem?_eq_some_iff → zKa, length_append → zKb, all_eq_true → zKc, getElem?_append_left → zKh, length_singleton → zKi, getElem?_append_right → zKk, eq_nil_of_length_eq_zero → zKl, getElem?_set_ne → zKm, getD_eq_getElem?_getD → zKq, any_eq_true → zKr, toArray → zKt, getElem?_eq_getElem → zKu, getElem?_eq_none → zKx, append_nil → zKy, contains_iff_mem → zKz, mem_range → zKB, length_cons → zKD, length_set → zKF, range → zKH, mem_cons_self → zKI, getElem?_set_self → zKL, mem_append_left → zKP, mem_map_of_mem → zKQ, map_append → zKR
open Nat renaming le_refl → zKe, lt_succ_self → zKv, add_mul → zKw, mul_le_mul_right → zKA, lt_or_ge → zKC, lt_of_lt_of_le → zKK
open Array renaming getElem?_eq_some_iff → zKg, mem_toList_iff → zKn, getElem?_eq_getElem → zKs, ext' → zKE, replicate → zKJ, getD_eq_getD_getElem? → zKN, mem_append → zKO
open Option renaming map_some → zKj, some → zKo, map_none → zKG, map_eq_some_iff → zKM
set_option linter.all false
set_option maxHeartbeats 16000000
set_option maxRecDepth 20000
namespace Vc
open Go Go.RowKit Wf
def dP (b:UInt8):SV:=.int .u8 b.toNat
def w9:SV→Bool
 | .int .u8 n=>decide (0≤n∧n<256)
 | _=>false
def rv:SV→UInt8
 | .int _ n=>n.toNat.toUInt8
 | _=>0
theorem jy (l:Bytes):(l.map dP).map rv=l:=by
 rw[List.map_map]
 conv=>rhs;rw[← List.map_id l]
 apply List.map_congr_left
 intro b _
 simp[dP,rv]
theorem eK (l:Bytes):(l.map dP).all w9=true:=by
 rw[List.all_map,zKc]
 intro b _
 have:=b.toNat_lt
 simp[dP,w9]
 omega
theorem GJ (β:Nat→Bt){x:SV}(h:w9 x=true):ai β x=.int .u8 (rv x).toNat:=by
 unfold w9 at h
 split at h
 ·rename_i n
  simp only[decide_eq_true_eq]at h
  simp only[ai,rv]
  congr 1
  simp
  omega
 ·cases h
def oh (bs:List aw)(s:Nat):SV→Option (Nat × List SV)
 | .ah=>some (0,[])
 | .str l=>if s=1 then some (l.length,l.map dP) else none
 | .o j m=>match bs[j]? with
   | some (.own c _ s' n _)=>if s'=s∧n=m then some (m,c) else none
   | _=>none
 | _=>none
def tQ (bs:List aw)(e s:Nat):SV→Option (Nat × List SV × List aw)
 | .ah=>some (0,[],bs)
 | .o j m=>match bs[j]? with
   | some (.own c e' s' n true)=>if e'=e∧s'=s∧n=m then some (m,c,bs.set j .gone) else none
   | _=>none
 | .f j m=>match bs[j]? with
   | some (.own c e' s' n _)=>if e'=e∧s'=s∧n=m then some (m,c,bs) else none
   | _=>none
 | _=>none
def capB:SV→Bool
 | .f _ _=>true
 | _=>false
def XP:Kd→Bool
 | .str=>true
 | .slice _=>true
 | _=>false
def Xm (V:Cx)(dst:Option Tmp)(args:List Operand)(ts:List TypeId)(σ:St):Option (Prop × St):=match args with
 | [s,x]=>match ts with
   | [t,u]=>match kd V.Γ t with
     | some (.slice e)=>match kd V.Γ u with
       | some ku=>match V.Γ e with
         | some ti=>match ev σ.t s with
           | some s=>match ev σ.t x with
             | some x=>match tQ σ.b e ti.size s with
               | some (n,c,bs)=>match oh σ.b ti.size x with
                 | some (m,xs)=>some ((capB s=true→0<m)∧XP ku=true∧0<ti.size∧xs.all one=true∧n+m≤maxLen∧(n+m) * ti.bytes≤140737488355328,⟨put dst (.o σ.b.length (n+m)) σ.t,bs++[.own (c++xs) e ti.size (n+m) true]⟩)
                 | none=>none
               | none=>none
             | none=>none
           | none=>none
         | none=>none
       | none=>none
     | _=>none
   | _=>none
 | _=>none
def Dz (z:List SV):Nat→List SV
 | 0=>[]
 | n+1=>z++Dz z n
def Yn (V:Cx)(dst:Option Tmp)(t:TypeId)(l c:Operand)(σ:St):Option (Prop × St):=match kd V.Γ t with
 | some (.slice e)=>match V.Γ e with
   | some ti=>match ev σ.t l with
     | some (.int _ l)=>match ev σ.t c with
       | some (.int _ c)=>some (0≤l∧l≤c∧(ti.bytes:Int) * c≤281474976710656∧c≤9223372036854775807∧0<ti.size,⟨put dst (.o σ.b.length l.toNat) σ.t,σ.b++[.own (Dz ti.zero l.toNat) e ti.size l.toNat true]⟩)
       | _=>none
     | _=>none
   | none=>none
 | _=>none
def Yi (s:Nat):Nat→List (Nat × SV)→Option (List SV)
 | _,[]=>some []
 | k,(i,x)::r=>if i=k∧CY x=false∧(cells x).length=s then match Yi s (k+1) r with
    | some c=>some (cells x++c)
    | none=>none
   else none
def Xa (V:Cx)(dst:Option Tmp)(t:TypeId)(n:Nat)(ps:List (Nat × Operand))(σ:St):Option (Prop × St):=match kd V.Γ t with
 | some (.slice e)=>match V.Γ e with
   | some ti=>match Xl σ.t ps with
     | some ps=>match Yi ti.size 0 ps with
       | some c=>some (ps.length=n∧n * ti.size≤16777216∧0<ti.size,⟨put dst (.o σ.b.length n) σ.t,σ.b++[.own c e ti.size n true]⟩)
       | none=>none
     | none=>none
   | none=>none
 | _=>none
def Ym (bs:List aw)(k:Int):SV→Option (Prop × SV)
 | .o i n=>match bs[i]? with
   | some (.own _ _ s n' _)=>some (n'=n∧0<s∧0≤k∧k<n,.p i (k.toNat * s))
   | _=>none
 | _=>none
def Xc (V:Cx)(dst:Option Tmp)(t:TypeId)(x i:Operand)(σ:St):Option (Prop × St):=match kd V.Γ t with
 | some (.slice e)=>match sz V.Γ e with
   | some s=>match ev σ.t x with
     | some x=>match ev σ.t i with
       | some (.int _ k)=>match Ym σ.b k x with
         | some (c,y)=>some (c∧lN σ.b x s,⟨put dst y σ.t,σ.b⟩)
         | none=>none
       | _=>none
     | none=>none
   | none=>none
 | _=>none
where lN (bs:List aw) (x:SV) (s:Nat):Prop:=match x with
 | .o i _=>match bs[i]? with
   | some (.own _ _ s' _ _)=>s'=s
   | _=>False
 | _=>False
def reS (bs:List aw)(lo hi:Option SV):SV→Option (Prop × Nat × List aw)
 | .o i n=>match bs[i]? with
   | some (.own c e s n' m)=>match wA n lo hi with
     | some (k,f,u)=>match lo with
       | none=>match m with
         | true=>some (k∧n'=n∧0<s,u,bs.set i .gone++[.own (c.take (u * s)) e s u true])
         | false=>some (k∧n'=n∧0<s,u,bs++[.own (c.take (u * s)) e s u false])
       | some _=>some (k∧n'=n∧0<s,u - f,bs.set i (.own c e s n' false)++[.own ((c.take (u * s)).drop (f * s)) e s (u - f) false])
     | none=>none
   | _=>none
 | _=>none
def Xj (V:Cx)(dst:Option Tmp)(t:TypeId)(x:Operand)(lo hi:Option Operand)(σ:St):Option (Prop × St):=match kd V.Γ t with
 | some (.slice e)=>match sz V.Γ e with
   | some s=>match ev σ.t x with
     | some x=>match o9 σ.t lo with
       | some lo=>match o9 σ.t hi with
         | some hi=>match reS σ.b lo hi x with
           | some (c,n,bs)=>some (c∧Xc.lN σ.b x s,⟨put dst (.o σ.b.length n) σ.t,bs⟩)
           | none=>none
         | none=>none
       | none=>none
     | none=>none
   | none=>none
 | _=>none
def CC (bs:List aw)(s:Nat)(hi mx:Int):SV→Option (Prop × SV)
 | .o i n=>match bs[i]? with
   | some (.own _ _ s' n' _)=>some (n'=n∧s'=s∧hi=(n:Int)∧mx=(n:Int),.f i n)
   | _=>none
 | .ah=>some (hi=0∧mx=0,.ah)
 | _=>none
def DS (V:Cx)(dst:Option Tmp)(t:TypeId)(x hi mx:Operand)(σ:St):Option (Prop × St):=match kd V.Γ t with
 | some (.slice e)=>match sz V.Γ e with
   | some s=>match ev σ.t x with
     | some x=>match ev σ.t hi with
       | some (.int _ hi)=>match ev σ.t mx with
         | some (.int _ mx)=>match CC σ.b s hi mx x with
           | some (c,y)=>some (c,⟨put dst y σ.t,σ.b⟩)
           | none=>none
         | _=>none
       | _=>none
     | none=>none
   | none=>none
 | _=>none
def Yb (V:Cx)(dst:Option Tmp)(src d:TypeId)(x:Operand)(σ:St):Option (Prop × St):=match kd V.Γ src with
 | some .str=>match kd V.Γ d with
   | some (.slice e)=>match kd V.Γ e with
     | some (.int .u8)=>match ev σ.t x with
       | some (.str l)=>some (l.length≤maxLen,⟨put dst (.o σ.b.length l.length) σ.t,σ.b++[.own (l.map dP) e 1 l.length true]⟩)
       | _=>none
     | _=>none
   | _=>none
 | some (.slice e)=>match kd V.Γ d with
   | some .str=>match kd V.Γ e with
     | some (.int .u8)=>match ev σ.t x with
       | some .ah=>some (True,⟨put dst (.str []) σ.t,σ.b⟩)
       | some (.o i n)=>match σ.b[i]? with
         | some (.own c _ s n' _)=>some (n'=n∧s=1∧c.all w9=true,⟨put dst (.str (c.map rv)) σ.t,σ.b⟩)
         | _=>none
       | _=>none
     | _=>none
   | _=>none
 | _=>none
def mmS (min:Bool):SV→SV→Option SV
 | .int k x,.int _ y=>some (.int k (if min then(if y<x then y else x) else(if x<y then y else x)))
 | _,_=>none
def Xq (min:Bool)(dst:Option Tmp)(args:List Operand)(σ:St):Option (Prop × St):=match args with
 | [x,y]=>match ev σ.t x with
   | some x=>match ev σ.t y with
     | some y=>(mmS min x y).map fun z=>(True,⟨put dst z σ.t,σ.b⟩)
     | none=>none
   | none=>none
 | _=>none
def Yl (V:Cx)(dst:Option Tmp):Op→St→Option (Prop × St)
 | .call ⟨.builtin .append,args,ts⟩,σ=>Xm V dst args.toList ts.toList σ
 | .call ⟨.builtin .min,args,_⟩,σ=>Xq true dst args.toList σ
 | .call ⟨.builtin .max,args,_⟩,σ=>Xq false dst args.toList σ
 | .makeSlice t l c,σ=>Yn V dst t l c σ
 | .buildSlice t n ps,σ=>Xa V dst t n ps.toList σ
 | .indexAddr t x i,σ=>Xc V dst t x i σ
 | .slice t x lo hi none,σ=>Xj V dst t x lo hi σ
 | .slice t x none (some hi) (some mx),σ=>DS V dst t x hi mx σ
 | .convert s d x,σ=>Yb V dst s d x σ
 | _,_=>none
section
variable {V:Cx} {F:Fx V} {β:Nat→Bt} {fp:Nat→Nat→Prop} {bs:List aw} {w:World} {t:List (Nat × SV)} {a:Act}
theorem Wd.own (h:Wd F β fp bs w){i n s e:Nat}{c:List SV}{m:Bool}(hi:bs[i]? = some (.own c e s n m)){β':Nat→Bt}(hβ:ct bs.length β β'):Holds β' (β' i) (fp i) w (.own c e s n m):=(h.bx β' hβ).holds i _ hi
theorem own_len (h:Wd F β fp bs w){i n s e:Nat}{c:List SV}{m:Bool}(hi:bs[i]? = some (.own c e s n m)):c.length=n * s:=by
 rcases h.own hi (ct.refl _ β) with⟨-,rfl,rfl,-⟩|⟨-,-,-,h4,-⟩
 ·simp
 ·exact h4
theorem Dn (h:Wd F β fp bs w){s:Nat}(hs:0<s){x:SV}{m:Nat}{xs:List SV}(hx:oh bs s x=some (m,xs)){β':Nat→Bt}(hβ:ct bs.length β β')(w':World)(hw':w'.heap=w.heap)(P:Program) :
 (Builtin.lenOf (ai β' x)).run P w'=Result.ok m w'∧(Builtin.firstCells s m (ai β' x)).run P w'=Result.ok (xs.map (ai β')).toArray w'∧xs.length=m * s:=by
 unfold oh at hx
 split at hx
 ·cases hx
  simp[ai,Builtin.lenOf,Builtin.firstCells]
 ·rename_i l
  split at hx
  ·rename_i GW
   cases hx
   subst GW
   refine⟨by simp[ai,Builtin.lenOf];rfl,?_,by simp⟩
   simp only[ai,Builtin.firstCells,Sem.run_pure]
   congr 1
   apply zKE
   have e:(⟨zKt l⟩:ByteArray).extract 0 l.length=⟨zKt l⟩:=by rw[dX];simp
   rw[e]
   simp[dP,ai,Function.comp_def]
  ·cases hx
 ·rename_i j m'
  split at hx
  ·rename_i c e s' n mn hj
   split at hx
   ·rename_i hc
    obtain⟨rfl,rfl⟩:=hc
    cases hx
    have hl:=own_len h hj
    have ho:=h.own hj hβ
    refine⟨?_,?_,hl⟩
    ·simp only[ai,oV];split <;> simp[Builtin.lenOf]
    ·simp only[ai,oV]
     rcases ho with⟨h1,h2,h3,-⟩|⟨h1,-,-,-,h5,-⟩
     ·rw[if_pos h1];subst h3;simp[Builtin.firstCells]
     ·rw[if_neg h1]
      refine run_firstCells_some (P:=P) w' _ _ _ _ _ _ (by simpa using hl) (fun j v hv=>?_)
      rw[ep]
      have:=h5 j v hv
      rw[← this]
      exact World.cell?_of_block (w:=w) (by rw[hw'])
   ·cases hx
  ·cases hx
 ·cases hx
theorem yT {P:Program}(w:World)(t u ty e:TypeId)(i:TypeInfo)(ht:P.underlying t=some (.slice e)){d:TypeDesc}(hu:P.underlying u=some d)(hd:d=.string∨∃ e',d=.slice e')(hi:P.info? e=some i)
 (g j0 sCap m:Nat) (x:Value) (news:List Value) (hlen:(Builtin.lenOf x).run P w=Result.ok m w) (hf:(Builtin.firstCells i.size m x).run P w=Result.ok news.toArray w) (BZ:j0+m≤sCap) {w':World}
 (jn:(storeCells ⟨g,j0 * i.size,none⟩ news).run P w=Result.ok () w') :
 (Builtin.append_ #[t,u] ty #[.slice (some ⟨g,0,none⟩) j0 sCap,x]).run P w=Result.ok (.slice (some ⟨g,0,none⟩) (j0+m) sCap) w':=by
 rcases hd with rfl|⟨e',rfl⟩ <;> simp[Builtin.append_,run_underlying ht,run_underlying hu,Go.sizeOf,typeInfo,hi,hlen,BZ,hf,ep,jn]
theorem yU {P:Program}(w:World)(t u ty e:TypeId)(i:TypeInfo)(z:Value)(ht:P.underlying t=some (.slice e)){d:TypeDesc}(hu:P.underlying u=some d)(hd:d=.string∨∃ e',d=.slice e')(hi:P.info? e=some i)(hz:i.zero=some z)
 (b:Option Addr) (j0 sCap m:Nat) (x:Value) (olds news:List Value) (hlen:(Builtin.lenOf x).run P w=Result.ok m w) (hf:(Builtin.firstCells i.size m x).run P w.drew=Result.ok news.toArray w.drew)
 (ho:(Builtin.firstCells i.size j0 (.slice b j0 sCap)).run P w.drew=Result.ok olds.toArray w.drew)
 (hg:sCap<j0+m) (tP:j0+m≤maxLen) (r6:(j0+m) * i.bytes≤140737488355328) :
 (Builtin.append_ #[t,u] ty #[.slice b j0 sCap,x]).run P w =
  Result.ok (.slice (some ⟨w.heap.size,0,none⟩) (j0+m) (grownCap w (j0+m) sCap e)) (w.drew.alloc (.cells ((olds++news).toArray++Builtin.zeroCells z.cells (grownCap w (j0+m) sCap e - (j0+m))) e)):=by
 have hn:¬ (j0+m≤sCap):=by omega
 have h63':¬ (9223372036854775807<((j0:Int)+(m:Int))):=by unfold maxLen at tP;omega
 have h48':¬ (281474976710656<Builtin.nextslicecap (j0+m) sCap * i.bytes):=by have:=growslice_fits hg r6;omega
 rcases hd with rfl|⟨e',rfl⟩ <;> simp[Builtin.append_,run_underlying ht,run_underlying hu,Go.sizeOf,typeInfo,zeroValue,hi,hz,hlen,hn,h63',h48',Question.forced,hf,ho,newRow,grownCap]
 all_goals
  congr 2
  apply zKE
  simp
theorem jo {w:World}{g cap e s n:Nat}{c:List SV}{β':Nat→Bt}{rest:List Value}{fz:Nat × Nat}(hh:w.heap[g]? = some (.cells (c.map (ai β')++rest).toArray e fz))(hfz:c.length+rest.length≤fz.1∨fz.2≤fz.1)(hc:c.length=n * s)(hn:n≤cap)(zI:cap≤maxLen)(oa:c.length+rest.length=cap * s) :
 Holds β' ⟨g,0,cap+1⟩ (·=g) w (.own c e s n true):=by
 have hd:Head w g e (c.map (ai β')) rest fz:=⟨hh,by simp;omega⟩
 exact .inr ⟨by simp,hn,zI,hc,hd.w6,fun _=>⟨rfl,rest,fz,hd,hfz,oa⟩,fun k=>Iff.rfl⟩
theorem holds_nil {w:World}{e s:Nat}{β':Nat→Bt}{m:Bool}:Holds β' ⟨0,0,0⟩ (fun _=>False) w (.own [] e s 0 m):=.inl ⟨rfl,rfl,rfl,by simp⟩
theorem Ff {e s:Nat}{sv:SV}{n:Nat}{c:List SV}{bs2:List aw}(h:tQ bs e s sv=some (n,c,bs2)):bs2.length=bs.length:=by
 unfold tQ at h
 split at h
 ·cases h;rfl
 ·split at h
  ·split at h
   ·cases h;simp
   ·cases h
  ·cases h
 ·split at h
  ·split at h
   ·cases h;rfl
   ·cases h
  ·cases h
 ·cases h
theorem zH {w:World}{b:Nat}{x:Obj}(h:w.heap[b]? = some x):b<w.heap.size:=(zKg.1 h).1
theorem Fe (h:Wd F β fp bs w){e s:Nat}{sv:SV}{n:Nat}{c:List SV}{bs2:List aw}(hs:tQ bs e s sv=some (n,c,bs2)){w':World}(hb:Below w.heap.size w w')(r:aw)(b:Bt)(f:Nat→Prop)
 (hr:∀ β',ct (bs.length+1) (rm β bs.length b) β'→Holds β' b f w' r) (hf:∀ k,f k→w.heap.size≤k∧k<w'.heap.size):∃ fp₂,Wd F (rm β bs.length b) fp₂ (bs2++[r]) w':=by
 unfold tQ at hs
 split at hs
 ·cases hs;exact⟨_,h.more hb r b f hr hf⟩
 ·split at hs
  ·rename_i hj
   split at hs
   ·cases hs
    exact⟨_,h.swap hj rfl (xC.vf hb) r b f hr (fun k hk=>⟨.inr (hf k hk).1,(hf k hk).2⟩)⟩
   ·cases hs
  ·cases hs
 ·split at hs
  ·split at hs
   ·cases hs;exact⟨_,h.more hb r b f hr hf⟩
   ·cases hs
  ·cases hs
 ·cases hs
theorem app_ok (h:Wd F β fp bs w){t u e s:Nat}(ht:V.P.underlying t=some (.slice e)){d:TypeDesc}(hu:V.P.underlying u=some d)(hd:d=.string∨∃ e',d=.slice e'){ti:TI}(l6:V.Γ e=some ti)(oa:ti.size=s)(lE:0<s)
 {sv xv:SV} {n m:Nat} {c xs:List SV} {bs2:List aw} (hs:tQ bs e s sv=some (n,c,bs2)) (hx:oh bs s xv=some (m,xs)) (hxv:∀ β',ct bs.length β β'→ai β xv=ai β' xv) (h1:xs.all one=true) (tP:n+m≤maxLen) (hby:(n+m) * ti.bytes≤140737488355328) (h0m:capB sv=true→0<m) (ty:TypeId) :
 ∃ b fp₂ w',(Builtin.append_ #[t,u] ty #[ai β sv,ai β xv]).run V.P w=Result.ok (oV b (n+m)) w'∧Wd F (rm β bs.length b) fp₂ (bs2++[.own (c++xs) e s (n+m) true]) w':=by
 obtain⟨i,z,hi,hz,rZ,II,hzc⟩:=(V.iH e ti l6).info
 have CZ:=(V.iH e ti l6).len
 have hiss:i.size=s:=rZ.trans oa
 obtain⟨wH,hf1,mL⟩:=Dn h lE hx (ct.refl _ β) w rfl V.P
 obtain⟨jZ,hf2,-⟩:=Dn h lE hx (ct.refl _ β) w.drew rfl V.P
 have hxa:∀ β',ct bs.length β β'→xs.map (ai β)=xs.map (ai β'):=fun β' hβ=>by
  have h2:=(Dn h lE hx hβ w rfl V.P).2.1
  rw[← hxv β' hβ,hf1]at h2
  injection h2 with h2
  simpa using h2
 rw[← hiss]at hf1 hf2
 have hzs:z.cells.size=s:=by rw[hzc];simp[CZ,oa]
 -- a new row
 have grow:∀ (b:Option Addr) (cap:Nat) (hca:∀ β',ct bs.length β β'→c.map (ai β)=c.map (ai β')) (jL:c.length=n * s),(Builtin.firstCells i.size n (.slice b n cap)).run V.P w.drew=Result.ok (c.map (ai β)).toArray w.drew→cap<n+m →
  ∃ b' fp₂ w',(Builtin.append_ #[t,u] ty #[.slice b n cap,ai β xv]).run V.P w=Result.ok (oV b' (n+m)) w'∧Wd F (rm β bs.length b') fp₂ (bs2++[.own (c++xs) e s (n+m) true]) w':=fun b cap hca jL ho hg=>by
  have c9:=yU (P:=V.P) w t u ty e i z ht hu hd hi hz b n cap m (ai β xv) (c.map (ai β)) (xs.map (ai β)) wH hf2 ho hg tP (by rw[II];exact hby)
  have Ce:=grownCap_ge w (n+m) cap e
  have hle:=grownCap_le_maxLen w (n+m) cap e tP
  generalize grownCap w (n+m) cap e=cap' at c9 Ce hle
  have hwd0:∃ fp₂,Wd F (rm β bs.length ⟨w.heap.size,0,cap'+1⟩) fp₂ (bs2++[.own (c++xs) e s (n+m) true]) (w.drew.alloc (.cells ((c.map (ai β)++xs.map (ai β)).toArray++Builtin.zeroCells z.cells (cap' - (n+m))) e)):=by
   refine Fe h hs (((Below.refl _ _).drew).alloc (zKe _) _) (.own (c++xs) e s (n+m) true) ⟨w.heap.size,0,cap'+1⟩ (·=w.heap.size) (fun β' hβ=>?_) (fun k hk=>?_)
   ·refine jo (rest:=(Builtin.zeroCells z.cells (cap' - (n+m))).toList) (fz:=(0,0)) ?_ (.inr (zKe _)) (by rw[zKb,jL,mL,zKw]) Ce hle ?_
    ·have e1:=dG w.drew (.cells ((c.map (ai β)++xs.map (ai β)).toArray++Builtin.zeroCells z.cells (cap' - (n+m))) e)
     have e2:w.drew.heap.size=w.heap.size:=rfl
     rw[e2]at e1
     rw[e1,hca β' hβ.eC,hxa β' hβ.eC]
     congr 2
     apply zKE
     simp
    ·rw[zKb,jL,mL]
     simp only[Array.length_toList,size_zeroCells,hzs]
     rw[← zKw,← zKw]
     congr 1
     omega
   ·subst hk
    exact⟨zKe _,by rw[size_alloc];exact zKv _⟩
  obtain⟨fp₂,pO⟩:=hwd0
  exact⟨⟨w.heap.size,0,cap'+1⟩,fp₂,_,by rw[c9];simp[oV],pO⟩
 -- nothing at all
 have none0:c=[]→n=0→∃ b' fp₂ w',(Builtin.append_ #[t,u] ty #[.slice none 0 0,ai β xv]).run V.P w=Result.ok (oV b' (n+m)) w'∧Wd F (rm β bs.length b') fp₂ (bs2++[.own (c++xs) e s (n+m) true]) w':=fun kU ye=>by
  subst kU ye
  by_cases hm:m=0
  ·subst hm
   have hxs:xs=[]:=zKl (by rw[mL];simp)
   subst hxs
   obtain⟨fp₂,pO⟩:=Fe h hs (Below.refl _ w) (.own [] e s 0 true) ⟨0,0,0⟩ (fun _=>False) (fun β' _=>holds_nil) (fun k hk=>hk.elim)
   refine⟨⟨0,0,0⟩,fp₂,w,?_,pO⟩
   rcases hd with rfl|⟨e',rfl⟩ <;> simp[Builtin.append_,run_underlying ht,run_underlying hu,Go.sizeOf,typeInfo,hi,wH,hf1,oV]
  ·exact grow none 0 (fun _ _=>rfl) (by simp) (by simp[Builtin.firstCells]) (by omega)
 have hs':=hs
 unfold tQ at hs'
 split at hs'
 ·cases hs'
  simpa[ai] using none0 rfl rfl
 ·rename_i j n0
  split at hs'
  ·rename_i c0 e0 s0 n1 hj
   split at hs'
   ·rename_i tl
    obtain⟨rfl,rfl,rfl⟩:=tl
    cases hs'
    have ho:=h.own hj (ct.refl _ β)
    rcases ho with⟨k1,k2,k3,-⟩|⟨k1,k2,k3,k4,k5,k6,k7⟩
    ·have:=none0 k3 k2
     simp only[ai,oV,if_pos k1]
     rw[k2]at this ⊢
     exact this
    ·obtain⟨k8,rest,fz,k9,k10,k11⟩:=k6 rfl
     have hjlt:j<bs.length:=(zKa.1 hj).1
     have hgj:iv bs j=some (c,e0,true):=by simp[iv,hj]
     simp only[ai,oV,if_neg k1]
     by_cases BZ:n+m≤(β j).cap - 1
     ·have jL:(c.map (ai β)).length=n * s0:=by simpa using k4
      have hmul:n * s0+m * s0≤((β j).cap - 1) * s0:=by rw[← zKw];exact zKA _ BZ
      have jn:=gp (P:=V.P) (β j).kQ (n * s0) e0 fz (xs.map (ai β)) 0 _ w k9.1 (by simp;omega) (by simp;omega) (fun v hv=>by
       simp only[List.mem_map]at hv
       obtain⟨x,hx',rfl⟩:=hv
       exact sV (zKc.1 h1 x hx') β)
      have e1:(List.take (n * s0+0) (c.map (ai β)++rest)++xs.map (ai β)++List.drop (n * s0+0+(xs.map (ai β)).length) (c.map (ai β)++rest))=(c++xs).map (ai β)++rest.drop (m * s0):=by
       simp only[Nat.add_zero,zKR]
       rw[List.take_append_of_le_length (by omega),List.take_of_length_le (by omega),List.drop_append,List.drop_of_length_le (by simp;omega)]
       simp[mL,k4]
      simp only[e1]at jn
      have c9:=yT (P:=V.P) w t u ty e0 i ht hu hd hi (β j).kQ n ((β j).cap - 1) m (ai β xv) (xs.map (ai β)) wH hf1 BZ (by rw[hiss];exact jn)
      have rY:=setRow_heap w (β j).kQ _ ((c++xs).map (ai β)++rest.drop (m * s0)).toArray _ _ k9.1
      have hcb:(β j).cap - 1+1=(β j).cap:=by omega
      have pO:=h.swap hj rfl (w':=w.setRow (β j).kQ ((c++xs).map (ai β)++rest.drop (m * s0)).toArray) ⟨rfl,rfl,rfl,by simp,fun k hk hn=>setRow_other _ _ _ _ (fun ek=>hn ((k7 k).2 ek))⟩ (.own (c++xs) e0 s0 (n+m) true) ⟨(β j).kQ,0,(β j).cap - 1+1⟩ (·=(β j).kQ) (fun β' hβ=>?_) (fun k hk=>?_)
      ·refine⟨⟨(β j).kQ,0,(β j).cap - 1+1⟩,_,_,?_,pO⟩
       rw[k8,c9]
       simp[oV]
      ·refine jo (rest:=rest.drop (m * s0)) (fz:=fz) ?_ ?_ (by rw[zKb,k4,mL,zKw]) BZ k3 ?_
       ·rw[rY,zKR,h.Al hgj hβ.eC,hxa β' hβ.eC,← zKR]
       ·simp only[zKb,List.length_drop]
        rcases k10 with k10|k10
        ·left;omega
        ·exact .inr k10
       ·simp only[zKb,List.length_drop]
        omega
      ·subst hk
       refine⟨.inl ((k7 _).2 rfl),?_⟩
       rw[setRow_size]
       exact zH k9.1
     ·refine grow _ _ (fun β' hβ=>h.Al hgj hβ) k4 ?_ (by omega)
      rw[hiss]
      refine run_firstCells_some (P:=V.P) w.drew s0 n _ n _ (c.map (ai β)) (by simpa using k4) (fun q v hv=>?_)
      rw[ep]
      exact k5 q v hv
   ·cases hs'
  ·cases hs'
 ·rename_i j n0
  split at hs'
  ·rename_i c0 e0 s0 n1 m1 hj
   split at hs'
   ·rename_i tl
    obtain⟨rfl,rfl,rfl⟩:=tl
    cases hs'
    have hm0:0<m:=h0m rfl
    have hgj:iv bs j=some (c,e0,m1):=by simp[iv,hj]
    have ho:=h.own hj (ct.refl _ β)
    rcases ho with⟨k1,k2,k3,-⟩|⟨k1,k2,k3,k4,k5,k6,k7⟩
    ·have:=none0 k3 k2
     simp only[ai,fV,if_pos k1]
     rw[k2]at this ⊢
     exact this
    ·simp only[ai,fV,if_neg k1]
     refine grow _ _ (fun β' hβ=>h.Al hgj hβ) k4 ?_ (by omega)
     rw[hiss]
     refine run_firstCells_some (P:=V.P) w.drew s0 n _ n _ (c.map (ai β)) (by simpa using k4) (fun q v hv=>?_)
     rw[ep]
     exact k5 q v hv
   ·cases hs'
  ·cases hs'
 ·cases hs'
theorem Wd.split (h:Wd F β fp bs w){i:Nat}{r0:aw}(hi:bs[i]? = some r0)(r1 r:aw)(b:Bt)(f1 f:Nat→Prop)(h1:∀ β',ct bs.length β β'→Holds β' (β' i) f1 w r1)(IE:r1.cP=false)(hf1:∀ k,f1 k→fp i k)
 (hr:∀ β',ct (bs.length+1) (rm β bs.length b) β'→Holds β' b f w r) (hf:∀ k,f k→fp i k) (hm:r.cP=true→r0.cP=true∧∀ k,¬ f1 k) :
 Wd F (rm β bs.length b) (fun j k=>if j=bs.length then f k else if j=i then f1 k else fp j k) (bs.set i r1++[r]) w:=by
 have tK:i<bs.length:=(zKa.1 hi).1
 have old:∀ {j:Nat} {r':aw},(bs.set i r1++[r])[j]? = some r'→(j<bs.length∧j≠i∧bs[j]? = some r')∨(j=i∧r'=r1)∨(j=bs.length∧r'=r):=fun {j r'} hj=>by
  rcases zKC j bs.length with aC|Ce
  ·rw[zKh (by simpa using aC)]at hj
   by_cases ox:j=i
   ·subst ox
    rw[zKL tK]at hj
    exact .inr (.inl ⟨rfl,by simpa using hj.symm⟩)
   ·rw[zKm (fun e=>ox e.symm)]at hj
    exact .inl ⟨aC,ox,hj⟩
  ·have hj':j=bs.length:=by
    have:=(zKa.1 hj).1
    rw[zKb,zKi,zKF]at this
    omega
   subst hj'
   rw[zKk (by simp)]at hj
   simp at hj
   exact .inr (.inr ⟨rfl,hj.symm⟩)
 have de:=h.bx β (ct.refl _ _)
 have fo:∀ {j:Nat},j<bs.length→j≠i→(fun k=>if j=bs.length then f k else if j=i then f1 k else fp j k)=fp j:=fun {j} hj bt=>by funext k;simp[show j≠bs.length by omega,bt]
 have fi:(fun k=>if i=bs.length then f k else if i=i then f1 k else fp i k)=f1:=by funext k;simp[show i≠bs.length by omega]
 have fn:(fun k=>if bs.length=bs.length then f k else if bs.length=i then f1 k else fp bs.length k)=f:=by funext k;simp
 refine⟨h.fr,fun β' hβ=>?_,fun j r' hj hm' k hk=>?_,?_,fun j r' hj k hk=>?_⟩
 ·rw[zKb,zKi,zKF]at hβ
  have hb':=h.bx β' hβ.eC
  have jK:β' bs.length=b:=by rw[← hβ bs.length (by omega),gP]
  refine⟨fun j r' hj=>?_,fun j r' hj k hk=>?_,fun j l r2 r3 hj hl bt iX k hk hk'=>?_⟩
  ·rcases old hj with⟨aC,bt,iB⟩|⟨ej,e2⟩|⟨ej,e2⟩
   ·simp only[fo aC bt];exact hb'.holds j r' iB
   ·subst ej e2
    rw[fi]
    exact h1 β' hβ.eC
   ·subst ej e2
    rw[fn,jK]
    exact hr β' hβ
  ·rcases old hj with⟨aC,bt,iB⟩|⟨ej,e2⟩|⟨ej,e2⟩
   ·simp only[if_neg (show j≠bs.length by omega),if_neg bt]at hk
    exact de.lt j r' iB k hk
   ·subst ej
    simp only[if_neg (show j≠bs.length by omega),if_true]at hk
    exact de.lt j r0 hi k (hf1 k hk)
   ·subst ej
    simp only[if_true]at hk
    exact de.lt i r0 hi k (hf k hk)
  ·rcases old hj with⟨aC,hnj,iB⟩|⟨ej,e2⟩|⟨ej,e2⟩
   ·simp only[if_neg (show j≠bs.length by omega),if_neg hnj]at hk
    rcases old hl with⟨hlt',tf,jZ⟩|⟨el,e3⟩|⟨el,e3⟩
    ·simp only[if_neg (show l≠bs.length by omega),if_neg tf]at hk'
     exact de.sep j l r2 r3 iB jZ bt iX k hk hk'
    ·subst el e3
     simp only[if_neg (show l≠bs.length by omega),if_true]at hk'
     rcases iX with iX|iX
     ·exact de.sep j l r2 r0 iB hi hnj (.inl iX) k hk (hf1 k hk')
     ·rw[IE]at iX;cases iX
    ·subst el e3
     simp only[if_true]at hk'
     rcases iX with iX|iX
     ·exact de.sep j i r2 r0 iB hi hnj (.inl iX) k hk (hf k hk')
     ·exact de.sep j i r2 r0 iB hi hnj (.inr (hm iX).1) k hk (hf k hk')
   ·subst ej e2
    simp only[if_neg (show j≠bs.length by omega),if_true]at hk
    rcases old hl with⟨hlt',tf,jZ⟩|⟨el,e3⟩|⟨el,e3⟩
    ·simp only[if_neg (show l≠bs.length by omega),if_neg tf]at hk'
     rcases iX with iX|iX
     ·rw[IE]at iX;cases iX
     ·exact de.sep l j r3 r0 jZ hi tf (.inl iX) k hk' (hf1 k hk)
    ·exact bt el.symm
    ·subst el e3
     rcases iX with iX|iX
     ·rw[IE]at iX;cases iX
     ·exact(hm iX).2 k hk
   ·subst ej e2
    simp only[if_true]at hk
    rcases old hl with⟨hlt',tf,jZ⟩|⟨el,e3⟩|⟨el,e3⟩
    ·simp only[if_neg (show l≠bs.length by omega),if_neg tf]at hk'
     rcases iX with iX|iX
     ·exact de.sep l i r3 r0 jZ hi tf (.inr (hm iX).1) k hk' (hf k hk)
     ·exact de.sep l i r3 r0 jZ hi tf (.inl iX) k hk' (hf k hk)
    ·subst el e3
     simp only[if_neg (show l≠bs.length by omega),if_true]at hk'
     rcases iX with iX|iX
     ·exact(hm iX).2 k hk'
     ·rw[IE]at iX;cases iX
    ·exact bt el.symm
 ·rcases old hj with⟨aC,bt,iB⟩|⟨ej,e2⟩|⟨ej,e2⟩
  ·simp only[if_neg (show j≠bs.length by omega),if_neg bt]at hk
   exact h.cP j r' iB hm' k hk
  ·subst e2;rw[IE]at hm';cases hm'
  ·subst ej e2
   simp only[if_true]at hk
   exact h.cP i r0 hi (hm hm').1 k (hf k hk)
 ·have hl:=h.ub.len
  exact⟨fun j hj=>(h.ub.Al j hj).trans (fN β _ _ j (by omega)),by rw[zKb,zKF];omega⟩
 ·rcases old hj with⟨aC,bt,iB⟩|⟨ej,e2⟩|⟨ej,e2⟩
  ·simp only[if_neg (show j≠bs.length by omega),if_neg bt]at hk
   exact h.nM j r' iB k hk
  ·subst ej
   simp only[if_neg (show j≠bs.length by omega),if_true]at hk
   exact h.nM j r0 hi k (hf1 k hk)
  ·subst ej
   simp only[if_true]at hk
   exact h.nM i r0 hi k (hf k hk)
theorem CI {n cap:Nat}(hle:n≤cap){lo hi:Option SV}{c:Prop}{f u:Nat}{β:Nat→Bt}(h:wA n lo hi=some (c,f,u))(hc:c)(P:Program)(w:World) :
 (Instr.sliceBounds true n cap (lo.map (ai β)) (hi.map (ai β)) none).run P w=Result.ok (f,u,cap) w∧f≤u∧u≤n∧(lo=none→f=0):=by
 unfold wA at h
 split at h <;> simp only[zKo.injEq,Prod.mk.injEq,reduceCtorEq]at h
 all_goals
  obtain⟨rfl,rfl,rfl⟩:=h
  refine⟨?_,by omega,by omega,by simp⟩
  simp[ai,Instr.sliceBounds,Instr.sliceBound,asIntOf,go_sem]
  try omega
 rw[if_pos (by omega),if_pos (by omega)]
theorem Ht {e s:Nat}(hs:sz V.Γ e=some s)(w:World):(Go.sizeOf e).run V.P w=Result.ok s w:=by
 unfold sz at hs
 cases vG:V.Γ e with
 | none=>simp[vG]at hs
 | some ti=>simp[vG]at hs;rw[← hs];exact(V.iH e ti vG).size w
theorem FW {w:World}{b off:Nat}{vs:List Value}(h:nV w b off vs)(k j:Nat):nV w b (off+k) ((vs.take j).drop k):=fun q v hv=>by
 have h1:=h (k+q) v (by
  rw[List.getElem?_drop]at hv
  rw[List.getElem?_take]at hv
  split at hv
  ·exact hv
  ·cases hv)
 rw[Nat.add_assoc]
 exact h1
theorem re_ok (h:Wd F β fp bs w){t e s:Nat}(ht:V.P.underlying t=some (.slice e))(hz:(Go.sizeOf e).run V.P w=Result.ok s w){lo hi:Option SV}{x:SV}{c0:Prop}{n0:Nat}{bs2:List aw}(ha:reS bs lo hi x=some (c0,n0,bs2))(hc:c0)(hsi:Xc.lN bs x s) :
 ∃ b fp₂,(Instr.sliceAt t (ai β x) (lo.map (ai β)) (hi.map (ai β)) none).run V.P w=Result.ok (oV b n0) w∧bs2.length=bs.length+1∧Wd F (rm β bs.length b) fp₂ bs2 w:=by
 unfold reS at ha
 split at ha
 ·rename_i i n
  split at ha
  ·rename_i c e' s' n' m hi'
   simp only[Xc.lN,hi']at hsi
   subst hsi
   have tK:i<bs.length:=(zKa.1 hi').1
   split at ha
   ·rename_i k f u hb
    have hsame:k∧n'=n∧0<s':=by
     (repeat' split at ha) <;> (cases ha;exact hc)
    obtain⟨hk,rfl,lE⟩:=hsame
    have ho:=h.own hi' (ct.refl _ β)
    have hgi:iv bs i=some (c,e',m):=by simp[iv,hi']
    -- the new slice, as a thing that may only be read
    have rY:∃ b,(Instr.sliceAt t (ai β (.o i n')) (lo.map (ai β)) (hi.map (ai β)) none).run V.P w=Result.ok (oV b (u - f)) w∧f≤u∧u≤n'∧(lo=none→f=0) ∧
     (∀ m',(m'=true→m=true∧lo=none)→∀ β',ct (bs.length+1) (rm β bs.length b) β'→Holds β' b (fp i) w (.own ((c.take (u * s')).drop (f * s')) e' s' (u - f) m')):=by
     rcases ho with⟨h1,h2,h3,h4⟩|⟨h1,h2,h3,h4,h5,h6,h7⟩
     ·subst h2 h3
      obtain⟨hsb,G2,Im,hlo⟩:=CI (β:=β) (zKe 0) hb hk V.P w
      have hu:u=0:=by omega
      have hf:f=0:=by omega
      subst hu hf
      refine⟨⟨0,0,0⟩,?_,zKe _,zKe _,fun _=>rfl,fun m' _ β' _=>.inl ⟨rfl,rfl,by simp,h4⟩⟩
      simp only[ai,oV,if_pos h1]
      simp[Instr.sliceAt,Instr.slice,run_underlying ht,hsb,hz]
     ·obtain⟨hsb,G2,Im,hlo⟩:=CI (β:=β) h2 hb hk V.P w
      refine⟨⟨(β i).kQ,if (β i).cap - 1=f then(β i).off else(β i).off+f * s',(β i).cap - 1 - f+1⟩,?_,G2,Im,hlo,fun m' hm' β' hβ=>.inr ⟨by simp,by simp;omega,by simp;omega,?_,?_,fun hm=>?_,h7⟩⟩
      ·simp only[ai,oV,if_neg h1]
       simp only[Instr.sliceAt,Instr.slice,run_underlying ht,hsb,hz,Sem.run_bind,Result.andThen_ok,Sem.run_pure,zKj,ep]
       simp
       split <;> rfl
      ·rw[List.length_drop,List.length_take,h4,Nat.min_eq_left (zKA _ Im),Nat.sub_mul]
      ·have:=FW h5 (f * s') (u * s')
       rw[h.Al hgi hβ.eC]at this
       rw[List.map_drop,List.map_take]
       by_cases IU:(β i).cap - 1=f
       ·have:u=f:=by omega
        subst this
        intro q v hv
        rw[List.drop_of_length_le (by rw[List.length_take];exact Nat.min_le_left _ _)]at hv
        cases hv
       ·simp only[if_neg IU]
        exact this
      ·obtain⟨IE,hlo1⟩:=hm' hm
       have Eb:=hlo hlo1
       subst Eb
       obtain⟨h8,rest,fz,h9,dH,gj⟩:=h6 IE
       have hus:u * s'≤c.length:=by rw[h4];exact zKA _ Im
       refine⟨by simp[h8],(c.drop (u * s')).map (ai β')++rest,fz,⟨?_,?_⟩,?_,?_⟩
       ·rw[h9.1,Nat.zero_mul,List.drop_zero,← List.append_assoc,← zKR,List.take_append_drop,h.Al hgi hβ.eC]
       ·have:=h9.2
        simp at this ⊢
        omega
       ·simp
        omega
       ·simp
        omega
    obtain⟨b,c9,G2,Im,hlo,hnw⟩:=rY
    cases lo with
    | none =>
      have Eb:=hlo rfl
      subst Eb
      have hnw':=hnw m (fun hm=>⟨hm,rfl⟩)
      simp only[Nat.zero_mul,List.drop_zero,Nat.sub_zero]at hnw' c9
      cases m with
      | false =>
        cases ha
        have dL:bs.set i (.own c e' s' n' false)=bs:=by
         apply List.ext_getElem?
         intro q
         rw[List.getElem?_set]
         split
         ·rename_i hq
          subst hq
          first|exact hi'.symm | (rw[if_pos tK];exact hi'.symm)
         ·rfl
        have hs:=h.split hi' (.own c e' s' n' false) _ b (fp i) (fp i) (fun β' hβ=>h.own hi' hβ) rfl (fun k hk=>hk) hnw' (fun k hk=>hk) (fun hm=>by cases hm)
        rw[dL]at hs
        exact⟨b,_,c9,by simp,hs⟩
      | true =>
      cases ha
      exact⟨b,_,c9,by simp,h.split hi' .gone _ b (fun _=>False) (fp i) (fun β' hβ k hk=>hk) rfl (fun k hk=>hk.elim) hnw' (fun k hk=>hk) (fun hm=>⟨hm,fun k hk=>hk⟩)⟩
    | some l =>
      cases ha
      refine⟨b,_,c9,by simp,h.split hi' (.own c e' s' n' false) _ b (fp i) (fp i) (fun β' hβ=>?_) rfl (fun k hk=>hk) (hnw false (by simp)) (fun k hk=>hk) (fun hm=>by cases hm)⟩
      rcases h.own hi' hβ with hh|⟨h1,h2,h3,h4,h5,-,h7⟩
      ·exact .inl hh
      ·exact .inr ⟨h1,h2,h3,h4,h5,(by simp),h7⟩
   ·cases ha
  ·cases ha
 ·cases ha
theorem cap_ok (h:Wd F β fp bs w){t e s:Nat}(ht:V.P.underlying t=some (.slice e))(hz:(Go.sizeOf e).run V.P w=Result.ok s w){kh km:IntKind}{hi mx:Int}{x y:SV}{c0:Prop}(ha:CC bs s hi mx x=some (c0,y))(hc:c0) :
 (Instr.sliceAt t (ai β x) none (some (.int kh hi)) (some (.int km mx))).run V.P w=Result.ok (ai β y) w∧(∀ β',ct bs.length β β'→ai β y=ai β' y):=by
 unfold CC at ha
 split at ha
 ·rename_i i n
  split at ha
  ·rename_i c e' s' n' m hi'
   cases ha
   obtain⟨rfl,rfl,rfl,rfl⟩:=hc
   have tK:i<bs.length:=(zKa.1 hi').1
   refine⟨?_,fun β' hβ=>by simp only[ai];rw[hβ i tK]⟩
   rcases h.own hi' (ct.refl _ β) with⟨h1,h2,h3,h4⟩|⟨h1,h2,h3,h4,h5,h6,h7⟩
   ·subst h2 h3
    simp only[ai,oV,fV,if_pos h1]
    simp[Instr.sliceAt,Instr.slice,Instr.sliceBounds,Instr.sliceBound,asIntOf,run_underlying ht,hz,go_sem]
   ·simp only[ai,oV,fV,if_neg h1]
    simp[Instr.sliceAt,Instr.slice,Instr.sliceBounds,Instr.sliceBound,asIntOf,run_underlying ht,hz,go_sem,h2,ep]
  ·cases ha
 ·cases ha
  obtain⟨rfl,rfl⟩:=hc
  exact⟨by simp[ai,Instr.sliceAt,Instr.slice,Instr.sliceBounds,Instr.sliceBound,asIntOf,run_underlying ht,hz,go_sem],fun β' _=>rfl⟩
 ·cases ha
theorem oe {s:Nat}:∀ {ps:List (Nat × SV)}{k:Nat}{c:List SV},Yi s k ps=some c→c.length=ps.length * s
 | [],k,c,h=>by cases h;simp
 | (i,x)::r,k,c,h=>by
  simp only[Yi]at h
  split at h
  ·rename_i hc
   split at h
   ·rename_i c1 h1
    cases h
    rw[zKb,oe h1,hc.2.2,zKD,zKw]
    omega
   ·cases h
  ·cases h
theorem vW (β:Nat→Bt)(s:Nat):∀ (ps:List (Nat × SV))(k:Nat)(c:List SV),Yi s k ps=some c→∀ (cs:Array Value),(k+ps.length) * s≤cs.size →
 Instr.fill (fun i=>some (i * s,s)) cs (ps.map fun p=>(p.1,ai β p.2))=some (cs.toList.take (k * s)++c.map (ai β)++cs.toList.drop ((k+ps.length) * s)).toArray
 | [],k,c,h,cs,hcs=>by
   cases h
   simp[Instr.fill]
 | (i,x)::r,k,c,h,cs,hcs=>by
  simp only[Yi]at h
  split at h
  ·rename_i hc
   obtain⟨rfl,hv,hl⟩:=hc
   split at h
   ·rename_i c1 h1
    cases h
    have fS:=e9 β x hv
    rw[zKD]at hcs
    have e0:(i+(r.length+1)) * s=(i+1+r.length) * s:=by congr 1;omega
    rw[e0]at hcs
    have e1:(i+1) * s=i * s+s:=by rw[zKw,Nat.one_mul]
    have e2:(i+1) * s≤(i+1+r.length) * s:=zKA _ (by omega)
    simp only[List.map_cons,Instr.fill,fS,List.size_toArray,List.length_map]
    rw[if_neg (by simp[hl];omega)]
    have hz:=pZ (i * s) ((cells x).map (ai β)) 0 cs (by simp;omega)
    rw[← Array.foldl_toList,Array.toList_zipIdx]
    simp only[Nat.add_zero,List.length_map]at hz
    rw[hz,vW β s r (i+1) c1 h1 _ (by simp[hl];omega)]
    congr 2
    rw[zKD,e0]
    simp only[zKR,hl]
    have l1:(cs.toList.take (i * s)).length=i * s:=by simp;omega
    have l2:(cs.toList.take (i * s)++(cells x).map (ai β)).length=(i+1) * s:=by rw[zKb,l1,List.length_map,hl,e1]
    rw[List.take_append_of_le_length (by omega),List.take_of_length_le (by omega),List.drop_append,List.drop_of_length_le (by omega),List.nil_append,l2,List.drop_drop]
    have e3:i * s+s+((i+1+r.length) * s - (i+1) * s)=(i+1+r.length) * s:=by omega
    rw[e3]
    simp
   ·cases h
  ·cases h
def qj:List Value→Nat→List Value
 | _,0=>[]
 | z,n+1=>z++qj z n
theorem ka (z:List Value):∀ n,(qj z n).length=n * z.length
 | 0=>by simp[qj]
 | n+1=>by simp[qj,ka z n,zKw,Nat.add_comm]
theorem A7 (z:List Value):∀ (n j:Nat),j<n * z.length→(qj z n)[j]? = z[j % z.length]?
 | 0,j,h=>by simp at h
 | n+1,j,h=>by
   simp only[qj]
   by_cases hj:j<z.length
   ·rw[zKh hj,Nat.mod_eq_of_lt hj]
   ·rw[zKk (by omega),A7 z n (j - z.length) (by rw[zKw]at h;omega)]
    congr 1
    rw[Nat.mod_eq_sub_mod (by omega:j ≥ z.length)]
theorem H0 (z:Array Value)(n:Nat)(hz:0<z.size):(madeCells z (n * z.size)).toList=qj z.toList n:=by
 apply List.ext_getElem?
 intro j
 by_cases hj:j<n * z.size
 ·rw[A7 _ _ _ (by simpa using hj)]
  have hm:j % z.size<z.size:=Nat.mod_lt _ hz
  simp[madeCells,hj,hm]
 ·rw[zKx (by simp[madeCells];omega),zKx (by rw[ka];simpa using hj)]
theorem xO (z:List Value):∀ (n k:Nat),k≤n→qj z k=(qj z n).take (k * z.length)
 | _,0,_=>by simp[qj]
 | 0,k+1,h=>by omega
 | n+1,k+1,h=>by
   simp only[qj]
   rw[zKw,Nat.one_mul,Nat.add_comm,List.take_length_add_append,← xO z n k (by omega)]
theorem uO (z:List SV)(β:Nat→Bt):∀ n,(Dz z n).map (ai β)=qj (z.map (ai β)) n
 | 0=>rfl
 | n+1=>by simp[Dz,qj,uO z β n]
theorem wpv {o:Oper}{v:Value}{w w':World}{K:St→Prop}{Q:Exit→Act→World→Prop}(h:(execOp a.eval o).run V.P w=Result.ok (.value v) w'){σ:St}(hK:K σ)(hr:Rel F σ (a.put o.dst v) w'):o.wp V.P a w (fun a w=>∃ σ,K σ∧Rel F σ a w) Q :=
 wp_of_value h ⟨σ,hK,hr⟩
theorem AB {dst:Option Tmp}{op:Op}{σ σ':St}{c:Prop}{K:St→Prop}(cY:fits F.n dst=true)(h:Yl V dst op σ=some (c,σ'))(hc:c)(hK:K σ'){a:Act}{w:World}(hr:Rel F σ a w)(ty:TypeId)(pos:String)(after:Array Edge)(guard:Option (Nat × Bool))(Q:Exit→Act→World→Prop) :
 (⟨dst,op,ty,pos,after,guard⟩:Oper).wp V.P a w (fun a w=>∃ σ,K σ∧Rel F σ a w) Q:=by
 obtain⟨β,fp,hf,hw⟩:=hr
 have mm:∀ (min:Bool) (args:Array Operand) (ts:Array TypeId),Xq min dst args.toList σ=some (c,σ')→(⟨dst,.call ⟨.builtin (if min then .min else .max),args,ts⟩,ty,pos,after,guard⟩:Oper).wp V.P a w (fun a w=>∃ σ,K σ∧Rel F σ a w) Q:=fun min args ts h=>by
  unfold Xq at h
  split at h
  ·rename_i x y yb
   split at h
   ·rename_i x' hx
    split at h
    ·rename_i y' hy
     simp only[zKM,Prod.mk.injEq]at h
     obtain⟨z,hz,-,rfl⟩:=h
     have ea:args=#[x,y]:=by apply zKE;simpa using yb
     subst ea
     have h1:=hf.ev hx (ct.refl _ β)
     have h2:=hf.ev hy (ct.refl _ β)
     unfold mmS at hz
     split at hz
     ·cases hz
      simp only[ai]at h1 h2
      refine wpv (v:=_) (w':=w) ?_ hK ⟨β,fp,hf.put cY (fun β' _=>rfl),hw⟩
      cases min
      ·simp only[Bool.false_eq_true,if_false,execOp,resolve,invoke,builtin,Builtin.max_,Builtin.max2,ai]
       generalize a.eval=ρ at h1 h2
       simp[h1,h2,Builtin.max_,Builtin.max2]
      ·simp only[if_true,execOp,resolve,invoke,builtin,Builtin.min_,Builtin.min2,ai]
       generalize a.eval=ρ at h1 h2
       simp[h1,h2,Builtin.min_,Builtin.min2]
     ·cases hz
    ·cases h
   ·cases h
  ·cases h
 cases op <;> simp only[Yl,reduceCtorEq]at h
 case call cl =>
  obtain⟨callee,args,ts⟩:=cl
  cases callee <;> (try simp only[reduceCtorEq]at h)
  rename_i bi
  cases bi <;> (try simp only[reduceCtorEq]at h)
  case append =>
   unfold Xm at h
   (repeat' split at h) <;> try (cases h;done)
   rename_i s x tp _ t u hts _ e ht _ ku hu _ ti l6 _ sv hs _ xv hx _ n c0 bs2 hd _ m xs oo
   cases h
   obtain⟨h0m,hku,lE,h1,tP,hby⟩:=hc
   have ea:args=#[s,x]:=by apply zKE;simpa using tp
   have et:ts=#[t,u]:=by apply zKE;simpa using hts
   subst ea et
   obtain⟨d1,rn,cN⟩:=cD V.iH ht
   obtain⟨d2,yg,bM⟩:=cD V.iH hu
   simp only[cH]at cN
   subst cN
   have hdd:d2=.string∨∃ e',d2=.slice e':=by
    cases ku <;> simp[XP]at hku <;> simp only[cH]at bM
    ·exact .inl bM
    ·exact .inr ⟨_,bM⟩
   obtain⟨b,fp₂,w',c9,pO⟩:=app_ok hw rn yg hdd l6 rfl lE hd oo (fun β' hβ=>by rw[← hf.ev hx (ct.refl _ β),← hf.ev hx hβ]) h1 tP hby h0m ty
   rw[← hf.ev hs (ct.refl _ β),← hf.ev hx (ct.refl _ β)]at c9
   refine wpv (v:=oV b (n+m)) (w':=w') ?_ hK ⟨_,fp₂,(hf.more (by simp[Ff hd]) (fN _ _ _)).put cY (fun β' hβ=>?_),pO⟩
   ·show Sem.run V.P (do let d ← resolve a.eval ⟨.builtin .append,#[s,x],#[t,u]⟩ ty;invoke d.target d.args) w=_
    simp only[resolve,Sem.run_bind,Sem.run_pure,Result.andThen_ok,invoke,builtin,List.map_toArray,List.map_cons,List.map_nil,c9]
   ·simp only[ai]
    rw[← hβ σ.b.length (by simp[Ff hd]),gP]
  case min=>exact mm true args ts h
  case max=>exact mm false args ts h
 case makeSlice ts l c' =>
  unfold Yn at h
  (repeat' split at h) <;> try (cases h;done)
  rename_i _ e ht _ ti l6 _ kl l' hl _ kc c' hc'
  cases h
  obtain⟨h0,hlc,hby,tP,lE⟩:=hc
  obtain⟨d1,rn,cN⟩:=cD V.iH ht
  simp only[cH]at cN
  subst cN
  obtain⟨i,z,hi,hz,rZ,II,hzc⟩:=(V.iH e ti l6).info
  have CZ:=(V.iH e ti l6).len
  have kT:=(V.iH e ti l6).flat
  have c9:=run_make (P:=V.P) w ts e i z rn hi hz kl kc l' c' h0 hlc (by rw[II];exact hby) tP
  have e1:=hf.ev hl (ct.refl _ β)
  have e2:=hf.ev hc' (ct.refl _ β)
  simp only[ai]at e1 e2
  rw[← e1,← e2]at c9
  have hnn:l'.toNat≤c'.toNat:=by omega
  have hzs:z.cells.size=ti.size:=by rw[hzc];simp[CZ]
  have hzt:z.cells.toList=ti.zero.map (ai pS):=by rw[hzc]
  have hM:(madeCells z.cells (c'.toNat * i.size)).toList=qj (ti.zero.map (ai pS)) c'.toNat:=by
   rw[rZ,← hzs,H0 _ _ (by omega),hzt]
  have hlz:(ti.zero.map (ai pS)).length=ti.size:=by simpa using CZ
  have oq:(Dz ti.zero l'.toNat).length=l'.toNat * ti.size:=by
   have:=congrArg List.length (uO ti.zero pS l'.toNat)
   rw[ka,hlz]at this
   simpa using this
  have hmade:∀ β',(madeCells z.cells (c'.toNat * i.size)).toList=(Dz ti.zero l'.toNat).map (ai β')++(madeCells z.cells (c'.toNat * i.size)).toList.drop (l'.toNat * ti.size):=fun β'=>by
   rw[hM,uO,kT β',xO _ _ _ hnn,hlz,List.take_append_drop]
  have pO:=hw.more (w':=w.alloc (.cells (madeCells z.cells (c'.toNat * i.size)) e)) ((Below.refl _ _).alloc (zKe _) _) (.own (Dz ti.zero l'.toNat) e ti.size l'.toNat true) ⟨w.heap.size,0,c'.toNat+1⟩ (·=w.heap.size) (fun β' hβ=>jo (rest:=(madeCells z.cells (c'.toNat * i.size)).toList.drop (l'.toNat * ti.size)) (fz:=(0,0)) (by
   rw[dG,← hmade β']) (.inr (zKe _)) oq hnn (by unfold maxLen;omega) (by
   rw[oq,List.length_drop,hM,ka,hlz]
   have:l'.toNat * ti.size≤c'.toNat * ti.size:=zKA _ hnn
   omega)) (fun k hk=>by subst hk;exact⟨zKe _,by rw[size_alloc];exact zKv _⟩)
  refine wpv (cn c9) hK ⟨_,_,(hf.more (by simp) (fN _ _ _)).put cY (fun β' hβ=>?_),pO⟩
  simp only[ai]
  rw[← hβ σ.b.length (by simp),gP]
  simp[oV]
 case indexAddr ts x i =>
  unfold Xc at h
  (repeat' split at h) <;> try (cases h;done)
  rename_i _ e ht _ s hs _ x' hx _ k kk hi _ c0 y ha
  cases h
  unfold Ym at ha
  split at ha
  ·rename_i j n
   split at ha
   ·rename_i cc ee ss nn mm' hj
    cases ha
    obtain⟨⟨rfl,hss,lh,C6⟩,oa⟩:=hc
    simp only[Xc.lN,hj]at oa
    subst oa
    obtain⟨d1,rn,cN⟩:=cD V.iH ht
    simp only[cH]at cN
    subst cN
    have hz:(Go.sizeOf e).run V.P w=Result.ok ss w:=by
     unfold sz at hs
     cases vG:V.Γ e with
     | none=>simp[vG]at hs
     | some ti=>simp[vG]at hs;rw[← hs];exact(V.iH e ti vG).size w
    have hnz:(β j).cap≠0:=by
     rcases hw.own hj (ct.refl _ β) with⟨-,h2,-⟩|⟨h2,-⟩
     ·subst h2;omega
     ·exact h2
    have e1:=hf.ev hx (ct.refl _ β)
    have e2:=hf.ev hi (ct.refl _ β)
    simp only[ai,oV,if_neg hnz]at e1 e2
    refine wpv (v:=ai β (.p j (kk.toNat * ss))) (w':=w) ?_ hK ⟨β,fp,hf.put cY (fun β' hβ=>?_),hw⟩
    ·refine cn ?_
     rw[e1,e2]
     simp[Instr.indexAt,asIntOf,run_underlying rn,lh,C6,hz,ai,ep]
    ·simp only[ai]
     rw[hβ j (zKa.1 hj).1]
   ·cases ha
  ·cases ha
 case slice ts x lo hi mx =>
  cases mx with
  | some mx =>
    cases lo <;> cases hi <;> simp only[reduceCtorEq]at h
    rename_i hi
    unfold DS at h
    (repeat' split at h) <;> try (cases h;done)
    rename_i _ e ht _ s hs _ x' hx _ kh vh hh _ km vm hm _ c0 y ha
    cases h
    obtain⟨d1,rn,cN⟩:=cD V.iH ht
    simp only[cH]at cN
    subst cN
    obtain⟨c9,hy⟩:=cap_ok (kh:=kh) (km:=km) hw rn (Ht hs w) ha hc
    have e1:=hf.ev hx (ct.refl _ β)
    have e2:=hf.ev hh (ct.refl _ β)
    have e3:=hf.ev hm (ct.refl _ β)
    simp only[ai]at e2 e3
    have hv:(execOp a.eval (⟨dst,.slice ts x none (some hi) (some mx),ty,pos,after,guard⟩:Oper)).run V.P w=Result.ok (.value (ai β y)) w:=by
     refine cn ?_
     simp only[zKj,zKG,e1,e2,e3]
     exact c9
    exact wpv hv hK ⟨β,fp,hf.put cY (fun β' hβ=>hy β' hβ),hw⟩
  | none =>
  simp only at h
  unfold Xj at h
  (repeat' split at h) <;> try (cases h;done)
  rename_i _ e ht _ s hs _ x' hx _ lo' hlo _ hi' hhi _ c0 n0 bs2 ha
  cases h
  obtain⟨hc,hsi⟩:=hc
  obtain⟨d1,rn,cN⟩:=cD V.iH ht
  simp only[cH]at cN
  subst cN
  have hz:(Go.sizeOf e).run V.P w=Result.ok s w:=Ht hs w
  obtain⟨b,fp₂,c9,hlen,pO⟩:=re_ok hw rn hz ha hc hsi
  have hv:(execOp a.eval (⟨dst,.slice ts x lo hi none,ty,pos,after,guard⟩:Oper)).run V.P w=Result.ok (.value (oV b n0)) w:=by
   refine cn ?_
   rw[hf.ev hx (ct.refl _ β),tV (hf.ok β (ct.refl _ _)) hlo,tV (hf.ok β (ct.refl _ _)) hhi]
   exact c9
  refine wpv hv hK ⟨_,fp₂,(hf.more (by rw[hlen];exact Nat.le_succ _) (fN _ _ _)).put cY (fun β' hβ=>?_),pO⟩
  simp only[ai]
  rw[← hβ σ.b.length (by rw[hlen];exact zKv _),gP]
 case convert ts td x =>
  unfold Yb at h
  (repeat' split at h) <;> try (cases h;done)
  ·rename_i _ hts _ e htd _ hte _ l hx
   cases h
   obtain⟨d1,rn,cN⟩:=cD V.iH hts
   obtain⟨d2,yg,bM⟩:=cD V.iH htd
   obtain⟨d3,hd3,eh⟩:=cD V.iH hte
   simp only[cH]at cN bM eh
   subst cN bM eh
   have c9:=Lib.run_convert_string_bytes w ts td e ⟨zKt l⟩ rn yg hd3
   have hss:(⟨zKt l⟩:ByteArray).size=l.length:=rfl
   rw[hss]at c9
   have Ce:=grownCap_ge w l.length 0 e
   have hle:=grownCap_le_maxLen w l.length 0 e hc
   have hbc:Lib.bytesCells w e ⟨zKt l⟩=((l.map dP).map (ai β)++List.replicate (grownCap w l.length 0 e - l.length) (Value.int .u8 0)).toArray:=by
    apply zKE
    simp[Lib.bytesCells,dP,ai,Function.comp_def,hss]
   have rY:=Lib.bytesWorld_at_new w e ⟨zKt l⟩
   have Gl:Below w.heap.size w (Lib.bytesWorld w e ⟨zKt l⟩):=⟨by simp[Lib.bytesWorld,World.freeze];rfl,rfl,rfl,by rw[Lib.bytesWorld_size];omega,fun k hk=>Lib.bytesWorld_at_old _ _ _ k hk⟩
   have hsize:=Lib.bytesWorld_size w e ⟨zKt l⟩
   rw[hbc]at rY
   generalize Lib.bytesWorld w e ⟨zKt l⟩=w1 at c9 rY Gl hsize
   generalize grownCap w l.length 0 e=cap' at c9 rY Ce hle
   have pO:=hw.more Gl (.own (l.map dP) e 1 l.length true) ⟨w.heap.size,0,cap'+1⟩ (·=w.heap.size) (fun β' hβ=>jo (by
    rw[rY]
    congr 3
    rw[List.map_map,List.map_map]
    rfl) (by left;simp) (by simp) Ce hle (by simp;omega)) (fun k hk=>by subst hk;exact⟨zKe _,by rw[hsize];exact zKv _⟩)
   have e1:=hf.ev hx (ct.refl _ β)
   simp only[ai]at e1
   rw[← e1]at c9
   refine wpv (cn c9) hK ⟨_,_,(hf.more (by simp) (fN _ _ _)).put cY (fun β' hβ=>?_),pO⟩
   simp only[ai]
   rw[← hβ σ.b.length (by simp),gP]
   simp[oV]
  ·rename_i _ e hts _ htd _ hte _ hx
   cases h
   obtain⟨d1,rn,cN⟩:=cD V.iH hts
   obtain⟨d2,yg,bM⟩:=cD V.iH htd
   obtain⟨d3,hd3,eh⟩:=cD V.iH hte
   simp only[cH]at cN bM eh
   subst cN bM eh
   have e1:=hf.ev hx (ct.refl _ β)
   simp only[ai]at e1
   have c9:=run_convert_bytes_nil w ts e rn hd3 0 0 td yg
   rw[← e1]at c9
   exact wpv (cn c9) hK ⟨β,fp,hf.put cY (fun β' hβ=>by simp[ai];rfl),hw⟩
  ·rename_i _ e hts _ htd _ hte _ i n hx _ c0 ee s n' mm' hi
   cases h
   obtain⟨rfl,rfl,a6⟩:=hc
   obtain⟨d1,rn,cN⟩:=cD V.iH hts
   obtain⟨d2,yg,bM⟩:=cD V.iH htd
   obtain⟨d3,hd3,eh⟩:=cD V.iH hte
   simp only[cH]at cN bM eh
   subst cN bM eh
   have e1:=hf.ev hx (ct.refl _ β)
   simp only[ai,oV]at e1
   have c9:(convert ts td (a.eval x)).run V.P w=Result.ok (.string ⟨zKt (c0.map rv)⟩) w:=by
    rw[e1]
    rcases hw.own hi (ct.refl _ β) with⟨h1,rfl,rfl,-⟩|⟨h1,h2,h3,h4,h5,-⟩
    ·rw[if_pos h1]
     exact run_convert_bytes_nil w ts e rn hd3 0 0 td yg
    ·rw[if_neg h1]
     have hl:n'=(c0.map rv).length:=by simpa using h4.symm
     rw[hl]
     refine run_convert_bytes_back w ts td e _ _ (c0.map rv) rn hd3 yg (fun j hj=>?_)
     rw[ep]
     have hj':j<c0.length:=by simpa using hj
     refine h5 j _ ?_
     simp only[List.getElem?_map,zKu hj',zKj,List.getElem_map]
     rw[GJ β (zKc.1 a6 _ (List.getElem_mem hj'))]
   exact wpv (cn c9) hK ⟨β,fp,hf.put cY (fun β' hβ=>by simp[ai]),hw⟩
 case buildSlice ts n ps =>
  unfold Xa at h
  (repeat' split at h) <;> try (cases h;done)
  rename_i _ e ht _ ti l6 _ l hl _ c0 kT
  cases h
  obtain⟨F4,oP,lE⟩:=hc
  obtain⟨d1,rn,cN⟩:=cD V.iH ht
  simp only[cH]at cN
  subst cN
  obtain⟨i,z,hi,hz,rZ,II,hzc⟩:=(V.iH e ti l6).info
  have hps:=fun β' hβ=>me (β':=β') hf hβ hl
  have jL:=oe kT
  rw[F4]at jL
  have qJ:=fun β'=>vW β' ti.size l 0 c0 kT ((Array.range (n * i.size)).map (z.cells[· % z.cells.size]!)) (by rw[Nat.zero_add,F4];simp[rZ])
  have c9:∀ β',ct σ.b.length β β'→(Instr.buildSlice ts n (ps.map fun p=>(p.1,a.eval p.2))).run V.P w=Result.ok (.slice (some ⟨w.heap.size,0,none⟩) n n) (w.alloc (.cells (c0.map (ai β')).toArray e)):=fun β' hβ=>by
   have e2:=hps β' hβ
   by_cases hn:n=0
   ·subst hn
    have hl0:l=[]:=zKl F4
    subst hl0
    have kU:c0=[]:=zKl (by rw[jL];simp)
    subst kU
    have e3:(ps.toList.map fun p=>(p.1,a.eval p.2))=[]:=e2
    have e4:Array.range 0=#[]:=rfl
    simp[Instr.buildSlice,run_underlying rn,Go.sizeOf,typeInfo,hi,e3,Instr.fill,newRow,e4]
   ·refine run_buildSlice (P:=V.P) w ts e n (ps.map fun p=>(p.1,a.eval p.2)) (c0.map (ai β')).toArray i z rn hi hz (by rw[rZ];omega) (by rw[rZ];exact Nat.ne_of_gt (Nat.mul_pos (by omega) lE)) ?_
    have e3:=qJ β'
    rw[← rZ]at e3
    rw[Array.toList_map,e2,e3]
    congr 1
    apply zKE
    rw[Nat.zero_add,F4]
    simp
  have vS:∀ β',ct σ.b.length β β'→c0.map (ai β)=c0.map (ai β'):=fun β' hβ=>by
   have h1:=c9 β (ct.refl _ _)
   rw[c9 β' hβ]at h1
   injection h1 with _ h1
   have h2:=congrArg (fun w':World=>w'.heap[w.heap.size]?) h1
   simp only[dG]at h2
   have h3:=(Obj.cells.inj (zKo.inj h2)).1
   have h4:=congrArg Array.toList h3
   exact h4.symm
  have pO:=hw.more (w':=w.alloc (.cells (c0.map (ai β)).toArray e)) ((Below.refl _ _).alloc (zKe _) _) (.own c0 e ti.size n true) ⟨w.heap.size,0,n+1⟩ (·=w.heap.size) (fun β' hβ=>jo (rest:=[]) (fz:=(0,0)) (by
   rw[dG,vS β' hβ.eC,zKy]) (.inr (zKe _)) jL (zKe _) (by unfold maxLen;have:n * 1≤n * ti.size:=Nat.mul_le_mul_left _ lE;omega) (by simpa using jL)) (fun k hk=>by subst hk;exact⟨zKe _,by rw[size_alloc];exact zKv _⟩)
  refine wpv (cn (c9 β (ct.refl _ _))) hK ⟨_,_,(hf.more (by simp) (fN _ _ _)).put cY (fun β' hβ=>?_),pO⟩
  simp only[ai]
  rw[← hβ σ.b.length (by simp),gP]
  simp[oV]
end
open Go
def om:List Oper→Nat→List Oper
 | [],_=>[]
 | o::_,0=>[o]
 | _::r,k+1=>om r k
def gW:List Nat→Nat→Nat
 | [],_=>0
 | x::r,j=>if x=j then 0 else gW r j+1
def permE (p:List Nat)(e:Edge):Edge:=⟨gW p e.on,e.ground⟩
def EK (p:List Nat):Option (Nat × Bool)→Option (Nat × Bool)
 | none=>none
 | some (g,b)=>some (gW p g,b)
def oF (p:List Nat):Oper→Oper
 | ⟨dst,op,ty,pos,after,guard⟩=>⟨dst,op,ty,pos,after.map (permE p),EK p guard⟩
def nt (ops:List Oper)(q:List Nat):List Nat→List Oper
 | []=>[]
 | x::r=>(om ops x).map (oF q)++nt ops q r
def qn (ops:Array Oper):List Nat→Array Oper
 | []=>ops
 | x::r=>(nt ops.toList (x::r) (x::r)).toArray
def DG (ops:Array Oper)(p:List Nat):Bool:=p.length==ops.size&&p.all (fun i=>decide (i<ops.size))&&(zKH ops.size).all (fun k=>p.contains k&&(decide (p.getD k 0<ops.size)&&gW p (p.getD k 0)==k))
def Bf (ops:Array Oper):List Nat→Prop
 | []=>True
 | x::r=>DG ops (x::r)=true
theorem Be {ops:Array Oper}{x:Nat}{r:List Nat}(h:DG ops (x::r)=true):Bf ops (x::r):=h
theorem tY (l:List Oper)(k:Nat):om l k=l[k]?.toList:=by
 induction l generalizing k with
 | nil=>simp[om]
 | cons o r ih=>cases k with
   | zero=>simp[om]
   | succ k=>simp[om,ih]
theorem rJ (ops:List Oper)(q:List Nat):∀ (p:List Nat),(∀ i∈p,i<ops.length)→(nt ops q p).length=p.length∧∀ k:Nat,(nt ops q p)[k]? = (p[k]?).bind fun i=>(ops[i]?).map (oF q)
 | [],_=>⟨rfl,fun k=>by simp[nt]⟩
 | x::r,h=>by
   obtain⟨h1,h2⟩:=rJ ops q r (fun i hi=>h i (List.mem_cons_of_mem _ hi))
   have hx:x<ops.length:=h x (zKI ..)
   have e:om ops x=[ops[x]]:=by rw[tY,zKu hx];rfl
   refine⟨by simp[nt,e,h1],fun k=>?_⟩
   cases k with
   | zero=>simp[nt,e,zKu hx]
   | succ k=>simp[nt,e,h2]
theorem jm:∀ (p:List Nat)(j:Nat),(j∈p→p[gW p j]? = some j)∧(j ∉ p→gW p j=p.length)
 | [],j=>by simp[gW]
 | x::r,j=>by
   obtain⟨h1,h2⟩:=jm r j
   by_cases h:x=j
   ·simp[gW,h]
   ·have h':¬ j=x:=fun e=>h e.symm
    simp only[gW,if_neg h,List.mem_cons,h',false_or,List.getElem?_cons_succ,zKD]
    exact⟨h1,fun hn=>by rw[h2 hn]⟩
theorem xS (p:List Nat)(o:Oper):(oF p o).dst=o.dst:=by cases o;rfl
theorem HT {P:Program}{p:List Nat}{o:Oper}{a:Act}{w:World}{K:Act→World→Prop}{Q:Exit→Act→World→Prop}(h:(oF p o).wp P a w K Q):o.wp P a w K Q:=by cases o;exact h
theorem DF {P:Program}{p:List Nat}{o:Oper}{a:Act}{w:World}(h:(oF p o).asks P a w):o.asks P a w:=by cases o;exact h
structure OrdP (p:List Nat) (n:Nat):Prop where
 len:p.length=n
 lt:∀ i∈p,i<n
 mem:∀ {i:Nat},i<n→i∈p
 onto:∀ k,k<n→∃ i,i<n∧gW p i=k
section
variable {ops:Array Oper} {p:List Nat} (hp:OrdP p ops.size)
def qz (ops:Array Oper)(p:List Nat):Array Oper:=(nt ops.toList p p).toArray
include hp
theorem rO:(qz ops p).size=ops.size:=by
 have:=(rJ ops.toList p p (fun i hi=>by simpa using hp.lt i hi)).1
 simp[qz,this,hp.len]
theorem vd {i:Nat}(hi:i<ops.size):(qz ops p)[gW p i]? = (ops[i]?).map (oF p):=by
 have h2:=(rJ ops.toList p p (fun i hi=>by simpa using hp.lt i hi)).2 (gW p i)
 have h3:=(jm p i).1 (hp.mem hi)
 simp only[qz,List.getElem?_toArray,h2,h3,Option.bind_some]
 simp
theorem DW {i:Nat}(hi:i<ops.size):gW p i<ops.size:=by
 have h3:=(jm p i).1 (hp.mem hi)
 have:=(zKa.1 h3).1
 rw[hp.len]at this
 exact this
theorem H9 {i:Nat}(hi:¬ i<ops.size):gW p i=ops.size:=by
 rw[(jm p i).2 (fun h=>hi (hp.lt i h)),hp.len]
theorem inv_inj {i k:Nat}(hi:i<ops.size)(hk:k<ops.size)(h:gW p i=gW p k):i=k:=by
 have h1:=(jm p i).1 (hp.mem hi)
 have h2:=(jm p k).1 (hp.mem hk)
 rw[h,h2]at h1
 exact((zKo.injEq _ _).mp h1).symm
theorem He (tmps:Array Value)(g:Nat):yielded (qz ops p) tmps (gW p g)=yielded ops tmps g:=by
 unfold yielded
 have:((qz ops p)[gW p g]?).bind (·.dst)=(ops[g]?).bind (·.dst):=by
  by_cases h:g<ops.size
  ·rw[vd hp h]
   rw[zKs h]
   simp[xS]
  ·rw[H9 hp h,Array.getElem?_eq_none (by rw[rO hp];exact zKe _),Array.getElem?_eq_none (by omega)]
 rw[this]
theorem wanted' (tmps:Array Value)(o:Oper):Region.wanted (oF p o) (yielded (qz ops p) tmps)=Region.wanted o (yielded ops tmps):=by
 obtain⟨dst,op,ty,pos,after,guard⟩:=o
 cases guard with
 | none=>rfl
 | some g =>
   obtain⟨g,b⟩:=g
   simp only[oF,EK,Region.wanted,He hp]
def CS (ops:Array Oper)(p:List Nat)(L L':Array Bool):Prop:=L.size=ops.size∧L'.size=ops.size∧∀ i,i<ops.size→L'.getD (gW p i) false=L.getD i false
omit hp in
theorem E7 {L:Array Bool}{i:Nat}(h:i<L.size):L.getD i true=L.getD i false:=by simp[Array.getD,h]
theorem DC {md:Region.Mode}{L L':Array Bool}(hs:CS ops p L L'){i:Nat}(hi:i<ops.size):gW p i∈Region.ready md (qz ops p) L'↔i∈Region.ready md ops L:=by
 obtain⟨s1,s2,s3⟩:=hs
 rw[mem_ready,mem_ready,E7 (by rw[s2];exact DW hp hi),E7 (by rw[s1];exact hi),s3 i hi,vd hp hi]
 have ho:ops[i]? = some ops[i]:=zKs hi
 rw[ho]
 have oM:∀ n:Nat,L'.getD (gW p n) false=L.getD n false:=fun n=>by
  by_cases hn:n<ops.size
  ·exact s3 n hn
  ·rw[H9 hp hn]
   simp[Array.getD,s1,s2,hn]
 refine and_congr_right fun _=>?_
 generalize ops[i]=o
 obtain⟨dst,op,ty,pos,after,guard⟩:=o
 simp only[zKj,zKo.injEq,exists_eq_left',oF,Array.mem_map,forall_exists_index,and_imp,forall_apply_eq_imp_iff₂]
 refine forall_congr' fun e=>forall_congr' fun he=>?_
 simp only[permE,oM]
 rfl
theorem set' {L L':Array Bool}(hs:CS ops p L L'){i:Nat}(hi:i<ops.size):CS ops p (L.setIfInBounds i true) (L'.setIfInBounds (gW p i) true):=by
 obtain⟨s1,s2,s3⟩:=hs
 refine⟨by simpa using s1,by simpa using s2,fun k hk=>?_⟩
 by_cases h:i=k
 ·subst h
  have:=DW hp hk
  simp[Array.getD,s1,s2,hk,this]
 ·have h':gW p i≠gW p k:=fun e=>h (inv_inj hp hi hk e)
  rw[getD_set_ne false h,getD_set_ne false h']
  exact s3 k hk
theorem ER {md:Region.Mode}{L L':Array Bool}(hs:CS ops p L L'):Region.ready md ops L=[]→Region.ready md (qz ops p) L'=[]:=fun h=>by
 cases h':Region.ready md (qz ops p) L' with
 | nil=>rfl
 | cons k r =>
   have hk:k∈Region.ready md (qz ops p) L':=by rw[h'];exact zKI ..
   have aC:k<ops.size:=by
    obtain⟨o,ho,_⟩:=(mem_ready.1 hk).2
    have:=(zKg.1 ho).1
    rwa [rO hp]at this
   obtain⟨i,hi,e⟩:=hp.onto k aC
   rw[← e,DC hp hs hi,h]at hk
   cases hk
theorem Ao {P:Program}{Q:Exit→Act→World→Prop}{md:Region.Mode}:∀ (fuel:Nat)(L L':Array Bool)(a:Act)(w:World),CS ops p L L'→wpAny P md (qz ops p) Q fuel L' a w→wpAny P md ops Q fuel L a w:=by
 intro fuel
 induction fuel with
 | zero =>
   intro L L' a w hs h
   refine⟨?_,h.2⟩
   cases h':Region.ready md ops L with
   | nil=>rfl
   | cons i r =>
     have hi:i∈Region.ready md ops L:=by rw[h'];exact zKI ..
     have aC:i<ops.size:=by
      obtain⟨o,ho,_⟩:=(mem_ready.1 hi).2
      exact(zKg.1 ho).1
     rw[← DC hp hs aC,h.1]at hi
     cases hi
 | succ fuel ih =>
   intro L L' a w hs h
   refine⟨fun h0=>h.1 (ER hp hs h0),fun i hi=>?_⟩
   have aC:i<ops.size:=by
    obtain⟨o,ho,_⟩:=(mem_ready.1 hi).2
    exact(zKg.1 ho).1
   have h1:=h.2 _ ((DC hp hs aC).2 hi)
   have ho:ops[i]? = some ops[i]:=zKs aC
   unfold wpOp at h1 ⊢
   rw[vd hp aC,ho]at h1
   rw[ho]
   simp only[zKj,wanted' hp,xS]at h1 ⊢
   have hK:∀ a w,wpAny P md (qz ops p) Q fuel (L'.setIfInBounds (gW p i) true) a w→wpAny P md ops Q fuel (L.setIfInBounds i true) a w:=fun a w=>ih _ _ a w (set' hp hs aC)
   split
   ·rename_i hw
    rw[if_pos hw]at h1
    exact h1.imp (fun h=>Oper.wp_mono hK (HT h)) (fun h=>⟨DF h.1,h.2⟩)
   ·rename_i hw
    rw[if_neg hw]at h1
    exact hK _ _ h1
end
theorem Da {P:Program}{Q:Exit→Act→World→Prop}{md:Region.Mode}{ops:Array Oper}{a:Act}{w:World}:∀ (p:List Nat),Bf ops p→wpAny P md (qn ops p) Q (qn ops p).size (zKJ (qn ops p).size false) a w→wpAny P md ops Q ops.size (zKJ ops.size false) a w
 | [],_,h=>h
 | x::r,hb,h=>by
   simp only[Bf,DG,zJ9,beq_iff_eq,decide_eq_true_eq,zKc]at hb
   obtain⟨⟨h1,h2⟩,h3⟩:=hb
   have hp:OrdP (x::r) ops.size:=⟨h1,h2,fun {i} hi=>zKz.1 (h3 i (zKB.2 hi)).1,fun k hk=>⟨_,(h3 k (zKB.2 hk)).2⟩⟩
   have hs:=rO hp
   have e:qn ops (x::r)=qz ops (x::r):=rfl
   rw[e,hs]at h
   refine Ao hp _ _ _ _ _ ⟨by simp,by simp,fun i hi=>?_⟩ h
   have:=DW hp hi
   simp[Array.getD,hi,this]
open Go Go.RowKit Wf
inductive iz where
 | go (c:Prop) (σ:St)
 | call (f:FuncId) (args:List SV) (dst:Option Tmp) (σ:St)
 | bad
def goR (dst:Option Tmp)(σ:St):Option (Prop × SV)→iz→iz
 | some (c,x),_=>.go c ⟨put dst x σ.t,σ.b⟩
 | none,m=>m
def XC (V:Cx)(dst:Option Tmp)(T:TypeId)(σ:St):iz:=match V.Γ T with
 | some ti=>.go True ⟨put dst (.p σ.b.length 0) σ.t,σ.b++[.cells ti.zero T true]⟩
 | none=>.bad
def sBox (dst:Option Tmp)(T:TypeId)(x:Operand)(σ:St):iz:=match ev σ.t x with
 | some x=>.go (CY x=false) ⟨put dst (.p σ.b.length 0) σ.t,σ.b++[.cells (cells x) T true]⟩
 | none=>.bad
def XU (V:Cx)(dst:Option Tmp)(T:TypeId)(x:Operand)(σ:St):iz:=match ev σ.t x with
 | some (.p i off)=>match iv σ.b i with
   | some (c,_,_)=>match V.Γ T with
     | some ti=>match XM ti.agg off ti.size c with
       | some x=>.go (off+ti.size≤c.length) ⟨put dst x σ.t,σ.b⟩
       | none=>.bad
     | none=>.bad
   | none=>.bad
 | _=>.bad
def XH (V:Cx)(dst:Option Tmp)(T:TypeId)(x y:Operand)(σ:St):iz:=match ev σ.t x with
 | some (.p i off)=>match ev σ.t y with
   | some y=>match iv σ.b i with
     | some (c,_,m)=>match sz V.Γ T with
       | some s=>.go (m=true∧(cells y).all one=true∧(cells y).length=s∧off+s≤c.length) ⟨put dst (.v undef) σ.t,uJ σ.b i (Xs c off (cells y))⟩
       | none=>.bad
     | none=>.bad
   | none=>.bad
 | _=>.bad
def Xr (V:Cx)(dst:Option Tmp)(T:TypeId)(ps:List (Nat × Operand))(σ:St):iz:=match V.Γ T with
 | some ti=>match ti.kind with
   | .struct fs=>match Xl σ.t ps with
     | some ps=>match XZ fs V.Γ ps ti.zero with
       | some c=>.go True ⟨put dst (.agg c) σ.t,σ.b⟩
       | none=>.bad
     | none=>.bad
   | _=>.bad
 | none=>.bad
def Xt:Fn→Bool
 | .func _=>true
 | _=>false
def sNil (dst:Option Tmp)(x:Operand)(σ:St):iz:=match ev σ.t x with
 | some (.p i off)=>.go True ⟨put dst (.p i off) σ.t,σ.b⟩
 | some (.fn f l)=>.go (Xt f=true) ⟨put dst (.fn f l) σ.t,σ.b⟩
 | some (.mv f l)=>.go True ⟨put dst (.mv f l) σ.t,σ.b⟩
 | _=>.bad
def XL (dst:Option Tmp)(f:Operand)(args:List Operand)(σ:St):iz:=match ev σ.t f with
 | some (.fn (.func f) caps)=>match Ak σ.t args with
   | some l=>.call f (l++caps) dst σ
   | none=>.bad
 | some (.mv f first)=>match Ak σ.t args with
   | some l=>.call f (first++l) dst σ
   | none=>.bad
 | _=>.bad
def JM (V:Cx)(dst:Option Tmp)(rc:Operand)(name:String)(args:List Operand)(σ:St):iz:=match ev σ.t rc with
 | some (.ifc T x)=>match V.M T name with
   | some f=>match Ak σ.t args with
     | some l=>.call f (x::l) dst σ
     | none=>.bad
   | none=>.bad
 | _=>.bad
def Yd (V:Cx)(dst:Option Tmp):Op→St→iz
 | .alloc T,σ=>XC V dst T σ
 | .box T x,σ=>sBox dst T x σ
 | .load T x,σ=>XU V dst T x σ
 | .store T x y,σ=>XH V dst T x y σ
 | .build T ps,σ=>Xr V dst T ps.toList σ
 | .nilCheck x,σ=>sNil dst x σ
 | .call ⟨.value f,args,_⟩,σ=>XL dst f args.toList σ
 | .call ⟨.invoke rc name,args,_⟩,σ=>JM V dst rc name args.toList σ
 | _,_=>.bad
def yG (V:Cx)(dst:Option Tmp)(op:Op)(σ:St):iz:=goR dst σ (pv V.Γ σ.t op) (Yd V dst op σ)
def GS:Option (Prop × St)→iz→iz
 | some (c,σ),_=>.go c σ
 | none,m=>m
def XR (V:Cx)(dst:Option Tmp)(op:Op)(σ:St):iz:=goR dst σ (pv V.Γ σ.t op) (GS (Yl V dst op σ) (Yd V dst op σ))
def jW (V:Cx)(K:St→Prop):iz→Prop
 | .go c σ=>c∧K σ
 | .call f args dst σ=>(∃ r,PC V f args r∧K ⟨put dst r σ.t,σ.b⟩)∨(∃ R,SC V f args σ.b R∧∀ r bs,R r bs→K ⟨put dst r σ.t,bs⟩)
 | .bad=>False
theorem su {V:Cx}{n:Nat}{dst:Option Tmp}{op:Op}{σ:St}{K:St→Prop}(hf:fits n dst=true)(h:jW V K (yG V dst op σ)):vcO V n dst op σ K:=by
 refine⟨hf,?_⟩
 unfold yG at h
 split
 ·rename_i c x hp
  rw[hp]at h
  exact h
 ·rename_i hp
  rw[hp]at h
  simp only[goR]at h
  cases op <;> simp only[Yd]at h <;> simp only[vcM]
  case alloc T=>unfold XC at h;(repeat' split at h) <;> simp_all [jW]
  case box T x=>unfold sBox at h;(repeat' split at h) <;> simp_all [jW]
  case load T x=>unfold XU at h;(repeat' split at h) <;> simp_all [jW]
  case store T x y=>unfold XH at h;(repeat' split at h) <;> simp_all [jW]
  case build T ps=>unfold Xr at h;(repeat' split at h) <;> simp_all [jW]
  case nilCheck x =>
   unfold sNil at h
   split at h
   ·rename_i e;rw[e];exact h.2
   ·rename_i f l e
    rw[e]
    refine⟨?_,h.2⟩
    have:=h.1
    cases f <;> simp[Xt]at this ⊢
   ·rename_i f l e;rw[e];exact h.2
   ·cases h
  case call c =>
   obtain⟨callee,args,ts⟩:=c
   cases callee <;> simp only at h ⊢
   case value f=>unfold XL at h;(repeat' split at h) <;> simp_all [jW]
   case invoke rc name=>unfold JM at h;(repeat' split at h) <;> simp_all [jW]
   all_goals exact h
  all_goals exact h
theorem nc {V:Cx}{F:Fx V}{dst:Option Tmp}{op:Op}{σ:St}{K:St→Prop}(cY:fits F.n dst=true)(h:jW V K (XR V dst op σ)){a:Act}{w:World}(hr:Rel F σ a w)(ty:TypeId)(pos:String)(after:Array Edge)(guard:Option (Nat × Bool))(Q:Exit→Act→World→Prop) :
 (⟨dst,op,ty,pos,after,guard⟩:Oper).wp V.P a w (fun a w=>∃ σ,K σ∧Rel F σ a w) Q:=by
 unfold XR at h
 cases hp:pv V.Γ σ.t op with
 | some p =>
   rw[hp]at h
   exact xD (su cY (by unfold yG;rw[hp];exact h)) hr _ rfl rfl Q
 | none =>
   rw[hp]at h
   simp only[goR]at h
   cases hn:Yl V dst op σ with
   | some p =>
     rw[hn]at h
     exact AB cY hn h.1 h.2 hr ty pos after guard Q
   | none =>
     rw[hn]at h
     exact xD (su cY (by unfold yG;rw[hp];exact h)) hr _ rfl rfl Q
structure jV where
 x:SV
 nb:Option (List aw)
 all:Bool
 rd:List (Nat × Nat × Nat)
 wr:List (Nat × Nat × Nat)
structure Rk where
 s:Bool
 all:Bool
 rd:List (Nat × Nat × Nat)
 wr:List (Nat × Nat × Nat)
inductive jU where
 | val (c:Prop) (r:jV)
 | call (f:FuncId) (args:List SV)
 | bad
def oR (c:Prop)(x:SV):jU:=.val c ⟨x,none,false,[],[]⟩
def Gx:Option (Prop × SV)→jU→jU
 | some (c,x),_=>oR c x
 | none,m=>m
def XD (V:Cx)(T:TypeId)(σ:St):jU:=match V.Γ T with
 | some ti=>.val True ⟨.p σ.b.length 0,some (σ.b++[.cells ti.zero T true]),false,[],[(σ.b.length,0,0)]⟩
 | none=>.bad
def Jw (T:TypeId)(x:Operand)(σ:St):jU:=match ev σ.t x with
 | some x=>.val (CY x=false) ⟨.p σ.b.length 0,some (σ.b++[.cells (cells x) T true]),false,[],[(σ.b.length,0,0)]⟩
 | none=>.bad
def XI (V:Cx)(T:TypeId)(x:Operand)(σ:St):jU:=match ev σ.t x with
 | some (.p i off)=>match iv σ.b i with
   | some (c,_,_)=>match V.Γ T with
     | some ti=>match XM ti.agg off ti.size c with
       | some x=>.val (off+ti.size≤c.length∧0<ti.size) ⟨x,none,false,[(i,off,ti.size)],[]⟩
       | none=>.bad
     | none=>.bad
   | none=>.bad
 | _=>.bad
def XF (V:Cx)(T:TypeId)(x y:Operand)(σ:St):jU:=match ev σ.t x with
 | some (.p i off)=>match ev σ.t y with
   | some y=>match iv σ.b i with
     | some (c,_,m)=>match sz V.Γ T with
       | some s=>.val (m=true∧(cells y).all one=true∧(cells y).length=s∧off+s≤c.length∧0<s) ⟨.v undef,some (uJ σ.b i (Xs c off (cells y))),false,[],[(i,off,s)]⟩
       | none=>.bad
     | none=>.bad
   | none=>.bad
 | _=>.bad
def XB (V:Cx)(T:TypeId)(ps:List (Nat × Operand))(σ:St):jU:=match V.Γ T with
 | some ti=>match ti.kind with
   | .struct fs=>match Xl σ.t ps with
     | some ps=>match XZ fs V.Γ ps ti.zero with
       | some c=>oR True (.agg c)
       | none=>.bad
     | none=>.bad
   | _=>.bad
 | none=>.bad
def Jv (x:Operand)(σ:St):jU:=match ev σ.t x with
 | some (.p i off)=>oR True (.p i off)
 | some (.fn f l)=>oR (Xt f=true) (.fn f l)
 | _=>.bad
def XK (f:Operand)(args:List Operand)(σ:St):jU:=match ev σ.t f with
 | some (.fn (.func f) caps)=>match Ak σ.t args with
   | some l=>.call f (l++caps)
   | none=>.bad
 | _=>.bad
def Xv (V:Cx):Op→St→jU
 | .alloc T,σ=>XD V T σ
 | .box T x,σ=>Jw T x σ
 | .load T x,σ=>XI V T x σ
 | .store T x y,σ=>XF V T x y σ
 | .build T ps,σ=>XB V T ps.toList σ
 | .nilCheck x,σ=>Jv x σ
 | .call ⟨.value f,args,_⟩,σ=>XK f args.toList σ
 | _,_=>.bad
def idxs:List (Option SV)→List (Nat × Nat × Nat)
 | []=>[]
 | some (.o j _)::r=>(j,0,0)::idxs r
 | some (.f j _)::r=>(j,0,0)::idxs r
 | _::r=>idxs r
def Xz (V:Cx):Op→Bool
 | .call ⟨.builtin .append,_,_⟩=>false
 | .makeSlice _ _ _=>false
 | .buildSlice _ _ _=>false
 | .slice _ _ none (some _) (some _)=>true
 | .slice _ _ _ _ _=>false
 | .convert _ _ _=>false
 | _=>true
def Ag:Op→List Operand
 | .call ⟨_,args,_⟩=>args.toList
 | .buildSlice _ _ ps=>ps.toList.map (·.2)
 | .makeSlice _ a v=>[a,v]
 | .indexAddr _ a v=>[a,v]
 | .slice _ x _ _ _=>[x]
 | .convert _ _ x=>[x]
 | _=>[]
def dN (V:Cx)(op:Op)(σ:St):Option (Prop × St)→jU→jU
 | some (c,σ'),_=>match σ'.t with
   | (_,x)::_=>if Xz V op then .val c ⟨x,none,false,idxs ((Ag op).map (ev σ.t)),[]⟩
       else .val c ⟨x,some σ'.b,false,[],(σ.b.length,0,0)::idxs ((Ag op).map (ev σ.t))⟩
   | []=>.bad
 | none,m=>m
def XV (V:Cx)(op:Op)(σ:St):jU:=Gx (pv V.Γ σ.t op) (dN V op σ (Yl V (some 0) op σ) (Xv V op σ))
def kO (ops:Array Oper):Nat→Nat→Nat→Bool
 | 0,_,_=>false
 | f+1,i,k=>match ops[i]? with
   | some o=>o.after.any fun e=>Region.binds .any e&&(e.on==k||kO ops f e.on k)
   | none=>false
def ovl (a b:Nat × Nat × Nat):Bool:=a.1==b.1&&(b.2.2==0||(decide (a.2.1<b.2.1+b.2.2)&&decide (b.2.1<a.2.1+a.2.2)))
def mr (xs ys:List (Nat × Nat × Nat)):Bool:=xs.any fun a=>ys.any fun b=>ovl a b
def sJ (ops:Array Oper)(i k:Nat):Bool:=match (ops[k]?).bind (·.dst) with
 | some d=>(match ops[i]? with
   | some o=>(o.looksAt ops).contains d||o.dst==some d
   | none=>false)
 | none=>false
def wS:Rk:=⟨false,false,[],[]⟩
def eF (ops:Array Oper)(k:Nat):Bool:=match ops[k]? with
 | some ⟨some _,.alloc _,_,_,_,none⟩=>true
 | some ⟨some _,.buildSlice _ _ _,_,_,_,none⟩=>true
 | _=>false
def uD (ops:Array Oper)(i k:Nat):Bool:=if k<i then kO ops ops.size i k else kO ops ops.size k i
def y9 (ops:Array Oper)(rs:List Rk)(i k:Nat):Bool:=!(eF ops k&&decide (k<i))||(zKH k).all fun j=>!(((rs[j]?).getD wS).s)||kO ops ops.size i j
def uV (ops:Array Oper)(rs:List Rk)(i k:Nat):Bool :=
 if sJ ops i k then uD ops i k&&y9 ops rs i k
 else if ((rs[i]?).getD wS).s&&((rs[k]?).getD wS).s then eF ops (max i k)||uD ops i k
 else if ((rs[k]?).getD wS).s&&!((rs[i]?).getD wS).rd.isEmpty then(uD ops i k&&y9 ops rs i k)||!(((rs[k]?).getD wS).all||mr ((rs[i]?).getD wS).rd ((rs[k]?).getD wS).wr)
 else true
def zW (ops:Array Oper)(rs:List Rk):Bool :=
 (zKH ops.size).all fun i=>(zKH ops.size).all fun k=>k==i||uV ops rs i k
def JD (ops:Array Oper):Bool :=
 (zKH ops.size).all fun i=>match ops[i]? with
  | some o=>o.after.all fun e=>!Region.binds .any e||decide (e.on<i)
  | none=>true
def JI (ops:Array Oper)(rs:List Rk):Prop:=(zW ops rs&&JD ops)=true
inductive OT where
 | leaf
 | one (i:Nat) (t:OT)
 | bO (i:Nat) (t:OT)
 | alt (a b:OT)
def sq (n:Nat)(L:List Nat):Array Bool:=L.foldr (fun i a=>a.setIfInBounds i true) (zKJ n false)
def OT.vR:OT→List Nat
 | .one i _=>[i]
 | .alt a b=>a.vR++b.vR
 | _=>[]
def OT.wY (ops:Array Oper):List Nat→OT→Bool
 | L,.leaf=>(Region.ready .any ops (sq ops.size L)).isEmpty
 | L,.one i t=>decide (L.length<ops.size)&&(Region.ready .any ops (sq ops.size L)==[i])&&wY ops (i::L) t
 | L,.bO i t=>decide (L.length<ops.size)&&Region.noSelect ops&&Region.free .any ops (sq ops.size L) i&&(Region.ready .any ops (sq ops.size L)).contains i&&wY ops (i::L) t
 | L,.alt a b=>decide (L.length<ops.size)&&!(Region.ready .any ops (sq ops.size L)).isEmpty&&((Region.ready .any ops (sq ops.size L)).all fun i=>(OT.alt a b).vR.contains i)&&GU ops L a&&GU ops L b
where GU (ops:Array Oper):List Nat→OT→Bool
 | L,.one i t=>wY ops (i::L) t
 | L,.alt a b=>GU ops L a&&GU ops L b
 | _,_=>false
inductive How where
 | ord (p:List Nat)
 | all (t:OT)
inductive Item where
 | iy (ops:Array Oper) (L:List Nat) (t:OT)
 | cut (J:St→Prop)
 | lv (ops:Array Oper) (l:List Oper) (rs:List Rk)
 | code (c:Code)
 | ops (ops:Array Oper) (l:List Oper)
 | zQ (id:Nat)
 | zP (I:St→Prop) (μ:St→Nat) (m:Nat)
def XE (id:Nat):List Item→Option (List Item)
 | []=>none
 | .zQ id'::k=>if id'=id then some k else XE id k
 | _::k=>XE id k
structure Fin where
 rs:List ResultVar
 K:SV→List aw→Prop
 /-- How each region that draws is reckoned. -/
 how:Nat→How
def El (V:Cx)(E:Fin)(σ:St):Option (List SV)→Prop
 | some l=>E.K (uA l) σ.b
 | none=>False
def iI:List Oper→Nat→Option Tmp
 | [],_=>none
 | o::_,0=>o.dst
 | _::r,j+1=>iI r j
def Yk (t:List (Nat × SV)):Option Tmp→Option (Nat × Bool)
 | some d=>match lk d t with
   | some (.bool b)=>some (d,b)
   | _=>none
 | none=>none
def nob:Value→Bool
 | .bool _=>false
 | _=>true
theorem FT:nob undef=true:=rfl
def gvU (t:List (Nat × SV)):Option Tmp→Bool
 | some d=>match lk d t with
   | some (.v x)=>nob x
   | _=>false
 | none=>false
def shape:aw→aw
 | .cells _ T m=>.cells [] T m
 | .own _ e s n m=>.own [] e s n m
 | r=>r
def nT:aw→List SV
 | .cells c _ _=>c
 | .own c _ _ _ _=>c
 | _=>[]
def ob (q:Option Nat)(r:aw):aw × Nat × Option SV:=(shape r,(nT r).length,match q with
 | some p=>(nT r)[p]?
 | none=>none)
def inR (x:Nat × Nat × Nat)(q:Option Nat):Prop:=q=none∨∃ p,q=some p∧x.2.1≤p∧p<x.2.1+x.2.2
def Hm (x:Nat × Nat × Nat)(j:Nat)(q:Option Nat):Prop:=x.1=j∧(x.2.2=0∨∃ p,q=some p∧x.2.1≤p∧p<x.2.1+x.2.2)
def seen (x:Nat × Nat × Nat)(bi bs:List aw):Prop:=∀ q,inR x q→(bs[x.1]?).map (ob q)=(bi[x.1]?).map (ob q)
def Ac (W:List (Nat × Nat × Nat))(b b0:List aw):Prop:=∀ j q,(∀ y∈W,¬ Hm y j q)→(b[j]?).map (ob q)=(b0[j]?).map (ob q)
theorem tU {W:List (Nat × Nat × Nat)}{b b0:List aw}(h:∀ j,(∀ y∈W,y.1≠j)→b[j]? = b0[j]?)(hW:∀ y∈W,y.2.2=0):Ac W b b0:=fun j q hq=>by
 rw[h j fun y hy e=>hq y hy ⟨e,.inl (hW y hy)⟩]
def XQ (b:Bool)(X Y:Prop):Prop:=(b=true→X)∧(b=false→Y)
theorem Xn (X Y:Prop):XQ true X Y=X:=by simp[XQ]
theorem Xo (X Y:Prop):XQ false X Y=Y:=by simp[XQ]
def XG (b want:Bool)(X Y:Prop):Prop:=(b=want→X)∧(b=!want→Y)
theorem Xg (X Y:Prop):XG true true X Y=X:=by simp[XG]
theorem Xd (X Y:Prop):XG false false X Y=X:=by simp[XG]
theorem Xe (X Y:Prop):XG true false X Y=Y:=by simp[XG]
theorem Xf (X Y:Prop):XG false true X Y=Y:=by simp[XG]
mutual
def dx (V:Cx)(n:Nat)(E:Fin):Nat→List Item→St→Prop
 | 0,_,_=>False
 | _+1,[],σ=>El V E σ (XT V σ E.rs)
 | f+1,.code .skip::k,σ=>dx V n E f k σ
 | f+1,.code (.region _ ops false)::k,σ=>dx V n E f (.ops ops ops.toList::k) σ
 | f+1,.code (.region id ops true)::k,σ=>DA V n E f ops k σ (E.how id)
 | f+1,.code (.seq x y)::k,σ=>dx V n E f (.code x::.code y::k) σ
 | f+1,.code (.cond c x y)::k,σ=>XN V n E f x y k σ (ev σ.t c)
 | f+1,.code (.block id x)::k,σ=>dx V n E f (.code x::.zQ id::k) σ
 | f+1,.code (.loop x)::k,σ=>ES V n E f x k σ
 | f+1,.code (.exit id)::k,σ=>XO V n E f σ (XE id k)
 | _+1,.code .ret::_,σ=>El V E σ (XT V σ E.rs)
 | _+1,.code _::_,_=>False
 | f+1,.zQ _::k,σ=>dx V n E f k σ
 | _+1,.zP I μ m::_,σ=>I σ∧μ σ<m
 | f+1,.ops _ []::k,σ=>dx V n E f k σ
 | f+1,.ops ops (⟨dst,op,_,_,_,none⟩::r)::k,σ=>fits n dst=true∧Yc V n E f ops r k (XR V dst op σ)
 | f+1,.ops ops (⟨dst,op,_,_,_,some (j,want)⟩::r)::k,σ=>fits n dst=true∧XA V n E f ops dst op want r k σ (Yk σ.t (iI ops.toList j)) (gvU σ.t (iI ops.toList j))
 | _+1,.cut J::_,σ=>J σ
 | f+1,.iy _ _ .leaf::k,σ=>dx V n E f k σ
 | f+1,.iy ops L (.one i t)::k,σ=>dx V n E f (.ops ops (om ops.toList i)::.iy ops (i::L) t::k) σ
 | f+1,.iy ops L (.bO i t)::k,σ=>EJ V n E f ops L i t k σ (om ops.toList i)
 | f+1,.iy ops L (.alt a b)::k,σ=>dx V n E f (.iy ops L a::k) σ∧dx V n E f (.iy ops L b::k) σ
 | f+1,.lv ops [] rs::k,σ=>JI ops rs∧dx V n E f k σ
 | f+1,.lv ops (⟨dst,op,_,_,_,none⟩::r) rs::k,σ=>fits n dst=true∧Yg V n E f ops r rs k dst σ (XV V op σ)
 | f+1,.lv ops (⟨dst,op,_,_,_,some (j,want)⟩::r) rs::k,σ=>fits n dst=true∧Xy V n E f ops dst op want r rs k σ (Yk σ.t (iI ops.toList j)) (gvU σ.t (iI ops.toList j))
def DA (V:Cx)(n:Nat)(E:Fin):Nat→Array Oper→List Item→St→How→Prop
 | f,ops,k,σ,.ord p=>Bf ops p∧dx V n E f (.lv (qn ops p) (qn ops p).toList []::k) σ
 | f,ops,k,σ,.all t=>OT.wY ops [] t=true∧∃ J:St→Prop,dx V n E f (.iy ops [] t::.cut J::k) σ∧∀ σ',J σ'→dx V n E f k σ'
def EJ (V:Cx)(n:Nat)(E:Fin):Nat→Array Oper→List Nat→Nat→OT→List Item→St→List Oper→Prop
 | f,ops,L,i,t,k,σ,[⟨dst,op,_,_,_,none⟩]=>fits n dst=true∧EI V n E f ops L i t k σ dst (pv V.Γ σ.t op)
 | _,_,_,_,_,_,_,_=>False
def EI (V:Cx)(n:Nat)(E:Fin):Nat→Array Oper→List Nat→Nat→OT→List Item→St→Option Tmp→Option (Prop × SV)→Prop
 | f,ops,L,i,t,k,σ,dst,some (c,x)=>c∧dx V n E f (.iy ops (i::L) t::k) ⟨put dst x σ.t,σ.b⟩
 | _,_,_,_,_,_,_,_,none=>False
def Yg (V:Cx)(n:Nat)(E:Fin):Nat→Array Oper→List Oper→List Rk→List Item→Option Tmp→St→jU→Prop
 | f,ops,r,rs,k,dst,σ,.val c ⟨x,none,all,rd,wr⟩=>c∧dx V n E f (.lv ops r (rs++[⟨false,all,rd,wr⟩])::k) ⟨put dst x σ.t,σ.b⟩
 | f,ops,r,rs,k,dst,σ,.val c ⟨x,some b,all,rd,wr⟩=>c∧dx V n E f (.lv ops r (rs++[⟨true,all,rd,wr⟩])::k) ⟨put dst x σ.t,b⟩
 | f,ops,r,rs,k,dst,σ,.call g args=>yu V n E f ops r rs k dst σ g args
 | _,_,_,_,_,_,_,.bad=>False
def yu (V:Cx)(n:Nat)(E:Fin):Nat→Array Oper→List Oper→List Rk→List Item→Option Tmp→St→FuncId→List SV→Prop
 | f,ops,r,rs,k,dst,σ,g,args=>(∃ x,PC V g args x∧dx V n E f (.lv ops r (rs++[⟨false,false,[],[]⟩])::k) ⟨put dst x σ.t,σ.b⟩)∨(∃ x b,SC V g args σ.b (fun r b'=>r=x∧b'=b)∧dx V n E f (.lv ops r (rs++[⟨true,true,[],[]⟩])::k) ⟨put dst x σ.t,b⟩) ∨
   (∃ x b W,SC V g args σ.b (fun r b'=>r=x∧b'=b)∧Ac W b σ.b∧dx V n E f (.lv ops r (rs++[⟨true,false,[],W⟩])::k) ⟨put dst x σ.t,b⟩)
def Xy (V:Cx)(n:Nat)(E:Fin):Nat→Array Oper→Option Tmp→Op→Bool→List Oper→List Rk→List Item→St→Option (Nat × Bool)→Bool→Prop
 | f,ops,dst,op,want,r,rs,k,σ,some (d,b),_=>fits n (some d)=true∧XG b want (Yg V n E f ops r rs k dst ⟨(d,.bool want)::σ.t,σ.b⟩ (XV V op ⟨(d,.bool want)::σ.t,σ.b⟩)) (dx V n E f (.lv ops r (rs++[⟨false,false,[],[]⟩])::k) ⟨put dst (.v undef) ((d,.bool (!want))::σ.t),σ.b⟩)
 | f,ops,dst,_,_,r,rs,k,σ,none,true=>dx V n E f (.lv ops r (rs++[⟨false,false,[],[]⟩])::k) ⟨put dst (.v undef) σ.t,σ.b⟩
 | _,_,_,_,_,_,_,_,_,none,false=>False
def XN (V:Cx)(n:Nat)(E:Fin):Nat→Code→Code→List Item→St→Option SV→Prop
 | f,x,y,k,σ,some (.bool b)=>XQ b (dx V n E f (.code x::k) σ) (dx V n E f (.code y::k) σ)
 | _,_,_,_,_,_=>False
def ES (V:Cx)(n:Nat)(E:Fin):Nat→Code→List Item→St→Prop
 | f,x,k,σ=>∃ (I:St→Prop) (μ:St→Nat),I σ∧∀ σ',I σ'→dx V n E f (.code x::.zP I μ (μ σ')::k) σ'
def XO (V:Cx)(n:Nat)(E:Fin):Nat→St→Option (List Item)→Prop
 | f,σ,some k=>dx V n E f k σ
 | _,_,none=>False
def Yc (V:Cx)(n:Nat)(E:Fin):Nat→Array Oper→List Oper→List Item→iz→Prop
 | f,ops,r,k,.go c σ=>c∧dx V n E f (.ops ops r::k) σ
 | f,ops,r,k,.call g args dst σ=>yr V n E f ops r k g args dst σ
 | _,_,_,_,.bad=>False
def yr (V:Cx)(n:Nat)(E:Fin):Nat→Array Oper→List Oper→List Item→FuncId→List SV→Option Tmp→St→Prop
 | f,ops,r,k,g,args,dst,σ=>(∃ x,PC V g args x∧dx V n E f (.ops ops r::k) ⟨put dst x σ.t,σ.b⟩)∨(∃ R,SC V g args σ.b R∧∀ x bs,R x bs→dx V n E f (.ops ops r::k) ⟨put dst x σ.t,bs⟩)
def XA (V:Cx)(n:Nat)(E:Fin):Nat→Array Oper→Option Tmp→Op→Bool→List Oper→List Item→St→Option (Nat × Bool)→Bool→Prop
 | f,ops,dst,op,want,r,k,σ,some (d,b),_=>fits n (some d)=true∧XG b want (Yc V n E f ops r k (XR V dst op ⟨(d,.bool want)::σ.t,σ.b⟩)) (dx V n E f (.ops ops r::k) ⟨put dst (.v undef) ((d,.bool (!want))::σ.t),σ.b⟩)
 | f,ops,dst,_,_,r,k,σ,none,true=>dx V n E f (.ops ops r::k) ⟨put dst (.v undef) σ.t,σ.b⟩
 | _,_,_,_,_,_,_,_,none,false=>False
end
open Go Go.RowKit Wf
def cQ {S:Type}(u:Nat→S→S)(D:Nat→Bool):Nat→S→S
 | 0,s=>s
 | n+1,s=>if D n then u n (cQ u D n s) else cQ u D n s
theorem nN {S X:Type}(u:Nat→S→S)(obs:S→X)(hu:∀ k s s',obs s=obs s'→obs (u k s)=obs (u k s'))(D D':Nat→Bool):∀ (n:Nat)(s:S),
 (∀ k,k<n→D k=D' k∨∀ s,obs (u k s)=obs s)→obs (cQ u D n s)=obs (cQ u D' n s)
 | 0,_,_=>rfl
 | n+1,s,h=>by
   have ih:=nN u obs hu D D' n s (fun k hk=>h k (by omega))
   simp only[cQ]
   rcases h n (by omega) with e|e
   ·rw[e]
    split
    ·exact hu _ _ _ ih
    ·exact ih
   ·split <;> split <;> simp only[e,ih]
theorem fold_congr {S:Type}(u:Nat→S→S)(D D':Nat→Bool):∀ (n:Nat)(s:S),(∀ k,k<n→D k=D' k)→cQ u D n s=cQ u D' n s
 | 0,_,_=>rfl
 | n+1,s,h=>by simp only[cQ];rw[h n (by omega),fold_congr u D D' n s (fun k hk=>h k (by omega))]
def rH (i:Nat):Nat→Bool:=fun k=>decide (k<i)
def eL (D:Nat→Bool)(i:Nat):Nat→Bool:=fun k=>D k||decide (k=i)
theorem Jb {S : Type} (u : Nat → S → S) : ∀ (n i : Nat) (s : S), i ≤ n → cQ u (rH i) n s = cQ u (rH i) i s := by
  intro n
  induction n with
  | zero => intro i s h; have : i = 0 := by omega
            subst this; rfl
  | succ n ih =>
    intro i s h
    by_cases e : i = n + 1
    · subst e; rfl
    · simp only [cQ]
      rw [if_neg (by simp [rH]; omega)]
      exact ih i s (by omega)
theorem Jd {S:Type}(u:Nat→S→S)(D:Nat→Bool):∀ (n:Nat)(s:S),(∀ k,k<n→D k=true)→cQ u D n s=cQ u (rH n) n s:=by
 intro n s h
 exact fold_congr u D (rH n) n s (fun k hk=>by rw[h k hk];simp[rH,hk])
theorem xw {S:Type}(u:Nat→S→S)(i:Nat)(s:S):cQ u (rH (i+1)) (i+1) s=u i (cQ u (rH i) i s):=by
 simp only[cQ]
 rw[if_pos (by simp[rH])]
 congr 1
 exact fold_congr u _ _ i s (fun k hk=>by simp[rH];omega)
theorem Ja {S X:Type}(u:Nat→S→S)(obs:S→X)(hu:∀ k s s',obs s=obs s'→obs (u k s)=obs (u k s'))(D:Nat→Bool)(n i:Nat)(s:S)(hi:i≤n)
 (h:∀ k,k<n→(∃ s,obs (u k s)≠obs s)→D k=decide (k<i)):obs (cQ u D n s)=obs (cQ u (rH i) i s):=by
 rw[← Jb u n i s hi]
 refine nN u obs hu D (rH i) n s (fun k hk=>?_)
 by_cases e:∃ s,obs (u k s)≠obs s
 ·exact .inl (h k hk e)
 ·exact .inr (fun s=>Classical.byContradiction fun bt=>e ⟨s,bt⟩)
theorem Jc {S X : Type} (u : Nat → S → S) (obs : S → X) (hu : ∀ k s s', obs s = obs s' → obs (u k s) = obs (u k s')) (D : Nat → Bool) (n i : Nat) (s : S) (hi : i < n) (hD : D i = false)
    (h : (∃ s, obs (u i s) ≠ obs s) → ∀ k, k < n → (∃ s, obs (u k s) ≠ obs s) → D k = true → k < i)
    : obs (cQ u (eL D i) n s) = obs (u i (cQ u D n s)) := by
  by_cases e : ∃ s, obs (u i s) ≠ obs s
  · -- nothing behind i shows
    have h1 : obs (cQ u (eL D i) n s) = obs (cQ u (fun k => eL D i k && decide (k ≤ i)) n s) :=
      nN u obs hu _ _ n s (fun k hk => by
        by_cases ek : ∃ s, obs (u k s) ≠ obs s
        · left
          by_cases kS : k ≤ i
          · simp [kS]
          · have : D k = false := by
              cases hdk : D k
              · rfl
              · have := h e k hk ek hdk; omega
            simp [eL, this]; omega
        · exact .inr (fun s => Classical.byContradiction fun bt => ek ⟨s, bt⟩))
    have h2 : ∀ m, i < m → cQ u (fun k => eL D i k && decide (k ≤ i)) m s = u i (cQ u D i s) := by
      intro m
      induction m with
      | zero => intro hm; omega
      | succ m ih =>
        intro hm
        simp only [cQ]
        by_cases ID : m = i
        · subst ID
          rw [if_pos (by simp [eL])]
          congr 1
          exact fold_congr u _ _ m s (fun k hk => by simp [eL, show k ≠ m by omega, show k ≤ m by omega])
        · rw [if_neg (by simp; omega)]
          exact ih (by omega)
    rw [h1, h2 n hi]
    refine hu _ _ _ ?_
    have h3 : obs (cQ u D n s) = obs (cQ u (fun k => D k && decide (k < i)) n s) :=
      nN u obs hu _ _ n s (fun k hk => by
        by_cases ek : ∃ s, obs (u k s) ≠ obs s
        · left
          cases hdk : D k
          · simp
          · have := h e k hk ek hdk; simp [this]
        · exact .inr (fun s => Classical.byContradiction fun bt => ek ⟨s, bt⟩))
    have h4 : ∀ m, i ≤ m → cQ u (fun k => D k && decide (k < i)) m s = cQ u D i s := by
      intro m
      induction m with
      | zero => intro hm; have : i = 0 := by omega
                subst this; rfl
      | succ m ih =>
        intro hm
        by_cases ID : i = m + 1
        · subst ID
          exact fold_congr u _ _ (m + 1) s (fun k hk => by simp; omega)
        · simp only [cQ]
          rw [if_neg (by simp; omega)]
          exact ih (by omega)
    rw [h3, h4 n (by omega)]
  · have e' : ∀ s, obs (u i s) = obs s := fun s => Classical.byContradiction fun bt => e ⟨s, bt⟩
    rw [e']
    refine nN u obs hu _ _ n s (fun k hk => ?_)
    by_cases kS : k = i
    · subst kS; exact .inr e'
    · left; simp [eL, kS]
theorem Fo {P:Program}{ops:Array Oper}{Q:Exit→Act→World→Prop}{md:Region.Mode}(Inv:(Nat→Bool)→Act→World→Prop)
 (EZ:∀ (listed:Array Bool) a w i,listed.size=ops.size→Inv (fun k=>listed.getD k false) a w→i∈Region.ready md ops listed→wpOp P ops Q i (fun a' w'=>Inv (eL (fun k=>listed.getD k false) i) a' w') a w)
 (qL:∀ (listed:Array Bool) a w,listed.size=ops.size→Inv (fun k=>listed.getD k false) a w→Region.ready md ops listed=[]→Q .normal a w) :
 ∀ (fuel:Nat) (listed:Array Bool) a w,listed.size=ops.size→(listed.toList.filter (fun b=>!b)).length≤fuel→Inv (fun k=>listed.getD k false) a w→wpAny P md ops Q fuel listed a w:=by
 have key:∀ (listed:Array Bool) (i:Nat),i∈Region.ready md ops listed→i<listed.size∧listed.getD i false=false:=by
  intro listed i hi
  have:=(mem_ready.1 hi).1
  have aC:i<listed.size:=by
   rcases zKC i listed.size with h|h
   ·exact h
   ·simp[h]at this
  exact⟨aC,by simp[aC]at this ⊢;exact this⟩
 intro fuel
 induction fuel with
 | zero =>
   intro listed a w hs hc hI
   have hr:Region.ready md ops listed=[]:=by
    rcases h:Region.ready md ops listed with _|⟨i,r⟩
    ·rfl
    ·have hi:i∈Region.ready md ops listed:=by rw[h];simp
     obtain⟨aC,hf⟩:=key listed i hi
     have:false∈listed.toList.filter (fun b=>!b):=by
      simp only[List.mem_filter]
      refine⟨?_,rfl⟩
      have:listed[i]=false:=by simpa[aC] using hf
      rw[← this]
      exact zKn.2 (Array.getElem_mem aC)
     have:=List.length_pos_of_mem this
     omega
   exact⟨hr,qL listed a w hs hI hr⟩
 | succ fuel ih =>
   intro listed a w hs hc hI
   refine⟨fun hr=>qL listed a w hs hI hr,fun i hi=>?_⟩
   obtain⟨aC,hf⟩:=key listed i hi
   refine wpOp_mono (fun a' w' hI'=>ih (listed.setIfInBounds i true) a' w' (by simp[hs]) ?_ ?_) (EZ listed a w i hs hI hi)
   ·have hl:listed[i]=false:=by simpa[aC] using hf
    have e:listed.toList=listed.toList.take i++false::listed.toList.drop (i+1):=by
     have h1:=(List.take_append_drop i listed.toList).symm
     rw[List.drop_eq_getElem_cons (by simpa using aC)]at h1
     simpa[hl] using h1
    have hlen:(listed.toList.take i).length=i:=by simp;omega
    have e2:(listed.setIfInBounds i true).toList=listed.toList.take i++true::listed.toList.drop (i+1):=by
     rw[Array.toList_setIfInBounds]
     conv=>lhs;rw[e]
     rw[List.set_append_right _ _ (by omega)]
     simp[hlen]
    rw[e2]
    rw[e]at hc
    simp at hc ⊢
    omega
   ·have e:(fun k=>(listed.setIfInBounds i true).getD k false)=eL (fun k=>listed.getD k false) i:=by
     funext k
     by_cases h:k=i
     ·subst h;simp[eL,aC]
     ·simp only[eL]
      rw[zKN,Array.getElem?_setIfInBounds_ne (fun q=>h q.symm),← zKN]
      simp[h]
    rw[e]
    exact hI'
open Go Go.RowKit Wf
section
variable {V:Cx} {F:Fx V} {β:Nat→Bt} {fp:Nat→Nat→Prop}
theorem Bb {Γ:TypeId→Option TI}{t t':List (Nat × SV)}{op:Op}(h:∀ x∈op.operands,ev t x=ev t' x):pv Γ t op=pv Γ t' op:=by
 have opt:∀ o:Option Operand,(∀ x,o=some x→ev t x=ev t' x)→o9 t o=o9 t' o:=fun o ho=>by
  cases o with
  | none=>rfl
  | some x=>simp[o9,ho x rfl]
 have lst:∀ l:List Operand,(∀ x∈l,ev t x=ev t' x)→l.mapM (ev t)=l.mapM (ev t'):=fun l=>by
  induction l with
  | nil=>intro _;rfl
  | cons x r ih=>intro hl;simp only[List.mapM_cons];rw[hl x (by simp),ih (fun y hy=>hl y (by simp[hy]))]
 cases op <;> simp only[pv]
 case move x=>simp only[XX];rw[h x (by simp[Op.operands])]
 case assign x=>simp only[XX];rw[h x (by simp[Op.operands])]
 case pick c a b=>simp only[Ya];rw[h c (by simp[Op.operands]),h a (by simp[Op.operands]),h b (by simp[Op.operands])]
 case fieldAddr S x f=>simp only[Xb];rw[h x (by simp[Op.operands])]
 case field S x f=>simp only[Xu];rw[h x (by simp[Op.operands])]
 case binOp op T x y yt=>simp only[oBin];rw[h x (by simp[Op.operands]),h y (by simp[Op.operands])]
 case unOp op T x=>simp only[oUn];rw[h x (by simp[Op.operands])]
 case convert S D x=>simp only[Ye];rw[h x (by simp[Op.operands])]
 case slice T x lo hi mx =>
  cases mx with
  | some _=>rfl
  | none =>
    simp only[Xw]
    rw[h x (by simp[Op.operands]),opt lo (fun y hy=>h y (by simp[Op.operands,hy])),opt hi (fun y hy=>h y (by simp[Op.operands,hy]))]
 case index T x i=>simp only[Xx];rw[h x (by simp[Op.operands]),h i (by simp[Op.operands])]
 case build T ps =>
  have hp:∀ l:List (Nat × Operand),(∀ x∈l,ev t x.2=ev t' x.2)→Xl t l=Xl t' l:=fun l=>by
   induction l with
   | nil=>intro _;rfl
   | cons x r ih=>intro hl;obtain⟨i,o⟩:=x;simp only[Xl];rw[hl (i,o) (by simp),ih (fun y hy=>hl y (by simp[hy]))]
  simp only[Xk]
  rw[hp ps.toList (fun x hx=>h x.2 (by simp only[Op.operands];rw[List.mem_toArray];exact zKQ hx))]
 case indexAddr T x i=>simp only[XS];rw[h x (by simp[Op.operands]),h i (by simp[Op.operands])]
 case makeInterface T x=>simp only[JN];rw[h x (by simp[Op.operands])]
 case typeAssert x S A ok =>
  cases ok
  ·rfl
  ·simp only[JL];rw[h x (by simp[Op.operands])]
 case extract x i=>simp only[Xh];rw[h x (by simp[Op.operands])]
 case makeFunc f first caps =>
  simp only[Yh]
  unfold Ak
  rw[lst caps.toList (fun x hx=>h x (by simp only[Op.operands];exact zKO.2 (.inr (zKn.1 hx)))),
   lst first.toList (fun x hx=>h x (by simp only[Op.operands];exact zKO.2 (.inl (zKn.1 hx))))]
 case call c =>
  obtain⟨callee,args,ts⟩:=c
  cases callee <;> (try simp only)
  rename_i b
  cases b <;> (try simp only)
  simp only[FQ]
  split
  ·rename_i x hx
   rw[h x (by
    simp only[Op.operands,Call.operands]
    refine zKO.2 (.inr (zKn.1 ?_))
    rw[hx];simp)]
  ·rfl
theorem Ds (c:List SV)(r:aw):shape (uI c r)=shape r:=by cases r <;> rfl
theorem Eh {bs:List aw}{i:Nat}{c:List SV}{T:TypeId}{m:Bool}(h:iv bs i=some (c,T,m)):∃ r,bs[i]? = some r∧nT r=c∧∀ c' r',shape r'=shape r→nT r'=c'→(∀ bs':List aw,bs'[i]? = some r'→iv bs' i=some (c',T,m)):=by
 obtain⟨r,hr,-,hc⟩:=lq h
 refine⟨r,hr,by rcases hc with rfl|⟨s,n,rfl⟩ <;> rfl,fun c' r' hs hcr bs' hb=>?_⟩
 unfold iv
 rw[hb]
 rcases hc with rfl|⟨s,n,rfl⟩ <;> cases r' <;> simp[shape]at hs <;> simp[nT]at hcr <;> simp[hs,hcr]
theorem FO {a b:Nat × Nat × Nat}(h:ovl a b=false){q:Option Nat}(hq:inR a q):¬ Hm b a.1 q:=by
 rintro⟨h1,h2⟩
 have:ovl a b=true:=by
  unfold ovl
  simp only[zJ9,beq_iff_eq,zKf,decide_eq_true_eq]
  refine⟨h1.symm,?_⟩
  rcases h2 with h2|⟨p,rfl,h3,h4⟩
  ·exact .inl h2
  ·rcases hq with hq|⟨p',hp,h5,h6⟩
   ·cases hq
   ·cases hp
    exact .inr ⟨by omega,by omega⟩
 rw[h]at this
 cases this
theorem HD {j off n:Nat}{bi bs:List aw}(h:seen (j,off,n) bi bs){c:List SV}{T:TypeId}{m:Bool}(hg:iv bi j=some (c,T,m)) :
 ∃ c',iv bs j=some (c',T,m)∧c'.length=c.length∧∀ p,off≤p→p<off+n→c'[p]? = c[p]? := by
 obtain⟨r,hr,rfl,a6⟩:=Eh hg
 have key:∀ q,inR (j,off,n) q→∃ r',bs[j]? = some r'∧ob q r'=ob q r:=fun q hq=>by
  have:=h q hq
  simp only[hr]at this
  cases hbs:bs[j]? with
  | none=>rw[hbs]at this;simp at this
  | some r' =>
    rw[hbs]at this
    simp only[zKj,zKo.injEq]at this
    exact⟨r',rfl,this⟩
 obtain⟨r',hr',ho⟩:=key none (.inl rfl)
 simp only[ob,Prod.mk.injEq,and_true]at ho
 refine⟨nT r',a6 _ r' ho.1 rfl bs hr',ho.2,fun p h1 h2=>?_⟩
 obtain⟨r2,Iw,ud⟩:=key (some p) (.inr ⟨p,rfl,h1,h2⟩)
 rw[hr']at Iw
 cases Iw
 simp only[ob,Prod.mk.injEq]at ud
 exact ud.2.2
theorem AL {j off k:Nat}{bi bs:List aw}(h:seen (j,off,k) bi bs){c:List SV}{e s n:Nat}{m:Bool}(hg:bi[j]? = some (.own c e s n m)):∃ c',bs[j]? = some (.own c' e s n m):=by
 have:=h none (.inl rfl)
 simp only[hg]at this
 cases hbs:bs[j]? with
 | none=>rw[hbs]at this;simp at this
 | some r' =>
   rw[hbs]at this
   simp only[zKj,zKo.injEq,ob,Prod.mk.injEq,and_true]at this
   cases r' <;> simp[shape]at this
   rename_i c' _ _ _ _
   obtain⟨⟨rfl,rfl,rfl,rfl⟩,-⟩:=this
   exact⟨c',rfl⟩
theorem Bg {agg:Bool}{off n:Nat}{c c':List SV}(hn:0<n)(h:∀ p,off≤p→p<off+n→c'[p]? = c[p]?):XM agg off n c'=XM agg off n c:=by
 unfold XM
 cases agg
 ·simp[h off (zKe _) (by omega)]
 ·simp only[if_true]
  congr 2
  apply List.ext_getElem?
  intro q
  simp only[List.getElem?_take,List.getElem?_drop]
  split
  ·exact h (off+q) (by omega) (by omega)
  ·rfl
theorem mapM_congr {t t':List (Nat × SV)}:∀ (l:List Operand),(∀ x∈l,ev t x=ev t' x)→Ak t l=Ak t' l
 | [],_=>rfl
 | x::r,h=>by
   have:=mapM_congr r (fun y hy=>h y (by simp[hy]))
   unfold Ak at this ⊢
   simp only[List.mapM_cons]
   rw[h x (by simp),this]
theorem ig {t t':List (Nat × SV)}:∀ (l:List (Nat × Operand)),(∀ x∈l.map (·.2),ev t x=ev t' x)→Xl t l=Xl t' l
 | [],_=>rfl
 | (i,x)::r,h=>by
  simp only[Xl]
  rw[h x (by simp),ig r (fun y hy=>h y (by simp only[List.map_cons,List.mem_cons];exact .inr hy))]
def hdS:List (Nat × SV)→SV
 | (_,x)::_=>x
 | []=>.v undef
theorem Fv {dst:Option Tmp}{op:Op}{t:List (Nat × SV)}{b:List aw}{c:Prop}{σ':St}(hs:Yl V dst op ⟨t,b⟩=some (c,σ')):∃ x,σ'.t=put dst x t:=by
 cases op <;> simp only[Yl,reduceCtorEq]at hs
 case call cl =>
  obtain⟨callee,args,ts⟩:=cl
  cases callee <;> (try simp only[reduceCtorEq]at hs)
  rename_i bi
  cases bi <;> (try simp only[reduceCtorEq]at hs)
  case append =>
   unfold Xm at hs
   (repeat' split at hs) <;> try (cases hs;done)
   cases hs
   exact⟨_,rfl⟩
  all_goals
   unfold Xq at hs
   (repeat' split at hs) <;> try (cases hs;done)
   obtain⟨z,hz,e⟩:=zKM.1 hs
   cases e
   exact⟨z,rfl⟩
 case slice T x lo hi mx =>
  cases mx with
  | some mx =>
    cases lo <;> cases hi <;> simp only[reduceCtorEq]at hs
    unfold DS at hs
    (repeat' split at hs) <;> try (cases hs;done)
    cases hs
    exact⟨_,rfl⟩
  | none =>
  simp only at hs
  unfold Xj at hs
  (repeat' split at hs) <;> try (cases hs;done)
  cases hs
  exact⟨_,rfl⟩
 case convert S D x =>
  unfold Yb at hs
  (repeat' split at hs) <;> try (cases hs;done)
  all_goals
   cases hs
   exact⟨_,rfl⟩
 all_goals
  first|unfold Yn at hs|unfold Xa at hs|unfold Xc at hs
  (repeat' split at hs) <;> try (cases hs;done)
  cases hs
  exact⟨_,rfl⟩
theorem Fw {op:Op}{t t':List (Nat × SV)}{b:List aw}(h:∀ x∈op.operands,ev t' x=ev t x)(dst:Option Tmp) :
 Yl V dst op ⟨t',b⟩=(Yl V (some 0) op ⟨t,b⟩).map fun p=>(p.1,⟨put dst (hdS p.2.t) t',p.2.b⟩):=by
 have opt:∀ o:Option Operand,(∀ x,o=some x→ev t' x=ev t x)→o9 t' o=o9 t o:=fun o ho=>by
  cases o with
  | none=>rfl
  | some x=>simp[o9,ho x rfl]
 cases op <;> simp only[Yl,zKG]
 case call cl =>
  obtain⟨callee,args,ts⟩:=cl
  have tN:∀ x∈args.toList,ev t' x=ev t x:=fun x hx=>h x (by
   simp only[Op.operands,Call.operands]
   exact zKO.2 (.inr (zKn.1 hx)))
  cases callee <;> (try simp only[zKG])
  rename_i bi
  cases bi <;> (try simp only[zKG])
  case append =>
   unfold Xm
   generalize args.toList=L at tN
   generalize ts.toList=TS
   match L,tN with
   | [s,x],tN =>
     simp only[tN s (by simp),tN x (by simp)]
     (repeat' split) <;> rfl
   | [],_=>rfl
   | [_],_=>rfl
   | _::_::_::_,_=>rfl
  all_goals
   unfold Xq
   generalize args.toList=L at tN
   match L,tN with
   | [s,x],tN =>
     simp only[tN s (by simp),tN x (by simp)]
     split
     ·split
      ·rw[Option.map_map];rfl
      ·rfl
     ·rfl
   | [],_=>rfl
   | [_],_=>rfl
   | _::_::_::_,_=>rfl
 case makeSlice T l cc =>
  unfold Yn
  simp only[h l (by simp[Op.operands]),h cc (by simp[Op.operands])]
  (repeat' split) <;> rfl
 case buildSlice T n ps =>
  unfold Xa
  simp only[ig (t:=t') (t':=t) ps.toList (fun x hx=>h x (by simp only[Op.operands];rw[List.mem_toArray];exact hx))]
  (repeat' split) <;> rfl
 case indexAddr T x i =>
  unfold Xc
  simp only[h x (by simp[Op.operands]),h i (by simp[Op.operands])]
  (repeat' split) <;> rfl
 case slice T x lo hi mx =>
  cases mx with
  | some mx =>
    cases lo <;> cases hi <;> simp only[zKG]
    rename_i hi
    unfold DS
    simp only[h x (by simp[Op.operands]),h hi (by simp[Op.operands]),h mx (by simp[Op.operands])]
    (repeat' split) <;> rfl
  | none =>
  simp only
  unfold Xj
  simp only[h x (by simp[Op.operands]),opt lo (fun y hy=>h y (by simp[Op.operands,hy])),opt hi (fun y hy=>h y (by simp[Op.operands,hy]))]
  (repeat' split) <;> rfl
 case convert S D x =>
  unfold Yb
  simp only[h x (by simp[Op.operands])]
  (repeat' split) <;> rfl
theorem jA {op:Op}{t t':List (Nat × SV)}{b:List aw}(h:∀ x∈op.operands,ev t' x=ev t x){c:Prop}{σ':St}(hs:Yl V (some 0) op ⟨t,b⟩=some (c,σ')) :
 ∃ x,σ'.t=(0,x)::t∧∀ dst,Yl V dst op ⟨t',b⟩=some (c,⟨put dst x t',σ'.b⟩):=by
 obtain⟨x,hx⟩:=Fv hs
 refine⟨x,hx,fun dst=>?_⟩
 rw[Fw h dst,hs]
 simp only[zKj,hx]
 rfl
theorem Ib {l:List (Option SV)}{j n:Nat}(h:some (SV.o j n)∈l):(j,0,0)∈idxs l:=by
 induction l with
 | nil=>cases h
 | cons x r ih =>
   simp only[List.mem_cons]at h
   rcases h with h|h
   ·subst h;simp[idxs]
   ·have:=ih h
    cases x with
    | none=>simpa[idxs] using this
    | some v=>cases v <;> simp[idxs,this]
theorem FZ {l:List (Option SV)}{x:Nat × Nat × Nat}(h:x∈idxs l):x.2.2=0:=by
 induction l with
 | nil=>cases h
 | cons y r ih =>
   cases y with
   | none=>exact ih (by simpa[idxs] using h)
   | some v =>
     cases v
     case o j n =>
      simp only[idxs,List.mem_cons]at h
      rcases h with rfl|h
      ·rfl
      ·exact ih h
     case f j n =>
      simp only[idxs,List.mem_cons]at h
      rcases h with rfl|h
      ·rfl
      ·exact ih h
     all_goals exact ih (by simpa[idxs] using h)
theorem DP {op:Op}{t:List (Nat × SV)}{o:Operand}(ho:o∈Ag op){j n:Nat}(he:ev t o=some (.o j n)):(j,0,0)∈idxs ((Ag op).map (ev t)) :=
 Ib (by rw[← he];exact zKQ ho)
theorem Jr {e s:Nat}{x:SV}{b bs:List aw}{n:Nat}{c:List SV}(h:tQ b e s x=some (n,c,bs)){j:Nat}(hj:∀ i m,x=.o i m→i≠j):bs[j]? = b[j]? ∧ bs.length=b.length:=by
 cases x <;> simp only[tQ,reduceCtorEq]at h
 case ah=>cases h;exact⟨rfl,rfl⟩
 case o i m =>
  split at h
  ·split at h
   ·cases h
    exact⟨zKm (hj i _ rfl),by simp⟩
   ·cases h
  ·cases h
 case f i m =>
  split at h
  ·split at h
   ·cases h
    exact⟨rfl,rfl⟩
   ·cases h
  ·cases h
theorem ix {b:List aw}{X:aw}{j:Nat}(hj:j≠b.length):(b++[X])[j]? = b[j]? := by
 rcases zKC j b.length with h|h
 ·rw[zKh h]
 ·rw[zKk h,zKx h,zKx (by simp;omega)]
theorem Dl {op:Op}{t:List (Nat × SV)}{b:List aw}{c:Prop}{σ':St}(hs:Yl V (some 0) op ⟨t,b⟩=some (c,σ')){j:Nat}(hj:j≠b.length)(hi:∀ x∈idxs ((Ag op).map (ev t)),x.1≠j):σ'.b[j]? = b[j]? := by
 have bt:∀ (o:Operand),o∈Ag op→∀ i m,ev t o=some (.o i m)→i≠j:=fun o ho i m he=>hi _ (DP ho he)
 cases op <;> simp only[Yl,reduceCtorEq]at hs
 case call cl =>
  obtain⟨callee,args,ts⟩:=cl
  have tN:∀ x∈args.toList,x∈Ag (Op.call ⟨callee,args,ts⟩):=fun x hx=>hx
  cases callee <;> (try simp only[reduceCtorEq]at hs)
  rename_i bi
  cases bi <;> (try simp only[reduceCtorEq]at hs)
  case append =>
   unfold Xm at hs
   split at hs
   ·rename_i s x hl
    (repeat' split at hs) <;> try (cases hs;done)
    cases hs
    rename_i hd _ _ _ _
    obtain⟨h1,h2⟩:=Jr hd (j:=j) (fun i m e=>bt s (tN s (by rw[hl];simp)) i m (by rw[← e];assumption))
    simp only
    rw[ix (by rw[h2];exact hj),h1]
   ·cases hs
  all_goals
   unfold Xq at hs
   (repeat' split at hs) <;> try (cases hs;done)
   obtain⟨z,hz,e⟩:=zKM.1 hs
   cases e
   rfl
 case makeSlice T l cc =>
  unfold Yn at hs
  (repeat' split at hs) <;> try (cases hs;done)
  cases hs
  exact ix hj
 case buildSlice T n ps =>
  unfold Xa at hs
  (repeat' split at hs) <;> try (cases hs;done)
  cases hs
  exact ix hj
 case indexAddr T x i =>
  unfold Xc at hs
  (repeat' split at hs) <;> try (cases hs;done)
  cases hs
  rfl
 case slice T x lo hi' mx =>
  cases mx with
  | some mx =>
    cases lo <;> cases hi' <;> simp only[reduceCtorEq]at hs
    unfold DS at hs
    (repeat' split at hs) <;> try (cases hs;done)
    cases hs
    rfl
  | none =>
  simp only at hs
  unfold Xj at hs
  (repeat' split at hs) <;> try (cases hs;done)
  rename_i Iv
  cases hs
  simp only
  unfold reS at Iv
  split at Iv
  ·rename_i i m he
   have hij:i≠j:=bt x (by simp[Ag]) i m he
   split at Iv
   ·split at Iv
    ·(repeat' split at Iv) <;> cases Iv
     all_goals first
      | rw[ix (by simpa using hj),zKm hij]
      | exact ix hj
    ·cases Iv
   ·cases Iv
  ·cases Iv
 case convert S D x =>
  unfold Yb at hs
  (repeat' split at hs) <;> try (cases hs;done)
  all_goals cases hs
  all_goals first|rfl|exact ix hj
theorem AD {op:Op}(hr:Xz V op=true){t:List (Nat × SV)}{b b':List aw}{c:Prop}{σ':St}(hs:Yl V (some 0) op ⟨t,b⟩=some (c,σ'))(hc:c)
 (lg:∀ x∈idxs ((Ag op).map (ev t)),seen x b b'):∃ c',c'∧Yl V (some 0) op ⟨t,b'⟩=some (c',⟨σ'.t,b'⟩):=by
 cases op <;> simp only[Yl,reduceCtorEq]at hs
 case call cl =>
  obtain⟨callee,args,ts⟩:=cl
  cases callee <;> (try simp only[reduceCtorEq]at hs)
  rename_i bi
  cases bi <;> (try simp only[reduceCtorEq]at hs)
  case append=>simp[Xz]at hr
  all_goals
   simp only[Yl]
   unfold Xq at hs ⊢
   split at hs
   ·rename_i s x hl
    simp only
    split at hs
    ·rename_i u hu
     split at hs
     ·rename_i v hv
      obtain⟨z,hz,e⟩:=zKM.1 hs
      cases e
      exact⟨True,trivial,by simp[hl,hu,hv,hz]⟩
     ·cases hs
    ·cases hs
   ·cases hs
 case indexAddr T x i =>
  simp only[Yl]
  unfold Xc at hs ⊢
  split at hs
  ·rename_i e hk
   split at hs
   ·rename_i s oa
    split at hs
    ·rename_i u hu
     split at hs
     ·rename_i k kk hi
      split at hs
      ·rename_i c0 y ha
       cases hs
       simp only at hu hi
       simp only[hu,hi]
       unfold Ym at ha
       split at ha
       ·rename_i j n
        split at ha
        ·rename_i cc e1 s1 n1 m1 hj
         cases ha
         obtain⟨c'',hb'⟩:=AL (lg (j,0,0) (DP (o:=x) (by simp[Ag]) hu)) hj
         simp only at hc
         refine⟨_,?_,by simp only[Ym,hb'];rfl⟩
         refine⟨hc.1,?_⟩
         have h2:=hc.2
         simp only[Xc.lN,hj]at h2
         simp only[Xc.lN,hb']
         exact h2
        ·cases ha
       ·cases ha
      ·cases hs
     ·cases hs
    ·cases hs
   ·cases hs
  ·cases hs
 case slice T x lo hi mx =>
  cases mx with
  | none=>cases lo <;> cases hi <;> simp[Xz]at hr
  | some mx =>
    cases lo with
    | some _=>cases hi <;> simp[Xz]at hr
    | none =>
      cases hi with
      | none=>simp[Xz]at hr
      | some hi =>
        simp only[Yl]
        simp only at hs
        unfold DS at hs ⊢
        split at hs
        ·rename_i e hk
         split at hs
         ·rename_i s oa
          split at hs
          ·rename_i u hu
           split at hs
           ·rename_i k1 h1 hhi
            split at hs
            ·rename_i k2 h2 hmx
             split at hs
             ·rename_i c0 y ha
              cases hs
              simp only at hu hhi hmx
              simp only[hu,hhi,hmx]
              unfold CC at ha
              split at ha
              ·rename_i j n
               split at ha
               ·rename_i cc e1 s1 n1 m1 hj
                cases ha
                obtain⟨c'',hb'⟩:=AL (lg (j,0,0) (DP (o:=x) (by simp[Ag]) hu)) hj
                refine⟨_,hc,by simp only[CC,hb']⟩
               ·cases ha
              ·cases ha
               exact⟨_,hc,by simp only[CC]⟩
              ·cases ha
             ·cases hs
            ·cases hs
           ·cases hs
          ·cases hs
         ·cases hs
        ·cases hs
 all_goals simp[Xz]at hr
theorem Hx {dst:Option Tmp}{op:Op}{t t':List (Nat × SV)}{b b':List aw}(h:∀ x∈op.operands,ev t' x=ev t x){c:Prop}{r:jV}(hs:XV V op ⟨t,b⟩=.val c r)(hc:c)(hb:r.nb.isSome=true→b'=b)(lg:r.nb=none→∀ x∈r.rd,seen x b b') :
 jW V (fun σ=>σ=⟨put dst r.x t',r.nb.getD b'⟩) (XR V dst op ⟨t',b'⟩):=by
 unfold XV at hs
 unfold XR
 rw[Bb (t:=t') (t':=t) h]
 simp only at hs
 cases hp:pv V.Γ t op with
 | some p =>
   rw[hp]at hs
   obtain⟨c',x⟩:=p
   simp only[Gx,oR]at hs
   cases hs
   exact⟨hc,rfl⟩
 | none =>
   rw[hp]at hs
   simp only[Gx,goR]at hs ⊢
   cases hn:Yl V (some 0) op ⟨t,b⟩ with
   | some p =>
     obtain⟨c',σ'⟩:=p
     rw[hn]at hs
     obtain⟨x,hx,-⟩:=jA (t':=t) (fun _ _=>rfl) hn
     simp only[dN,hx]at hs
     split at hs
     ·rename_i hrd
      cases hs
      obtain⟨c2,Gg,e2⟩:=AD hrd hn hc (lg rfl)
      obtain⟨x2,GV,e3⟩:=jA h e2
      simp only[hx,List.cons.injEq,Prod.mk.injEq,true_and,and_true]at GV
      rw[e3 dst]
      simp only[GS]
      exact⟨Gg,by rw[← GV];rfl⟩
     ·cases hs
      obtain rfl:=hb rfl
      obtain⟨x2,GV,e3⟩:=jA h hn
      simp only[hx,List.cons.injEq,Prod.mk.injEq,true_and,and_true]at GV
      rw[e3 dst]
      simp only[GS]
      exact⟨hc,by rw[← GV];rfl⟩
   | none =>
     rw[hn]at hs
     simp only[dN]at hs
     cases op <;> simp only[Xv,reduceCtorEq]at hs
     case alloc T =>
      unfold XD at hs
      simp only[Yl,GS,Yd,XC]
      split at hs
      ·rename_i ti l6
       cases hs
       obtain rfl:=hb rfl
       exact⟨trivial,rfl⟩
      ·cases hs
     case box T x =>
      unfold Jw at hs
      simp only[Yl,GS,Yd,sBox]
      split at hs
      ·rename_i u hu
       cases hs
       obtain rfl:=hb rfl
       simp only at hu
       rw[h x (by simp[Op.operands]),hu]
       exact⟨hc,rfl⟩
      ·cases hs
     case load T x =>
      unfold XI at hs
      simp only[Yl,GS,Yd,XU]
      rw[h x (by simp[Op.operands])]
      (repeat' split at hs) <;> try (cases hs;done)
      rename_i i off he _ c0 T0 m0 hg _ ti l6 _ y hy
      cases hs
      simp only at he hg
      obtain⟨c1,xh,wH,hp1⟩:=HD (lg rfl (i,off,ti.size) (by simp)) hg
      rw[he]
      simp only[xh,l6,Bg hc.2 hp1,hy]
      exact⟨by rw[wH];exact hc.1,rfl⟩
     case store T x y =>
      unfold XF at hs
      simp only[Yl,GS,Yd,XH]
      rw[h x (by simp[Op.operands]),h y (by simp[Op.operands])]
      (repeat' split at hs) <;> try (cases hs;done)
      rename_i i off he _ u hu _ c0 T0 m0 hg _ s oa
      cases hs
      obtain rfl:=hb rfl
      simp only at he hg hu
      rw[he,hu]
      simp only[hg,oa]
      exact⟨⟨hc.1,hc.2.1,hc.2.2.1,hc.2.2.2.1⟩,rfl⟩
     case build T ps =>
      unfold XB at hs
      simp only[Yl,GS,Yd,Xr]
      rw[ig (t:=t') (t':=t) ps.toList (fun x hx=>h x (by simp only[Op.operands];rw[List.mem_toArray];exact hx))]
      (repeat' split at hs) <;> try (cases hs;done)
      rename_i ti l6 _ fs hk _ l hl _ cc hcc
      simp only[oR]at hs
      cases hs
      simp only at hl
      simp only[l6,hk,hl,hcc]
      exact⟨trivial,rfl⟩
     case nilCheck x =>
      unfold Jv at hs
      simp only[Yl,GS,Yd,sNil]
      rw[h x (by simp[Op.operands])]
      split at hs
      ·rename_i i off he
       simp only[oR]at hs
       cases hs
       simp only at he
       rw[he]
       exact⟨trivial,rfl⟩
      ·rename_i f l he
       simp only[oR]at hs
       cases hs
       simp only at he
       rw[he]
       exact⟨hc,rfl⟩
      ·cases hs
     case call cl =>
      obtain⟨callee,args,ts⟩:=cl
      cases callee <;> simp only[reduceCtorEq]at hs
      unfold XK at hs
      (repeat' split at hs) <;> cases hs
theorem Dm {dst:Option Tmp}{op:Op}{t t':List (Nat × SV)}{b b':List aw}(h:∀ x∈op.operands,ev t' x=ev t x){g:FuncId}{args:List SV}(hs:XV V op ⟨t,b⟩=.call g args):XR V dst op ⟨t',b'⟩=.call g args dst ⟨t',b'⟩:=by
 unfold XV at hs
 unfold XR
 rw[Bb (t:=t') (t':=t) h]
 simp only at hs
 cases hp:pv V.Γ t op with
 | some p=>rw[hp]at hs;obtain⟨c',x⟩:=p;simp[Gx,oR]at hs
 | none =>
   rw[hp]at hs
   simp only[Gx,goR]at hs ⊢
   cases hn:Yl V (some 0) op ⟨t,b⟩ with
   | some p =>
     obtain⟨c',σ'⟩:=p
     rw[hn]at hs
     obtain⟨x,hx,-⟩:=jA (t':=t) (fun _ _=>rfl) hn
     simp only[dN,hx]at hs
     split at hs <;> cases hs
   | none =>
     rw[hn]at hs
     simp only[dN]at hs
     cases op <;> simp only[Xv,reduceCtorEq]at hs
     case alloc T=>unfold XD at hs;(repeat' split at hs) <;> cases hs
     case box T x=>unfold Jw at hs;(repeat' split at hs) <;> cases hs
     case load T x=>unfold XI at hs;(repeat' split at hs) <;> cases hs
     case store T x y=>unfold XF at hs;(repeat' split at hs) <;> cases hs
     case build T ps=>unfold XB at hs;(repeat' split at hs) <;> (try simp only[oR]at hs) <;> cases hs
     case nilCheck x=>unfold Jv at hs;(repeat' split at hs) <;> (try simp only[oR]at hs) <;> cases hs
     case call cl =>
      obtain⟨callee,args,ts⟩:=cl
      cases callee <;> simp only[reduceCtorEq]at hs
      rename_i f
      unfold XK at hs
      simp only[Yl,GS,Yd,XL]
      rw[h f (by simp[Op.operands,Call.operands])]
      have he:Ak t' args.toList=Ak t args.toList:=mapM_congr args.toList (fun x hx=>h x (by
       simp only[Op.operands,Call.operands]
       exact zKO.2 (.inr (zKn.1 hx))))
      rw[he]
      split at hs
      ·rename_i ff caps hf
       split at hs
       ·rename_i l hl
        simp only at hf hl
        rw[hf]
        simp only[hl]
        cases hs
        rfl
       ·cases hs
      ·cases hs
def UnE (r:jV)(bi:List aw):Prop:=∀ nb,r.nb=some nb→r.all=false→∀ j q,(∀ x∈r.wr,¬ Hm x j q)→(nb[j]?).map (ob q)=(bi[j]?).map (ob q)
theorem AE {op:Op}{t:List (Nat × SV)}{b:List aw}{c:Prop}{r:jV}(hs:XV V op ⟨t,b⟩=.val c r)(hc:c):UnE r b:=by
 intro nb Ca a6 j q hwr
 unfold XV at hs
 simp only at hs
 cases hp:pv V.Γ t op with
 | some p=>rw[hp]at hs;obtain⟨c',x⟩:=p;simp only[Gx,oR]at hs;cases hs;cases Ca
 | none =>
   rw[hp]at hs
   simp only[Gx]at hs
   cases hn:Yl V (some 0) op ⟨t,b⟩ with
   | some p =>
     obtain⟨c',σ'⟩:=p
     rw[hn]at hs
     obtain⟨x,hx,-⟩:=jA (t':=t) (fun _ _=>rfl) hn
     simp only[dN,hx]at hs
     split at hs
     ·cases hs;cases Ca
     ·cases hs
      cases Ca
      rw[Dl hn (j:=j) (fun e=>hwr (b.length,0,0) (by simp) ⟨e.symm,.inl rfl⟩) (fun x hx e=>hwr x (by simp[hx]) ⟨e,.inl ?_⟩)]
      exact FZ hx
   | none =>
     rw[hn]at hs
     simp only[dN]at hs
     cases op <;> simp only[Xv,reduceCtorEq]at hs
     case alloc T =>
      unfold XD at hs
      (repeat' split at hs) <;> try (cases hs;done)
      cases hs;cases Ca
      rw[ix (fun e=>hwr (b.length,0,0) (by simp) ⟨e.symm,.inl rfl⟩)]
     case box T x =>
      unfold Jw at hs
      (repeat' split at hs) <;> try (cases hs;done)
      cases hs;cases Ca
      rw[ix (fun e=>hwr (b.length,0,0) (by simp) ⟨e.symm,.inl rfl⟩)]
     case load T x =>
      unfold XI at hs
      (repeat' split at hs) <;> try (cases hs;done)
      cases hs;cases Ca
     case store T x y =>
      unfold XF at hs
      (repeat' split at hs) <;> try (cases hs;done)
      rename_i i off he _ u hu _ c0 T0 m0 hg _ s oa
      cases hs;cases Ca
      obtain⟨-,-,h3,h4,h5⟩:=hc
      simp only at hg hwr
      obtain⟨r0,Ix,-,kU⟩:=lq hg
      rw[yI Ix]
      by_cases ox:i=j
      ·subst ox
       have fD:i<b.length:=(zKa.1 Ix).1
       rw[zKL fD,Ix]
       have mG:nT r0=c0:=by rcases kU with rfl|⟨s',n',rfl⟩ <;> rfl
       have hcell2:nT (uI (Xs c0 off (cells u)) r0)=Xs c0 off (cells u):=by rcases kU with rfl|⟨s',n',rfl⟩ <;> rfl
       have hlen:(Xs c0 off (cells u)).length=c0.length:=by simp[Xs];omega
       simp only[zKj,ob,Ds,mG,hcell2,hlen]
       congr 3
       cases q with
       | none=>rfl
       | some p =>
         have hpr:¬ (off≤p∧p<off+s):=fun hh=>hwr (i,off,s) (by simp) ⟨rfl,.inr ⟨p,rfl,hh.1,hh.2⟩⟩
         simp only[Xs]
         rcases zKC p off with aC|Ce
         ·rw[List.append_assoc,zKh (by simp;omega),List.getElem?_take,if_pos aC]
         ·have hge2:off+s≤p:=by omega
          rw[zKk (by simp;omega),List.getElem?_drop]
          congr 1
          simp
          omega
      ·rw[zKm ox]
     case build T ps =>
      unfold XB at hs
      (repeat' split at hs) <;> (try simp only[oR]at hs) <;> cases hs
      cases Ca
     case nilCheck x =>
      unfold Jv at hs
      (repeat' split at hs) <;> (try simp only[oR]at hs) <;> cases hs
      all_goals cases Ca
     case call cl =>
      obtain⟨callee,args,ts⟩:=cl
      cases callee <;> simp only[reduceCtorEq]at hs
      unfold XK at hs
      (repeat' split at hs) <;> cases hs
end
open Go Go.RowKit Wf
section
variable {V:Cx} {F:Fx V}
def bT:jV:=⟨.v undef,none,false,[],[]⟩
def wE (F:Fx V)(ops:Array Oper)(i:Nat)(ti:List (Nat × SV))(bi:List aw)(r:jV):Prop :=
 ∀ (Q:Exit→Act→World→Prop) (K:Act→World→Prop) (a:Act) (w:World) (t':List (Nat × SV)) (b':List aw) (o:Oper),ops[i]? = some o →
  (∀ d∈o.looksAt ops,lk d t'=lk d ti)→(r.nb.isSome=true→b'=bi)→(r.nb=none→∀ x∈r.rd,seen x bi b')→Rel F ⟨t',b'⟩ a w →
  (∀ a' w',Rel F ⟨put o.dst r.x t',r.nb.getD b'⟩ a' w'→K a' w')→wpOp V.P ops Q i K a w
def gJ (ops:Array Oper)(k:Nat):Option Tmp:=(ops[k]?).bind (·.dst)
def uS (ops:Array Oper)(recs:List jV)(k:Nat)(t:List (Nat × SV)):List (Nat × SV):=put (gJ ops k) (recs.getD k bT).x t
theorem xP {t t':List (Nat × SV)}{b:List aw}{a:Act}{w:World}(h:Rel F ⟨t,b⟩ a w)(e:∀ d,lk d t'=lk d t):Rel F ⟨t',b⟩ a w:=by
 obtain⟨β,fp,hf,hw⟩:=h
 exact⟨β,fp,⟨fun β' hβ=>⟨(hf.ok β' hβ).size,(hf.ok β' hβ).defers,fun d x hd=>(hf.ok β' hβ).get d x (by rw[← e];exact hd)⟩⟩,hw⟩
theorem HL {σ:St}{a:Act}{w:World}(h:Rel F σ a w):Rel F σ a w.drew:=by
 obtain⟨β,fp,hf,hw⟩:=h
 exact⟨β,fp,hf,hw.drew⟩
theorem kJ (d:Nat)(dst:Option Tmp)(x:SV)(t:List (Nat × SV)):lk d (put dst x t)=if dst=some d then some x else lk d t:=by
 cases dst with
 | none=>simp[put]
 | some e =>
   simp only[put,lk,zKo.injEq]
   by_cases h:d=e
   ·subst h;simp
   ·rw[if_neg h,if_neg (fun q=>h q.symm)]
theorem iV {d:Nat}{dst:Option Tmp}{x:SV}{t t':List (Nat × SV)}(h:lk d t=lk d t'):lk d (put dst x t)=lk d (put dst x t'):=by
 rw[kJ,kJ,h]
theorem fU {ops:Array Oper}{D:Nat→Bool}(jL:∀ i o,ops[i]? = some o→D i=true→∀ e∈o.after,Region.binds .any e=true→D e.on=true) :
 ∀ (f i k:Nat),kO ops f i k=true→(∀ o,ops[i]? = some o→∀ e∈o.after,Region.binds .any e=true→D e.on=true)→D k=true
 | 0,i,k,h,_=>by simp[kO]at h
 | f+1,i,k,h,hp=>by
   simp only[kO]at h
   split at h
   ·rename_i o ho
    obtain⟨e,he,h⟩:=Array.any_eq_true'.1 h
    simp only[zJ9,zKf,beq_iff_eq]at h
    obtain⟨hb,h⟩:=h
    have hon:=hp o ho e he hb
    rcases h with rfl|h
    ·exact hon
    ·exact fU jL f e.on k h (fun o' ho'=>jL e.on o' ho' hon)
   ·cases h
theorem Dy (m j:Nat):(zKJ m false).getD j false=false:=by
 rcases zKC j m with h|h <;> simp[h]
def pY (Y:Nat):SV:=.v (.pointer (some ⟨Y,0,none⟩))
def Fx.at (F:Fx V){β:Nat→Bt}{fp:Nat→Nat→Prop}{b:List aw}{w:World}(h:Wd F β fp b w):Fx V :=
 ⟨F.n,w,fun k=>∃ i r,b[i]? = some r∧r.cP=true∧fp i k,h.env,fun k ⟨i,r,hi,hm,hk⟩=>(h.cP i r hi hm k hk).elim (fun h1=>Nat.le_trans (V.Co _ F.e0) h1) (fun h1=>F.ownG k h1),β,b,fun k=>∃ i r,b[i]? = some r∧fp i k⟩
theorem Wd.here {β:Nat→Bt}{fp:Nat→Nat→Prop}{b:List aw}{w:World}(h:Wd F β fp b w):Wd (F.at h) β fp b w:=⟨xC.refl _ _,h.bx,fun i r hi hm k hk=>.inr ⟨i,r,hi,hm,hk⟩,⟨ct.refl _ _,zKe _⟩,fun i r hi k hk=>.inr ⟨i,r,hi,hk⟩⟩
theorem Wd.join {b b₂:List aw}{w w':World}{β β₂:Nat→Bt}{fp fp₂:Nat→Nat→Prop}(h:Wd F β fp b w)(h2:Wd (F.at h) β₂ fp₂ b₂ w'):Wd F β₂ fp₂ b₂ w':=by
 have oa:=h2.fr.size
 refine⟨⟨h2.fr.os.trans h.fr.os,h2.fr.tape.trans h.fr.tape,h2.fr.output.trans h.fr.output,Nat.le_trans h.fr.size oa,fun k hk hn=>?_⟩,h2.bx,fun i r hi hm k hk=>?_,?_,fun i r hi k hk=>?_⟩
 ·rw[h2.fr.block k (zKK hk h.fr.size) (fun⟨i,r,hi,hm,hk'⟩=>?_)]
  ·exact h.fr.block k hk hn
  ·rcases h.cP i r hi hm k hk' with h1|h1
   ·omega
   ·exact hn h1
 ·rcases h2.cP i r hi hm k hk with h1|⟨j,r0,hj,hm0,lh⟩
  ·exact .inl (Nat.le_trans h.fr.size h1)
  ·exact h.cP j r0 hj hm0 k lh
 ·exact⟨fun i hi=>(h.ub.Al i hi).trans (h2.ub.Al i (zKK hi h.ub.len)),Nat.le_trans h.ub.len h2.ub.len⟩
 ·rcases h2.nM i r hi k hk with h1|⟨j,r0,hj,lh⟩
  ·exact .inl (Nat.le_trans h.fr.size h1)
  ·exact h.nM j r0 hj k lh
theorem Wd.adopt {β:Nat→Bt}{fp:Nat→Nat→Prop}{w:World}{b:List aw}(h:Wd F β fp b w)(r:aw)(t:Bt)(f:Nat→Prop)
 (hr:∀ β',ct (b.length+1) (rm β b.length t) β'→Holds β' t f w r) (hf:∀ k,f k→F.w0.heap.size≤k∧k<w.heap.size∧∀ i r,b[i]? = some r→¬ fp i k) :
 Wd F (rm β b.length t) (oS fp b.length f) (b++[r]) w:=by
 have old:∀ {i r'},(b++[r])[i]? = some r'→(i<b.length∧b[i]? = some r')∨(i=b.length∧r'=r):=fun {i r'} hi=>by
  rcases zKC i b.length with aC|Ce
  ·rw[zKh aC]at hi;exact .inl ⟨aC,hi⟩
  ·have hi':i=b.length:=by
    have:=(zKa.1 hi).1
    rw[zKb,zKi]at this
    omega
   subst hi'
   rw[zKk (zKe _)]at hi
   simp at hi
   exact .inr ⟨rfl,hi.symm⟩
 have fo:∀ {i},i<b.length→oS fp b.length f i=fp i:=fun {i} hi=>by funext k;simp[oS,show i≠b.length by omega]
 have fn:oS fp b.length f b.length=f:=by funext k;simp[oS]
 refine⟨h.fr,fun β' hβ=>?_,fun i r' hi hm k hk=>?_,?_,fun i r' hi k hk=>?_⟩
 ·rw[zKb,zKi]at hβ
  have hb':=h.bx β' hβ.eC
  have jK:β' b.length=t:=by rw[← hβ b.length (by omega),gP]
  refine⟨fun i r' hi=>?_,fun i r' hi k hk=>?_,fun i j r1 r2 hi hj bt hm k hk hk'=>?_⟩
  ·rcases old hi with⟨aC,hi⟩|⟨rfl,rfl⟩
   ·rw[fo aC];exact hb'.holds i r' hi
   ·rw[fn,jK];exact hr β' hβ
  ·rcases old hi with⟨aC,hi⟩|⟨rfl,rfl⟩
   ·rw[fo aC]at hk;exact hb'.lt i r' hi k hk
   ·rw[fn]at hk;exact(hf k hk).2.1
  ·rcases old hi with⟨aC,hi2⟩|⟨ei,e1⟩
   ·rcases old hj with⟨hlt',iB⟩|⟨ej,e2⟩
    ·rw[fo aC]at hk;rw[fo hlt']at hk';exact hb'.sep i j r1 r2 hi2 iB bt hm k hk hk'
    ·rw[ej]at hk'
     rw[fo aC]at hk;rw[fn]at hk'
     exact(hf k hk').2.2 i r1 hi2 hk
   ·rcases old hj with⟨hlt',iB⟩|⟨ej,e2⟩
    ·rw[ei]at hk
     rw[fn]at hk;rw[fo hlt']at hk'
     exact(hf k hk).2.2 j r2 iB hk'
    ·exact bt (ei.trans ej.symm)
 ·rcases old hi with⟨aC,hi⟩|⟨rfl,rfl⟩
  ·rw[fo aC]at hk;exact h.cP i r' hi hm k hk
  ·rw[fn]at hk;exact .inl (hf k hk).1
 ·have hl:=h.ub.len
  exact⟨fun i hi=>(h.ub.Al i hi).trans (fN β _ _ i (by omega)),by rw[zKb];omega⟩
 ·rcases old hi with⟨aC,hi⟩|⟨rfl,rfl⟩
  ·rw[fo aC]at hk;exact h.nM i r' hi k hk
  ·rw[fn]at hk;exact .inl (hf k hk).1
structure FlD where
 d:Nat→Nat
 z:Nat→List SV
 T:Nat→TypeId
 L:Nat→Nat
 q:Nat→Option (Nat × Nat)
def flR (q:Option (Nat × Nat))(z:List SV)(T:TypeId):aw:=match q with
 | none=>.cells z T true
 | some (s,n)=>.own z T s n true
def flV (q:Option (Nat × Nat))(L:Nat):SV:=match q with
 | none=>.p L 0
 | some (_,n)=>.o L n
def flB (q:Option (Nat × Nat))(Y:Nat):Bt:=match q with
 | none=>⟨Y,0,0⟩
 | some (_,n)=>⟨Y,0,n+1⟩
def GA (q:Option (Nat × Nat))(Y:Nat):SV:=match q with
 | none=>pY Y
 | some (_,n)=>.v (.slice (some ⟨Y,0,none⟩) n n)
def flW (q:Option (Nat × Nat))(z:List SV):Prop:=match q with
 | none=>True
 | some (s,n)=>z.length=n * s∧n≤maxLen
theorem Je {q:Option (Nat × Nat)}{z:List SV}{T:TypeId}{Y:Nat}{β':Nat→Bt}{w:World}(hq:flW q z)(h:w.heap[Y]? = some (.cells (z.map (ai β')).toArray T)):Holds β' (flB q Y) (·=Y) w (flR q z T):=by
 cases q with
 | none=>exact⟨rfl,⟨[],(0,0),⟨by rw[zKy];exact h,.inr (zKe _)⟩,rfl⟩,fun k=>Iff.rfl⟩
 | some p =>
   obtain⟨s,n⟩:=p
   exact jo (rest:=[]) (fz:=(0,0)) (by rw[zKy];exact h) (.inr (zKe _)) hq.1 (zKe _) hq.2 (by simpa using hq.1)
theorem fl_conc {q:Option (Nat × Nat)}{Y L:Nat}{β' β:Nat→Bt}(h:β' L=flB q Y):ai β (GA q Y)=ai β' (flV q L):=by
 cases q with
 | none=>simp[ai,pY,GA,flV,h,flB]
 | some p=>obtain⟨s,n⟩:=p;simp[ai,GA,flV,h,flB,oV]
theorem Jf {q:Option (Nat × Nat)}{Y:Nat}(β β':Nat→Bt):ai β (GA q Y)=ai β' (GA q Y):=by
 cases q with
 | none=>simp[ai,pY,GA]
 | some p=>obtain⟨s,n⟩:=p;simp[ai,GA]
def wF (F:Fx V)(G:FlD)(A:Nat→Bool)(t:List (Nat × SV))(b:List aw)(a:Act)(w:World):Prop:=∃ (β:Nat→Bt) (fp:Nat→Nat→Prop) (Y:Nat→Nat) (tt:List (Nat × SV)),
 Fm F β b.length tt a∧Wd F β fp b w ∧
 (∀ k,A k=true→lk (G.d k) tt=some (GA (G.q k) (Y k))∧lk (G.d k) t=some (flV (G.q k) (G.L k))∧F.w0.heap.size≤Y k∧Y k<w.heap.size∧(∀ β',ct b.length β β'→w.heap[Y k]? = some (.cells ((G.z k).map (ai β')).toArray (G.T k)))∧∀ i r,b[i]? = some r→¬ fp i (Y k)) ∧
 (∀ k l,A k=true→A l=true→k≠l→Y k≠Y l)∧∀ e,(∀ k,A k=true→G.d k≠e)→lk e tt=lk e t
theorem wF.none {G:FlD}{A:Nat→Bool}{t:List (Nat × SV)}{b:List aw}{a:Act}{w:World}(h:wF F G A t b a w)(hA:∀ k,A k=false):Rel F ⟨t,b⟩ a w:=by
 obtain⟨β,fp,Y,tt,hf,hw,-,-,hl⟩:=h
 exact xP ⟨β,fp,hf,hw⟩ (fun d=>(hl d (fun k hk=>by rw[hA k]at hk;cases hk)).symm)
theorem wF.take {G:FlD}{A A':Nat→Bool}{t:List (Nat × SV)}{b:List aw}{a:Act}{w:World}(h:wF F G A t b a w){c:Nat}(hc:A c=true)(hA:∀ k,A' k=true→A k=true∧k≠c)(hA2:∀ k,A k=true→k≠c→A' k=true)(hL:G.L c=b.length)
 (hz:flW (G.q c) (G.z c)) (hd:∀ k,A k=true→k≠c→G.d k≠G.d c):wF F G A' t (b++[flR (G.q c) (G.z c) (G.T c)]) a w:=by
 obtain⟨β,fp,Y,tt,hf,hw,hy,hdis,hl⟩:=h
 obtain⟨g1,g2,g3,g4,g5,g6⟩:=hy c hc
 have fA:=hw.adopt (flR (G.q c) (G.z c) (G.T c)) (flB (G.q c) (Y c)) (·=Y c) (fun β' hβ=>Je hz (g5 β' hβ.eC)) (fun k hk=>by subst hk;exact⟨g3,g4,g6⟩)
 refine⟨_,_,Y,(G.d c,flV (G.q c) b.length)::tt,⟨fun β' hβ=>?_⟩,fA,fun k hk=>?_,fun k l hk hl' bt=>hdis k l (hA k hk).1 (hA l hl').1 bt,fun e he=>?_⟩
 ·rw[zKb,zKi]at hβ
  have h0:=hf.ok β' hβ.eC
  refine⟨h0.size,h0.defers,fun d x hd=>?_⟩
  simp only[lk]at hd
  split at hd
  ·rename_i e
   subst e
   cases hd
   rw[h0.get _ _ g1]
   exact fl_conc (by rw[← hβ b.length (by omega),gP])
  ·exact h0.get d x hd
 ·obtain⟨cN,bM⟩:=hA k hk
  obtain⟨q1,q2,q3,q4,q5,q6⟩:=hy k cN
  refine⟨?_,q2,q3,q4,fun β' hβ=>q5 β' (by rw[zKb,zKi]at hβ;exact hβ.eC),fun i r hi hfp=>?_⟩
  ·simp only[lk];rw[if_neg (hd k cN bM)];exact q1
  ·rcases zKC i b.length with aC|Ce
   ·rw[zKh aC]at hi
    exact q6 i r hi (by simpa[oS,show i≠b.length by omega] using hfp)
   ·have hi':i=b.length:=by
     have:=(zKa.1 hi).1
     rw[zKb,zKi]at this
     omega
    subst hi'
    have:Y k=Y c:=by simpa[oS] using hfp
    exact hdis k c cN hc bM this
 ·simp only[lk]
  split
  ·rename_i e1
   rw[e1,g2,hL]
  ·rename_i e1
   refine hl e (fun k hk=>?_)
   by_cases hkc:k=c
   ·subst hkc;exact fun q=>e1 q.symm
   ·exact he k (hA2 k hk hkc)
theorem Js {ops:Array Oper}{recs:List jV}{a0:Act}{w:World}{t0:List (Nat × SV)}{b0:List aw}{Q:Exit→Act→World→Prop}(G:FlD)(T:Nat→List (Nat × SV))(B:Nat→List aw)(hT0:∀ d,lk d (T 0)=lk d t0)(kW:B 0=b0)
 (hT:∀ i,i<ops.size→∀ d,lk d (T (i+1))=lk d (put (gJ ops i) (recs.getD i bT).x (T i)))
 (hB:∀ i,i<ops.size→B (i+1)=(recs.getD i bT).nb.getD (B i))
 (F9:∀ i,i<ops.size→∀ F':Fx V,F'.n=F.n→wE F' ops i (T i) (B i) (recs.getD i bT)) (Im:∀ i,i<ops.size→UnE (recs.getD i bT) (B i))
 (kT:∀ k,eF ops k=true→gJ ops k=some (G.d k)∧G.d k<F.n∧G.L k=(B k).length∧(∃ W,recs.getD k bT=⟨flV (G.q k) (B k).length,some (B k++[flR (G.q k) (G.z k) (G.T k)]),false,[],W⟩)∧flW (G.q k) (G.z k)∧∃ o,ops[k]? = some o∧o.guard=none ∧
   ∀ (β:Nat→Bt) (m:Nat) (tt:List (Nat × SV)) (a:Act) (w:World),Fm F β m tt a→(∀ d∈o.looksAt ops,lk d tt=lk d (T k))→∀ β',ct m β β'→(execOp a.eval o).run V.P w=Result.ok (.value (ai pS (GA (G.q k) w.heap.size))) (w.alloc (.cells ((G.z k).map (ai β')).toArray (G.T k))))
 (hlen:recs.length=ops.size) (hc:JI ops (recs.map fun r=>⟨r.nb.isSome,r.all,r.rd,r.wr⟩)) (hr:Rel F ⟨t0,b0⟩ a0 w)
 (hQ:∀ a w',Rel F ⟨T ops.size,B ops.size⟩ a w'→Q .normal a w'):wpAny V.P .any ops Q ops.size (zKJ ops.size false) a0 { w with drawn:=w.drawn+1 }:=by
 simp only[JI,zJ9]at hc
 obtain⟨hc,hah⟩:=hc
 let n:=ops.size
 let isS:Nat→Prop:=fun k=>(recs.getD k bT).nb.isSome=true
 have hrk:∀ k,k<n→(((recs.map fun r=>(⟨r.nb.isSome,r.all,r.rd,r.wr⟩:Rk))[k]?).getD wS)=⟨(recs.getD k bT).nb.isSome,(recs.getD k bT).all,(recs.getD k bT).rd,(recs.getD k bT).wr⟩:=fun k hk=>by
  have hk':k<recs.length:=by rw[hlen];exact hk
  simp[zKq,zKu hk']
 have IB:∀ i k,i<n→k<n→k≠i→uV ops (recs.map fun r=>(⟨r.nb.isSome,r.all,r.rd,r.wr⟩:Rk)) i k=true:=fun i k hi hk bt=>by
  have h1:=zKc.1 (zKc.1 hc i (zKB.2 hi)) k (zKB.2 hk)
  simp only[zKf,beq_iff_eq]at h1
  rcases h1 with h1|h1
  ·exact absurd h1 bt
  ·exact h1
 have Iz:∀ i k,k<n→y9 ops (recs.map fun r=>(⟨r.nb.isSome,r.all,r.rd,r.wr⟩:Rk)) i k=true→eF ops k=true→k<i→∀ j,j<k→isS j→kO ops ops.size i j=true:=fun i k hk hp hf kS j hj hs=>by
  unfold y9 at hp
  rw[hf,decide_eq_true kS]at hp
  simp only[Bool.and_self,Bool.not_true,Bool.false_or]at hp
  have h1:=zKc.1 hp j (zKB.2 hj)
  rw[hrk j (by omega)]at h1
  have hs':(recs.getD j bT).nb.isSome=true:=hs
  have h1:(!((recs.getD j bT).nb.isSome)||kO ops ops.size i j)=true:=h1
  rw[hs',Bool.not_true,Bool.false_or]at h1
  exact h1
 -- what must be ordered
 have Ir:∀ i k,i<n→k<n→k≠i→sJ ops i k=true→uD ops i k=true∧(eF ops k=true→k<i→∀ j,j<k→isS j→kO ops ops.size i j=true):=fun i k hi hk bt IU=>by
  have h1:=IB i k hi hk bt
  unfold uV at h1
  rw[if_pos IU,zJ9]at h1
  exact⟨h1.1,Iz i k hk h1.2⟩
 have hSS:∀ i k,k<i→i<n→isS i→isS k→eF ops i=false→kO ops ops.size i k=true:=fun i k kS hi hsi C5 hnf=>by
  have h1:=IB i k hi (by omega) (by omega)
  have hmax:max i k=i:=by omega
  unfold uV at h1
  rw[hrk i hi,hrk k (by omega)]at h1
  have e1:(recs.getD i bT).nb.isSome=true:=hsi
  have e2:(recs.getD k bT).nb.isSome=true:=C5
  split at h1
  ·rw[zJ9]at h1
   have:=h1.1
   unfold uD at this
   rwa [if_pos kS]at this
  ·rw[if_pos (by simp only[e1,e2,Bool.and_self]),hmax,hnf,Bool.false_or]at h1
   unfold uD at h1
   rwa [if_pos kS]at h1
 have pw:∀ i k,i<n→k<n→k≠i→¬ isS i→isS k→∀ x∈(recs.getD i bT).rd,((recs.getD k bT).all=true∨∃ y∈(recs.getD k bT).wr,ovl x y=true)→uD ops i k=true∧(eF ops k=true→k<i→∀ j,j<k→isS j→kO ops ops.size i j=true):=fun i k hi hk bt hnsi hs x hx IU=>by
  have h1:=IB i k hi hk bt
  unfold uV at h1
  rw[hrk i hi,hrk k hk]at h1
  have e1:(recs.getD i bT).nb.isSome=false:=by
   cases h:(recs.getD i bT).nb.isSome with
   | false=>rfl
   | true=>exact absurd h hnsi
  split at h1
  ·rw[zJ9]at h1
   exact⟨h1.1,Iz i k hk h1.2⟩
  ·rw[if_neg (by simp only[e1,Bool.false_and];simp),if_pos (by
    simp only[zJ9,Bool.not_eq_true']
    refine⟨hs,?_⟩
    cases hl:(recs.getD i bT).rd with
    | nil=>rw[hl]at hx;cases hx
    | cons _ _=>rfl)]at h1
   simp only[zKf,Bool.not_eq_true',zJ9]at h1
   rcases h1 with h1|h1
   ·exact⟨h1.1,Iz i k hk h1.2⟩
   ·exfalso
    simp only[Bool.or_eq_false_iff]at h1
    rcases IU with IU|⟨y,hy,yb⟩
    ·rw[IU]at h1;cases h1.1
    ·have:mr (recs.getD i bT).rd (recs.getD k bT).wr=true:=by
      unfold mr
      exact zKr.2 ⟨x,hx,zKr.2 ⟨y,hy,yb⟩⟩
     rw[this]at h1
     cases h1.2
 have Cg:∀ k,eF ops k=true→k<n:=fun k hk=>by
  obtain⟨-,-,-,-,-,o,ho,-⟩:=kT k hk
  exact(zKg.1 ho).1
 have hflS:∀ k,eF ops k=true→isS k:=fun k hk=>by
  obtain⟨-,-,-,⟨_,Iu⟩,-⟩:=kT k hk
  show (recs.getD k bT).nb.isSome=true
  rw[Iu];rfl
 -- the run in the text's order
 have hTf:∀ i,i≤n→∀ d,lk d (T i)=lk d (cQ (uS ops recs) (rH i) i t0):=fun i=>by
  induction i with
  | zero=>intro _ d;exact hT0 d
  | succ i ih =>
    intro hi d
    rw[hT i (by omega) d,xw]
    exact iV (ih (by omega) d)
 have huS:∀ d k (s s':List (Nat × SV)),lk d s=lk d s'→lk d (uS ops recs k s)=lk d (uS ops recs k s'):=fun d k s s' h=>iV h
 have hchS:∀ d k,(∃ s,lk d (uS ops recs k s)≠lk d s)→gJ ops k=some d:=fun d k ⟨s,hs⟩=>by
  unfold uS at hs
  rw[kJ]at hs
  by_cases h:gJ ops k=some d
  ·exact h
  ·rw[if_neg h]at hs;exact absurd rfl hs
 have hidN:∀ k,¬ isS k→∀ b,(recs.getD k bT).nb.getD b=b:=fun k hs b=>by
  cases h:(recs.getD k bT).nb with
  | none=>rfl
  | some x=>exact absurd (by show ((recs.getD k bT).nb).isSome=true;rw[h];rfl) hs
 let AS:(Nat→Bool)→Nat→Nat→Bool:=fun D c k=>eF ops k&&(D k&&decide (c≤k))
 have hdis:∀ k l,eF ops k=true→eF ops l=true→k≠l→G.d k=G.d l→∀ (D:Nat→Bool),(∀ i o,ops[i]? = some o→D i=true→∀ e∈o.after,Region.binds .any e=true→D e.on=true)→D k=true→D l=true→∀ c,c<n→D c=false→isS c→c≤k→c≤l→False:=fun k l hk hl bt he D jL hDk hDl c hcn G5 ou hck hcl'=>by
  -- the later one comes behind all that is ahead of the earlier one
  have key:∀ k l,eF ops k=true→eF ops l=true→k<l→G.d k=G.d l→D k=true→D l=true→c≤k→False:=fun k l hk hl ug he hDk hDl hck=>by
   obtain⟨hdk,-⟩:=kT k hk
   obtain⟨tj,-,-,-,-,o,ho,-⟩:=kT l hl
   have hs:sJ ops l k=true:=by
    unfold sJ
    unfold gJ at hdk
    rw[hdk,ho]
    have:o.dst=some (G.d l):=by unfold gJ at tj;rw[ho]at tj;exact tj
    simp[this,he]
   obtain⟨-,h2⟩:=Ir l k (Cg l hl) (Cg k hk) (by omega) hs
   have hck':c≠k:=fun e=>by rw[← e,G5]at hDk;cases hDk
   have:=fU jL _ l c (h2 hk ug c (by omega) ou) (fun o' ho'=>jL l o' ho' hDl)
   rw[G5]at this;cases this
  rcases Nat.lt_or_gt_of_ne bt with h|h
  ·exact key k l hk hl h he hDk hDl hck
  ·exact key l k hl hk h he.symm hDl hDk hcl'
 -- those that are next are counted
 have hadv:∀ (D:Nat→Bool) (a:Act) (w:World) (t:List (Nat × SV)),(∀ i o,ops[i]? = some o→D i=true→∀ e∈o.after,Region.binds .any e=true→D e.on=true)→∀ (m c:Nat),c+m=n→(∀ k,k<c→isS k→D k=true)→(∀ k,c≤k→k<n→isS k→D k=true→eF ops k=true) →
  (∀ k l,AS D c k=true→AS D c l=true→k≠l→G.d k≠G.d l)→wF F G (AS D c) t (B c) a w→∃ c',c'≤n∧(∀ k,k<c'→isS k→D k=true)∧(c'<n→isS c'∧D c'=false)∧wF F G (AS D c') t (B c') a w:=fun D a w t jL m=>by
  induction m with
  | zero =>
    intro c hcn dM _ _ hrel
    exact⟨c,by omega,dM,fun h=>by omega,hrel⟩
  | succ m ih =>
    intro c hcn dM Ch hdd hrel
    by_cases hs:isS c
    ·cases hD:D c with
     | false=>exact⟨c,by omega,dM,fun _=>⟨hs,hD⟩,hrel⟩
     | true =>
       have hf:=Ch c (zKe _) (by omega) hs hD
       obtain⟨-,-,hL,⟨_,Iu⟩,hW,-⟩:=kT c hf
       have hBc:B (c+1)=B c++[flR (G.q c) (G.z c) (G.T c)]:=by rw[hB c (by omega),Iu];rfl
       have hAc:AS D c c=true:=by simp[AS,hf,hD]
       have C8:∀ k,AS D (c+1) k=true→AS D c k=true∧k≠c:=fun k hk=>by
        simp only[AS,zJ9,decide_eq_true_eq]at hk ⊢
        exact⟨⟨hk.1,hk.2.1,by omega⟩,by omega⟩
       refine ih (c+1) (by omega) (fun k hk C5=>?_) (fun k hk=>Ch k (by omega)) (fun k l hk hl=>hdd k l (C8 k hk).1 (C8 l hl).1) ?_
       ·rcases Nat.lt_or_eq_of_le (Nat.lt_succ_iff.1 hk) with h1|rfl
        ·exact dM k h1 C5
        ·exact hD
       ·rw[hBc]
        refine hrel.take hAc C8 (fun k hk bt=>?_) hL hW (fun k hk bt=>hdd k c hk hAc bt)
        simp only[AS,zJ9,decide_eq_true_eq]at hk ⊢
        exact⟨hk.1,hk.2.1,by omega⟩
    ·have hBc:B (c+1)=B c:=by rw[hB c (by omega)];exact hidN c hs _
     have Ef:AS D (c+1)=AS D c:=by
      funext k
      by_cases hk:eF ops k=true
      ·have bt:k≠c:=fun e=>hs (e ▸ hflS k hk)
       simp only[AS]
       congr 2
       exact decide_eq_decide.2 ⟨fun h=>by omega,fun h=>by omega⟩
      ·simp only[AS,Bool.not_eq_true]at hk ⊢
       rw[hk];rfl
     refine ih (c+1) (by omega) (fun k hk C5=>?_) (fun k hk=>Ch k (by omega)) (by rw[Ef];exact hdd) (by rw[hBc,Ef];exact hrel)
     rcases Nat.lt_or_eq_of_le (Nat.lt_succ_iff.1 hk) with h1|rfl
     ·exact dM k h1 C5
     ·exact absurd C5 hs
 let Inv:(Nat→Bool)→Act→World→Prop:=fun D a w=>(∃ c,c≤n∧(∀ k,k<c→isS k→D k=true)∧(c<n→isS c∧D c=false)∧wF F G (AS D c) (cQ (uS ops recs) D n t0) (B c) a w)∧(∀ i o,ops[i]? = some o→D i=true→∀ e∈o.after,Region.binds .any e=true→D e.on=true)
 refine Fo Inv ?_ ?_ ops.size _ a0 _ (by simp) (by simp) ?_
 ·rintro listed a w i oa ⟨⟨c,hcn,dM,kL,hrel⟩,jL⟩ hi
  obtain⟨hun1,o,ho,a6⟩:=mem_ready.1 hi
  have tg:i<n:=(zKg.1 ho).1
  have hDi:listed.getD i false=false:=by
   have:i<listed.size:=by rw[oa];exact tg
   simp[this]at hun1 ⊢;exact hun1
  have hpr:∀ o',ops[i]? = some o'→∀ e∈o'.after,Region.binds .any e=true→listed.getD e.on false=true:=fun o' ho' e he hb=>by
   rw[ho]at ho';cases ho';exact a6 e he hb
  obtain⟨D,hDD⟩:∃ D:Nat→Bool,D=fun k=>listed.getD k false:=⟨_,rfl⟩
  have hDk:∀ k,listed.getD k false=D k:=fun k=>by rw[hDD]
  rw[← hDD]at hrel jL ⊢
  rw[hDk]at hDi
  simp only[hDk]at hpr dM kL
  have IT:∀ l o',ops[l]? = some o'→eL D i l=true→∀ e∈o'.after,Region.binds .any e=true→eL D i e.on=true:=by
   intro l o' ho' hl e he hb
   simp only[eL,zKf,decide_eq_true_eq]at hl ⊢
   rcases hl with hl|rfl
   ·exact .inl (jL l o' ho' hl e he hb)
   ·exact .inl (hpr o' ho' e he hb)
  have order:∀ k,k<n→k≠i→uD ops i k=true→D k=decide (k<i):=fun k hk bt h1=>by
   unfold uD at h1
   split at h1
   ·rename_i aC
    rw[decide_eq_true aC]
    exact fU jL _ i k h1 hpr
   ·rename_i aC
    rw[decide_eq_false aC]
    cases hD:D k with
    | false=>rfl
    | true =>
      have:=fU jL _ k i h1 (fun o' ho'=>jL k o' ho' hD)
      rw[hDi]at this
      cases this
  have IS:∀ d,(d∈o.looksAt ops∨o.dst=some d)→∀ k,k<n→(∃ s,lk d (uS ops recs k s)≠lk d s)→D k=decide (k<i):=fun d hd k hk hch=>by
   by_cases kS:k=i
   ·subst kS;rw[hDi];simp
   ·refine order k hk kS (Ir i k tg hk kS ?_).1
    unfold sJ
    have:=hchS d k hch
    unfold gJ at this
    rw[this,ho]
    simp only[zKf,zKz,beq_iff_eq]
    exact hd
  have IF:∀ d,d∈o.looksAt ops→lk d (cQ (uS ops recs) D n t0)=lk d (T i):=fun d hd=>by
   rw[hTf i (Nat.le_of_lt tg) d]
   exact Ja (uS ops recs) (lk d) (huS d) D n i t0 (Nat.le_of_lt tg) (IS d (.inl hd))
  have e1:∀ d,lk d (cQ (uS ops recs) (eL D i) n t0)=lk d (put o.dst (recs.getD i bT).x (cQ (uS ops recs) D n t0)):=fun d=>by
   have hd:gJ ops i=o.dst:=by unfold gJ;rw[ho];rfl
   have:=Jc (uS ops recs) (lk d) (huS d) D n i t0 tg hDi (fun hch k hk hk' hD=>by
    have hdd:=hchS d i hch
    rw[hd]at hdd
    have:=IS d (.inr hdd) k hk hk'
    rw[hD]at this
    exact of_decide_eq_true this.symm)
   rw[this]
   unfold uS
   rw[hd]
  -- what is done of what changes things
  have hmin:∀ k,c≤k→k<n→isS k→D k=true→eF ops k=true:=fun k hck hk hs hD=>by
   cases hf:eF ops k with
   | true=>rfl
   | false =>
     exfalso
     obtain⟨ou,G5⟩:=kL (by omega)
     have bt:c≠k:=fun e=>by rw[← e,G5]at hD;cases hD
     have:=fU jL _ k c (hSS k c (by omega) hk hs ou hf) (fun o' ho'=>jL k o' ho' hD)
     rw[G5]at this
     cases this
  have hA:∀ k,AS D c k=true→eF ops k=true∧D k=true∧c≤k:=fun k hk=>by
   simp only[AS,zJ9,decide_eq_true_eq]at hk
   exact hk
  have hnear:∀ k,AS D c k=true→(eF ops k=true→k<i→∀ j,j<k→isS j→kO ops ops.size i j=true)→D k=decide (k<i)→False:=fun k hk h2 h3=>by
   obtain⟨hf,hD,hck⟩:=hA k hk
   have C6:=Cg k hf
   obtain⟨ou,G5⟩:=kL (by omega)
   have bt:c≠k:=fun e=>by rw[← e,G5]at hD;cases hD
   rw[hD]at h3
   have kS:=of_decide_eq_true h3.symm
   have:=fU jL _ i c (h2 hf kS c (by omega) ou) hpr
   rw[G5]at this
   cases this
  have r7:∀ k,AS D c k=true→G.d k ∉ o.looksAt ops∧o.dst≠some (G.d k):=fun k hk=>by
   obtain⟨hf,hD,hck⟩:=hA k hk
   have C6:=Cg k hf
   have kS:k≠i:=fun e=>by rw[e,hDi]at hD;cases hD
   have pq:¬ sJ ops i k=true:=fun hs=>by
    obtain⟨h1,h2⟩:=Ir i k tg C6 kS hs
    exact hnear k hk h2 (order k C6 kS h1)
   have hdk:=(kT k hf).1
   unfold gJ at hdk
   unfold sJ at pq
   rw[hdk,ho]at pq
   simp only[zKf,zKz,beq_iff_eq,not_or]at pq
   exact pq
  have hddD:∀ k l,AS D c k=true→AS D c l=true→k≠l→G.d k≠G.d l:=fun k l hk hl bt he=>by
   obtain⟨hf,hD,hck⟩:=hA k hk
   obtain⟨hf',hD',hck'⟩:=hA l hl
   have C6:=Cg k hf
   obtain⟨ou,G5⟩:=kL (by omega)
   exact hdis k l hf hf' bt he D jL hD hD' c (by omega) G5 ou hck hck'
  -- an operation that is no such cell
  have IA:eF ops i=false→((recs.getD i bT).nb.isSome=true→B c=B i)→((recs.getD i bT).nb=none→∀ x∈(recs.getD i bT).rd,seen x (B i) (B c))→∀ c',(recs.getD i bT).nb.getD (B c)=B c'→(∀ k,AS (eL D i) c' k=AS D c k) →
   wpOp V.P ops Q i (fun a' w'=>wF F G (AS (eL D i) c') (cQ (uS ops recs) (eL D i) n t0) (B c') a' w') a w:=fun hnf hb lg c' hc' Ef=>by
   obtain⟨β,fp,Y,tt,hf,hw,hy,hd,oM⟩:=hrel
   refine F9 i tg (F.at hw) rfl Q _ a w tt (B c) o ho (fun d hd'=>(oM d (fun k hk e=>(r7 k hk).1 (by rw[e];exact hd'))).trans (IF d hd')) hb lg ⟨β,fp,⟨hf.ok⟩,hw.here⟩ ?_
   rintro a' w' ⟨β₂,fp₂,hf2,fA⟩
   have oa:w.heap.size≤w'.heap.size:=fA.fr.size
   rw[show (⟨put o.dst (recs.getD i bT).x tt,(recs.getD i bT).nb.getD (B c)⟩:St)=⟨put o.dst (recs.getD i bT).x tt,B c'⟩ by rw[hc']]at hf2 fA
   refine⟨β₂,fp₂,Y,put o.dst (recs.getD i bT).x tt,⟨hf2.ok⟩,hw.join fA,fun k hk=>?_,fun k l hk hl=>hd k l (by rw[← Ef];exact hk) (by rw[← Ef];exact hl),fun e he=>?_⟩
   ·rw[Ef]at hk
    obtain⟨g1,g2,g3,g4,g5,g6⟩:=hy k hk
    have bt:=(r7 k hk).2
    refine⟨by rw[kJ,if_neg bt];exact g1,by rw[e1,kJ,if_neg bt];exact g2,g3,zKK g4 oa,fun β' hβ=>(fA.fr.block _ g4 (fun⟨j,r,hj,_,hk⟩=>g6 j r hj hk)).trans (g5 β' (fun i hi=>(fA.ub.Al i hi).trans (hβ i (zKK hi fA.ub.len)))),fun j r hj hk=>?_⟩
    rcases fA.nM j r hj _ hk with h1|⟨j',r',hj',hk'⟩
    ·have:w.heap.size≤Y k:=h1
     omega
    ·exact g6 j' r' hj' hk'
   ·rw[e1,kJ,kJ]
    split
    ·rfl
    ·exact oM e (fun k hk=>he k (by rw[Ef];exact hk))
  have tq:∀ c' k,k≠i→AS (eL D i) c' k=AS D c' k:=fun c' k hk=>by simp[AS,eL,hk]
  by_cases Ea:eF ops i=true
  ·
   have hci:c≤i:=by
    apply Nat.le_of_not_lt
    intro aC
    have:=dM i aC (hflS i Ea)
    rw[hDi]at this;cases this
   obtain⟨hdi,hdn,hLi,⟨_,Iu⟩,hW,o',ho',hg,vO⟩:=kT i Ea
   rw[ho]at ho'
   cases ho'
   have yd:o.dst=some (G.d i):=by unfold gJ at hdi;rw[ho]at hdi;exact hdi
   have D9:∀ a' w',wF F G (AS (eL D i) c) (cQ (uS ops recs) (eL D i) n t0) (B c) a' w'→Inv (eL D i) a' w':=fun a' w' hr'=>by
    refine⟨hadv (eL D i) a' w' _ IT (n - c) c (by omega) (fun k hk hs=>by simp[eL,dM k hk hs]) (fun k hk C6 hs hD=>?_) (fun k l hk hl bt he=>?_) hr',IT⟩
    ·by_cases kS:k=i
     ·rw[kS];exact Ea
     ·exact hmin k hk C6 hs (by simpa[eL,kS] using hD)
    ·by_cases kS:k=i
     ·subst kS
      have hl':AS D c l=true:=by rw[← tq c l (fun e=>bt e.symm)];exact hl
      exact(r7 l hl').2 (by rw[yd,he])
     ·by_cases ov:l=i
      ·subst ov
       have hk':AS D c k=true:=by rw[← tq c k kS];exact hk
       exact(r7 k hk').2 (by rw[yd,he])
      ·exact hddD k l (by rw[← tq c k kS];exact hk) (by rw[← tq c l ov];exact hl) bt he
   refine wpOp_mono (fun a' w' h=>D9 a' w' h) ?_
   obtain⟨β,fp,Y,tt,hf,hw,hy,hd,oM⟩:=hrel
   have ud:=ho
   unfold wpOp
   rw[ho]
   simp only
   rw[if_pos (by simp[Region.wanted,hg])]
   left
   have hex:=vO β _ tt a w hf (fun d hd'=>(oM d (fun k hk e=>(r7 k hk).1 (by rw[e];exact hd'))).trans (IF d hd'))
   have c9:=hex β (ct.refl _ _)
   have hall':∀ β',ct (B c).length β β'→(G.z i).map (ai β)=(G.z i).map (ai β'):=fun β' hβ=>by
    have h1:=hex β' hβ
    rw[c9]at h1
    injection h1 with _ h1
    have h2:=congrArg (fun w':World=>w'.heap[w.heap.size]?) h1
    simp only[dG]at h2
    have h3:=(Obj.cells.inj (zKo.inj h2)).1
    exact congrArg Array.toList h3
   have Gl:Below w.heap.size w (w.alloc (.cells ((G.z i).map (ai β)).toArray (G.T i))):=(Below.refl _ _).alloc (zKe _) _
   have rY:=dG w (.cells ((G.z i).map (ai β)).toArray (G.T i))
   have oa:(w.alloc (.cells ((G.z i).map (ai β)).toArray (G.T i))).heap.size=w.heap.size+1:=size_alloc _ _
   refine wp_of_value c9 ?_
   rw[yd]
   generalize w.alloc (.cells ((G.z i).map (ai β)).toArray (G.T i))=w2 at Gl rY oa
   refine⟨β,fp,fun k=>if k=i then w.heap.size else Y k,(G.d i,GA (G.q i) w.heap.size)::tt,⟨fun β' hβ=>by rw[Jf pS β'];exact(hf.ok β' hβ).put hdn (GA (G.q i) w.heap.size)⟩,hw.below Gl,fun k hk=>?_,fun k l hk hl bt=>?_,fun e he=>?_⟩
   ·by_cases kS:k=i
    ·subst kS
     simp only[if_true]
     refine⟨by simp[lk],?_,hw.fr.size,by omega,fun β' hβ=>by rw[← hall' β' hβ];exact rY,fun j r hj hk=>?_⟩
     ·rw[e1,kJ,if_pos yd,Iu,hLi]
     ·have:=(hw.bx β (ct.refl _ _)).lt j r hj _ hk
      omega
    ·have hk':AS D c k=true:=by rw[← tq c k kS];exact hk
     obtain⟨g1,g2,g3,g4,g5,g6⟩:=hy k hk'
     have bt:=(r7 k hk').2
     simp only[if_neg kS]
     refine⟨?_,?_,g3,by omega,fun β' hβ=>(Gl.block _ g4).trans (g5 β' hβ),g6⟩
     ·simp only[lk]
      rw[if_neg (fun e=>bt (by rw[yd,e]))]
      exact g1
     ·rw[e1,kJ,if_neg bt];exact g2
   ·have D1:∀ k,AS (eL D i) c k=true→k≠i→AS D c k=true:=fun k h1 h2=>by rw[← tq c k h2];exact h1
    by_cases k1:k=i
    ·have k2:l≠i:=fun e=>bt (k1.trans e.symm)
     simp only[if_pos k1,if_neg k2]
     have:=(hy l (D1 l hl k2)).2.2.2.1
     omega
    ·by_cases k2:l=i
     ·simp only[if_neg k1,if_pos k2]
      have:=(hy k (D1 k hk k1)).2.2.2.1
      omega
     ·simp only[if_neg k1,if_neg k2]
      exact hd k l (D1 k hk k1) (D1 l hl k2) bt
   ·have bt:G.d i≠e:=he i (by simp[AS,eL,Ea,hci])
    have h1:lk e ((G.d i,GA (G.q i) w.heap.size)::tt)=lk e tt:=by simp only[lk];rw[if_neg (fun q=>bt q.symm)]
    rw[h1,oM e (fun k hk=>he k (by
     obtain⟨-,hD,-⟩:=hA k hk
     rw[tq c k (fun q=>by rw[q,hDi]at hD;cases hD)];exact hk)),e1,kJ,if_neg (fun q=>bt (zKo.inj (yd.symm.trans q)))]
  ·have Ea:eF ops i=false:=by simpa using Ea
   by_cases hs:isS i
   ·
    have hci:c=i:=by
     apply Nat.le_antisymm
     ·apply Nat.le_of_not_lt
      intro aC
      have:=dM i aC hs
      rw[hDi]at this;cases this
     ·apply Nat.le_of_not_lt
      intro aC
      obtain⟨ou,G5⟩:=kL (by omega)
      have:=fU jL _ i c (hSS i c aC tg hs ou Ea) hpr
      rw[G5]at this;cases this
    subst hci
    have Ef:∀ k,AS (eL D c) (c+1) k=AS D c k:=fun k=>by
     by_cases hkc:k=c
     ·subst hkc;simp[AS,Ea]
     ·simp only[AS,eL,hkc,decide_false,Bool.or_false]
      congr 2
      exact decide_eq_decide.2 ⟨fun h=>by omega,fun h=>by omega⟩
    refine wpOp_mono ?_ (IA Ea (fun _=>rfl) (fun Ca=>by have:(recs.getD c bT).nb.isSome=true:=hs;rw[Ca]at this;cases this) (c+1) (hB c tg).symm Ef)
    intro a' w' hr'
    refine⟨hadv (eL D c) a' w' _ IT (n - (c+1)) (c+1) (by omega) (fun k hk C5=>?_) (fun k hk C6 C5 hD=>hmin k (by omega) C6 C5 (by simpa[eL,show k≠c by omega] using hD)) (fun k l hk hl=>hddD k l (by rw[← Ef];exact hk) (by rw[← Ef];exact hl)) hr',IT⟩
    rcases Nat.lt_or_eq_of_le (Nat.lt_succ_iff.1 hk) with h1|rfl
    ·simp[eL,dM k h1 C5]
    ·simp[eL]
   ·
    have lg:∀ x∈(recs.getD i bT).rd,seen x (B i) (B c):=fun x hx q hq=>by
     have step:∀ k,k<n→(k<i∧c≤k∨i<k∧k<c)→((B (k+1))[x.1]?).map (ob q)=((B k)[x.1]?).map (ob q):=fun k hk hb=>by
      rw[hB k hk]
      cases Ca:(recs.getD k bT).nb with
      | none=>rfl
      | some nb =>
        have C5:isS k:=by show ((recs.getD k bT).nb).isSome=true;rw[Ca];rfl
        have bt:k≠i:=by omega
        have pq:¬ ((recs.getD k bT).all=true∨∃ y∈(recs.getD k bT).wr,ovl x y=true):=fun IU=>by
         obtain⟨h1,h2⟩:=pw i k tg hk bt hs C5 x hx IU
         have h3:=order k hk bt h1
         rcases hb with⟨kS,hck⟩|⟨hik,hkc⟩
         ·have hD:D k=true:=by rw[h3];exact decide_eq_true kS
          exact hnear k (by simp only[AS,hmin k hck hk C5 hD,hD,decide_eq_true hck,Bool.and_self]) h2 h3
         ·have:=dM k hkc C5
          rw[h3,decide_eq_false (by omega)]at this
          cases this
        simp only[not_or,not_exists,not_and,Bool.not_eq_true]at pq
        exact Im k hk nb Ca pq.1 x.1 q (fun y hy=>FO (pq.2 y hy) hq)
     have walk:∀ (m p:Nat),p+m≤n→(∀ k,p≤k→k<p+m→((B (k+1))[x.1]?).map (ob q)=((B k)[x.1]?).map (ob q))→((B (p+m))[x.1]?).map (ob q)=((B p)[x.1]?).map (ob q):=fun m p=>by
      induction m with
      | zero=>intro _ _;rfl
      | succ m ih =>
        intro h1 h2
        have:=h2 (p+m) (by omega) (by omega)
        rw[show p+(m+1)=p+m+1 by omega,this]
        exact ih (by omega) (fun k h3 h4=>h2 k h3 (by omega))
     rcases zKC c i with aC|Ce
     ·have:=walk (i - c) c (by omega) (fun k h3 h4=>step k (by omega) (.inl ⟨by omega,h3⟩))
      rw[show c+(i - c)=i by omega]at this
      exact this.symm
     ·have hi1:((B (i+1))[x.1]?).map (ob q)=((B i)[x.1]?).map (ob q):=by
       rw[hB i tg,hidN i hs (B i)]
      have:=walk (c - i) i (by omega) (fun k h3 h4=>by
       rcases Nat.lt_or_eq_of_le h3 with h5|rfl
       ·exact step k (by omega) (.inr ⟨h5,by omega⟩)
       ·exact hi1)
      rw[show i+(c - i)=c by omega]at this
      exact this
    have Ef:∀ k,AS (eL D i) c k=AS D c k:=fun k=>by
     by_cases kS:k=i
     ·subst kS;simp[AS,Ea]
     ·exact tq c k kS
    refine wpOp_mono ?_ (IA Ea (fun h=>absurd h hs) (fun _=>lg) c (hidN i hs _) Ef)
    intro a' w' hr'
    refine⟨⟨c,hcn,fun k hk C5=>by simp[eL,dM k hk C5],fun aC=>⟨(kL aC).1,?_⟩,hr'⟩,IT⟩
    have bt:c≠i:=fun e=>hs (e ▸ (kL aC).1)
    simp[eL,bt,(kL aC).2]
 ·rintro listed a w oa ⟨⟨c,hcn,dM,kL,hrel⟩,jL⟩ hr
  have a6:∀ k,k<n→listed.getD k false=true:=fun k=>by
   induction k using Nat.strongRecOn with
   | _ k ih =>
     intro hk
     cases hl:listed.getD k false with
     | true=>rfl
     | false =>
       exfalso
       obtain⟨o,ho⟩:∃ o,ops[k]? = some o:=⟨ops[k]'hk,by simp[hk]⟩
       have hks:k<listed.size:=by rw[oa];exact hk
       have:k∈Region.ready .any ops listed:=by
        refine mem_ready.2 ⟨?_,o,ho,fun e he hb=>?_⟩
        ·simp[hks]at hl ⊢;exact hl
        ·have h1:=zKc.1 hah k (zKB.2 hk)
         rw[ho]at h1
         have h2:=Array.all_eq_true'.1 h1 e he
         simp only[hb,Bool.not_true,Bool.false_or,decide_eq_true_eq]at h2
         exact ih e.on h2 (by omega)
       rw[hr]at this
       cases this
  have hce:c=n:=by
   apply Nat.le_antisymm hcn
   apply Nat.le_of_not_lt
   intro aC
   have h1:=(kL aC).2
   have h2:=a6 c aC
   simp only at h1
   rw[h2]at h1
   cases h1
  subst hce
  have E0:=hrel.none (fun k=>by
   cases hf:eF ops k with
   | false=>simp only[AS,hf,Bool.false_and]
   | true =>
     have:=Cg k hf
     show (eF ops k&&(listed.getD k false&&decide (ops.size≤k)))=false
     rw[decide_eq_false (show ¬ ops.size≤k from Nat.not_le.2 this),Bool.and_false,Bool.and_false])
  have e1:=Jd (uS ops recs) (fun k=>listed.getD k false) ops.size t0 a6
  have E0:Rel F ⟨cQ (uS ops recs) (fun k=>listed.getD k false) ops.size t0,B ops.size⟩ a w:=E0
  rw[e1]at E0
  exact hQ a w (xP E0 (fun d=>hTf ops.size (zKe _) d))
 ·have e3:(fun k=>(zKJ ops.size false).getD k false)=fun _=>false:=funext fun k=>Dy _ _
  show Inv _ a0 _
  rw[e3]
  have e:∀ {S:Type} (u:Nat→S→S) (m:Nat) (s:S),cQ u (fun _=>false) m s=s:=fun u m s=>by
   induction m with
   | zero=>rfl
   | succ m ih=>simp only[cQ];rw[if_neg (by simp),ih]
  obtain⟨β,fp,hf,hw⟩:=hr
  refine⟨?_,fun i o _ h=>by cases h⟩
  have h0:wF F G (AS (fun _=>false) 0) t0 (B 0) a0 w.drew:=by
   rw[kW]
   refine⟨β,fp,fun _=>0,t0,hf,hw.drew,fun k hk=>?_,fun k l hk=>?_,fun _ _=>rfl⟩ <;> simp[AS]at hk
  have:=hadv (fun _=>false) a0 w.drew t0 (fun i o _ h=>by cases h) n 0 (by omega) (fun k hk=>by omega) (fun k _ _ _ h=>by cases h) (fun k l hk=>by simp[AS]at hk) h0
  obtain⟨c,h1,h2,h3,h4⟩:=this
  exact⟨c,h1,h2,h3,by rw[e];exact h4⟩
end
open Go Go.RowKit Wf
section
variable {V:Cx} {F:Fx V}
theorem vv {ops:Array Oper}{o:Oper}{t t':List (Nat × SV)}(h:∀ d∈o.looksAt ops,lk d t'=lk d t):∀ x∈o.op.operands,ev t' x=ev t x:=fun x hx=>by
 cases x with
 | tmp d =>
   simp only[ev]
   refine h d ?_
   unfold Oper.looksAt
   simp only[List.mem_append,List.mem_filterMap]
   exact .inl ⟨.tmp d,zKn.2 hx,rfl⟩
 | const _=>rfl
 | global _=>rfl
 | func _=>rfl
theorem uj:∀ (l:List Oper)(j:Nat),iI l j=(l[j]?).bind (·.dst)
 | [],j=>by simp[iI]
 | o::r,0=>by simp[iI]
 | o::r,j+1=>by simp[iI,uj r j]
theorem Cl {ops:Array Oper}{σt:List (Nat × SV)}{β:Nat→Bt}{a:Act}(hf:jX β F.n σt a){j d:Nat}{b:Bool}(h:Yk σt (iI ops.toList j)=some (d,b)) :
 yielded ops a.tmps j=some b∧a.tmps.getD d undef=.bool b:=by
 refine gval_ok hf ?_
 unfold Yk at h
 split at h
 ·rename_i d' hd
  rw[uj]at hd
  unfold gval
  rw[List.getElem?_map]
  cases ho:ops.toList[j]? with
  | none=>rw[ho]at hd;simp at hd
  | some o =>
    rw[ho]at hd
    simp at hd
    simp only[zKj,hd]
    exact h
 ·cases h
theorem I6 {ops:List Oper}{t:List (Nat × SV)}{j:Nat}(h:gvU t (iI ops j)=true):∃ d x,iI ops j=some d∧lk d t=some (.v x)∧nob x=true:=by
 unfold gvU at h
 split at h
 ·rename_i d hd
  split at h
  ·rename_i x hx
   exact⟨d,x,hd,hx,h⟩
  ·cases h
 ·cases h
theorem I5 {ops:Array Oper}{σt:List (Nat × SV)}{β:Nat→Bt}{a:Act}(hf:jX β F.n σt a){j d:Nat}{x:Value}(hd:iI ops.toList j=some d)(hx:lk d σt=some (.v x))(hn:nob x=true):yielded ops a.tmps j=none:=by
 have hg:=hf.get _ _ hx
 simp only[ai]at hg
 rw[uj]at hd
 have hd':(ops[j]?).bind (·.dst)=some d:=by simpa using hd
 unfold yielded
 rw[hd']
 simp only[Option.bind_some]
 cases ht:a.tmps[d]? with
 | none=>rfl
 | some y =>
   have:y=x:=by rw[← hg];simp[zKN,ht]
   subst this
   cases y <;> simp[nob]at hn ⊢
theorem Gw {ops:List Oper}{t t':List (Nat × SV)}{j d:Nat}{b:Bool}(h:Yk t (iI ops j)=some (d,b))(hl:lk d t'=lk d t):Yk t' (iI ops j)=some (d,b):=by
 unfold Yk at h ⊢
 split at h
 ·rename_i d' hd
  split at h
  ·rename_i b' hb
   cases h
   rw[hl,hb]
  ·cases h
 ·cases h
theorem gval_lk {ops:List Oper}{t:List (Nat × SV)}{j d:Nat}{b:Bool}(h:Yk t (iI ops j)=some (d,b)):lk d t=some (.bool b)∧iI ops j=some d:=by
 unfold Yk at h
 split at h
 ·rename_i d' hd
  split at h
  ·rename_i b' hb
   cases h
   exact⟨hb,hd⟩
  ·cases h
 ·cases h
theorem tu {ops:Array Oper}{o:Oper}{j d:Nat}{want:Bool}(hg:o.guard=some (j,want))(hd:iI ops.toList j=some d):d∈o.looksAt ops:=by
 unfold Oper.looksAt
 rw[hg]
 simp only[List.mem_append]
 right
 rw[uj]at hd
 have:(ops[j]?).bind (·.dst)=some d:=by simpa using hd
 rw[this]
 simp
theorem BD {t:List (Nat × SV)}{d:Nat}{b:Bool}(h:lk d t=some (.bool b)):∀ e,lk e ((d,.bool b)::t)=lk e t:=fun e=>by
 simp only[lk]
 split
 ·rename_i he;subst he;exact h.symm
 ·rfl
theorem Aq {ops:Array Oper}{o:Oper}(h:o.guard=none)(a:Act):Region.wanted o (yielded ops a.tmps)=true:=by simp[Region.wanted,h]
theorem EP {ops:Array Oper}{i:Nat}{t tt:List (Nat × SV)}{b:List aw}{o:Oper}{c:Prop}{r:jV}(ho:ops[i]? = some o)(cY:fits F.n o.dst=true)(hs:XV V o.op ⟨tt,b⟩=.val c r)(hc:c)(vG:∀ e,lk e tt=lk e t)
 (hw:∀ (ta:List (Nat × SV)) (ba:List aw) (a:Act) (w:World),Rel F ⟨ta,ba⟩ a w→(∀ d∈o.looksAt ops,lk d ta=lk d t)→Region.wanted o (yielded ops a.tmps)=true):wE F ops i t b r:=by
 intro Q K a w t' b' o' ho' hl hb lg hr hK
 rw[ho]at ho'
 cases ho'
 unfold wpOp
 rw[ho]
 simp only
 rw[if_pos (hw t' b' a w hr hl)]
 left
 refine Oper.wp_mono (fun a w ⟨σ,hσ,hrel⟩=>?_) (nc (F:=F) cY (Hx (dst:=o.dst) (t':=t') (b':=b') (vv (ops:=ops) (t:=tt) (fun d hd=>(hl d hd).trans (vG d).symm)) hs hc hb lg) hr o.type o.pos o.after o.guard _)
 subst hσ
 exact hK a w hrel
theorem ve {ops:Array Oper}{i:Nat}{t tt:List (Nat × SV)}{b:List aw}{o:Oper}{g:FuncId}{args:List SV}{r:jV}(ho:ops[i]? = some o)(cY:fits F.n o.dst=true)(hs:XV V o.op ⟨tt,b⟩=.call g args)(vG:∀ e,lk e tt=lk e t)
 (Ix:(∃ x,PC V g args x∧r=⟨x,none,false,[],[]⟩)∨(∃ x nb al W,SC V g args b (fun r' b'=>r'=x∧b'=nb)∧r=⟨x,some nb,al,[],W⟩))
 (hw:∀ (ta:List (Nat × SV)) (ba:List aw) (a:Act) (w:World),Rel F ⟨ta,ba⟩ a w→(∀ d∈o.looksAt ops,lk d ta=lk d t)→Region.wanted o (yielded ops a.tmps)=true):wE F ops i t b r:=by
 intro Q K a w t' b' o' ho' hl hb lg hr hK
 rw[ho]at ho'
 cases ho'
 unfold wpOp
 rw[ho]
 simp only
 rw[if_pos (hw t' b' a w hr hl)]
 left
 have hcall:=Dm (dst:=o.dst) (t':=t') (b':=b') (vv (ops:=ops) (t:=tt) (fun d hd=>(hl d hd).trans (vG d).symm)) hs
 have hh:jW V (fun σ=>σ=⟨put o.dst r.x t',r.nb.getD b'⟩) (XR V o.dst o.op ⟨t',b'⟩):=by
  rw[hcall]
  rcases Ix with⟨x,hpc,rfl⟩|⟨x,nb,al,W,ou,rfl⟩
  ·exact .inl ⟨x,hpc,rfl⟩
  ·obtain rfl:=hb rfl
   exact .inr ⟨_,ou,fun r' bs ⟨h1,h2⟩=>by subst h1 h2;rfl⟩
 refine Oper.wp_mono (fun a w ⟨σ,hσ,hrel⟩=>?_) (nc (F:=F) cY hh hr o.type o.pos o.after o.guard _)
 subst hσ
 exact hK a w hrel
theorem Bx {ops:Array Oper}{i:Nat}{t:List (Nat × SV)}{b:List aw}{o:Oper}(ho:ops[i]? = some o)(cY:fits F.n o.dst=true)
 (hw:∀ (ta:List (Nat × SV)) (ba:List aw) (a:Act) (w:World),Rel F ⟨ta,ba⟩ a w→(∀ d∈o.looksAt ops,lk d ta=lk d t)→Region.wanted o (yielded ops a.tmps)=false):wE F ops i t b ⟨.v undef,none,false,[],[]⟩:=by
 intro Q K a w t' b' o' ho' hl hb lg hr hK
 rw[ho]at ho'
 cases ho'
 unfold wpOp
 rw[ho]
 simp only
 rw[if_neg (by rw[hw t' b' a w hr hl];simp)]
 obtain⟨β,fp,hf,pO⟩:=hr
 exact hK _ w ⟨β,fp,hf.put cY (fun _ _=>rfl),pO⟩
theorem yA (r:jV)(h:r.nb=none)(b:List aw):UnE r b:=fun nb Ca=>by rw[h]at Ca;cases Ca
def CV (F:Fx V)(ops:Array Oper)(r:jV)(t:List (Nat × SV))(b:List aw)(i d:Nat)(z:List SV)(T:TypeId)(q:Option (Nat × Nat)):Prop :=
 gJ ops i=some d∧d<F.n∧(∃ W,r=⟨flV q b.length,some (b++[flR q z T]),false,[],W⟩)∧flW q z∧∃ o,ops[i]? = some o∧o.guard=none ∧
  ∀ (β:Nat→Bt) (m:Nat) (tt:List (Nat × SV)) (a:Act) (w:World),Fm F β m tt a→(∀ d∈o.looksAt ops,lk d tt=lk d t)→∀ β',ct m β β'→(execOp a.eval o).run V.P w=Result.ok (.value (ai pS (GA q w.heap.size))) (w.alloc (.cells (z.map (ai β')).toArray T))
theorem AG {T:TypeId}{σ:St}{c:Prop}{r:jV}(h:XV V (.alloc T) σ=.val c r):∃ ti,V.Γ T=some ti∧r=⟨.p σ.b.length 0,some (σ.b++[.cells ti.zero T true]),false,[],[(σ.b.length,0,0)]⟩:=by
 unfold XV at h
 simp only[pv,Yl,Gx,dN,Xv,XD]at h
 split at h
 ·rename_i ti l6
  cases h
  exact⟨ti,l6,rfl⟩
 ·cases h
theorem rA {T:TypeId}{σ:St}{g:FuncId}{args:List SV}(h:XV V (.alloc T) σ=.call g args):False:=by
 unfold XV at h
 simp only[pv,Yl,Gx,dN,Xv,XD]at h
 split at h <;> cases h
theorem GL {ts e:TypeId}{n:Nat}{ps:Array (Nat × Operand)}{t:List (Nat × SV)}{l:List (Nat × SV)}{c0:List SV}{ti:TI}(ht:kd V.Γ ts=some (.slice e))(l6:V.Γ e=some ti)(hl:Xl t ps.toList=some l)(kT:Yi ti.size 0 l=some c0)(F4:l.length=n)(oP:n * ti.size≤16777216)(lE:0<ti.size)
 {β:Nat→Bt} {m:Nat} {a:Act} (hf:Fm F β m t a) (w:World) (β':Nat→Bt) (hβ:ct m β β'):(Instr.buildSlice ts n (ps.map fun p=>(p.1,a.eval p.2))).run V.P w=Result.ok (.slice (some ⟨w.heap.size,0,none⟩) n n) (w.alloc (.cells (c0.map (ai β')).toArray e)):=by
 obtain⟨d1,rn,cN⟩:=cD V.iH ht
 simp only[cH]at cN
 subst cN
 obtain⟨i,z,hi,hz,rZ,II,hzc⟩:=(V.iH e ti l6).info
 have e2:=me (β':=β') hf hβ hl
 have jL:=oe kT
 rw[F4]at jL
 have qJ:=vW β' ti.size l 0 c0 kT ((Array.range (n * i.size)).map (z.cells[· % z.cells.size]!)) (by rw[Nat.zero_add,F4];simp[rZ])
 by_cases hn:n=0
 ·subst hn
  have hl0:l=[]:=zKl F4
  subst hl0
  have kU:c0=[]:=zKl (by rw[jL];simp)
  subst kU
  have e3:(ps.toList.map fun p=>(p.1,a.eval p.2))=[]:=e2
  have e4:Array.range 0=#[]:=rfl
  simp[Instr.buildSlice,run_underlying rn,Go.sizeOf,typeInfo,hi,e3,Instr.fill,newRow,e4]
 ·refine run_buildSlice (P:=V.P) w ts e n (ps.map fun p=>(p.1,a.eval p.2)) (c0.map (ai β')).toArray i z rn hi hz (by rw[rZ];omega) (by rw[rZ];exact Nat.ne_of_gt (Nat.mul_pos (by omega) lE)) ?_
  have e3:=qJ
  rw[← rZ]at e3
  rw[Array.toList_map,e2,e3]
  congr 1
  apply zKE
  rw[Nat.zero_add,F4]
  simp
theorem AF {ts:TypeId}{n:Nat}{ps:Array (Nat × Operand)}{σ:St}{c:Prop}{r:jV}(h:XV V (.buildSlice ts n ps) σ=.val c r)(hc:c):∃ e ti l c0,kd V.Γ ts=some (.slice e)∧V.Γ e=some ti∧Xl σ.t ps.toList=some l∧Yi ti.size 0 l=some c0∧l.length=n∧n * ti.size≤16777216∧0<ti.size∧∃ W,r=⟨.o σ.b.length n,some (σ.b++[.own c0 e ti.size n true]),false,[],W⟩:=by
 unfold XV at h
 simp only[pv,Gx,Yl,Xv]at h
 cases hx:Xa V (some 0) ts n ps.toList σ with
 | none=>rw[hx]at h;simp only[dN]at h;cases h
 | some y =>
   rw[hx]at h
   obtain⟨c',σ'⟩:=y
   unfold Xa at hx
   (repeat' split at hx) <;> try (cases hx;done)
   rename_i _ e ht _ ti l6 _ l hl _ c0 kT
   cases hx
   simp only[dN,put,Xz,Bool.false_eq_true,if_false]at h
   cases h
   exact⟨e,ti,l,c0,ht,l6,hl,kT,hc.1,hc.2.1,hc.2.2,_,rfl⟩
theorem rz {ts:TypeId}{n:Nat}{ps:Array (Nat × Operand)}{σ:St}{g:FuncId}{args:List SV}(h:XV V (.buildSlice ts n ps) σ=.call g args):False:=by
 unfold XV at h
 simp only[pv,Gx,Yl,Xv]at h
 cases hx:Xa V (some 0) ts n ps.toList σ with
 | none=>rw[hx]at h;simp only[dN]at h;cases h
 | some y =>
   rw[hx]at h
   obtain⟨c',σ'⟩:=y
   simp only[dN]at h
   split at h
   ·split at h <;> cases h
   ·cases h
structure CT (F:Fx V) (ops:Array Oper) (t0:List (Nat × SV)) (b0:List aw) (recs:List jV) (T:Nat→List (Nat × SV)) (B:Nat→List aw) (σ:St):Prop where
 t0:∀ d,lk d (T 0)=lk d t0
 b0:B 0=b0
 t:∀ i,i<recs.length→∀ d,lk d (T (i+1))=lk d (put (gJ ops i) (recs.getD i bT).x (T i))
 b:∀ i,i<recs.length→B (i+1)=(recs.getD i bT).nb.getD (B i)
 op:∀ i,i<recs.length→∀ F':Fx V,F'.n=F.n→wE F' ops i (T i) (B i) (recs.getD i bT)
 un:∀ i,i<recs.length→UnE (recs.getD i bT) (B i)
 te:T recs.length=σ.t
 be:B recs.length=σ.b
 fl:∀ i,i<recs.length→eF ops i=true→∃ d z Ta q,CV F ops (recs.getD i bT) (T i) (B i) i d z Ta q
theorem CT.step {ops:Array Oper}{t0:List (Nat × SV)}{b0:List aw}{recs:List jV}{T:Nat→List (Nat × SV)}{B:Nat→List aw}{σ:St}(h:CT F ops t0 b0 recs T B σ){o:Oper}(ho:ops[recs.length]? = some o)(r:jV)(tt:List (Nat × SV))
 (vG:∀ d,lk d tt=lk d (put o.dst r.x σ.t)) (F9:∀ F':Fx V,F'.n=F.n→wE F' ops recs.length σ.t σ.b r) (Im:UnE r σ.b) (kT:eF ops recs.length=true→∃ d z Ta q,CV F ops r σ.t σ.b recs.length d z Ta q) :
 CT F ops t0 b0 (recs++[r]) (fun i=>if i=recs.length+1 then tt else T i) (fun i=>if i=recs.length+1 then r.nb.getD σ.b else B i) ⟨tt,r.nb.getD σ.b⟩:=by
 have jK:(recs++[r]).getD recs.length bT=r:=by simp[zKq]
 have B7:∀ i,i<recs.length→(recs++[r]).getD i bT=recs.getD i bT:=fun i hi=>by simp[zKq,zKh hi]
 have hd:gJ ops recs.length=o.dst:=by unfold gJ;rw[ho];rfl
 refine⟨?_,?_,fun i hi=>?_,fun i hi=>?_,fun i hi=>?_,fun i hi=>?_,?_,?_,fun i hi hf=>?_⟩
 ·simp only[if_neg (show (0:Nat)≠recs.length+1 by omega)];exact h.t0
 ·simp only[if_neg (show (0:Nat)≠recs.length+1 by omega)];exact h.b0
 all_goals try (rw[zKb,zKi]at hi)
 ·intro d
  simp only[if_neg (show i≠recs.length+1 by omega)]
  by_cases he:i=recs.length
  ·subst he
   simp only[if_true]
   rw[jK,hd,h.te]
   exact vG d
  ·rw[if_neg (by omega),B7 i (by omega)]
   exact h.t i (by omega) d
 ·simp only[if_neg (show i≠recs.length+1 by omega)]
  by_cases he:i=recs.length
  ·subst he
   simp only[if_true]
   rw[jK,h.be]
  ·rw[if_neg (by omega),B7 i (by omega)]
   exact h.b i (by omega)
 ·simp only[if_neg (show i≠recs.length+1 by omega)]
  by_cases he:i=recs.length
  ·subst he
   rw[jK,h.te,h.be]
   exact F9
  ·rw[B7 i (by omega)]
   exact h.op i (by omega)
 ·simp only[if_neg (show i≠recs.length+1 by omega)]
  by_cases he:i=recs.length
  ·subst he
   rw[jK,h.be]
   exact Im
  ·rw[B7 i (by omega)]
   exact h.un i (by omega)
 ·simp
 ·simp
 ·simp only[if_neg (show i≠recs.length+1 by omega)]
  by_cases he:i=recs.length
  ·subst he
   rw[jK,h.te,h.be]
   exact kT hf
  ·rw[B7 i (by omega)]
   exact h.fl i (by omega) hf
def Dx (r:jV):Rk:=⟨r.nb.isSome,r.all,r.rd,r.wr⟩
theorem H4 {ops:Array Oper}{t0:List (Nat × SV)}{b0:List aw}{E:Fin}{k:List Item}:∀ (f:Nat)(l pre:List Oper)(recs:List jV)(T:Nat→List (Nat × SV))(B:Nat→List aw)(σ:St),ops.toList=pre++l→recs.length=pre.length →
 CT F ops t0 b0 recs T B σ→dx V F.n E f (.lv ops l (recs.map Dx)::k) σ →
 ∃ f' recs' T' B' σ',f'<f∧recs'.length=ops.size∧CT F ops t0 b0 recs' T' B' σ'∧JI ops (recs'.map Dx)∧dx V F.n E f' k σ':=by
 intro f
 induction f with
 | zero=>intro l pre recs T B σ _ _ _ h;cases l <;> simp[dx]at h
 | succ f ih =>
   intro l pre recs T B σ hops hlen hlex h
   match l with
   | [] =>
     simp only[dx]at h
     refine⟨f,recs,T,B,σ,zKv _,?_,hlex,h.1,h.2⟩
     have:=congrArg List.length hops
     simp at this
     omega
   | o::r =>
     have ho:ops[recs.length]? = some o:=by
      have:ops.toList[recs.length]? = some o:=by rw[hops,hlen];simp
      simpa using this
     have next:∀ (rc:jV) (tt:List (Nat × SV)),(∀ d,lk d (put o.dst rc.x tt)=lk d (put o.dst rc.x σ.t))→(∀ F':Fx V,F'.n=F.n→wE F' ops recs.length σ.t σ.b rc)→UnE rc σ.b→(eF ops recs.length=true→∃ d z Ta q,CV F ops rc σ.t σ.b recs.length d z Ta q) →
      dx V F.n E f (.lv ops r (recs.map Dx++[Dx rc])::k) ⟨Vc.put o.dst rc.x tt,rc.nb.getD σ.b⟩ →
      ∃ f' recs' T' B' σ',f'<f+1∧recs'.length=ops.size∧CT F ops t0 b0 recs' T' B' σ'∧JI ops (recs'.map Dx)∧dx V F.n E f' k σ':=fun rc tt vG F9 Im hflr hv=>by
      obtain⟨f',recs',T',B',σ',h1,h2,h3,h4,h5⟩:=ih r (pre++[o]) (recs++[rc]) _ _ _ (by rw[hops];simp) (by simp[hlen]) (hlex.step ho rc (Vc.put o.dst rc.x tt) vG F9 Im hflr) (by simpa using hv)
      exact⟨f',recs',T',B',σ',by omega,h2,h3,h4,h5⟩
     have Ch:eF ops recs.length=true→o.guard=none∧∃ d,o.dst=some d∧((∃ Ta,o.op=.alloc Ta)∨∃ ts n ps,o.op=.buildSlice ts n ps):=fun h=>by
      unfold eF at h
      rw[ho]at h
      split at h
      ·rename_i e;cases e;exact⟨rfl,_,rfl,.inl ⟨_,rfl⟩⟩
      ·rename_i e;cases e;exact⟨rfl,_,rfl,.inr ⟨_,_,_,rfl⟩⟩
      ·cases h
     have hdat:gJ ops recs.length=o.dst:=by unfold gJ;rw[ho];rfl
     obtain⟨dst,op,ty,pos,after,guard⟩:=o
     simp only at Ch hdat
     -- one operation, wanted
     have go:∀ (tt:List (Nat × SV)),(∀ e,lk e tt=lk e σ.t)→(∀ F':Fx V,F'.n=F.n→∀ (ta:List (Nat × SV)) (ba:List aw) (a:Act) (w:World),Rel F' ⟨ta,ba⟩ a w→(∀ d∈(⟨dst,op,ty,pos,after,guard⟩:Oper).looksAt ops,lk d ta=lk d σ.t)→Region.wanted ⟨dst,op,ty,pos,after,guard⟩ (yielded ops a.tmps)=true) →
      fits F.n dst=true→Yg V F.n E f ops r (recs.map Dx) k dst ⟨tt,σ.b⟩ (XV V op ⟨tt,σ.b⟩) →
      ∃ f' recs' T' B' σ',f'<f+1∧recs'.length=ops.size∧CT F ops t0 b0 recs' T' B' σ'∧JI ops (recs'.map Dx)∧dx V F.n E f' k σ':=fun tt vG BX cY Aj=>by
      have Iy:∀ x d,lk d (put dst x tt)=lk d (put dst x σ.t):=fun x d=>iV (vG d)
      have hfit':∀ F':Fx V,F'.n=F.n→fits F'.n dst=true:=fun F' e=>by rw[e];exact cY
      have vF:∀ {c:Prop} {rc:jV},XV V op ⟨tt,σ.b⟩=.val c rc→c→eF ops recs.length=true→∃ d z Ta q,CV F ops rc σ.t σ.b recs.length d z Ta q:=fun {c rc} hs hc hf=>by
       obtain⟨hg,d,hd,⟨Ta,F9⟩|⟨ts,n,ps,F9⟩⟩:=Ch hf
       ·subst F9
        obtain⟨ti,l6,hrc⟩:=AG hs
        refine⟨d,ti.zero,Ta,none,hdat.trans hd,?_,⟨_,hrc⟩,trivial,_,ho,hg,fun β m tt' a w hfm oM β' hβ=>?_⟩
        ·rw[hd]at cY
         simpa[fits] using cY
        ·rw[(V.iH Ta ti l6).flat β']
         exact cn (xN (V:=V) Ta ti l6 w)
       ·subst F9
        obtain⟨e,ti,l,c0,h1,h2,h3,h4,h5,h6,h7,W,hrc⟩:=AF hs hc
        have jL:=oe h4
        refine⟨d,c0,e,some (ti.size,n),hdat.trans hd,?_,⟨W,hrc⟩,⟨by rw[jL,h5],?_⟩,_,ho,hg,fun β m tt' a w hfm oM β' hβ=>?_⟩
        ·rw[hd]at cY
         simpa[fits] using cY
        ·unfold maxLen
         have:n * 1≤n * ti.size:=Nat.mul_le_mul_left _ h7
         omega
        ·have hev:=vv (ops:=ops) (o:=⟨dst,.buildSlice ts n ps,ty,pos,after,guard⟩) (t:=tt) (t':=tt') (fun d hd=>(oM d hd).trans (vG d).symm)
         have h3':Xl tt' ps.toList=some l:=by
          rw[ig (t:=tt') (t':=tt) ps.toList (fun x hx=>hev x (by simp only[Op.operands];rw[List.mem_toArray];exact hx))]
          exact h3
         exact cn (GL (F:=F) h1 h2 h3' h4 h5 h6 h7 hfm w β' hβ)
      have hnc:∀ {g:FuncId} {args:List SV} {rc:jV},XV V op ⟨tt,σ.b⟩=.call g args→eF ops recs.length=true→∃ d z Ta q,CV F ops rc σ.t σ.b recs.length d z Ta q:=fun {g args rc} hs hf=>by
       obtain⟨-,d,-,⟨Ta,F9⟩|⟨ts,n,ps,F9⟩⟩:=Ch hf
       ·rw[F9]at hs
        exact(rA hs).elim
       ·rw[F9]at hs
        exact(rz hs).elim
      cases xf:XV V op ⟨tt,σ.b⟩ with
      | val c rc =>
        rw[xf]at Aj
        obtain⟨x,nb,al,rd,wr⟩:=rc
        cases nb with
        | none =>
          simp only[Yg]at Aj
          exact next ⟨x,none,al,rd,wr⟩ tt (Iy x) (fun F' e=>EP ho (hfit' F' e) xf Aj.1 vG (BX F' e)) (AE xf Aj.1) (vF xf Aj.1) Aj.2
        | some nb =>
          simp only[Yg]at Aj
          exact next ⟨x,some nb,al,rd,wr⟩ tt (Iy x) (fun F' e=>EP ho (hfit' F' e) xf Aj.1 vG (BX F' e)) (AE xf Aj.1) (vF xf Aj.1) Aj.2
      | call g args =>
        rw[xf]at Aj
        simp only[Yg,yu]at Aj
        rcases Aj with⟨x,hpc,hv⟩|⟨x,nb,ou,hv⟩|⟨x,nb,W,ou,hout,hv⟩
        ·exact next ⟨x,none,false,[],[]⟩ tt (Iy x) (fun F' e=>ve ho (hfit' F' e) xf vG (.inl ⟨x,hpc,rfl⟩) (BX F' e)) (yA _ rfl _) (hnc xf) hv
        ·exact next ⟨x,some nb,true,[],[]⟩ tt (Iy x) (fun F' e=>ve ho (hfit' F' e) xf vG (.inr ⟨x,nb,true,[],ou,rfl⟩) (BX F' e)) (fun _ _ h=>by cases h) (hnc xf) hv
        ·exact next ⟨x,some nb,false,[],W⟩ tt (Iy x) (fun F' e=>ve ho (hfit' F' e) xf vG (.inr ⟨x,nb,false,W,ou,rfl⟩) (BX F' e)) (fun _ h _ j q hq=>by cases h;exact hout j q hq) (hnc xf) hv
      | bad=>rw[xf]at Aj;simp[Yg]at Aj
     cases guard with
     | none =>
       simp only[dx]at h
       exact go σ.t (fun _=>rfl) (fun F' _ ta _ a _ _ _=>Aq rfl a) h.1 h.2
     | some q =>
       obtain⟨j,want⟩:=q
       simp only[dx]at h
       obtain⟨cY,h⟩:=h
       have hfit':∀ F':Fx V,F'.n=F.n→fits F'.n dst=true:=fun F' e=>by rw[e];exact cY
       have hng:∀ {rc:jV},eF ops recs.length=true→∃ d z Ta q,CV F ops rc σ.t σ.b recs.length d z Ta q:=fun hf=>by
        have:=(Ch hf).1
        cases this
       cases hg:Yk σ.t (iI ops.toList j) with
       | none =>
         cases hu:gvU σ.t (iI ops.toList j) with
         | false=>rw[hg,hu]at h;simp[Xy]at h
         | true =>
           rw[hg,hu]at h
           simp only[Xy,XG]at h
           obtain⟨d,x,hgd,oM,pq⟩:=I6 hu
           refine next ⟨.v undef,none,false,[],[]⟩ σ.t (fun _=>rfl) (fun F' e=>Bx ho (hfit' F' e) (fun ta ba a w hr hl=>by
            obtain⟨β,fp,hf,-⟩:=hr
            have hy:=I5 (hf.ok β (ct.refl _ _)) hgd (by rw[hl d (tu rfl hgd)];exact oM) pq
            simp[Region.wanted,hy])) (yA _ rfl _) hng h
       | some q =>
         obtain⟨d,b⟩:=q
         rw[hg]at h
         simp only[Xy,XG]at h
         obtain⟨hd,h1,h2⟩:=h
         obtain⟨oM,hgd⟩:=gval_lk hg
         have Ii:∀ F':Fx V,F'.n=F.n→∀ (ta:List (Nat × SV)) (ba:List aw) (a:Act) (w:World),Rel F' ⟨ta,ba⟩ a w→(∀ e∈(⟨dst,op,ty,pos,after,some (j,want)⟩:Oper).looksAt ops,lk e ta=lk e σ.t)→yielded ops a.tmps j=some b:=fun F' _ ta ba a w hr hl=>by
          obtain⟨β,fp,hf,-⟩:=hr
          exact(Cl (hf.ok β (ct.refl _ _)) (Gw hg (hl d (tu rfl hgd)))).1
         by_cases hb:b=want
         ·subst hb
          exact go ((d,.bool b)::σ.t) (BD oM) (fun F' e ta ba a w hr hl=>by simp[Region.wanted,Ii F' e ta ba a w hr hl]) cY (h1 rfl)
         ·have hb':b=!want:=by cases b <;> cases want <;> simp at hb ⊢
          have hv:=h2 hb'
          rw[← hb']at hv
          exact next ⟨.v undef,none,false,[],[]⟩ ((d,.bool b)::σ.t) (fun e=>iV (BD oM e)) (fun F' e=>Bx ho (hfit' F' e) (fun ta ba a w hr hl=>by simp[Region.wanted,Ii F' e ta ba a w hr hl,hb])) (yA _ rfl _) hng hv
end
open Go Go.RowKit Wf
section
variable {V:Cx} {F:Fx V}
theorem wp_then {P:Program}{o:Oper}{a:Act}{w:World}{N K:Act→World→Prop}{Q:Exit→Act→World→Prop}(hk:∀ a w,N a w→K a w)(h:o.wp P a w (fun a w=>Exit.then N Q .normal a w) (Exit.then N Q)):o.wp P a w K Q:=by
 refine Oper.wp_mono hk ?_
 unfold Oper.wp at *
 generalize (execOp a.eval o).run P w=r at *
 cases r with
 | ok n w' =>
   cases n <;> simp only[Oper.upon]at h ⊢ <;> exact h
 | halt x w'=>cases x <;> simp only[Oper.upon]at h ⊢ <;> exact h
theorem FX {N:Act→World→Prop}{Q:Exit→Act→World→Prop}(h:LetsOut (Exit.then N Q)):LetsOut Q:=h
def aoV (P:Program)(ops:Array Oper)(L:List Nat)(t:OT)(Q:Exit→Act→World→Prop)(a:Act)(w:World):Prop :=
 (OT.wY ops L t=true→wpAny P .any ops Q (ops.size - L.length) (sq ops.size L) a w) ∧
 (OT.wY.GU ops L t=true→L.length<ops.size→∀ i∈t.vR,wpOp P ops Q i (wpAny P .any ops Q (ops.size - (L.length+1)) (sq ops.size (i::L))) a w)
def pW (F:Fx V)(Qf:Exit→Act→World→Prop):List Item→Exit→Act→World→Prop
 | []=>Qf
 | .code c::k=>Exit.then (c.wp V.P (pW F Qf k)) (pW F Qf k)
 | .ops ops l::k=>Exit.then (wpList V.P ops (pW F Qf k) l) (pW F Qf k)
 | .lv _ _ _::k=>Exit.then (fun _ _=>True) (pW F Qf k)
 | .iy ops L t::k=>Exit.then (fun a w=>OT.wY ops L t=true∨OT.wY.GU ops L t=true→aoV V.P ops L t (pW F Qf k) a w) (pW F Qf k)
 | .cut J::k=>Exit.then (fun a w=>∃ σ,J σ∧Rel F σ a w) (pW F Qf k)
 | .zQ id::k=>Exit.inBlock id (pW F Qf k)
 | .zP I μ m::k=>Exit.then (fun a w=>∃ σ,I σ∧μ σ<m∧Rel F σ a w) (pW F Qf k)
theorem iA {Qf:Exit→Act→World→Prop}{id:Nat}{a:Act}{w:World}:∀ {k k':List Item},XE id k=some k'→pW F Qf k' .normal a w→pW F Qf k (.exit id) a w
 | [],k',h,_=>by simp[XE]at h
 | .code c::k,k',h,hq=>by simp only[XE]at h;exact iA (k:=k) h hq
 | .ops ops l::k,k',h,hq=>by simp only[XE]at h;exact iA (k:=k) h hq
 | .zP _ _ _::k,k',h,hq=>by simp only[XE]at h;exact iA (k:=k) h hq
 | .lv _ _ _::k,k',h,hq=>by simp only[XE]at h;exact iA (k:=k) h hq
 | .iy _ _ _::k,k',h,hq=>by simp only[XE]at h;exact iA (k:=k) h hq
 | .cut _::k,k',h,hq=>by simp only[XE]at h;exact iA (k:=k) h hq
 | .zQ id'::k,k',h,hq=>by
   simp only[XE]at h
   show Exit.inBlock id' (pW F Qf k) (.exit id) a w
   split at h
   ·rename_i e
    cases h
    simp only[Exit.inBlock,if_pos e.symm]
    exact hq
   ·rename_i e
    simp only[Exit.inBlock,if_neg (fun q=>e (Eq.symm q))]
    exact iA (k:=k) h hq
theorem kB {Qf:Exit→Act→World→Prop}{a:Act}{w:World}(hq:Qf .ret a w):∀ (k:List Item),pW F Qf k .ret a w
 | []=>hq
 | .code c::k=>kB hq k
 | .ops ops l::k=>kB hq k
 | .zP _ _ _::k=>kB hq k
 | .lv _ _ _::k=>kB hq k
 | .iy _ _ _::k=>kB hq k
 | .cut _::k=>kB hq k
 | .zQ id'::k=>kB hq k
theorem gh {Qf:Exit→Act→World→Prop}{c:List PanicEntry}{a:Act}{w:World}:∀ (k:List Item),pW F Qf k (.panic c) a w→Qf (.panic c) a w
 | [],h=>h
 | .code _::k,h=>gh k h
 | .ops _ _::k,h=>gh k h
 | .lv _ _ _::k,h=>gh k h
 | .iy _ _ _::k,h=>gh k h
 | .cut _::k,h=>gh k h
 | .zQ _::k,h=>gh k h
 | .zP _ _ _::k,h=>gh k h
theorem xg {E:Fin}{n f:Nat}{ops:Array Oper}{r:List Oper}{k:List Item}{s:iz}(h:Yc V n E f ops r k s):jW V (fun σ=>dx V n E f (.ops ops r::k) σ) s:=by
 cases s <;> simp only[Yc]at h
 ·exact h
 ·unfold yr at h;exact h
theorem Fp {E:Fin}{Qf:Exit→Act→World→Prop}(hn:∀ σ a w,El V E σ (XT V σ E.rs)→Rel F σ a w→Qf .normal a w)(hret:∀ σ a w,El V E σ (XT V σ E.rs)→Rel F σ a w→Qf .ret a w)(hpan:∀ c a w,¬ Qf (.panic c) a w) :
 ∀ (f:Nat) (items:List Item) (σ:St),dx V F.n E f items σ→∀ a w,Rel F σ a w→pW F Qf items .normal a w:=by
 intro f
 induction f using Nat.strongRecOn with
 | _ f0 ihs =>
 cases f0 with
 | zero=>intro items σ h;cases items <;> simp[dx]at h
 | succ f =>
   have ih:∀ (items:List Item) (σ:St),dx V F.n E f items σ→∀ a w,Rel F σ a w→pW F Qf items .normal a w:=ihs f (zKv _)
   have step:∀ (ops:Array Oper) (o:Oper) (r:List Oper) (k:List Item) (σ:St) (a:Act) (w:World),fits F.n o.dst=true→Yc V F.n E f ops r k (XR V o.dst o.op σ)→Rel F σ a w →
    o.wp V.P a w (wpList V.P ops (pW F Qf k) r) (pW F Qf k):=fun ops o r k σ a w cY h hr=>by
    refine Oper.wp_mono (fun a w ⟨σ',h1,h2⟩=>?_) (nc (F:=F) cY (xg h) hr o.type o.pos o.after o.guard _)
    exact ih (.ops ops r::k) σ' h1 a w h2
   intro items σ h a w hr
   match items with
   | []=>simp only[dx]at h;exact hn σ a w h hr
   | .zQ id::k=>simp only[dx]at h;exact ih k σ h a w hr
   | .zP I μ m::k=>simp only[dx]at h;exact⟨σ,h.1,h.2,hr⟩
   | .lv ops l rs::k=>exact trivial
   | .cut J::k=>simp only[dx]at h;exact⟨σ,h,hr⟩
   | .iy ops L .leaf::k =>
     simp only[dx]at h
     refine fun _=>⟨fun cV=>?_,fun cV=>by simp[OT.wY.GU]at cV⟩
     simp only[OT.wY,List.isEmpty_iff]at cV
     have hq:pW F Qf k .normal a w:=ih k σ h a w hr
     cases hf:ops.size - L.length with
     | zero=>exact⟨cV,hq⟩
     | succ m=>exact⟨fun _=>hq,fun i hi=>by rw[cV]at hi;cases hi⟩
   | .iy ops L (.one i t)::k =>
     simp only[dx]at h
     have j1:OT.wY ops (i::L) t=true→i<ops.size→wpOp V.P ops (pW F Qf k) i (wpAny V.P .any ops (pW F Qf k) (ops.size - (L.length+1)) (sq ops.size (i::L))) a w:=fun cV hi=>by
      have h1:wpList V.P ops (pW F Qf (.iy ops (i::L) t::k)) (om ops.toList i) a w:=ih _ σ h a w hr
      have ho:ops[i]? = some ops[i]:=zKs hi
      have hn:om ops.toList i=[ops[i]]:=by rw[tY];simp[ho]
      rw[hn]at h1
      have hk:∀ a w,pW F Qf (.iy ops (i::L) t::k) .normal a w→wpAny V.P .any ops (pW F Qf k) (ops.size - (L.length+1)) (sq ops.size (i::L)) a w:=fun a w hq=>(hq (.inl cV)).1 cV
      unfold wpOp
      rw[ho]
      simp only[wpList]at h1 ⊢
      split
      ·rename_i hw
       rw[if_pos hw]at h1
       rcases h1 with h1|⟨h1,h2⟩
       ·refine .inl ?_
        exact wp_then hk h1
       ·exact .inr ⟨h1,FX h2⟩
      ·rename_i hw
       rw[if_neg hw]at h1
       exact hk _ _ h1
     refine fun _=>⟨fun cV=>?_,fun cV hL j hj=>?_⟩
     ·simp only[OT.wY,zJ9,decide_eq_true_eq,beq_iff_eq]at cV
      obtain⟨⟨hL,hrd⟩,cV⟩:=cV
      obtain⟨m,hm⟩:∃ m,ops.size - L.length=m+1:=⟨ops.size - L.length - 1,by omega⟩
      have hm':ops.size - (L.length+1)=m:=by omega
      rw[hm' ]at j1
      rw[hm]
      refine⟨fun h0=>by rw[h0]at hrd;simp at hrd,fun j hj=>?_⟩
      have hi:i<ops.size:=by
       have h1:i∈Region.ready .any ops (sq ops.size L):=by rw[hrd];exact List.mem_singleton.2 rfl
       obtain⟨o,ho,_⟩:=(mem_ready.1 h1).2
       exact(zKg.1 ho).1
      rw[hrd,List.mem_singleton]at hj
      subst hj
      exact j1 cV hi
     ·simp only[OT.vR,List.mem_singleton]at hj
      subst hj
      simp only[OT.wY.GU]at cV
      by_cases hi:j<ops.size
      ·exact j1 cV hi
      ·unfold wpOp
       rw[Array.getElem?_eq_none (by omega)]
       have h1:wpList V.P ops (pW F Qf (.iy ops (j::L) t::k)) (om ops.toList j) a w:=ih _ σ h a w hr
       rw[tY,show ops.toList[j]? = none from by simp;omega]at h1
       exact(h1 (.inl cV)).1 cV
   | .iy ops L (.alt x y)::k =>
     simp only[dx]at h
     have hx:OT.wY.GU ops L x=true→_:=fun cV=>(ih (.iy ops L x::k) σ h.1 a w hr (.inr cV)).2 cV
     have hy:OT.wY.GU ops L y=true→_:=fun cV=>(ih (.iy ops L y::k) σ h.2 a w hr (.inr cV)).2 cV
     refine fun _=>⟨fun cV=>?_,fun cV hL j hj=>?_⟩
     ·simp only[OT.wY,zJ9,decide_eq_true_eq,Bool.not_eq_true',zKc]at cV
      obtain⟨⟨⟨⟨hL,bt⟩,a6⟩,h1⟩,h2⟩:=cV
      obtain⟨m,hm⟩:∃ m,ops.size - L.length=m+1:=⟨ops.size - L.length - 1,by omega⟩
      have hm':ops.size - (L.length+1)=m:=by omega
      rw[hm']at hx hy
      rw[hm]
      refine⟨fun h0=>by rw[h0]at bt;simp at bt,fun j hj=>?_⟩
      have pw:=zKz.1 (a6 j hj)
      have dL:(sq ops.size L).setIfInBounds j true=sq ops.size (j::L):=rfl
      rw[dL]
      simp only[OT.vR,List.mem_append]at pw
      rcases pw with hm|hm
      ·exact hx h1 hL j hm
      ·exact hy h2 hL j hm
     ·simp only[OT.wY.GU,zJ9]at cV
      simp only[OT.vR,List.mem_append]at hj
      rcases hj with hj|hj
      ·exact hx cV.1 hL j hj
      ·exact hy cV.2 hL j hj
   | .iy ops L (.bO i t)::k =>
     simp only[dx]at h
     refine fun _=>⟨fun cV=>?_,fun cV=>by simp[OT.wY.GU]at cV⟩
     simp only[OT.wY,zJ9,decide_eq_true_eq]at cV
     obtain⟨⟨⟨⟨hL,hns⟩,j5⟩,hrd⟩,cV⟩:=cV
     obtain⟨m,hm⟩:∃ m,ops.size - L.length=m+1:=⟨ops.size - L.length - 1,by omega⟩
     have hi:i<ops.size:=by
      obtain⟨o,ho,_⟩:=(mem_ready.1 (zKz.1 hrd)).2
      exact(zKg.1 ho).1
     have ho:ops[i]? = some ops[i]:=zKs hi
     have hn:om ops.toList i=[ops[i]]:=by rw[tY];simp[ho]
     rw[hn]at h
     generalize hoi:ops[i]=oi at h ho
     obtain⟨dst,op,ty,pos,after,guard⟩:=oi
     cases guard with
     | some g=>simp[EJ]at h
     | none =>
     simp only[EJ]at h
     obtain⟨cY,h⟩:=h
     cases hp:pv V.Γ σ.t op with
     | none=>rw[hp]at h;simp[EI]at h
     | some p =>
     obtain⟨c,x⟩:=p
     rw[hp]at h
     simp only[EI]at h
     obtain⟨hc,h⟩:=h
     obtain⟨β,fp,hf,hw⟩:=hr
     have hy:Yields V.P ops ⟨dst,op,ty,pos,after,none⟩ (ai β x) a:=.inl ⟨by simp[Region.wanted],fun w=>xQ (o:=⟨dst,op,ty,pos,after,none⟩) V.iH (hf.ok β (ct.refl _ _)) hp hc w⟩
     rw[hm]
     refine wpAny_take ho hns j5 hrd (fun c a w hq=>absurd (gh k hq) (hpan c _ w)) hy ?_
     have hrel:Rel F ⟨put dst x σ.t,σ.b⟩ (a.put dst (ai β x)) w:=⟨β,fp,hf.put cY (fun β' hβ=>?_),hw⟩
     ·have h1:=(ih (.iy ops (i::L) t::k) _ h _ w hrel (.inl cV)).1 cV
      have hm':ops.size - (L.length+1)=m:=by omega
      rw[zKD,hm']at h1
      exact h1
     ·have h1:=xQ (o:=⟨dst,op,ty,pos,after,none⟩) V.iH (hf.ok β (ct.refl _ _)) hp hc w
      have h2:=xQ (o:=⟨dst,op,ty,pos,after,none⟩) V.iH (hf.ok β' hβ) hp hc w
      rw[h1]at h2
      injection h2 with h2
      injection h2
   | .ops ops []::k=>simp only[dx]at h;exact ih k σ h a w hr
   | .ops ops (⟨dst,op,ty,pos,after,none⟩::r)::k =>
     simp only[dx]at h
     show wpList V.P ops (pW F Qf k) (⟨dst,op,ty,pos,after,none⟩::r) a w
     unfold wpList
     rw[if_pos (by simp[Region.wanted])]
     exact .inl (step ops ⟨dst,op,ty,pos,after,none⟩ r k σ a w h.1 h.2 hr)
   | .ops ops (⟨dst,op,ty,pos,after,some (j,want)⟩::r)::k =>
     simp only[dx]at h
     obtain⟨cY,h⟩:=h
     show wpList V.P ops (pW F Qf k) (⟨dst,op,ty,pos,after,some (j,want)⟩::r) a w
     cases hg:Yk σ.t (iI ops.toList j) with
     | none =>
       cases hu:gvU σ.t (iI ops.toList j) with
       | false=>rw[hg,hu]at h;simp[XA]at h
       | true =>
         rw[hg,hu]at h
         simp only[XA,XG]at h
         obtain⟨d,x,hgd,oM,pq⟩:=I6 hu
         obtain⟨β,fp,hf,hw⟩:=hr
         have hy:=I5 (hf.ok β (ct.refl _ _)) hgd oM pq
         unfold wpList
         rw[if_neg (by simp[Region.wanted,hy])]
         exact ih (.ops ops r::k) _ h _ w ⟨β,fp,hf.put cY (fun _ _=>rfl),hw⟩
     | some p =>
       obtain⟨d,b⟩:=p
       rw[hg]at h
       simp only[XA,XG]at h
       obtain⟨hd,h1,h2⟩:=h
       obtain⟨β,fp,hf,hw⟩:=hr
       obtain⟨hy,hv⟩:=Cl (hf.ok β (ct.refl _ _)) hg
       unfold wpList
       by_cases hb:b=want
       ·subst hb
        rw[if_pos (by simp[Region.wanted,hy])]
        exact .inl (step ops ⟨dst,op,ty,pos,after,some (j,b)⟩ r k _ a w cY (h1 rfl) ⟨β,fp,hf.relit (fun _ _=>hv),hw⟩)
       ·have hb':b=!want:=by cases b <;> cases want <;> simp at hb ⊢
        rw[if_neg (by simp[Region.wanted,hy,hb])]
        exact ih (.ops ops r::k) _ (h2 hb') _ w ⟨β,fp,(hf.relit (x:=.bool (!want)) (fun _ _=>by rw[← hb'];exact hv)).put cY (fun _ _=>rfl),hw⟩
   | .code c::k =>
     show c.wp V.P (pW F Qf k) a w
     cases c with
     | skip=>simp only[dx]at h;exact wp_skip (ih k σ h a w hr)
     | region id ops draw =>
       cases draw
       ·simp only[dx]at h
        exact wp_region_list (ih (.ops ops ops.toList::k) σ h a w hr)
       ·simp only[dx]at h
        cases hw:E.how id with
        | all t =>
          rw[hw]at h
          simp only[DA]at h
          obtain⟨cV,J,h1,h2⟩:=h
          refine wp_mono (Q:=pW F Qf (.cut J::k)) (wp_region_any V.mixed ?_) (fun e a' w' hq=>?_)
          ·have h3:=(ih (.iy ops [] t::.cut J::k) σ h1 a { w with drawn:=w.drawn+1 } (HL hr) (.inl cV)).1 cV
           exact h3
          ·cases e with
           | normal =>
             obtain⟨σ',hj,hr'⟩:=hq
             exact ih k σ' (h2 σ' hj) a' w' hr'
           | _=>exact hq
        | ord p =>
        rw[hw]at h
        simp only[DA]at h
        obtain⟨hpm,h⟩:=h
        refine wp_region_any V.mixed (Da p hpm ?_)
        generalize qn ops p=ops at h ⊢
        cases f with
        | zero=>simp[dx]at h
        | succ f1 =>
        have hlex:CT F ops σ.t σ.b [] (fun _=>σ.t) (fun _=>σ.b) σ:=⟨fun _=>rfl,rfl,fun i hi=>by simp at hi,fun i hi=>by simp at hi,fun i hi=>by simp at hi,fun i hi=>by simp at hi,rfl,rfl,fun i hi=>by simp at hi⟩
        obtain⟨f',recs,T,B,σ',aC,hlen,hl,cV,hv⟩:=H4 (f1+1) ops.toList [] [] _ _ σ (by simp) rfl hlex h
        classical
        have hch:∃ G:FlD,∀ k,eF ops k=true→CV F ops (recs.getD k bT) (T k) (B k) k (G.d k) (G.z k) (G.T k) (G.q k)∧G.L k=(B k).length:=by
         have h1:∀ k,∃ p:Nat × List SV × TypeId × Option (Nat × Nat),eF ops k=true→CV F ops (recs.getD k bT) (T k) (B k) k p.1 p.2.1 p.2.2.1 p.2.2.2:=fun k=>by
          by_cases hk:eF ops k=true
          ·have aC:k<recs.length:=by
            unfold eF at hk
            split at hk
            ·rename_i e
             rw[hlen]
             exact(zKg.1 e).1
            ·rename_i e
             rw[hlen]
             exact(zKg.1 e).1
            ·cases hk
           obtain⟨d,z,Ta,q,h⟩:=hl.fl k aC hk
           exact⟨(d,z,Ta,q),fun _=>h⟩
          ·exact⟨(0,[],0,none),fun h=>absurd h hk⟩
         exact⟨⟨fun k=>(Classical.choose (h1 k)).1,fun k=>(Classical.choose (h1 k)).2.1,fun k=>(Classical.choose (h1 k)).2.2.1,fun k=>(B k).length,fun k=>(Classical.choose (h1 k)).2.2.2⟩,fun k hk=>⟨Classical.choose_spec (h1 k) hk,rfl⟩⟩
        obtain⟨G,hG⟩:=hch
        refine Js (recs:=recs) G T B hl.t0 hl.b0 (fun i hi=>hl.t i (by omega)) (fun i hi=>hl.b i (by omega)) (fun i hi=>hl.op i (by omega)) (fun i hi=>hl.un i (by omega)) (fun k hk=>by obtain⟨⟨g1,g2,g3,g4⟩,g5⟩:=hG k hk;exact⟨g1,g2,g5,g3,g4⟩) hlen cV hr (fun a' w' hrel=>?_)
        rw[← hlen,hl.te,hl.be]at hrel
        exact ihs f' (by omega) k σ' hv a' w' hrel
     | seq x y=>simp only[dx]at h;exact wp_seq (ih (.code x::.code y::k) σ h a w hr)
     | cond c x y =>
       simp only[dx]at h
       cases hb:ev σ.t c with
       | none=>rw[hb]at h;simp[XN]at h
       | some v =>
         rw[hb]at h
         cases v <;> simp only[XN,XQ]at h
         rename_i b
         obtain⟨β,fp,hf,hw⟩:=hr
         exact wp_cond_split (t:=b) ((hf.ev hb (ct.refl _ β)).trans rfl) (fun e=>ih (.code x::k) σ (h.1 e) a w ⟨β,fp,hf,hw⟩) (fun e=>ih (.code y::k) σ (h.2 e) a w ⟨β,fp,hf,hw⟩)
     | block id x=>simp only[dx]at h;exact wp_block (ih (.code x::.zQ id::k) σ h a w hr)
     | exit id =>
       simp only[dx]at h
       cases hx:XE id k with
       | none=>rw[hx]at h;simp[XO]at h
       | some k' =>
         rw[hx]at h
         simp only[XO]at h
         exact wp_exit (iA hx (ih k' σ h a w hr))
     | ret=>simp only[dx]at h;exact wp_ret (kB (hret σ a w h hr) k)
     | loop x =>
       simp only[dx,ES]at h
       obtain⟨I,μ,h0,hround⟩:=h
       classical
       let S:Act→World→Nat→Prop:=fun a w n=>∃ σ,μ σ=n∧I σ∧Rel F σ a w
       let m:Act→World→Nat:=fun a w=>if h:∃ n,S a w n then Classical.choose (least h) else 0
       refine wp_loop (fun a w=>∃ n,S a w n) m ⟨μ σ,σ,rfl,h0,hr⟩ (fun a w hI=>?_)
       have hm:m a w=Classical.choose (least hI):=dif_pos hI
       obtain⟨σ',hμ,hI',hr'⟩:=(Classical.choose_spec (least hI)).1
       refine wp_mono (ih (.code x::.zP I μ (μ σ')::k) σ' (hround σ' hI') a w hr') ?_
       intro e a2 w2 h2
       cases e with
       | normal =>
         obtain⟨σ2,h3,h4,Iw⟩:=h2
         have hS:∃ n,S a2 w2 n:=⟨μ σ2,σ2,rfl,h3,Iw⟩
         refine⟨hS,?_⟩
         have hm2:m a2 w2=Classical.choose (least hS):=dif_pos hS
         have:=(Classical.choose_spec (least hS)).2 _ ⟨σ2,rfl,h3,Iw⟩
         rw[hm,hm2]
         omega
       | _=>exact h2
     | _=>simp[dx]at h
theorem o0 (how:Nat→How){f:FuncId}{fn:Func}{c:Code}{args:List SV}{bs:List aw}{R:SV→List aw→Prop}{n:Nat}{rs:Array ResultVar}(fuel:Nat)(hf:V.P.funcs[f]? = some fn)(hb:fn.body=some c)(hn:fn.ntmps=n)(hr:fn.results=rs)(vQ:Enters V f)
 (hlen:args.length≤n) (ou:∀ β β',ct bs.length β β'→bG β args=bG β' args) (h:dx V n ⟨rs.toList,R,how⟩ fuel [.code c] ⟨Yj 0 args,bs⟩):SC V f args bs R:=by
 refine sc_core hf hb hn hr vQ hlen ou (fun F hF a w hrel=>?_)
 subst hF
 refine Fp (Qf:=Qof F (kret V rs.toList R)) (fun σ a w h hr=>⟨σ,?_,hr⟩) (fun σ a w h hr=>⟨σ,?_,hr⟩) (fun c a w ⟨_,h,_⟩=>h) fuel [.code c] ⟨Yj 0 args,bs⟩ h a w hrel
 all_goals
  simp only at h
  cases hl:XT V σ rs.toList with
  | none=>rw[hl]at h;simp[El]at h
  | some l=>rw[hl]at h;simp only[kret,hl];exact h
theorem bJ {f:FuncId}{fn:Func}{c:Code}{args:List SV}{bs:List aw}{R:SV→List aw→Prop}{n:Nat}{rs:Array ResultVar}(fuel:Nat)(hf:V.P.funcs[f]? = some fn)(hb:fn.body=some c)(hn:fn.ntmps=n)(hr:fn.results=rs)(vQ:Enters V f)
 (hlen:args.length≤n) (ou:∀ β β',ct bs.length β β'→bG β args=bG β' args) (h:dx V n ⟨rs.toList,R,fun _=>.ord []⟩ fuel [.code c] ⟨Yj 0 args,bs⟩):SC V f args bs R :=
 o0 (fun _=>.ord []) fuel hf hb hn hr vQ hlen ou h
theorem aV {f:FuncId}{fn:Func}{c:Code}{args:List SV}{r:SV}{n:Nat}{rs:Array ResultVar}(fuel:Nat)(hf:V.P.funcs[f]? = some fn)(hb:fn.body=some c)(hn:fn.ntmps=n)(hr:fn.results=rs)(vQ:Enters V f)
 (hlen:args.length≤n) (fa:flat.af args=true) (fr:flat r=true) (h:dx V n ⟨rs.toList,fun r' _=>r'=r,fun _=>.ord []⟩ fuel [.code c] ⟨Yj 0 args,[]⟩):PC V f args r :=
 HU fa fr (bJ fuel hf hb hn hr vQ hlen (fun β β' _=>dT args fa β β') h)
theorem aa {E:Fin}{n f:Nat}{ops:Array Oper}{r:List Oper}{k:List Item}{g:FuncId}{args:List SV}{dst:Option Tmp}{σ:St}{x:SV}(h:PC V g args x)(h2:dx V n E f (.ops ops r::k) ⟨put dst x σ.t,σ.b⟩):yr V n E f ops r k g args dst σ:=by
 unfold yr;exact .inl ⟨x,h,h2⟩
theorem ae {E:Fin}{n f:Nat}{ops:Array Oper}{r:List Oper}{k:List Item}{g:FuncId}{args:List SV}{dst:Option Tmp}{σ:St}{R:SV→List aw→Prop}(h:SC V g args σ.b R)(h2:∀ x bs,R x bs→dx V n E f (.ops ops r::k) ⟨put dst x σ.t,bs⟩):yr V n E f ops r k g args dst σ:=by
 unfold yr;exact .inr ⟨R,h,h2⟩
theorem aW {E:Fin}{n f:Nat}{ops:Array Oper}{r:List Oper}{rs:List Rk}{k:List Item}{g:FuncId}{args:List SV}{dst:Option Tmp}{σ:St}{x:SV}(h:PC V g args x)(h2:dx V n E f (.lv ops r (rs++[⟨false,false,[],[]⟩])::k) ⟨put dst x σ.t,σ.b⟩):yu V n E f ops r rs k dst σ g args:=by
 unfold yu;exact .inl ⟨x,h,h2⟩
theorem aS {E:Fin}{n f:Nat}{ops:Array Oper}{r:List Oper}{rs:List Rk}{k:List Item}{g:FuncId}{args:List SV}{dst:Option Tmp}{σ:St}{x:SV}{b:List aw}(W:List (Nat × Nat × Nat))(h:SC V g args σ.b (fun r' b'=>r'=x∧b'=b))(ho:Ac W b σ.b)
 (h2:dx V n E f (.lv ops r (rs++[⟨true,false,[],W⟩])::k) ⟨put dst x σ.t,b⟩):yu V n E f ops r rs k dst σ g args:=by
 unfold yu;exact .inr (.inr ⟨x,b,W,h,ho,h2⟩)
theorem qk {E:Fin}{n f:Nat}{ops:Array Oper}{k:List Item}{σ:St}{t:OT}(J:St→Prop)(cV:OT.wY ops [] t=true)(h:dx V n E f (.iy ops [] t::.cut J::k) σ)(h2:∀ σ',J σ'→dx V n E f k σ'):DA V n E f ops k σ (.all t):=by
 simp only[DA]
 exact⟨cV,J,h,h2⟩
theorem az {E:Fin}{n f:Nat}{x:Code}{k:List Item}{σ:St}(I:St→Prop)(μ:St→Nat)(h0:I σ)(h:∀ σ',I σ'→dx V n E f (.code x::.zP I μ (μ σ')::k) σ'):ES V n E f x k σ:=by
 unfold ES;exact⟨I,μ,h0,h⟩
def dZ (f:Nat→Nat)(l:List (Nat × Nat × Nat)):List (Nat × Nat × Nat):=l.map fun x=>(f x.1,x.2.1,x.2.2)
def cM (f:Nat→Nat)(r:Rk):Rk:=⟨r.s,r.all,dZ f r.rd,dZ f r.wr⟩
theorem Eu (f:Nat→Nat)(xs ys:List (Nat × Nat × Nat))(h:mr xs ys=true):mr (dZ f xs) (dZ f ys)=true:=by
 unfold mr at h ⊢
 obtain⟨a,ha,h⟩:=zKr.1 h
 obtain⟨b,hb,h⟩:=zKr.1 h
 refine zKr.2 ⟨_,zKQ ha,zKr.2 ⟨_,zKQ hb,?_⟩⟩
 unfold ovl at h ⊢
 simp only[zJ9,beq_iff_eq]at h ⊢
 exact⟨by rw[h.1],h.2⟩
theorem bE (f:Nat→Nat){ops:Array Oper}{rs:List Rk}(h:JI ops (rs.map (cM f))):JI ops rs:=by
 simp only[JI,zJ9]at h ⊢
 refine⟨?_,h.2⟩
 have h1:=h.1
 unfold zW at h1 ⊢
 refine zKc.2 (fun i hi=>zKc.2 (fun k hk=>?_))
 have h2:=zKc.1 (zKc.1 h1 i hi) k hk
 simp only[zKf]at h2 ⊢
 refine h2.imp_right (fun h2=>?_)
 have hg:∀ j,((rs.map (cM f))[j]?).getD wS=cM f ((rs[j]?).getD wS):=fun j=>by
  rw[List.getElem?_map]
  cases rs[j]? <;> rfl
 have hp:y9 ops (rs.map (cM f)) i k=y9 ops rs i k:=by unfold y9;simp only[hg];rfl
 unfold uV at h2 ⊢
 simp only[hg,hp]at h2
 generalize (rs[i]?).getD wS=ri at h2 ⊢
 generalize (rs[k]?).getD wS=rk at h2 ⊢
 have hs:∀ r,(cM f r).s=r.s:=fun _=>rfl
 have ha:∀ r,(cM f r).all=r.all:=fun _=>rfl
 have he:(cM f ri).rd.isEmpty=ri.rd.isEmpty:=by
  show (ri.rd.map _).isEmpty=_
  cases ri.rd <;> rfl
 rw[hs,hs,ha,he]at h2
 split
 ·rename_i hc
  rw[if_pos hc]at h2
  exact h2
 ·rename_i hc
  rw[if_neg hc]at h2
  split
  ·rename_i Gh
   rw[if_pos Gh]at h2
   exact h2
  ·rename_i Gh
   rw[if_neg Gh]at h2
   split
   ·rename_i Gg
    rw[if_pos Gg]at h2
    simp only[zKf,Bool.not_eq_true',Bool.or_eq_false_iff]at h2 ⊢
    refine h2.imp_right (fun h2=>⟨h2.1,?_⟩)
    cases ho:mr ri.rd rk.wr with
    | false=>rfl
    | true =>
      have:=Eu f _ _ ho
      rw[show mr (dZ f ri.rd) (dZ f rk.wr)=false from h2.2]at this
      cases this
   ·rfl
end
def nD (ms:List Nat):List (Nat × Bool)→Nat
 | []=>0
 | (e,true)::r=>nD ms r ||| (1 <<< e) ||| ms.getD e 0
 | (_,false)::r=>nD ms r
def I9 {β:Type}(m:Nat)(f:Nat→β):β:=match m with
 | 0=>f 0
 | k+1=>f (k+1)
theorem Gy {β:Type}(m:Nat)(f:Nat→β):I9 m f=f m:=by cases m <;> rfl
def edges (o:Oper):List (Nat × Bool):=o.after.toList.map fun e=>(e.on,Region.binds .any e)
def wg:List Oper→List Nat→List Nat
 | [],ms=>ms
 | o::r,ms=>I9 (nD ms (edges o)) fun m=>wg r (ms++[m])
def zJ (D:List Nat)(i k:Nat):Bool:=(D.getD i 0).testBit k
def Hs (D:List Nat)(i k:Nat):Bool:=if k<i then zJ D i k else zJ D k i
def preF (ops:Array Oper)(rs:List Rk)(D:List Nat)(i k:Nat):Bool:=!(eF ops k&&decide (k<i))||(zKH k).all fun j=>!(((rs[j]?).getD wS).s)||zJ D i j
def pairF (ops:Array Oper)(rs:List Rk)(D:List Nat)(i k:Nat):Bool :=
 if sJ ops i k then Hs D i k&&preF ops rs D i k
 else if ((rs[i]?).getD wS).s&&((rs[k]?).getD wS).s then eF ops (max i k)||Hs D i k
 else if ((rs[k]?).getD wS).s&&!((rs[i]?).getD wS).rd.isEmpty then(Hs D i k&&preF ops rs D i k)||!(((rs[k]?).getD wS).all||mr ((rs[i]?).getD wS).rd ((rs[k]?).getD wS).wr)
 else true
def okF (ops:Array Oper)(rs:List Rk):Bool :=
 ((zKH ops.size).all fun i=>(zKH ops.size).all fun k=>k==i||pairF ops rs (wg ops.toList []) i k)&&JD ops
theorem wb {ops:Array Oper}:∀ (f g i k:Nat),f≤g→kO ops f i k=true→kO ops g i k=true
 | 0,_,_,_,_,h=>by simp[kO]at h
 | f+1,0,_,_,h,_=>by omega
 | f+1,g+1,i,k,hfg,h=>by
   rw[kO]at h ⊢
   split at h
   ·rename_i o ho
    rw[← Array.any_toList,zKr]at h ⊢
    obtain⟨e,he,h⟩:=h
    refine⟨e,he,?_⟩
    simp only[zJ9,zKf]at h ⊢
    refine⟨h.1,h.2.imp id (wb f g e.on k (by omega))⟩
   ·cases h
theorem pc (ms:List Nat)(k:Nat):∀ l:List (Nat × Bool),(nD ms l).testBit k=true→∃ e,(e,true)∈l∧(e=k∨(ms.getD e 0).testBit k=true)
 | [],h=>by simp[nD]at h
 | (e,true)::r,h=>by
  rw[nD,Nat.testBit_or,Nat.testBit_or,zKf,zKf]at h
  rcases h with(h|h) | h
  ·obtain⟨e',h1,h2⟩:=pc ms k r h
   exact⟨e',List.mem_cons_of_mem _ h1,h2⟩
  ·refine⟨e,zKI,.inl ?_⟩
   rw[Nat.one_shiftLeft,Nat.testBit_two_pow]at h
   simpa using h
  ·exact⟨e,zKI,.inr h⟩
 | (_,false)::r,h=>by
  rw[nD]at h
  obtain⟨e',h1,h2⟩:=pc ms k r h
  exact⟨e',List.mem_cons_of_mem _ h1,h2⟩
theorem Cy {ops:Array Oper}:∀ (r:List Oper)(ms:List Nat),ops.toList.drop ms.length=r→(∀ i k,(ms.getD i 0).testBit k=true→i<ms.length∧kO ops (i+1) i k=true) →
 ∀ i k,((wg r ms).getD i 0).testBit k=true→kO ops (i+1) i k=true
 | [],ms,_,h,i,k,hb=>(h i k hb).2
 | o::r,ms,hd,h,i,k,hb=>by
   rw[wg,Gy]at hb
   have aC:ms.length<ops.toList.length:=by
    apply Nat.lt_of_not_le
    intro hle
    rw[List.drop_eq_nil_of_le hle]at hd
    cases hd
   have ho:ops[ms.length]? = some o:=by
    rw[← Array.getElem?_toList,zKu aC]
    rw[List.drop_eq_getElem_cons aC]at hd
    rw[(List.cons.inj hd).1]
   refine Cy r (ms++[nD ms (edges o)]) ?_ ?_ i k hb
   ·rw[zKb,zKi]
    rw[List.drop_eq_getElem_cons aC]at hd
    exact(List.cons.inj hd).2
   ·intro i k hb
    rw[zKq]at hb
    rcases Nat.lt_trichotomy i ms.length with hi|hi|hi
    ·rw[zKh hi,← zKq]at hb
     exact⟨by simp;omega,(h i k hb).2⟩
    ·subst hi
     rw[zKk (zKe _),Nat.sub_self]at hb
     simp only[List.getElem?_cons_zero,Option.getD_some]at hb
     refine⟨by simp,?_⟩
     obtain⟨e,h1,h2⟩:=pc ms k _ hb
     obtain⟨d,rn,yg⟩:=List.mem_map.1 h1
     rw[kO,ho]
     simp only
     rw[← Array.any_toList]
     refine zKr.2 ⟨d,rn,?_⟩
     simp only[Prod.mk.injEq]at yg
     rw[yg.2,yg.1,Bool.true_and,zKf]
     rcases h2 with rfl|h2
     ·left;simp
     ·right
      have:=h e k h2
      exact wb (e+1) _ e k (by omega) this.2
    ·rw[zKx (by simp;omega)]at hb
     simp at hb
theorem av {ops:Array Oper}{rs:List Rk}(h:okF ops rs=true):JI ops rs:=by
 unfold okF at h
 rw[zJ9]at h
 obtain⟨h,ha⟩:=h
 unfold JI zW
 rw[zJ9]
 refine⟨zKc.2 fun i hi=>zKc.2 fun k hk=>?_,ha⟩
 have h1:=zKc.1 (zKc.1 h i hi) k hk
 rw[zKf]at h1 ⊢
 refine h1.imp id fun h1=>?_
 have hdep:∀ i k,i∈zKH ops.size→zJ (wg ops.toList []) i k=true→kO ops ops.size i k=true:=fun i k hi hb =>
  wb (i+1) _ i k (by have:=zKB.1 hi;omega) (Cy ops.toList [] (by simp) (fun i k hb=>by simp at hb) i k hb)
 have htie:Hs (wg ops.toList []) i k=true→uD ops i k=true:=fun h=>by
  unfold Hs at h
  unfold uD
  split
  ·rename_i kS;rw[if_pos kS]at h;exact hdep i k hi h
  ·rename_i kS;rw[if_neg kS]at h;exact hdep k i hk h
 have dM:preF ops rs (wg ops.toList []) i k=true→y9 ops rs i k=true:=fun h=>by
  unfold preF at h
  unfold y9
  rw[zKf]at h ⊢
  refine h.imp id (fun h=>zKc.2 fun j hj=>?_)
  have:=zKc.1 h j hj
  rw[zKf]at this ⊢
  exact this.imp id (fun h=>hdep i j hi h)
 unfold pairF at h1
 unfold uV
 split
 ·rename_i hc
  rw[if_pos hc,zJ9]at h1
  rw[zJ9]
  exact⟨htie h1.1,dM h1.2⟩
 ·rename_i hc
  rw[if_neg hc]at h1
  split
  ·rename_i Gh
   rw[if_pos Gh,zKf]at h1
   rw[zKf]
   exact h1.imp id htie
  ·rename_i Gh
   rw[if_neg Gh]at h1
   split
   ·rename_i Gg
    rw[if_pos Gg]at h1
    rw[zKf]at h1 ⊢
    refine h1.imp (fun h1=>?_) id
    rw[zJ9]at h1 ⊢
    exact⟨htie h1.1,dM h1.2⟩
   ·rfl
def cp:=zJ8 (zJ8 (zJ8 (zJ8 (zJ8 (@FT) (zJ8 (@Option.getD_some.{0}) (@Option.getD_none.{0}))) (zJ8 (@List.getElem?_cons_zero.{0}) (zJ8 (@List.getElem?_cons_succ.{0}) (@zKD.{0})))) (zJ8 (zJ8 (@List.length_nil.{0}) (zJ8 (@List.cons_append.{0}) (@List.nil_append.{0}))) (zJ8 (@zKy.{0}) (zJ8 (@List.map_cons.{0,0}) (@List.map_nil.{0,0}))))) (zJ8 (zJ8 (zJ8 (@List.take_succ_cons.{0}) (zJ8 (@List.take_zero.{0}) (@List.drop_succ_cons.{0}))) (zJ8 (@List.drop_zero.{0}) (zJ8 (@List.set_cons_zero.{0}) (@List.set_cons_succ.{0})))) (zJ8 (zJ8 (@List.all_cons.{0}) (zJ8 (@List.all_nil.{0}) (@List.mapIdx_cons.{0,0}))) (zJ8 (zJ8 (@List.mapIdx_nil.{0,0}) (@List.getD_cons_zero.{0})) (zJ8 (@List.getD_cons_succ.{0}) (@zKj.{0,0})))))) (zJ8 (zJ8 (zJ8 (zJ8 (@zKG.{0,0}) (zJ8 (@zKo.injEq.{0}) (@Nat.zero_add))) (zJ8 (@Nat.add_zero) (zJ8 (@decide_true) (@decide_false)))) (zJ8 (zJ8 (@Bool.and_true) (zJ8 (@Bool.true_and) (@Bool.and_false))) (zJ8 (zJ8 (@Bool.false_and) (@true_and)) (zJ8 (@and_true) (@false_and))))) (zJ8 (zJ8 (zJ8 (@and_false) (zJ8 (@if_true.{1}) (@if_false.{1}))) (zJ8 (@List.toList_toArray.{0}) (zJ8 (@Bool.not_true) (@Bool.not_false)))) (zJ8 (zJ8 (@Bool.false_eq_true) (zJ8 (@false_implies) (@Int.toNat_natCast))) (zJ8 (zJ8 (@Wf.Di) (@Wf.Dk)) (zJ8 (@Wf.Dj) (@List.take_length.{0}))))))
def cq:=zJ8 (zJ8 (zJ8 (zJ8 (@dx.eq_21) (@dx.eq_22)) (zJ8 (@dx.eq_23) (@dx.eq_24))) (zJ8 (zJ8 (@dx.eq_25) (@DA.eq_1)) (zJ8 (@EJ.eq_1) (@EI.eq_1)))) (zJ8 (zJ8 (zJ8 (zJ8 (@qn.eq_1) (zJ8 (@qn.eq_2) (@Bf.eq_1))) (zJ8 (@nt.eq_1) (zJ8 (@nt.eq_2) (@om.eq_1)))) (zJ8 (zJ8 (@om.eq_2) (zJ8 (@om.eq_3) (@oF.eq_1))) (zJ8 (zJ8 (@EK.eq_1) (@EK.eq_2)) (zJ8 (@gW.eq_1) (@gW.eq_2))))) (zJ8 (zJ8 (zJ8 (zJ8 (zJ8 (zJ8 (zJ8 (zJ8 (@dx.eq_1) (@dx.eq_2)) (zJ8 (@dx.eq_3) (@dx.eq_4))) (zJ8 (zJ8 (@dx.eq_5) (@dx.eq_6)) (zJ8 (@dx.eq_7) (zJ8 (@dx.eq_8) (@dx.eq_9))))) (zJ8 (zJ8 (zJ8 (@dx.eq_10) (@dx.eq_11)) (zJ8 (@dx.eq_12) (@dx.eq_13))) (zJ8 (zJ8 (@dx.eq_14) (@dx.eq_15)) (zJ8 (@dx.eq_16) (zJ8 (@dx.eq_17) (@dx.eq_18)))))) (zJ8 (zJ8 (zJ8 (zJ8 (@dx.eq_19) (@dx.eq_20)) (zJ8 (@XQ.eq_1) (@XG.eq_1))) (zJ8 (zJ8 (@gvU.eq_1) (@gvU.eq_2)) (zJ8 (@uI.eq_1) (zJ8 (@uI.eq_2) (@uI.eq_3))))) (zJ8 (zJ8 (zJ8 (@GS.eq_1) (@GS.eq_2)) (zJ8 (@Yl.eq_1) (zJ8 (@Yl.eq_2) (@Yl.eq_3)))) (zJ8 (zJ8 (@Yl.eq_4) (@Yl.eq_5)) (zJ8 (@Yl.eq_6) (zJ8 (@Yl.eq_7) (@Yl.eq_8))))))) (zJ8 (zJ8 (zJ8 (zJ8 (zJ8 (zJ8 @Yl.eq_9 (zJ8 @Yl.eq_10 (zJ8 @DS.eq_1 (zJ8 @CC.eq_1 @CC.eq_2)))) (@Xm.eq_1)) (zJ8 (@Xm.eq_2) (@Xm.eq_3))) (zJ8 (zJ8 (@Yn.eq_1) (@Yi.eq_1)) (zJ8 (@Yi.eq_2) (zJ8 (@Xa.eq_1) (@Ym.eq_1))))) (zJ8 (zJ8 (zJ8 (@Ym.eq_2) (@Xc.eq_1)) (zJ8 (@Xc.lN.eq_1) (zJ8 (@Xc.lN.eq_2) (@reS.eq_1)))) (zJ8 (zJ8 (@reS.eq_2) (@Xj.eq_1)) (zJ8 (@Yb.eq_1) (zJ8 (@mmS.eq_1) (@mmS.eq_2)))))) (zJ8 (zJ8 (zJ8 (zJ8 (@Xq.eq_1) (@Xq.eq_2)) (zJ8 (@tQ.eq_1) (@tQ.eq_2))) (zJ8 (zJ8 (zJ8 @tQ.eq_3 (zJ8 @capB.eq_1 @capB.eq_2)) (@oh.eq_1)) (zJ8 (@oh.eq_2) (zJ8 (@oh.eq_3) (@oh.eq_4))))) (zJ8 (zJ8 (zJ8 (@XP.eq_1) (@XP.eq_2)) (zJ8 (@XP.eq_3) (zJ8 (@XN.eq_1) (@XN.eq_2)))) (zJ8 (zJ8 (@XO.eq_1) (@XO.eq_2)) (zJ8 (@Yc.eq_1) (zJ8 (@Yc.eq_2) (@Yc.eq_3)))))))) (zJ8 (zJ8 (zJ8 (zJ8 (zJ8 (zJ8 (@XA.eq_1) (@XA.eq_2)) (zJ8 (@XA.eq_3) (@Yg.eq_1))) (zJ8 (zJ8 (@Yg.eq_2) (@Yg.eq_3)) (zJ8 (@Yg.eq_4) (zJ8 (@Xy.eq_1) (@Xy.eq_2))))) (zJ8 (zJ8 (zJ8 (@Xy.eq_3) (@XE.eq_1)) (zJ8 (@XE.eq_2) (zJ8 (@XE.eq_3) (@El.eq_1)))) (zJ8 (zJ8 (@El.eq_2) (@iI.eq_1)) (zJ8 (@iI.eq_2) (zJ8 (@iI.eq_3) (@Yk.eq_1)))))) (zJ8 (zJ8 (zJ8 (zJ8 (@Yk.eq_2) (@XR.eq_1)) (zJ8 (@Yd.eq_1) (@Yd.eq_2))) (zJ8 (zJ8 (@Yd.eq_3) (@Yd.eq_4)) (zJ8 (@Yd.eq_5) (zJ8 (@Yd.eq_6) (@Yd.eq_7))))) (zJ8 (zJ8 (zJ8 (zJ8 (@Yd.eq_8) (zJ8 (@Yd.eq_9) (zJ8 (@JM.eq_1) (zJ8 (@JN.eq_1) (zJ8 (@JL.eq_1) (zJ8 (@JK.eq_1) (@JK.eq_2))))))) (@goR.eq_1)) (zJ8 (@goR.eq_2) (zJ8 (@XC.eq_1) (@sBox.eq_1)))) (zJ8 (zJ8 (@XU.eq_1) (@XH.eq_1)) (zJ8 (@Xr.eq_1) (zJ8 (@sNil.eq_1) (@XL.eq_1))))))) (zJ8 (zJ8 (zJ8 (zJ8 (zJ8 (@Xt.eq_1) (@Xt.eq_2)) (zJ8 (@XV.eq_1) (@Xv.eq_1))) (zJ8 (zJ8 (@Xv.eq_2) (@Xv.eq_3)) (zJ8 (@Xv.eq_4) (zJ8 (@Xv.eq_5) (@Xv.eq_6))))) (zJ8 (zJ8 (zJ8 (@Xv.eq_7) (@Xv.eq_8)) (zJ8 (@Gx.eq_1) (zJ8 (@Gx.eq_2) (@oR.eq_1)))) (zJ8 (zJ8 (@XI.eq_1) (@XF.eq_1)) (zJ8 (@XB.eq_1) (zJ8 (@Jv.eq_1) (@XK.eq_1)))))) (zJ8 (zJ8 (zJ8 (zJ8 (@XD.eq_1) (@Jw.eq_1)) (zJ8 (@dN.eq_1) (@dN.eq_2))) (zJ8 (zJ8 (@Xz.eq_1) (@Xz.eq_2)) (zJ8 (@Xz.eq_3) (zJ8 (@Xz.eq_4) (@Xz.eq_5))))) (zJ8 (zJ8 (zJ8 (zJ8 (@Xz.eq_6) (@Xz.eq_7)) (@Ag.eq_1)) (zJ8 (@Ag.eq_2) (zJ8 (@Ag.eq_3) (@Ag.eq_4)))) (zJ8 (zJ8 (@Ag.eq_5) (@Ag.eq_6)) (zJ8 (@Ag.eq_7) (zJ8 (@idxs.eq_1) (@idxs.eq_2))))))))) (zJ8 (zJ8 (zJ8 (zJ8 (zJ8 (zJ8 (zJ8 (zJ8 (@idxs.eq_3) (@idxs.eq_4)) (@pv.eq_1)) (zJ8 (@pv.eq_2) (@pv.eq_3))) (zJ8 (zJ8 (@pv.eq_4) (@pv.eq_5)) (zJ8 (@pv.eq_6) (zJ8 (@pv.eq_7) (@pv.eq_8))))) (zJ8 (zJ8 (zJ8 (@pv.eq_9) (@pv.eq_10)) (zJ8 (@pv.eq_11) (zJ8 (@pv.eq_12) (@pv.eq_13)))) (zJ8 (zJ8 (@pv.eq_14) (@pv.eq_15)) (zJ8 (zJ8 (@pv.eq_16) (zJ8 (@pv.eq_17) (@pv.eq_18))) (zJ8 (@XX.eq_1) (@Ya.eq_1)))))) (zJ8 (zJ8 (zJ8 (zJ8 (@XJ.eq_1) (@XJ.eq_2)) (zJ8 (@XJ.eq_3) (@XJ.eq_4))) (zJ8 (zJ8 (@Xb.eq_1) (@Xu.eq_1)) (zJ8 (@oBin.eq_1) (zJ8 (@oUn.eq_1) (@oUn.eq_2))))) (zJ8 (zJ8 (zJ8 (@Ye.eq_1) (@XW.eq_1)) (zJ8 (@XW.eq_2) (zJ8 (@XW.eq_3) (@Xw.eq_1)))) (zJ8 (zJ8 (@Xx.eq_1) (@Xh.eq_1)) (zJ8 (@Xk.eq_1) (zJ8 (@XY.eq_1) (@XY.eq_2))))))) (zJ8 (zJ8 (zJ8 (zJ8 (zJ8 (@XS.eq_1) (@FQ.eq_1)) (zJ8 (@FQ.eq_2) (@FQ.eq_3))) (zJ8 (zJ8 (@vz.eq_1) (@vz.eq_2)) (zJ8 (@vz.eq_3) (zJ8 (@vz.eq_4) (@Yh.eq_1))))) (zJ8 (zJ8 (zJ8 (@Yh.eq_2) (@Yh.eq_3)) (zJ8 (@Yh.eq_4) (zJ8 (@ev.eq_1) (@ev.eq_2)))) (zJ8 (zJ8 (@ev.eq_3) (@ev.eq_4)) (zJ8 (@lk.eq_1) (zJ8 (@lk.eq_2) (@put.eq_1)))))) (zJ8 (zJ8 (zJ8 (zJ8 (@put.eq_2) (@fits.eq_1)) (zJ8 (@fits.eq_2) (@kd.eq_1))) (zJ8 (zJ8 (@sz.eq_1) (@bin.eq_1)) (zJ8 (@bin.eq_2) (zJ8 (@bin.eq_3) (@ml.eq_1))))) (zJ8 (zJ8 (zJ8 (@ml.eq_2) (@ml.eq_3)) (zJ8 (@ml.eq_4) (zJ8 (@ml.eq_5) (@ml.eq_6)))) (zJ8 (zJ8 (@ml.eq_7) (@ml.eq_8)) (zJ8 (@ml.eq_9) (zJ8 (@ml.eq_10) (@ml.eq_11)))))))) (zJ8 (zJ8 (zJ8 (zJ8 (zJ8 (zJ8 (@ml.eq_12) (@ml.eq_13)) (zJ8 (@ml.eq_14) (@ml.eq_15))) (zJ8 (zJ8 (@ml.eq_16) (@ml.eq_17)) (zJ8 (@xA.eq_1) (zJ8 (@xA.eq_2) (@xA.eq_3))))) (zJ8 (zJ8 (zJ8 (@xA.eq_4) (@xA.eq_5)) (zJ8 (@xA.eq_6) (zJ8 (@xA.eq_7) (@xA.eq_8)))) (zJ8 (zJ8 (@Ah.eq_1) (@ar.eq_1)) (zJ8 (@ar.eq_2) (zJ8 (@Ek.eq_1) (@Ek.eq_2)))))) (zJ8 (zJ8 (zJ8 (zJ8 (@Ek.eq_3) (@Ek.eq_4)) (zJ8 (@Ek.eq_5) (@Ek.eq_6))) (zJ8 (zJ8 (@Ek.eq_7) (@Ek.eq_8)) (zJ8 (@eqS.eq_1) (zJ8 (@eqS.eq_2) (@Cp.eq_1))))) (zJ8 (zJ8 (zJ8 (@Cp.eq_2) (@Cp.eq_3)) (zJ8 (@Cp.eq_4) (zJ8 (@Cp.eq_5) (@Cp.eqF.eq_1)))) (zJ8 (zJ8 (@Cp.eqF.eq_2) (@DR.eq_1)) (zJ8 (@DR.eq_2) (zJ8 (@DR.eq_3) (@wA.eq_1))))))) (zJ8 (zJ8 (zJ8 (zJ8 (zJ8 (@wA.eq_2) (@wA.eq_3)) (zJ8 (@wA.eq_4) (@wA.eq_5))) (zJ8 (zJ8 (@o9.eq_1) (@o9.eq_2)) (zJ8 (@XM.eq_1) (zJ8 (@cells.eq_1) (@cells.eq_2))))) (zJ8 (zJ8 (zJ8 (@CY.eq_1) (@CY.eq_2)) (zJ8 (@one.eq_1) (zJ8 (@one.eq_2) (@one.eq_3)))) (zJ8 (zJ8 (@one.eq_4) (@Xs.eq_1)) (zJ8 (@iv.eq_1) (zJ8 (@uJ.eq_1) (@XZ.eq_1)))))) (zJ8 (zJ8 (zJ8 (zJ8 (@XZ.eq_2) (@Yf.eq_1)) (zJ8 (@Yf.eq_2) (@Xl.eq_1))) (zJ8 (zJ8 (@Xl.eq_2) (@XT.eq_1)) (zJ8 (@XT.eq_2) (zJ8 (@FE.eq_1) (@FE.eq_2))))) (zJ8 (zJ8 (zJ8 (@uA.eq_1) (@uA.eq_2)) (zJ8 (@ofV.eq_1) (zJ8 (@ofV.eq_2) (@ofV.eq_3)))) (zJ8 (zJ8 (@ofV.eq_4) (@ofV.eq_5)) (zJ8 (@ofV.eq_6) (zJ8 (@Yj.eq_1) (@Yj.eq_2)))))))))))
theorem gK {P Q H : Prop} (hs : H) (h : Q) (e : H → P = Q := by intro hs; simp only [cq, ↓Xn, ↓Xo, ↓Xg, ↓Xd, ↓Xe, ↓Xf, Tryz.VΓ, Tryz.Γs, Xp, Xi, Nat.reduceAdd, Nat.reduceSub, Nat.reduceLT, Nat.reduceLeDiff, reduceIte, reduceCtorEq, Nat.reduceEqDiff, implies_true, forall_const, cp, beq_self_eq_true, bne_self_eq_false, Int.reduceBEq, Int.reduceBNe, Int.reduceLT, Int.reduceLE, hs] <;> rfl) : P := (e hs).symm ▸ h
theorem od {P Q : Prop} (h : Q) (e : P = Q := by simp only [cq, ↓Xn, ↓Xo, ↓Xg, ↓Xd, ↓Xe, ↓Xf, Tryz.VΓ, Tryz.Γs, Xp, Xi, Nat.reduceAdd, Nat.reduceSub, Nat.reduceLT, Nat.reduceLeDiff, reduceIte, reduceCtorEq, Nat.reduceEqDiff, implies_true, forall_const, cp, beq_self_eq_true, bne_self_eq_false, Int.reduceBEq, Int.reduceBNe, Int.reduceLT, Int.reduceLE] <;> rfl) : P := e.symm ▸ h
theorem gN {P Q H : Prop} (hs : H) (h : Q) (e : H → P = Q := by intro hs; simp only [cq, ↓Xn, ↓Xo, ↓Xg, ↓Xd, ↓Xe, ↓Xf, Tryz.VΓ, Tryz.Γs, Xp, Xi, Nat.reduceAdd, Nat.reduceSub, Nat.reduceLT, Nat.reduceLeDiff, reduceIte, reduceCtorEq, Nat.reduceEqDiff, implies_true, forall_const, cp, hs] <;> rfl) : P := (e hs).symm ▸ h
theorem bo {P Q : Prop} (h : Q) (e : P = Q := by simp only [cq, ↓Xn, ↓Xo, ↓Xg, ↓Xd, ↓Xe, ↓Xf, Tryz.VΓ, Tryz.Γs, Xp, Xi, Nat.reduceAdd, Nat.reduceSub, Nat.reduceLT, Nat.reduceLeDiff, reduceIte, reduceCtorEq, Nat.reduceEqDiff, implies_true, forall_const, cp] <;> rfl) : P := e.symm ▸ h
end Vc
namespace Go.Proofs.YtnmlimehgifadaaGreatDoor
open Go Vc Go.RowKit Wf
open Go.ChangeShapes Go.WideShapes Go.ChangeAt
open Go.WideMaps Go.WideElems
open Go.ChangeMaps (setBlock shut_map_nil open_string shut_string keptBut_setBlock frozen?_setBlock heap_setBlock_same)
theorem env_of {W:World}(h:W.ShapedOpen Tryz.prog):Env W :=
 Go.Proofs.cell_of_shapedOpen_int (zero:=#[.int .i64 0]) (t:=3) h (of_decide_eq_true (by kernel_rfl)) (by kernel_rfl) rfl (by kernel_rfl) (by kernel_rfl) Tryz.underlying3
theorem own:ownKnob Tryz.prog.godebug=none:=by kernel_rfl
theorem laidOut:laidOutB Tryz.prog=true:=by kernel_rfl
section
variable {H:Type} {enc:TypeId × Value→H} {W W':World}
theorem oC {P:Program}(hl:laidOutB P=true){B:Nat}:∀ {ts:List TypeId}{vs:List Value}{ds:List (DataW H)}{ps:List MemPlace},ts.all (fun t=>P.readableRec t&&decide (t<P.types.size))=true →
 DataW.TrodAll enc P W 0 (fun _=>true) true ts vs ds ps→(∀ p∈ps,W.sameAt W' p)→(∀ p∈ps,p.block<B)→DataW.TrodAll enc P W' 0 (fun b=>decide (b<B)) true ts vs ds ps
 | [],[],[],ps,_,h,_,_=>h
 | t::ts,v::vs,d::ds,ps,hr,h,hs,hb=>by
   obtain⟨p,q,h1,h2,rfl⟩:=h
   simp only[List.all_cons,zJ9,decide_eq_true_eq]at hr
   exact⟨p,q,Trod_stays hl hr.1.1 hr.1.2 h1 (fun x hx=>hs x (zKP _ hx)) (fun x hx=>by simpa using hb x (zKP _ hx)),oC hl hr.2 h2 (fun x hx=>hs x (List.mem_append_right _ hx)) (fun x hx=>hb x (List.mem_append_right _ hx)),rfl⟩
 | [],_::_,_,_,_,h,_,_=>by cases h
 | [],[],_::_,_,_,h,_,_=>by cases h
 | _::_,[],_,_,_,h,_,_=>by cases h
 | _::_,_::_,[],_,_,h,_,_=>by cases h
theorem H5 {P:Program}{fn:Func}{s:ChangeSpec}{args:Array Value}{ds gs:List (DataW H)}{before:List MemPlace}{tb:TypeId}(hl:laidOutB P=true)
 (hpar:fn.params.toList.all (fun t=>P.readableRec t&&decide (t<P.types.size))=true) (hv:s.vars=[]) (hr:fn.resultTypes=#[tb]) (htb:P.underlying tb=some .bool)
 (hgs:gs=[]) (nI:(s.fn H ds).results=[.lit (.bool true)]) (tp:(s.fn H ds).args=ds) (hvs:(s.fn H ds).vars=[])
 (hW:DataW.Whole enc P fn.params.toList s.vars false W args.toList ds gs before) (bel:Below W.heap.size W W'):s.post enc P fn false true false false W args (.bool true) W':=by
 have aC:=hW.lt
 have hW':=hW
 obtain⟨p,q,hA,hV,hb,-,-⟩:=hW
 subst hgs
 rw[hv]at hV
 obtain⟨-,rfl⟩:=trodVars_none hV
 subst hb
 refine⟨ds,[],_,[],p,[],hW',?_,?_,?_,bel.frame _,fun h=>by cases h⟩
 ·rw[zKy,nI,hr]
  exact trodAll_mk1 (shut_bool htb _)
 ·rw[zKy,tp]
  exact oC hl hpar hA (fun x hx=>bel.same (aC x (zKP _ hx))) (fun x hx=>aC x (zKP _ hx))
 ·rw[zKy,hvs,hv]
  rfl
end
def flatD:Nat→DataW Unit→List Value
 | _,.lit (.int k i)=>[.int k i]
 | n+1,.agg ps=>ps.flatMap (flatD n)
 | _,_=>[]
def setCells (d:DataW Unit):Obj→Obj
 | .cells _ t fr=>.cells (flatD 8 d).toArray t fr
 | o=>o
noncomputable def ya (os:Os):World :=
 { World.holding Tryz.prog os ⟨#[],#[],[]⟩ with heap:=((World.holding Tryz.prog os ⟨#[],#[],[]⟩).heap.modify 1 (setCells Go.Pinned.utf8First)).modify 2 (setCells Rows.laid_unicode_utf8_acceptRanges) }
set_option maxRecDepth 100000 in
theorem H8 (os : Os) (args : Array Value) : laidMet Tryz.prog [("unicode/utf8.acceptRanges", Rows.laid_unicode_utf8_acceptRanges), ("unicode/utf8.first", Rows.laid_unicode_utf8_first)] ((ya os).forCall (fun _ _ => 0) ⟨#[], args, []⟩).memory :=
 laidMet_of_run3 8 (by kernel_rfl) (by kernel_rfl) (by kernel_rfl)
open Go in
theorem HS:false=Tryz.pinned.checked.prog.looks []:=by kernel_rfl
open Go Go.RowKit
set_option maxRecDepth 100000
theorem pf_maps:mapsRowed Tryz.pinned.checked.prog=true:=by kernel_rfl
theorem pf_stops:(Tryz.pinned.checked.prog.stops==[])=true:=by kernel_rfl
theorem pf_knobs:(Tryz.pinned.checked.prog.stopKnobs==[])=true:=by kernel_rfl
theorem pf_keys:(Rows.worldApartRow.plainKeys==Tryz.pinned.checked.prog.plainKeys)=true:=by kernel_rfl
theorem pf_heard:Tryz.pinned.checked.prog.stopsHeard=true:=by kernel_rfl
theorem pf_may:Tryz.pinned.checked.prog.mayEnter=true:=by kernel_rfl
theorem pf_lifts:(Rows.worldApartRow.lifted==Tryz.pinned.checked.prog.liftsFinal)=true:=by kernel_rfl
theorem pf_make:(Tryz.pinned.checked.prog.make==some Rows.worldApartRow.make)=true:=by kernel_rfl
theorem and4 {a b c d:Bool}(h:(a&&b&&c&&d)=true):(a=true∧b=true)∧c=true∧d=true:=by
 simp only[zJ9]at h
 exact⟨⟨h.1.1.1,h.1.1.2⟩,h.1.2,h.2⟩
open Go Vc Go.RowKit Wf
open Go.ChangeShapes Go.WideShapes Go.ChangeAt
open Go.WideMaps Go.WideElems
section
variable {H:Type} {enc:TypeId × Value→H} {w:World} {base:Nat} {sp:Nat→Bool} {held:Bool}
theorem trod_24 {fuel:Nat}{cs:List Value}{x:DataW H × List MemPlace}(h:DataW.trod enc Tryz.prog w base sp held fuel 24 cs=some x):∃ (a0:Bytes) (a1:Int),cs=[Value.string ⟨⟨a0⟩⟩,Value.int .i64 a1]∧x=(.agg [.lit (.string a0),.lit (.int .i64 a1)],[])∧a0.length≤maxLen∧(Lit.int .i64 a1).wf=true:=by
 obtain⟨xs,n,_,rfl,hl,hlen,hf⟩:=DataW.trod_struct Tryz.underlying24 h
 have hC:Tryz.prog.cellsOf 24=2:=by kernel_rfl
 rw[hC]at hl
 obtain⟨c0,c1,rfl⟩:∃ c0 c1,cs=[c0,c1]:=by
  match cs,hl with
  | [c0,c1],_=>exact⟨c0,c1,rfl⟩
 obtain⟨y0,y1,rfl⟩:∃ y0 y1,xs=[y0,y1]:=by
  match xs,hlen with
  | [y0,y1],_=>exact⟨y0,y1,rfl⟩
 have e0:DataW.trod enc Tryz.prog w base sp held n 9 [c0]=some y0:=hf 0 _ rfl
 obtain⟨⟨⟨a0⟩⟩,q0,rfl,w0⟩:=DataW.trod_string Tryz.underlying9 e0
 obtain rfl:=(List.cons.inj q0).1
 have e1:DataW.trod enc Tryz.prog w base sp held n 3 [c1]=some y1:=hf 1 _ rfl
 obtain⟨a1,q1,rfl,w1⟩:=DataW.trod_int Tryz.underlying3 e1
 obtain rfl:=(List.cons.inj q1).1
 exact⟨a0,a1,rfl,rfl,w0,w1⟩
theorem open_24 {r:Reach}{b0:Nat}{v:Value}{d:DataW H}{p:List MemPlace}(hv:Value.okWide Tryz.prog w r b0 24 v)(h:DataW.Trod enc Tryz.prog w base sp held 24 v d p):∃ (a0:Bytes) (a1:Int),v=.agg #[Value.string ⟨⟨a0⟩⟩,Value.int .i64 a1]∧d=.agg [.lit (.string a0),.lit (.int .i64 a1)]∧p=[]∧a0.length≤maxLen∧(Lit.int .i64 a1).wf=true:=by
 obtain⟨cs,rfl,oa⟩:=okWide_struct Tryz.underlying24 hv
 obtain⟨fuel,hf⟩:=h
 obtain⟨a0,a1,hcs,hx,hw⟩:=trod_24 hf
 obtain⟨cs⟩:=cs
 simp only[Value.cells]at hcs
 subst hcs
 exact⟨a0,a1,rfl,(Prod.mk.inj hx).1,(Prod.mk.inj hx).2,hw⟩
end
end Go.Proofs.YtnmlimehgifadaaGreatDoor
namespace Vc
open Go Go.RowKit Wf
theorem xC.mono {own own':Nat→Prop}{w w':World}(h:xC own w w')(k:∀ b,own b→own' b):xC own' w w' :=
 ⟨h.os,h.tape,h.output,h.size,fun b hb hn=>h.block b hb (fun e=>hn (k b e))⟩
def BldR (TB TU:TypeId)(l:List UInt8):Rsc where
 holds t fp w:=t.off=0∧∃ (p:Value) (t2:Bt) (f2:Nat→Prop),(p=.pointer none∨p=.pointer (some ⟨t.kQ,0,none⟩)) ∧
  (∃ fz,Head w t.kQ TB [p,oV t2 l.length] [] fz)∧Holds pS t2 f2 w (.own (l.map dP) TU 1 l.length true)∧¬ f2 t.kQ∧∀ k,fp k↔k=t.kQ∨f2 k
 stays b fp w w':=by
  rintro⟨h0,p,t2,f2,hp,⟨fz,h1,h2⟩,h3,h4,h5⟩ hk
  exact⟨h0,p,t2,f2,hp,⟨fz,(hk _ ((h5 _).2 (.inl rfl))).trans h1,h2⟩,h3.stays (fun k hf=>hk k ((h5 k).2 (.inr hf))),h4,h5⟩
theorem yW {b1 b2:Nat→Bt}{t t':Bt}{fq fq':Nat→Prop}{w w':World}{r:aw}(h1:Holds b1 t fq w r)(h2:Holds b2 t fq w r)(h:Holds b1 t' fq' w' r):Holds b2 t' fq' w' r:=by
 cases r with
 | cells c T m =>
   obtain⟨-,⟨r1,f1,d1,rfl⟩,-⟩:=h1
   obtain⟨-,⟨r2,f2,d2,rfl⟩,-⟩:=h2
   have e:=vw (by simp) d1.w6 d2.w6
   simp only[Holds]at h ⊢
   rw[← e];exact h
 | own c e s n m =>
   rcases h1 with⟨-,-,rfl,-⟩|⟨-,-,-,-,l1,-⟩
   ·simpa[Holds] using h
   ·rcases h2 with⟨-,-,rfl,-⟩|⟨-,-,-,-,l2,-⟩
    ·simpa[Holds] using h
    ·have e:=vw (by simp) l1 l2
     simp only[Holds]at h ⊢
     rw[← e];exact h
 | ext R=>exact h
 | gone=>exact h
variable {V:Cx} {f:FuncId} {args:List SV} {bs:List aw} {R:SV→List aw→Prop}
theorem sc_weak {i:Nat}{r0 r1:aw}(hi:bs[i]? = some r0)(hm:r1.cP=true→r0.cP=true)(hv:∀ (β:Nat→Bt)(fp:Nat→Nat→Prop)(w:World),Holds β (β i) (fp i) w r0→Holds β (β i) (fp i) w r1)(h:SC V f args (bs.set i r1) R):SC V f args bs R:=by
 refine⟨h.1,fun β fp w qM hG hE=>?_⟩
 have fD:i<bs.length:=(zKa.1 hi).1
 have old:∀ {j r'},(bs.set i r1)[j]? = some r'→∃ r,bs[j]? = some r∧(r'.cP=true→r.cP=true)∧(j≠i∧r'=r∨j=i∧r'=r1):=fun {j r'} hj=>by
  by_cases ox:j=i
  ·subst ox
   rw[zKL fD]at hj
   obtain rfl:=zKo.inj hj
   exact⟨r0,hi,hm,.inr ⟨rfl,rfl⟩⟩
  ·rw[zKm (fun e=>ox e.symm)]at hj
   exact⟨r',hj,id,.inl ⟨ox,rfl⟩⟩
 refine(h.2 β fp w (fun β' hβ=>?_) (fun j r hj hjm k hk=>?_) hE).mono ?_
 ·rw[zKF]at hβ
  have hb:=qM β' hβ
  refine⟨fun j r' hj=>?_,fun j r' hj k hk=>?_,fun j l a b hj hl bt iX=>?_⟩
  ·obtain⟨r,hr,-,⟨-,rfl⟩|⟨rfl,rfl⟩⟩:=old hj
   ·exact hb.holds j _ hr
   ·exact hv β' fp w (hb.holds _ _ hi)
  ·obtain⟨r,hr,-⟩:=old hj
   exact hb.lt j r hr k hk
  ·obtain⟨r,hr,e,-⟩:=old hj
   obtain⟨r',hr',e',-⟩:=old hl
   exact hb.sep j l r r' hr hr' bt (iX.imp e e')
 ·obtain⟨r,hr,e,-⟩:=old hj
  exact hG j r hr (e hjm) k hk
 ·rintro e w' ⟨r,bs',β₂,fp₂,hR,vS,hlen,a6,j5,iu,gI⟩
  rw[zKF]at vS hlen
  refine⟨r,bs',β₂,fp₂,hR,vS,hlen,a6,j5.mono ?_,fun j r' hj hjm k hk=>?_,fun j r' hj k hk=>?_⟩
  ·rintro k ⟨j,r',hj,hjm,hk⟩
   obtain⟨r,hr,e,-⟩:=old hj
   exact⟨j,r,hr,e hjm,hk⟩
  ·rcases iu j r' hj hjm k hk with h1|⟨j2,r2,iB,hm2,bM⟩
   ·exact .inl h1
   ·obtain⟨r,hr,e,-⟩:=old iB
    exact .inr ⟨j2,r,hr,e hm2,bM⟩
  ·rcases gI j r' hj k hk with h1|⟨j2,r2,iB,bM⟩
   ·exact .inl h1
   ·obtain⟨r,hr,-⟩:=old iB
    exact .inr ⟨j2,r,hr,bM⟩
theorem j9 {i:Nat}{c:List SV}{e s n:Nat}{m:Bool}(hi:bs[i]? = some (.own c e s n m))(h:SC V f args (bs.set i (.own c e s n false)) R):SC V f args bs R:=by
 refine sc_weak hi (fun e=>by cases e) (fun β fp w hh=>?_) h
 rcases hh with h0|⟨h1,h2,h3,h4,h5,-,h7⟩
 ·exact .inl h0
 ·exact .inr ⟨h1,h2,h3,h4,h5,(by simp),h7⟩
def Hb (b b2:List aw):Prop:=b2.length=b.length∧∀ (i:Nat) (r:aw),b2[i]? = some r→b[i]? = some r∨∃ (c:List SV) (e s n:Nat) (m:Bool),b[i]? = some (aw.own c e s n m)∧r=aw.own c e s n false
theorem Hb.refl (b:List aw):Hb b b:=⟨rfl,fun _ _ h=>.inl h⟩
theorem Hb.one {b:List aw}{i:Nat}{c:List SV}{e s n:Nat}{m:Bool}(hi:b[i]? = some (.own c e s n m)):Hb b (b.set i (.own c e s n false)):=⟨by simp,fun j r hj=>by
 by_cases ox:j=i
 ·subst ox
  rw[zKL (zKa.1 hi).1]at hj
  exact .inr ⟨c,e,s,n,m,hi,(zKo.inj hj).symm⟩
 ·rw[zKm (fun e=>ox e.symm)]at hj
  exact .inl hj⟩
theorem Hb.trans {a b c:List aw}(h:Hb a b)(k:Hb b c):Hb a c:=⟨k.1.trans h.1,fun i r hi=>by
 rcases k.2 i r hi with h1|⟨c,e,s,n,m,h1,rfl⟩
 ·exact h.2 i r h1
 ·rcases h.2 i _ h1 with h2|⟨c',e',s',n',m',h2,h3⟩
  ·exact .inr ⟨c,e,s,n,m,h2,rfl⟩
  ·cases h3
   exact .inr ⟨_,_,_,_,m',h2,rfl⟩⟩
theorem SC.dim (h:SC V f args bs (fun r b=>∃ b2:List aw,Hb b b2∧R r b2)):SC V f args bs R:=by
 refine⟨h.1,fun β fp w qM hG hE=>(h.2 β fp w qM hG hE).mono ?_⟩
 rintro e w' ⟨r,bs',β₂,fp₂,⟨b2,hd,hR⟩,vS,hlen,a6,j5,iu,gI⟩
 have old:∀ {j r'},b2[j]? = some r'→∃ r,bs'[j]? = some r∧(r'.cP=true→r.cP=true)∧∀ {β t f w},Holds β t f w r→Holds β t f w r':=fun {j r'} hj=>by
  rcases hd.2 j r' hj with h1|⟨c,e,s,n,m,h1,rfl⟩
  ·exact⟨r',h1,id,id⟩
  ·refine⟨_,h1,(fun e=>by cases e),fun hh=>?_⟩
   rcases hh with h0|⟨h1,h2,h3,h4,h5,-,h7⟩
   ·exact .inl h0
   ·exact .inr ⟨h1,h2,h3,h4,h5,(by simp),h7⟩
 refine⟨r,b2,β₂,fp₂,hR,vS,by rw[hd.1];exact hlen,fun β' hβ=>?_,j5,fun j r' hj hm k hk=>?_,fun j r' hj k hk=>?_⟩
 ·rw[hd.1]at hβ
  obtain⟨he,hb⟩:=a6 β' hβ
  refine⟨he,⟨fun j r' hj=>?_,fun j r' hj k hk=>?_,fun j l a b hj hl bt iX=>?_⟩⟩
  ·obtain⟨r,hr,-,hv⟩:=old hj
   exact hv (hb.holds j _ hr)
  ·obtain⟨r,hr,-⟩:=old hj
   exact hb.lt j r hr k hk
  ·obtain⟨r,hr,e,-⟩:=old hj
   obtain⟨r',hr',e',-⟩:=old hl
   exact hb.sep j l r r' hr hr' bt (iX.imp e e')
 ·obtain⟨r,hr,e,-⟩:=old hj
  exact iu j r hr (e hm) k hk
 ·obtain⟨r,hr,-⟩:=old hj
  exact gI j r hr k hk
theorem SC.mono {R R':SV→List aw→Prop}(h:SC V f args bs R)(k:∀ r bs',R r bs'→R' r bs'):SC V f args bs R':=by
 refine⟨h.1,fun β fp w qM hG hE=>(h.2 β fp w qM hG hE).mono ?_⟩
 rintro e w' ⟨r,bs',β₂,fp₂,hR,h2⟩
 exact⟨r,bs',β₂,fp₂,k _ _ hR,h2⟩
theorem aO (b:List aw)(X:aw):(b++[X])[b.length]? = some X:=by simp
theorem ad {b:List aw}{j:Nat}{r:aw}(h:b[j]? = some r)(X:List aw):(b++X)[j]? = some r:=by
 rw[zKh ((zKa.1 h).1)];exact h
def Sl (e s L:Nat)(x:SV)(b:List aw)(c:List SV)(n:Nat):Prop:=(x=.ah∧c=[]∧n=0)∨∃ j,x=.o j n∧L≤j∧b[j]? = some (.own c e s n true)
def Kp (bs b:List aw):Prop:=bs.length≤b.length∧∀ k,k<bs.length→b[k]? = bs[k]?
theorem Kp.refl (bs:List aw):Kp bs bs:=⟨zKe _,fun _ _=>rfl⟩
theorem Kp.trans {a b c:List aw}(h:Kp a b)(k:Kp b c):Kp a c:=⟨Nat.le_trans h.1 k.1,fun i hi=>(k.2 i (zKK hi h.1)).trans (h.2 i hi)⟩
theorem Kp.app {bs b:List aw}(h:Kp bs b)(X:List aw):Kp bs (b++X):=⟨by rw[zKb];have:=h.1;omega,fun k hk=>by rw[zKh (by have:=h.1;omega)];exact h.2 k hk⟩
theorem Kp.set {bs b:List aw}(h:Kp bs b){j:Nat}(hj:bs.length≤j)(X:aw):Kp bs (b.set j X):=⟨by rw[zKF];exact h.1,fun k hk=>by rw[zKm (by omega)];exact h.2 k hk⟩
theorem Kp.at {bs b:List aw}(h:Kp bs b){j:Nat}{r:aw}(hj:bs[j]? = some r):b[j]? = some r:=(h.2 j ((zKa.1 hj).1)).trans hj
theorem Sl.app {e s L:Nat}{x:SV}{b:List aw}{c:List SV}{n:Nat}(h:Sl e s L x b c n)(X:List aw):Sl e s L x (b++X) c n:=by
 rcases h with h|⟨j,h1,h2,h3⟩
 ·exact .inl h
 ·exact .inr ⟨j,h1,h2,ad h3 X⟩
theorem dV {α:Type}(b:List α)(X Y:α):(b++[X]).set b.length Y=b++[Y]:=by simp
theorem p9 {α:Type}(b:List α)(X Y Z:α):(b++[X]++[Y]).set b.length Z=b++[Z]++[Y]:=by simp
theorem nY {α:Type}(b:List α)(X Y Z W:α):(b++[X]++[Y]++[W]).set b.length Z=b++[Z]++[Y]++[W]:=by simp
theorem rb {α:Type}(b:List α)(X Y:α):(b++[X]++[Y])[b.length]? = some X:=by simp
theorem ra {α:Type}(b:List α)(X Y Z:α):(b++[X]++[Y]++[Z])[b.length]? = some X:=by simp
theorem q9 {α:Type}(b:List α)(X Y Z W:α):(b++[X]++[Y]++[Z]++[W])[b.length]? = some X:=by simp
theorem JB {α:Type}(b:List α)(X Y Z W U:α):(b++[X]++[Y]++[Z]++[W]++[U])[b.length]? = some X:=by simp
def DU:=zJ8 (zJ8 (@aO) (zJ8 (@rb) (@ra))) (zJ8 (zJ8 (@q9) (@JB)) (zJ8 (@dV) (zJ8 (@p9) (@nY))))
theorem gB {P Q H : Prop} (hs : H) (h : Q) (e : H → P = Q := by intro hs; simp only [cq, ↓Xn, ↓Xo, ↓Xg, ↓Xd, ↓Xe, ↓Xf, Tryz.VΓ, Tryz.Γs, Xp, Xi, Nat.reduceAdd, Nat.reduceSub, Nat.reduceLT, Nat.reduceLeDiff, reduceIte, reduceCtorEq, Nat.reduceEqDiff, implies_true, forall_const, cp, DU, beq_self_eq_true, bne_self_eq_false, Int.reduceBEq, Int.reduceBNe, Int.reduceLT, Int.reduceLE, hs] <;> rfl) : P := (e hs).symm ▸ h
theorem uo {P Q : Prop} (h : Q) (e : P = Q := by simp only [cq, ↓Xn, ↓Xo, ↓Xg, ↓Xd, ↓Xe, ↓Xf, Tryz.VΓ, Tryz.Γs, Xp, Xi, Nat.reduceAdd, Nat.reduceSub, Nat.reduceLT, Nat.reduceLeDiff, reduceIte, reduceCtorEq, Nat.reduceEqDiff, implies_true, forall_const, cp, DU, beq_self_eq_true, bne_self_eq_false, Int.reduceBEq, Int.reduceBNe, Int.reduceLT, Int.reduceLE] <;> rfl) : P := e.symm ▸ h
theorem gC {P Q H : Prop} (hs : H) (h : Q) (e : H → P = Q := by intro hs; simp only [cq, ↓Xn, ↓Xo, ↓Xg, ↓Xd, ↓Xe, ↓Xf, Tryz.VΓ, Tryz.Γs, Xp, Xi, Nat.reduceAdd, Nat.reduceSub, Nat.reduceLT, Nat.reduceLeDiff, reduceIte, reduceCtorEq, Nat.reduceEqDiff, implies_true, forall_const, cp, DU, hs] <;> rfl) : P := (e hs).symm ▸ h
theorem I8 {P Q : Prop} (h : Q) (e : P = Q := by simp only [cq, ↓Xn, ↓Xo, ↓Xg, ↓Xd, ↓Xe, ↓Xf, Tryz.VΓ, Tryz.Γs, Xp, Xi, Nat.reduceAdd, Nat.reduceSub, Nat.reduceLT, Nat.reduceLeDiff, reduceIte, reduceCtorEq, Nat.reduceEqDiff, implies_true, forall_const, cp, DU] <;> rfl) : P := e.symm ▸ h
end Vc
