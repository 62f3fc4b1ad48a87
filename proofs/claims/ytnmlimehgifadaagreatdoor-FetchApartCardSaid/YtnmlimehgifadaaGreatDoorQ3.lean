/- Texts of this claim, laid together: VcN, Perm, Vc7, Frame, Laid, ProgF. -/
import Derived.Lib.ConvBytes
import Derived.Laws.IdiomStrings
import Derived.Laws.BytesArg
import Derived.Great.BuildSlice
import Derived.Still
import Derived.Test.YtnmlimehgifadaaGreatDoorRows
import Derived.WalkKit
import Derived.ProofKit
import Derived.OpenShut
import Derived.Shelf.Vars
import Derived.ShutString
import Derived.WideKeyArgs
import Derived.ChangeSame
import Derived.Deep.DeepHandedRow
import Derived.Deep.DeepLaidRun
import Derived.Lib.LaidTab
import Derived.Lib.SmallJoins
import Derived.SizedLaws
import Derived.Test.YtnmlimehgifadaaGreatDoorCards
import Derived.Test.YtnmlimehgifadaaGreatDoorTie
import Derived.Test.YtnmlimehgifadaaGreatDoorQ2
open And renaming intro → zPG
open Bool renaming and_eq_true → zPH, or_eq_true → zPK
open List renaming length_append → zPI, all_eq_true → zPJ, getElem?_eq_some_iff → zPN, getElem?_append_left → zPO, length_singleton → zPQ, getElem?_append_right → zPS, eq_nil_of_length_eq_zero → zPT, getD_eq_getElem?_getD → zPW, any_eq_true → zPX, toArray → zPZ, getElem?_eq_getElem → zP0, getElem?_eq_none → zP4, append_nil → zP5, contains_iff_mem → zP6, mem_range → zP8, length_cons → zQa, range → zQd, mem_cons_self → zQe, getElem?_set_ne → zQj, mem_append_left → zQl, mem_map_of_mem → zQm, map_append → zQn
open Nat renaming le_refl → zPL, lt_succ_self → zP1, add_mul → zP2, mul_le_mul_right → zP7, lt_or_ge → zP9
open Array renaming getElem?_eq_some_iff → zPM, mem_toList_iff → zPV, getElem?_eq_getElem → zPY, ext' → zQb, replicate → zQg, getD_eq_getD_getElem? → zQi, mem_append → zQk
open Option renaming map_some → zPR, some → zP3, map_none → zQc, map_eq_some_iff → zQh
set_option linter.all false
set_option maxHeartbeats 16000000
set_option maxRecDepth 20000
namespace Vc
open Go Go.RowKit Wf
def dW (b:UInt8):SV:=.int .u8 b.toNat
def Be:SV→Bool
 | .int .u8 n=>decide (0≤n∧n<256)
 | _=>false
def vf:SV→UInt8
 | .int _ n=>n.toNat.toUInt8
 | _=>0
theorem ll (l:Bytes):(l.map dW).map vf=l:=by
 rw[List.map_map]
 conv=>rhs;rw[← List.map_id l]
 apply List.map_congr_left
 intro b _
 simp[dW,vf]
theorem gd (l:Bytes):(l.map dW).all Be=true:=by
 rw[List.all_map,zPJ]
 intro b _
 have:=b.toNat_lt
 simp[dW,Be]
 omega
theorem LM (β:Nat→Bt){x:SV}(h:Be x=true):ak β x=.int .u8 (vf x).toNat:=by
 unfold Be at h
 split at h
 ·rename_i n
  simp only[decide_eq_true_eq]at h
  simp only[ak,vf]
  congr 1
  simp
  omega
 ·cases h
def rC (bs:List av)(s:Nat):SV→Option (Nat × List SV)
 | .aj=>some (0,[])
 | .str l=>if s=1 then some (l.length,l.map dW) else none
 | .o j m=>match bs[j]? with
   | some (.own c _ s' n _)=>if s'=s∧n=m then some (m,c) else none
   | _=>none
 | _=>none
def uJ (bs:List av)(e s:Nat):SV→Option (Nat × List SV × List av)
 | .aj=>some (0,[],bs)
 | .o j m=>match bs[j]? with
   | some (.own c e' s' n true)=>if e'=e∧s'=s∧n=m then some (m,c,bs.set j .gone) else none
   | _=>none
 | .f j m=>match bs[j]? with
   | some (.own c e' s' n _)=>if e'=e∧s'=s∧n=m then some (m,c,bs) else none
   | _=>none
 | _=>none
def GP:SV→Bool
 | .f _ _=>true
 | _=>false
def XP:Kd→Bool
 | .str=>true
 | .slice _=>true
 | _=>false
def Xm (V:Cx)(dst:Option Tmp)(args:List Operand)(ts:List TypeId)(σ:St):Option (Prop × St):=match args with
 | [s,x]=>match ts with
   | [t,u]=>match kd V.Γ t with
     | some (.slice e)=>match kd V.Γ u with
       | some ku=>match V.Γ e with
         | some ti=>match ev σ.t s with
           | some s=>match ev σ.t x with
             | some x=>match uJ σ.b e ti.size s with
               | some (n,c,bs)=>match rC σ.b ti.size x with
                 | some (m,xs)=>some ((GP s=true→0<m)∧XP ku=true∧0<ti.size∧xs.all one=true∧n+m≤maxLen∧(n+m) * ti.bytes≤140737488355328,⟨put dst (.o σ.b.length (n+m)) σ.t,bs++[.own (c++xs) e ti.size (n+m) true]⟩)
                 | none=>none
               | none=>none
             | none=>none
           | none=>none
         | none=>none
       | none=>none
     | _=>none
   | _=>none
 | _=>none
def HW (z:List SV):Nat→List SV
 | 0=>[]
 | n+1=>z++HW z n
def Yn (V:Cx)(dst:Option Tmp)(t:TypeId)(l c:Operand)(σ:St):Option (Prop × St):=match kd V.Γ t with
 | some (.slice e)=>match V.Γ e with
   | some ti=>match ev σ.t l with
     | some (.int _ l)=>match ev σ.t c with
       | some (.int _ c)=>some (0≤l∧l≤c∧(ti.bytes:Int) * c≤281474976710656∧c≤9223372036854775807∧0<ti.size,⟨put dst (.o σ.b.length l.toNat) σ.t,σ.b++[.own (HW ti.zero l.toNat) e ti.size l.toNat true]⟩)
       | _=>none
     | _=>none
   | none=>none
 | _=>none
def Yi (s:Nat):Nat→List (Nat × SV)→Option (List SV)
 | _,[]=>some []
 | k,(i,x)::r=>if i=k∧Hj x=false∧(cells x).length=s then match Yi s (k+1) r with
    | some c=>some (cells x++c)
    | none=>none
   else none
def Xa (V:Cx)(dst:Option Tmp)(t:TypeId)(n:Nat)(ps:List (Nat × Operand))(σ:St):Option (Prop × St):=match kd V.Γ t with
 | some (.slice e)=>match V.Γ e with
   | some ti=>match Xl σ.t ps with
     | some ps=>match Yi ti.size 0 ps with
       | some c=>some (ps.length=n∧n * ti.size≤16777216∧0<ti.size,⟨put dst (.o σ.b.length n) σ.t,σ.b++[.own c e ti.size n true]⟩)
       | none=>none
     | none=>none
   | none=>none
 | _=>none
def Ym (bs:List av)(k:Int):SV→Option (Prop × SV)
 | .o i n=>match bs[i]? with
   | some (.own _ _ s n' _)=>some (n'=n∧0<s∧0≤k∧k<n,.p i (k.toNat * s))
   | _=>none
 | _=>none
def Xc (V:Cx)(dst:Option Tmp)(t:TypeId)(x i:Operand)(σ:St):Option (Prop × St):=match kd V.Γ t with
 | some (.slice e)=>match sz V.Γ e with
   | some s=>match ev σ.t x with
     | some x=>match ev σ.t i with
       | some (.int _ k)=>match Ym σ.b k x with
         | some (c,y)=>some (c∧ow σ.b x s,⟨put dst y σ.t,σ.b⟩)
         | none=>none
       | _=>none
     | none=>none
   | none=>none
 | _=>none
where ow (bs:List av) (x:SV) (s:Nat):Prop:=match x with
 | .o i _=>match bs[i]? with
   | some (.own _ _ s' _ _)=>s'=s
   | _=>False
 | _=>False
def reS (bs:List av)(lo hi:Option SV):SV→Option (Prop × Nat × List av)
 | .o i n=>match bs[i]? with
   | some (.own c e s n' m)=>match Ax n lo hi with
     | some (k,f,u)=>match lo with
       | none=>match m with
         | true=>some (k∧n'=n∧0<s,u,bs.set i .gone++[.own (c.take (u * s)) e s u true])
         | false=>some (k∧n'=n∧0<s,u,bs++[.own (c.take (u * s)) e s u false])
       | some _=>some (k∧n'=n∧0<s,u - f,bs.set i (.own c e s n' false)++[.own ((c.take (u * s)).drop (f * s)) e s (u - f) false])
     | none=>none
   | _=>none
 | _=>none
def Xj (V:Cx)(dst:Option Tmp)(t:TypeId)(x:Operand)(lo hi:Option Operand)(σ:St):Option (Prop × St):=match kd V.Γ t with
 | some (.slice e)=>match sz V.Γ e with
   | some s=>match ev σ.t x with
     | some x=>match sM σ.t lo with
       | some lo=>match sM σ.t hi with
         | some hi=>match reS σ.b lo hi x with
           | some (c,n,bs)=>some (c∧Xc.ow σ.b x s,⟨put dst (.o σ.b.length n) σ.t,bs⟩)
           | none=>none
         | none=>none
       | none=>none
     | none=>none
   | none=>none
 | _=>none
def GO (bs:List av)(s:Nat)(hi mx:Int):SV→Option (Prop × SV)
 | .o i n=>match bs[i]? with
   | some (.own _ _ s' n' _)=>some (n'=n∧s'=s∧hi=(n:Int)∧mx=(n:Int),.f i n)
   | _=>none
 | .aj=>some (hi=0∧mx=0,.aj)
 | _=>none
def Il (V:Cx)(dst:Option Tmp)(t:TypeId)(x hi mx:Operand)(σ:St):Option (Prop × St):=match kd V.Γ t with
 | some (.slice e)=>match sz V.Γ e with
   | some s=>match ev σ.t x with
     | some x=>match ev σ.t hi with
       | some (.int _ hi)=>match ev σ.t mx with
         | some (.int _ mx)=>match GO σ.b s hi mx x with
           | some (c,y)=>some (c,⟨put dst y σ.t,σ.b⟩)
           | none=>none
         | _=>none
       | _=>none
     | none=>none
   | none=>none
 | _=>none
def Yb (V:Cx)(dst:Option Tmp)(src d:TypeId)(x:Operand)(σ:St):Option (Prop × St):=match kd V.Γ src with
 | some .str=>match kd V.Γ d with
   | some (.slice e)=>match kd V.Γ e with
     | some (.int .u8)=>match ev σ.t x with
       | some (.str l)=>some (l.length≤maxLen,⟨put dst (.o σ.b.length l.length) σ.t,σ.b++[.own (l.map dW) e 1 l.length true]⟩)
       | _=>none
     | _=>none
   | _=>none
 | some (.slice e)=>match kd V.Γ d with
   | some .str=>match kd V.Γ e with
     | some (.int .u8)=>match ev σ.t x with
       | some .aj=>some (True,⟨put dst (.str []) σ.t,σ.b⟩)
       | some (.o i n)=>match σ.b[i]? with
         | some (.own c _ s n' _)=>some (n'=n∧s=1∧c.all Be=true,⟨put dst (.str (c.map vf)) σ.t,σ.b⟩)
         | _=>none
       | _=>none
     | _=>none
   | _=>none
 | _=>none
def mmS (min:Bool):SV→SV→Option SV
 | .int k x,.int _ y=>some (.int k (if min then(if y<x then y else x) else(if x<y then y else x)))
 | _,_=>none
def Xq (min:Bool)(dst:Option Tmp)(args:List Operand)(σ:St):Option (Prop × St):=match args with
 | [x,y]=>match ev σ.t x with
   | some x=>match ev σ.t y with
     | some y=>(mmS min x y).map fun z=>(True,⟨put dst z σ.t,σ.b⟩)
     | none=>none
   | none=>none
 | _=>none
def Yl (V:Cx)(dst:Option Tmp):Op→St→Option (Prop × St)
 | .call ⟨.builtin .append,args,ts⟩,σ=>Xm V dst args.toList ts.toList σ
 | .call ⟨.builtin .min,args,_⟩,σ=>Xq true dst args.toList σ
 | .call ⟨.builtin .max,args,_⟩,σ=>Xq false dst args.toList σ
 | .makeSlice t l c,σ=>Yn V dst t l c σ
 | .buildSlice t n ps,σ=>Xa V dst t n ps.toList σ
 | .indexAddr t x i,σ=>Xc V dst t x i σ
 | .slice t x lo hi none,σ=>Xj V dst t x lo hi σ
 | .slice t x none (some hi) (some mx),σ=>Il V dst t x hi mx σ
 | .convert s d x,σ=>Yb V dst s d x σ
 | _,_=>none
section
variable {V:Cx} {F:Fx V} {β:Nat→Bt} {fp:Nat→Nat→Prop} {bs:List av} {w:World} {t:List (Nat × SV)} {a:Act}
theorem Wd.own (h:Wd F β fp bs w){i n s e:Nat}{c:List SV}{m:Bool}(hi:bs[i]? = some (.own c e s n m)){β':Nat→Bt}(hβ:cN bs.length β β'):Holds β' (β' i) (fp i) w (.own c e s n m):=(h.bx β' hβ).holds i _ hi
theorem own_len (h:Wd F β fp bs w){i n s e:Nat}{c:List SV}{m:Bool}(hi:bs[i]? = some (.own c e s n m)):c.length=n * s:=by
 rcases h.own hi (cN.refl _ β) with⟨-,rfl,rfl,-⟩|⟨-,-,-,h4,-⟩
 ·simp
 ·exact h4
theorem HN (h:Wd F β fp bs w){s:Nat}(hs:0<s){x:SV}{m:Nat}{xs:List SV}(hx:rC bs s x=some (m,xs)){β':Nat→Bt}(hβ:cN bs.length β β')(w':World)(hw':w'.heap=w.heap)(P:Program) :
 (Builtin.lenOf (ak β' x)).run P w'=Result.ok m w'∧(Builtin.firstCells s m (ak β' x)).run P w'=Result.ok (xs.map (ak β')).toArray w'∧xs.length=m * s:=by
 unfold rC at hx
 split at hx
 ·cases hx
  simp[ak,Builtin.lenOf,Builtin.firstCells]
 ·rename_i l
  split at hx
  ·rename_i xF
   cases hx
   subst xF
   refine⟨by simp[ak,Builtin.lenOf];rfl,?_,by simp⟩
   simp only[ak,Builtin.firstCells,Sem.run_pure]
   congr 1
   apply zQb
   have e:(⟨zPZ l⟩:ByteArray).extract 0 l.length=⟨zPZ l⟩:=by rw[fE];simp
   rw[e]
   simp[dW,ak,Function.comp_def]
  ·cases hx
 ·rename_i j m'
  split at hx
  ·rename_i c e s' n mn hj
   split at hx
   ·rename_i hc
    obtain⟨rfl,rfl⟩:=hc
    cases hx
    have hl:=own_len h hj
    have ho:=h.own hj hβ
    refine⟨?_,?_,hl⟩
    ·simp only[ak,oV];split <;> simp[Builtin.lenOf]
    ·simp only[ak,oV]
     rcases ho with⟨h1,h2,h3,-⟩|⟨h1,-,-,-,h5,-⟩
     ·rw[if_pos h1];subst h3;simp[Builtin.firstCells]
     ·rw[if_neg h1]
      refine run_firstCells_some (P:=P) w' _ _ _ _ _ _ (by simpa using hl) (fun j v hv=>?_)
      rw[eY]
      have:=h5 j v hv
      rw[← this]
      exact World.cell?_of_block (w:=w) (by rw[hw'])
   ·cases hx
  ·cases hx
 ·cases hx
theorem C8 {P:Program}(w:World)(t u ty e:TypeId)(i:TypeInfo)(ht:P.underlying t=some (.slice e)){d:TypeDesc}(hu:P.underlying u=some d)(hd:d=.string∨∃ e',d=.slice e')(hi:P.info? e=some i)
 (g lx sCap m:Nat) (x:Value) (news:List Value) (hlen:(Builtin.lenOf x).run P w=Result.ok m w) (hf:(Builtin.firstCells i.size m x).run P w=Result.ok news.toArray w) (Gd:lx+m≤sCap) {w':World}
 (hY:(storeCells ⟨g,lx * i.size,none⟩ news).run P w=Result.ok () w') :
 (Builtin.append_ #[t,u] ty #[.slice (some ⟨g,0,none⟩) lx sCap,x]).run P w=Result.ok (.slice (some ⟨g,0,none⟩) (lx+m) sCap) w':=by
 rcases hd with rfl|⟨e',rfl⟩ <;> simp[Builtin.append_,run_underlying ht,run_underlying hu,Go.sizeOf,typeInfo,hi,hlen,Gd,hf,eY,hY]
theorem C9 {P:Program}(w:World)(t u ty e:TypeId)(i:TypeInfo)(z:Value)(ht:P.underlying t=some (.slice e)){d:TypeDesc}(hu:P.underlying u=some d)(hd:d=.string∨∃ e',d=.slice e')(hi:P.info? e=some i)(hz:i.zero=some z)
 (b:Option Addr) (lx sCap m:Nat) (x:Value) (olds news:List Value) (hlen:(Builtin.lenOf x).run P w=Result.ok m w) (hf:(Builtin.firstCells i.size m x).run P w.drew=Result.ok news.toArray w.drew)
 (ho:(Builtin.firstCells i.size lx (.slice b lx sCap)).run P w.drew=Result.ok olds.toArray w.drew)
 (hg:sCap<lx+m) (xM:lx+m≤maxLen) (vW:(lx+m) * i.bytes≤140737488355328) :
 (Builtin.append_ #[t,u] ty #[.slice b lx sCap,x]).run P w =
  Result.ok (.slice (some ⟨w.heap.size,0,none⟩) (lx+m) (grownCap w (lx+m) sCap e)) (w.drew.alloc (.cells ((olds++news).toArray++Builtin.zeroCells z.cells (grownCap w (lx+m) sCap e - (lx+m))) e)):=by
 have hn:¬ (lx+m≤sCap):=by omega
 have h63':¬ (9223372036854775807<((lx:Int)+(m:Int))):=by unfold maxLen at xM;omega
 have h48':¬ (281474976710656<Builtin.nextslicecap (lx+m) sCap * i.bytes):=by have:=growslice_fits hg vW;omega
 rcases hd with rfl|⟨e',rfl⟩ <;> simp[Builtin.append_,run_underlying ht,run_underlying hu,Go.sizeOf,typeInfo,zeroValue,hi,hz,hlen,hn,h63',h48',Question.forced,hf,ho,newRow,grownCap]
 all_goals
  congr 2
  apply zQb
  simp
theorem kY {w:World}{g cap e s n:Nat}{c:List SV}{β':Nat→Bt}{rest:List Value}{fz:Nat × Nat}(hh:w.heap[g]? = some (.cells (c.map (ak β')++rest).toArray e fz))(NU:c.length+rest.length≤fz.1∨fz.2≤fz.1)(hc:c.length=n * s)(hn:n≤cap)(zX:cap≤maxLen)(mL:c.length+rest.length=cap * s) :
 Holds β' ⟨g,0,cap+1⟩ (·=g) w (.own c e s n true):=by
 have hd:Head w g e (c.map (ak β')) rest fz:=⟨hh,by simp;omega⟩
 exact .inr ⟨by simp,hn,zX,hc,hd.vM,fun _=>⟨rfl,rest,fz,hd,NU,mL⟩,fun k=>Iff.rfl⟩
theorem holds_nil {w:World}{e s:Nat}{β':Nat→Bt}{m:Bool}:Holds β' ⟨0,0,0⟩ (fun _=>False) w (.own [] e s 0 m):=.inl ⟨rfl,rfl,rfl,by simp⟩
theorem JX {e s:Nat}{sv:SV}{n:Nat}{c:List SV}{bs2:List av}(h:uJ bs e s sv=some (n,c,bs2)):bs2.length=bs.length:=by
 unfold uJ at h
 split at h
 ·cases h;rfl
 ·split at h
  ·split at h
   ·cases h;simp
   ·cases h
  ·cases h
 ·split at h
  ·split at h
   ·cases h;rfl
   ·cases h
  ·cases h
 ·cases h
theorem DO {w:World}{b:Nat}{x:Obj}(h:w.heap[b]? = some x):b<w.heap.size:=(zPM.1 h).1
theorem JW (h:Wd F β fp bs w){e s:Nat}{sv:SV}{n:Nat}{c:List SV}{bs2:List av}(hs:uJ bs e s sv=some (n,c,bs2)){w':World}(hb:Below w.heap.size w w')(r:av)(b:Bt)(f:Nat→Prop)
 (hr:∀ β',cN (bs.length+1) (re β bs.length b) β'→Holds β' b f w' r) (hf:∀ k,f k→w.heap.size≤k∧k<w'.heap.size):∃ fp₂,Wd F (re β bs.length b) fp₂ (bs2++[r]) w':=by
 unfold uJ at hs
 split at hs
 ·cases hs;exact⟨_,h.more hb r b f hr hf⟩
 ·split at hs
  ·rename_i hj
   split at hs
   ·cases hs
    exact⟨_,h.swap hj rfl (tz.jY hb) r b f hr (fun k hk=>⟨.inr (hf k hk).1,(hf k hk).2⟩)⟩
   ·cases hs
  ·cases hs
 ·split at hs
  ·split at hs
   ·cases hs;exact⟨_,h.more hb r b f hr hf⟩
   ·cases hs
  ·cases hs
 ·cases hs
theorem app_ok (h:Wd F β fp bs w){t u e s:Nat}(ht:V.P.underlying t=some (.slice e)){d:TypeDesc}(hu:V.P.underlying u=some d)(hd:d=.string∨∃ e',d=.slice e'){ti:TI}(oJ:V.Γ e=some ti)(mL:ti.size=s)(oe:0<s)
 {sv xv:SV} {n m:Nat} {c xs:List SV} {bs2:List av} (hs:uJ bs e s sv=some (n,c,bs2)) (hx:rC bs s xv=some (m,xs)) (hxv:∀ β',cN bs.length β β'→ak β xv=ak β' xv) (h1:xs.all one=true) (xM:n+m≤maxLen) (hby:(n+m) * ti.bytes≤140737488355328) (h0m:GP sv=true→0<m) (ty:TypeId) :
 ∃ b fp₂ w',(Builtin.append_ #[t,u] ty #[ak β sv,ak β xv]).run V.P w=Result.ok (oV b (n+m)) w'∧Wd F (re β bs.length b) fp₂ (bs2++[.own (c++xs) e s (n+m) true]) w':=by
 obtain⟨i,z,hi,hz,vT,NT,Hl⟩:=(V.ki e ti oJ).info
 have Hk:=(V.ki e ti oJ).len
 have hiss:i.size=s:=vT.trans mL
 obtain⟨xG,Gr,od⟩:=HN h oe hx (cN.refl _ β) w rfl V.P
 obtain⟨kJ,p6,-⟩:=HN h oe hx (cN.refl _ β) w.drew rfl V.P
 have hxa:∀ β',cN bs.length β β'→xs.map (ak β)=xs.map (ak β'):=fun β' hβ=>by
  have h2:=(HN h oe hx hβ w rfl V.P).2.1
  rw[← hxv β' hβ,Gr]at h2
  injection h2 with h2
  simpa using h2
 rw[← hiss]at Gr p6
 have hzs:z.cells.size=s:=by rw[Hl];simp[Hk,mL]
 -- a new row
 have grow:∀ (b:Option Addr) (cap:Nat) (hca:∀ β',cN bs.length β β'→c.map (ak β)=c.map (ak β')) (iU:c.length=n * s),(Builtin.firstCells i.size n (.slice b n cap)).run V.P w.drew=Result.ok (c.map (ak β)).toArray w.drew→cap<n+m →
  ∃ b' fp₂ w',(Builtin.append_ #[t,u] ty #[.slice b n cap,ak β xv]).run V.P w=Result.ok (oV b' (n+m)) w'∧Wd F (re β bs.length b') fp₂ (bs2++[.own (c++xs) e s (n+m) true]) w':=fun b cap hca iU ho hg=>by
  have dP:=C9 (P:=V.P) w t u ty e i z ht hu hd hi hz b n cap m (ak β xv) (c.map (ak β)) (xs.map (ak β)) xG p6 ho hg xM (by rw[NT];exact hby)
  have qL:=grownCap_ge w (n+m) cap e
  have hle:=grownCap_le_maxLen w (n+m) cap e xM
  generalize grownCap w (n+m) cap e=cap' at dP qL hle
  have hwd0:∃ fp₂,Wd F (re β bs.length ⟨w.heap.size,0,cap'+1⟩) fp₂ (bs2++[.own (c++xs) e s (n+m) true]) (w.drew.alloc (.cells ((c.map (ak β)++xs.map (ak β)).toArray++Builtin.zeroCells z.cells (cap' - (n+m))) e)):=by
   refine JW h hs (((Below.refl _ _).drew).alloc (zPL _) _) (.own (c++xs) e s (n+m) true) ⟨w.heap.size,0,cap'+1⟩ (·=w.heap.size) (fun β' hβ=>?_) (fun k hk=>?_)
   ·refine kY (rest:=(Builtin.zeroCells z.cells (cap' - (n+m))).toList) (fz:=(0,0)) ?_ (.inr (zPL _)) (by rw[zPI,iU,od,zP2]) qL hle ?_
    ·have e1:=eI w.drew (.cells ((c.map (ak β)++xs.map (ak β)).toArray++Builtin.zeroCells z.cells (cap' - (n+m))) e)
     have e2:w.drew.heap.size=w.heap.size:=rfl
     rw[e2]at e1
     rw[e1,hca β' hβ.fP,hxa β' hβ.fP]
     congr 2
     apply zQb
     simp
    ·rw[zPI,iU,od]
     simp only[Array.length_toList,size_zeroCells,hzs]
     rw[← zP2,← zP2]
     congr 1
     omega
   ·subst hk
    exact⟨zPL _,by rw[size_alloc];exact zP1 _⟩
  obtain⟨fp₂,tu⟩:=hwd0
  exact⟨⟨w.heap.size,0,cap'+1⟩,fp₂,_,by rw[dP];simp[oV],tu⟩
 -- nothing at all
 have none0:c=[]→n=0→∃ b' fp₂ w',(Builtin.append_ #[t,u] ty #[.slice none 0 0,ak β xv]).run V.P w=Result.ok (oV b' (n+m)) w'∧Wd F (re β bs.length b') fp₂ (bs2++[.own (c++xs) e s (n+m) true]) w':=fun jT mO=>by
  subst jT mO
  by_cases hm:m=0
  ·subst hm
   have hxs:xs=[]:=zPT (by rw[od];simp)
   subst hxs
   obtain⟨fp₂,tu⟩:=JW h hs (Below.refl _ w) (.own [] e s 0 true) ⟨0,0,0⟩ (fun _=>False) (fun β' _=>holds_nil) (fun k hk=>hk.elim)
   refine⟨⟨0,0,0⟩,fp₂,w,?_,tu⟩
   rcases hd with rfl|⟨e',rfl⟩ <;> simp[Builtin.append_,run_underlying ht,run_underlying hu,Go.sizeOf,typeInfo,hi,xG,Gr,oV]
  ·exact grow none 0 (fun _ _=>rfl) (by simp) (by simp[Builtin.firstCells]) (by omega)
 have hs':=hs
 unfold uJ at hs'
 split at hs'
 ·cases hs'
  simpa[ak] using none0 rfl rfl
 ·rename_i j n0
  split at hs'
  ·rename_i c0 e0 s0 n1 hj
   split at hs'
   ·rename_i r7
    obtain⟨rfl,rfl,rfl⟩:=r7
    cases hs'
    have ho:=h.own hj (cN.refl _ β)
    rcases ho with⟨k1,k2,k3,-⟩|⟨k1,k2,k3,k4,k5,k6,k7⟩
    ·have:=none0 k3 k2
     simp only[ak,oV,if_pos k1]
     rw[k2]at this ⊢
     exact this
    ·obtain⟨k8,rest,fz,k9,k10,k11⟩:=k6 rfl
     have hjlt:j<bs.length:=(zPN.1 hj).1
     have hgj:j3 bs j=some (c,e0,true):=by simp[j3,hj]
     simp only[ak,oV,if_neg k1]
     by_cases Gd:n+m≤(β j).cap - 1
     ·have iU:(c.map (ak β)).length=n * s0:=by simpa using k4
      have hmul:n * s0+m * s0≤((β j).cap - 1) * s0:=by rw[← zP2];exact zP7 _ Gd
      have hY:=iY (P:=V.P) (β j).fh (n * s0) e0 fz (xs.map (ak β)) 0 _ w k9.1 (by simp;omega) (by simp;omega) (fun v hv=>by
       simp only[List.mem_map]at hv
       obtain⟨x,hx',rfl⟩:=hv
       exact wU (zPJ.1 h1 x hx') β)
      have e1:(List.take (n * s0+0) (c.map (ak β)++rest)++xs.map (ak β)++List.drop (n * s0+0+(xs.map (ak β)).length) (c.map (ak β)++rest))=(c++xs).map (ak β)++rest.drop (m * s0):=by
       simp only[Nat.add_zero,zQn]
       rw[List.take_append_of_le_length (by omega),List.take_of_length_le (by omega),List.drop_append,List.drop_of_length_le (by simp;omega)]
       simp[od,k4]
      simp only[e1]at hY
      have dP:=C8 (P:=V.P) w t u ty e0 i ht hu hd hi (β j).fh n ((β j).cap - 1) m (ak β xv) (xs.map (ak β)) xG Gr Gd (by rw[hiss];exact hY)
      have vS:=setRow_heap w (β j).fh _ ((c++xs).map (ak β)++rest.drop (m * s0)).toArray _ _ k9.1
      have hcb:(β j).cap - 1+1=(β j).cap:=by omega
      have tu:=h.swap hj rfl (w':=w.setRow (β j).fh ((c++xs).map (ak β)++rest.drop (m * s0)).toArray) ⟨rfl,rfl,rfl,by simp,fun k hk hn=>setRow_other _ _ _ _ (fun ek=>hn ((k7 k).2 ek))⟩ (.own (c++xs) e0 s0 (n+m) true) ⟨(β j).fh,0,(β j).cap - 1+1⟩ (·=(β j).fh) (fun β' hβ=>?_) (fun k hk=>?_)
      ·refine⟨⟨(β j).fh,0,(β j).cap - 1+1⟩,_,_,?_,tu⟩
       rw[k8,dP]
       simp[oV]
      ·refine kY (rest:=rest.drop (m * s0)) (fz:=fz) ?_ ?_ (by rw[zPI,k4,od,zP2]) Gd k3 ?_
       ·rw[vS,zQn,h.Es hgj hβ.fP,hxa β' hβ.fP,← zQn]
       ·simp only[zPI,List.length_drop]
        rcases k10 with k10|k10
        ·left;omega
        ·exact .inr k10
       ·simp only[zPI,List.length_drop]
        omega
      ·subst hk
       refine⟨.inl ((k7 _).2 rfl),?_⟩
       rw[setRow_size]
       exact DO k9.1
     ·refine grow _ _ (fun β' hβ=>h.Es hgj hβ) k4 ?_ (by omega)
      rw[hiss]
      refine run_firstCells_some (P:=V.P) w.drew s0 n _ n _ (c.map (ak β)) (by simpa using k4) (fun q v hv=>?_)
      rw[eY]
      exact k5 q v hv
   ·cases hs'
  ·cases hs'
 ·rename_i j n0
  split at hs'
  ·rename_i c0 e0 s0 n1 m1 hj
   split at hs'
   ·rename_i r7
    obtain⟨rfl,rfl,rfl⟩:=r7
    cases hs'
    have Mb:0<m:=h0m rfl
    have hgj:j3 bs j=some (c,e0,m1):=by simp[j3,hj]
    have ho:=h.own hj (cN.refl _ β)
    rcases ho with⟨k1,k2,k3,-⟩|⟨k1,k2,k3,k4,k5,k6,k7⟩
    ·have:=none0 k3 k2
     simp only[ak,fV,if_pos k1]
     rw[k2]at this ⊢
     exact this
    ·simp only[ak,fV,if_neg k1]
     refine grow _ _ (fun β' hβ=>h.Es hgj hβ) k4 ?_ (by omega)
     rw[hiss]
     refine run_firstCells_some (P:=V.P) w.drew s0 n _ n _ (c.map (ak β)) (by simpa using k4) (fun q v hv=>?_)
     rw[eY]
     exact k5 q v hv
   ·cases hs'
  ·cases hs'
 ·cases hs'
theorem Wd.split (h:Wd F β fp bs w){i:Nat}{r0:av}(hi:bs[i]? = some r0)(r1 r:av)(b:Bt)(f1 f:Nat→Prop)(h1:∀ β',cN bs.length β β'→Holds β' (β' i) f1 w r1)(x7:r1.dg=false)(Gr:∀ k,f1 k→fp i k)
 (hr:∀ β',cN (bs.length+1) (re β bs.length b) β'→Holds β' b f w r) (hf:∀ k,f k→fp i k) (hm:r.dg=true→r0.dg=true∧∀ k,¬ f1 k) :
 Wd F (re β bs.length b) (fun j k=>if j=bs.length then f k else if j=i then f1 k else fp j k) (bs.set i r1++[r]) w:=by
 have xH:i<bs.length:=(zPN.1 hi).1
 have old:∀ {j:Nat} {r':av},(bs.set i r1++[r])[j]? = some r'→(j<bs.length∧j≠i∧bs[j]? = some r')∨(j=i∧r'=r1)∨(j=bs.length∧r'=r):=fun {j r'} hj=>by
  rcases zP9 j bs.length with aA|qL
  ·rw[zPO (by simpa using aA)]at hj
   by_cases nR:j=i
   ·subst nR
    rw[List.getElem?_set_self xH]at hj
    exact .inr (.inl ⟨rfl,by simpa using hj.symm⟩)
   ·rw[zQj (fun e=>nR e.symm)]at hj
    exact .inl ⟨aA,nR,hj⟩
  ·have hj':j=bs.length:=by
    have:=(zPN.1 hj).1
    rw[zPI,zPQ,List.length_set]at this
    omega
   subst hj'
   rw[zPS (by simp)]at hj
   simp at hj
   exact .inr (.inr ⟨rfl,hj.symm⟩)
 have dL:=h.bx β (cN.refl _ _)
 have fo:∀ {j:Nat},j<bs.length→j≠i→(fun k=>if j=bs.length then f k else if j=i then f1 k else fp j k)=fp j:=fun {j} hj bK=>by funext k;simp[show j≠bs.length by omega,bK]
 have fi:(fun k=>if i=bs.length then f k else if i=i then f1 k else fp i k)=f1:=by funext k;simp[show i≠bs.length by omega]
 have fn:(fun k=>if bs.length=bs.length then f k else if bs.length=i then f1 k else fp bs.length k)=f:=by funext k;simp
 refine⟨h.fr,fun β' hβ=>?_,fun j r' hj hm' k hk=>?_,?_,fun j r' hj k hk=>?_⟩
 ·rw[zPI,zPQ,List.length_set]at hβ
  have hb':=h.bx β' hβ.fP
  have lI:β' bs.length=b:=by rw[← hβ bs.length (by omega),jB]
  refine⟨fun j r' hj=>?_,fun j r' hj k hk=>?_,fun j l r2 r3 hj hl bK jJ k hk hk'=>?_⟩
  ·rcases old hj with⟨aA,bK,gm⟩|⟨ej,e2⟩|⟨ej,e2⟩
   ·simp only[fo aA bK];exact hb'.holds j r' gm
   ·subst ej e2
    rw[fi]
    exact h1 β' hβ.fP
   ·subst ej e2
    rw[fn,lI]
    exact hr β' hβ
  ·rcases old hj with⟨aA,bK,gm⟩|⟨ej,e2⟩|⟨ej,e2⟩
   ·simp only[if_neg (show j≠bs.length by omega),if_neg bK]at hk
    exact dL.lt j r' gm k hk
   ·subst ej
    simp only[if_neg (show j≠bs.length by omega),if_true]at hk
    exact dL.lt j r0 hi k (Gr k hk)
   ·subst ej
    simp only[if_true]at hk
    exact dL.lt i r0 hi k (hf k hk)
  ·rcases old hj with⟨aA,hnj,gm⟩|⟨ej,e2⟩|⟨ej,e2⟩
   ·simp only[if_neg (show j≠bs.length by omega),if_neg hnj]at hk
    rcases old hl with⟨hlt',sY,kJ⟩|⟨el,e3⟩|⟨el,e3⟩
    ·simp only[if_neg (show l≠bs.length by omega),if_neg sY]at hk'
     exact dL.sep j l r2 r3 gm kJ bK jJ k hk hk'
    ·subst el e3
     simp only[if_neg (show l≠bs.length by omega),if_true]at hk'
     rcases jJ with jJ|jJ
     ·exact dL.sep j l r2 r0 gm hi hnj (.inl jJ) k hk (Gr k hk')
     ·rw[x7]at jJ;cases jJ
    ·subst el e3
     simp only[if_true]at hk'
     rcases jJ with jJ|jJ
     ·exact dL.sep j i r2 r0 gm hi hnj (.inl jJ) k hk (hf k hk')
     ·exact dL.sep j i r2 r0 gm hi hnj (.inr (hm jJ).1) k hk (hf k hk')
   ·subst ej e2
    simp only[if_neg (show j≠bs.length by omega),if_true]at hk
    rcases old hl with⟨hlt',sY,kJ⟩|⟨el,e3⟩|⟨el,e3⟩
    ·simp only[if_neg (show l≠bs.length by omega),if_neg sY]at hk'
     rcases jJ with jJ|jJ
     ·rw[x7]at jJ;cases jJ
     ·exact dL.sep l j r3 r0 kJ hi sY (.inl jJ) k hk' (Gr k hk)
    ·exact bK el.symm
    ·subst el e3
     rcases jJ with jJ|jJ
     ·rw[x7]at jJ;cases jJ
     ·exact(hm jJ).2 k hk
   ·subst ej e2
    simp only[if_true]at hk
    rcases old hl with⟨hlt',sY,kJ⟩|⟨el,e3⟩|⟨el,e3⟩
    ·simp only[if_neg (show l≠bs.length by omega),if_neg sY]at hk'
     rcases jJ with jJ|jJ
     ·exact dL.sep l i r3 r0 kJ hi sY (.inr (hm jJ).1) k hk' (hf k hk)
     ·exact dL.sep l i r3 r0 kJ hi sY (.inl jJ) k hk' (hf k hk)
    ·subst el e3
     simp only[if_neg (show l≠bs.length by omega),if_true]at hk'
     rcases jJ with jJ|jJ
     ·exact(hm jJ).2 k hk'
     ·rw[x7]at jJ;cases jJ
    ·exact bK el.symm
 ·rcases old hj with⟨aA,bK,gm⟩|⟨ej,e2⟩|⟨ej,e2⟩
  ·simp only[if_neg (show j≠bs.length by omega),if_neg bK]at hk
   exact h.dg j r' gm hm' k hk
  ·subst e2;rw[x7]at hm';cases hm'
  ·subst ej e2
   simp only[if_true]at hk
   exact h.dg i r0 hi (hm hm').1 k (hf k hk)
 ·have hl:=h.xZ.len
  exact⟨fun j hj=>(h.xZ.Es j hj).trans (iu β _ _ j (by omega)),by rw[zPI,List.length_set];omega⟩
 ·rcases old hj with⟨aA,bK,gm⟩|⟨ej,e2⟩|⟨ej,e2⟩
  ·simp only[if_neg (show j≠bs.length by omega),if_neg bK]at hk
   exact h.qP j r' gm k hk
  ·subst ej
   simp only[if_neg (show j≠bs.length by omega),if_true]at hk
   exact h.qP j r0 hi k (Gr k hk)
  ·subst ej
   simp only[if_true]at hk
   exact h.qP i r0 hi k (hf k hk)
theorem GX {n cap:Nat}(hle:n≤cap){lo hi:Option SV}{c:Prop}{f u:Nat}{β:Nat→Bt}(h:Ax n lo hi=some (c,f,u))(hc:c)(P:Program)(w:World) :
 (Instr.sliceBounds true n cap (lo.map (ak β)) (hi.map (ak β)) none).run P w=Result.ok (f,u,cap) w∧f≤u∧u≤n∧(lo=none→f=0):=by
 unfold Ax at h
 split at h <;> simp only[zP3.injEq,Prod.mk.injEq,reduceCtorEq]at h
 all_goals
  obtain⟨rfl,rfl,rfl⟩:=h
  refine⟨?_,by omega,by omega,by simp⟩
  simp[ak,Instr.sliceBounds,Instr.sliceBound,asIntOf,go_sem]
  try omega
 rw[if_pos (by omega),if_pos (by omega)]
theorem MB {e s:Nat}(hs:sz V.Γ e=some s)(w:World):(Go.sizeOf e).run V.P w=Result.ok s w:=by
 unfold sz at hs
 cases zF:V.Γ e with
 | none=>simp[zF]at hs
 | some ti=>simp[zF]at hs;rw[← hs];exact(V.ki e ti zF).size w
theorem KP {w:World}{b off:Nat}{vs:List Value}(h:q9 w b off vs)(k j:Nat):q9 w b (off+k) ((vs.take j).drop k):=fun q v hv=>by
 have h1:=h (k+q) v (by
  rw[List.getElem?_drop]at hv
  rw[List.getElem?_take]at hv
  split at hv
  ·exact hv
  ·cases hv)
 rw[Nat.add_assoc]
 exact h1
theorem re_ok (h:Wd F β fp bs w){t e s:Nat}(ht:V.P.underlying t=some (.slice e))(hz:(Go.sizeOf e).run V.P w=Result.ok s w){lo hi:Option SV}{x:SV}{c0:Prop}{n0:Nat}{bs2:List av}(ha:reS bs lo hi x=some (c0,n0,bs2))(hc:c0)(hsi:Xc.ow bs x s) :
 ∃ b fp₂,(Instr.sliceAt t (ak β x) (lo.map (ak β)) (hi.map (ak β)) none).run V.P w=Result.ok (oV b n0) w∧bs2.length=bs.length+1∧Wd F (re β bs.length b) fp₂ bs2 w:=by
 unfold reS at ha
 split at ha
 ·rename_i i n
  split at ha
  ·rename_i c e' s' n' m hi'
   simp only[Xc.ow,hi']at hsi
   subst hsi
   have xH:i<bs.length:=(zPN.1 hi').1
   split at ha
   ·rename_i k f u hb
    have hsame:k∧n'=n∧0<s':=by
     (repeat' split at ha) <;> (cases ha;exact hc)
    obtain⟨hk,rfl,oe⟩:=hsame
    have ho:=h.own hi' (cN.refl _ β)
    have hgi:j3 bs i=some (c,e',m):=by simp[j3,hi']
    -- the new slice, as a thing that may only be read
    have vS:∃ b,(Instr.sliceAt t (ak β (.o i n')) (lo.map (ak β)) (hi.map (ak β)) none).run V.P w=Result.ok (oV b (u - f)) w∧f≤u∧u≤n'∧(lo=none→f=0) ∧
     (∀ m',(m'=true→m=true∧lo=none)→∀ β',cN (bs.length+1) (re β bs.length b) β'→Holds β' b (fp i) w (.own ((c.take (u * s')).drop (f * s')) e' s' (u - f) m')):=by
     rcases ho with⟨h1,h2,h3,h4⟩|⟨h1,h2,h3,h4,h5,h6,h7⟩
     ·subst h2 h3
      obtain⟨hsb,hfu,KX,hlo⟩:=GX (β:=β) (zPL 0) hb hk V.P w
      have hu:u=0:=by omega
      have hf:f=0:=by omega
      subst hu hf
      refine⟨⟨0,0,0⟩,?_,zPL _,zPL _,fun _=>rfl,fun m' _ β' _=>.inl ⟨rfl,rfl,by simp,h4⟩⟩
      simp only[ak,oV,if_pos h1]
      simp[Instr.sliceAt,Instr.slice,run_underlying ht,hsb,hz]
     ·obtain⟨hsb,hfu,KX,hlo⟩:=GX (β:=β) h2 hb hk V.P w
      refine⟨⟨(β i).fh,if (β i).cap - 1=f then(β i).off else(β i).off+f * s',(β i).cap - 1 - f+1⟩,?_,hfu,KX,hlo,fun m' hm' β' hβ=>.inr ⟨by simp,by simp;omega,by simp;omega,?_,?_,fun hm=>?_,h7⟩⟩
      ·simp only[ak,oV,if_neg h1]
       simp only[Instr.sliceAt,Instr.slice,run_underlying ht,hsb,hz,Sem.run_bind,Result.andThen_ok,Sem.run_pure,zPR,eY]
       simp
       split <;> rfl
      ·rw[List.length_drop,List.length_take,h4,Nat.min_eq_left (zP7 _ KX),Nat.sub_mul]
      ·have:=KP h5 (f * s') (u * s')
       rw[h.Es hgi hβ.fP]at this
       rw[List.map_drop,List.map_take]
       by_cases Oa:(β i).cap - 1=f
       ·have:u=f:=by omega
        subst this
        intro q v hv
        rw[List.drop_of_length_le (by rw[List.length_take];exact Nat.min_le_left _ _)]at hv
        cases hv
       ·simp only[if_neg Oa]
        exact this
      ·obtain⟨x7,hlo1⟩:=hm' hm
       have Bo:=hlo hlo1
       subst Bo
       obtain⟨h8,rest,fz,h9,de,eJ⟩:=h6 x7
       have hus:u * s'≤c.length:=by rw[h4];exact zP7 _ KX
       refine⟨by simp[h8],(c.drop (u * s')).map (ak β')++rest,fz,⟨?_,?_⟩,?_,?_⟩
       ·rw[h9.1,Nat.zero_mul,List.drop_zero,← List.append_assoc,← zQn,List.take_append_drop,h.Es hgi hβ.fP]
       ·have:=h9.2
        simp at this ⊢
        omega
       ·simp
        omega
       ·simp
        omega
    obtain⟨b,dP,hfu,KX,hlo,hnw⟩:=vS
    cases lo with
    | none =>
      have Bo:=hlo rfl
      subst Bo
      have hnw':=hnw m (fun hm=>⟨hm,rfl⟩)
      simp only[Nat.zero_mul,List.drop_zero,Nat.sub_zero]at hnw' dP
      cases m with
      | false =>
        cases ha
        have eg:bs.set i (.own c e' s' n' false)=bs:=by
         apply List.ext_getElem?
         intro q
         rw[List.getElem?_set]
         split
         ·rename_i hq
          subst hq
          first|exact hi'.symm | (rw[if_pos xH];exact hi'.symm)
         ·rfl
        have hs:=h.split hi' (.own c e' s' n' false) _ b (fp i) (fp i) (fun β' hβ=>h.own hi' hβ) rfl (fun k hk=>hk) hnw' (fun k hk=>hk) (fun hm=>by cases hm)
        rw[eg]at hs
        exact⟨b,_,dP,by simp,hs⟩
      | true =>
      cases ha
      exact⟨b,_,dP,by simp,h.split hi' .gone _ b (fun _=>False) (fp i) (fun β' hβ k hk=>hk) rfl (fun k hk=>hk.elim) hnw' (fun k hk=>hk) (fun hm=>⟨hm,fun k hk=>hk⟩)⟩
    | some l =>
      cases ha
      refine⟨b,_,dP,by simp,h.split hi' (.own c e' s' n' false) _ b (fp i) (fp i) (fun β' hβ=>?_) rfl (fun k hk=>hk) (hnw false (by simp)) (fun k hk=>hk) (fun hm=>by cases hm)⟩
      rcases h.own hi' hβ with hh|⟨h1,h2,h3,h4,h5,-,h7⟩
      ·exact .inl hh
      ·exact .inr ⟨h1,h2,h3,h4,h5,(by simp),h7⟩
   ·cases ha
  ·cases ha
 ·cases ha
theorem cap_ok (h:Wd F β fp bs w){t e s:Nat}(ht:V.P.underlying t=some (.slice e))(hz:(Go.sizeOf e).run V.P w=Result.ok s w){kh km:IntKind}{hi mx:Int}{x y:SV}{c0:Prop}(ha:GO bs s hi mx x=some (c0,y))(hc:c0) :
 (Instr.sliceAt t (ak β x) none (some (.int kh hi)) (some (.int km mx))).run V.P w=Result.ok (ak β y) w∧(∀ β',cN bs.length β β'→ak β y=ak β' y):=by
 unfold GO at ha
 split at ha
 ·rename_i i n
  split at ha
  ·rename_i c e' s' n' m hi'
   cases ha
   obtain⟨rfl,rfl,rfl,rfl⟩:=hc
   have xH:i<bs.length:=(zPN.1 hi').1
   refine⟨?_,fun β' hβ=>by simp only[ak];rw[hβ i xH]⟩
   rcases h.own hi' (cN.refl _ β) with⟨h1,h2,h3,h4⟩|⟨h1,h2,h3,h4,h5,h6,h7⟩
   ·subst h2 h3
    simp only[ak,oV,fV,if_pos h1]
    simp[Instr.sliceAt,Instr.slice,Instr.sliceBounds,Instr.sliceBound,asIntOf,run_underlying ht,hz,go_sem]
   ·simp only[ak,oV,fV,if_neg h1]
    simp[Instr.sliceAt,Instr.slice,Instr.sliceBounds,Instr.sliceBound,asIntOf,run_underlying ht,hz,go_sem,h2,eY]
  ·cases ha
 ·cases ha
  obtain⟨rfl,rfl⟩:=hc
  exact⟨by simp[ak,Instr.sliceAt,Instr.slice,Instr.sliceBounds,Instr.sliceBound,asIntOf,run_underlying ht,hz,go_sem],fun β' _=>rfl⟩
 ·cases ha
theorem rz {s:Nat}:∀ {ps:List (Nat × SV)}{k:Nat}{c:List SV},Yi s k ps=some c→c.length=ps.length * s
 | [],k,c,h=>by cases h;simp
 | (i,x)::r,k,c,h=>by
  simp only[Yi]at h
  split at h
  ·rename_i hc
   split at h
   ·rename_i c1 h1
    cases h
    rw[zPI,rz h1,hc.2.2,zQa,zP2]
    omega
   ·cases h
  ·cases h
theorem Aa (β:Nat→Bt)(s:Nat):∀ (ps:List (Nat × SV))(k:Nat)(c:List SV),Yi s k ps=some c→∀ (cs:Array Value),(k+ps.length) * s≤cs.size →
 Instr.fill (fun i=>some (i * s,s)) cs (ps.map fun p=>(p.1,ak β p.2))=some (cs.toList.take (k * s)++c.map (ak β)++cs.toList.drop ((k+ps.length) * s)).toArray
 | [],k,c,h,cs,hcs=>by
   cases h
   simp[Instr.fill]
 | (i,x)::r,k,c,h,cs,hcs=>by
  simp only[Yi]at h
  split at h
  ·rename_i hc
   obtain⟨rfl,hv,hl⟩:=hc
   split at h
   ·rename_i c1 h1
    cases h
    have gH:=gJ β x hv
    rw[zQa]at hcs
    have e0:(i+(r.length+1)) * s=(i+1+r.length) * s:=by congr 1;omega
    rw[e0]at hcs
    have e1:(i+1) * s=i * s+s:=by rw[zP2,Nat.one_mul]
    have e2:(i+1) * s≤(i+1+r.length) * s:=zP7 _ (by omega)
    simp only[List.map_cons,Instr.fill,gH,List.size_toArray,List.length_map]
    rw[if_neg (by simp[hl];omega)]
    have hz:=tA (i * s) ((cells x).map (ak β)) 0 cs (by simp;omega)
    rw[← Array.foldl_toList,Array.toList_zipIdx]
    simp only[Nat.add_zero,List.length_map]at hz
    rw[hz,Aa β s r (i+1) c1 h1 _ (by simp[hl];omega)]
    congr 2
    rw[zQa,e0]
    simp only[zQn,hl]
    have l1:(cs.toList.take (i * s)).length=i * s:=by simp;omega
    have l2:(cs.toList.take (i * s)++(cells x).map (ak β)).length=(i+1) * s:=by rw[zPI,l1,List.length_map,hl,e1]
    rw[List.take_append_of_le_length (by omega),List.take_of_length_le (by omega),List.drop_append,List.drop_of_length_le (by omega),List.nil_append,l2,List.drop_drop]
    have e3:i * s+s+((i+1+r.length) * s - (i+1) * s)=(i+1+r.length) * s:=by omega
    rw[e3]
    simp
   ·cases h
  ·cases h
def tR:List Value→Nat→List Value
 | _,0=>[]
 | z,n+1=>z++tR z n
theorem mA (z:List Value):∀ n,(tR z n).length=n * z.length
 | 0=>by simp[tR]
 | n+1=>by simp[tR,mA z n,zP2,Nat.add_comm]
theorem Fc (z:List Value):∀ (n j:Nat),j<n * z.length→(tR z n)[j]? = z[j % z.length]?
 | 0,j,h=>by simp at h
 | n+1,j,h=>by
   simp only[tR]
   by_cases hj:j<z.length
   ·rw[zPO hj,Nat.mod_eq_of_lt hj]
   ·rw[zPS (by omega),Fc z n (j - z.length) (by rw[zP2]at h;omega)]
    congr 1
    rw[Nat.mod_eq_sub_mod (by omega:j ≥ z.length)]
theorem Nh (z:Array Value)(n:Nat)(hz:0<z.size):(madeCells z (n * z.size)).toList=tR z.toList n:=by
 apply List.ext_getElem?
 intro j
 by_cases hj:j<n * z.size
 ·rw[Fc _ _ _ (by simpa using hj)]
  have hm:j % z.size<z.size:=Nat.mod_lt _ hz
  simp[madeCells,hj,hm]
 ·rw[zP4 (by simp[madeCells];omega),zP4 (by rw[mA];simpa using hj)]
theorem BR (z:List Value):∀ (n k:Nat),k≤n→tR z k=(tR z n).take (k * z.length)
 | _,0,_=>by simp[tR]
 | 0,k+1,h=>by omega
 | n+1,k+1,h=>by
   simp only[tR]
   rw[zP2,Nat.one_mul,Nat.add_comm,List.take_length_add_append,← BR z n k (by omega)]
theorem yI (z:List SV)(β:Nat→Bt):∀ n,(HW z n).map (ak β)=tR (z.map (ak β)) n
 | 0=>rfl
 | n+1=>by simp[HW,tR,yI z β n]
theorem wpv {o:Oper}{v:Value}{w w':World}{K:St→Prop}{Q:Exit→Act→World→Prop}(h:(execOp a.eval o).run V.P w=Result.ok (.value v) w'){σ:St}(hK:K σ)(hr:Rel F σ (a.put o.dst v) w'):o.wp V.P a w (fun a w=>∃ σ,K σ∧Rel F σ a w) Q :=
 wp_of_value h ⟨σ,hK,hr⟩
theorem EH {dst:Option Tmp}{op:Op}{σ σ':St}{c:Prop}{K:St→Prop}(dB:fits F.n dst=true)(h:Yl V dst op σ=some (c,σ'))(hc:c)(hK:K σ'){a:Act}{w:World}(hr:Rel F σ a w)(ty:TypeId)(pos:String)(after:Array Edge)(guard:Option (Nat × Bool))(Q:Exit→Act→World→Prop) :
 (⟨dst,op,ty,pos,after,guard⟩:Oper).wp V.P a w (fun a w=>∃ σ,K σ∧Rel F σ a w) Q:=by
 obtain⟨β,fp,hf,hw⟩:=hr
 have mm:∀ (min:Bool) (args:Array Operand) (ts:Array TypeId),Xq min dst args.toList σ=some (c,σ')→(⟨dst,.call ⟨.builtin (if min then .min else .max),args,ts⟩,ty,pos,after,guard⟩:Oper).wp V.P a w (fun a w=>∃ σ,K σ∧Rel F σ a w) Q:=fun min args ts h=>by
  unfold Xq at h
  split at h
  ·rename_i x y Cf
   split at h
   ·rename_i x' hx
    split at h
    ·rename_i y' hy
     simp only[zQh,Prod.mk.injEq]at h
     obtain⟨z,hz,-,rfl⟩:=h
     have ea:args=#[x,y]:=by apply zQb;simpa using Cf
     subst ea
     have h1:=hf.ev hx (cN.refl _ β)
     have h2:=hf.ev hy (cN.refl _ β)
     unfold mmS at hz
     split at hz
     ·cases hz
      simp only[ak]at h1 h2
      refine wpv (v:=_) (w':=w) ?_ hK ⟨β,fp,hf.put dB (fun β' _=>rfl),hw⟩
      cases min
      ·simp only[Bool.false_eq_true,if_false,execOp,resolve,invoke,builtin,Builtin.max_,Builtin.max2,ak]
       generalize a.eval=ρ at h1 h2
       simp[h1,h2,Builtin.max_,Builtin.max2]
      ·simp only[if_true,execOp,resolve,invoke,builtin,Builtin.min_,Builtin.min2,ak]
       generalize a.eval=ρ at h1 h2
       simp[h1,h2,Builtin.min_,Builtin.min2]
     ·cases hz
    ·cases h
   ·cases h
  ·cases h
 cases op <;> simp only[Yl,reduceCtorEq]at h
 case call cl =>
  obtain⟨callee,args,ts⟩:=cl
  cases callee <;> (try simp only[reduceCtorEq]at h)
  rename_i bi
  cases bi <;> (try simp only[reduceCtorEq]at h)
  case append =>
   unfold Xm at h
   (repeat' split at h) <;> try (cases h;done)
   rename_i s x pc _ t u hts _ e ht _ ku hu _ ti oJ _ sv hs _ xv hx _ n c0 bs2 hd _ m xs rG
   cases h
   obtain⟨h0m,hku,oe,h1,xM,hby⟩:=hc
   have ea:args=#[s,x]:=by apply zQb;simpa using pc
   have et:ts=#[t,u]:=by apply zQb;simpa using hts
   subst ea et
   obtain⟨d1,r6,cP⟩:=dp V.ki ht
   obtain⟨d2,AG,bJ⟩:=dp V.ki hu
   simp only[dr]at cP
   subst cP
   have hdd:d2=.string∨∃ e',d2=.slice e':=by
    cases ku <;> simp[XP]at hku <;> simp only[dr]at bJ
    ·exact .inl bJ
    ·exact .inr ⟨_,bJ⟩
   obtain⟨b,fp₂,w',dP,tu⟩:=app_ok hw r6 AG hdd oJ rfl oe hd rG (fun β' hβ=>by rw[← hf.ev hx (cN.refl _ β),← hf.ev hx hβ]) h1 xM hby h0m ty
   rw[← hf.ev hs (cN.refl _ β),← hf.ev hx (cN.refl _ β)]at dP
   refine wpv (v:=oV b (n+m)) (w':=w') ?_ hK ⟨_,fp₂,(hf.more (by simp[JX hd]) (iu _ _ _)).put dB (fun β' hβ=>?_),tu⟩
   ·show Sem.run V.P (do let d ← resolve a.eval ⟨.builtin .append,#[s,x],#[t,u]⟩ ty;invoke d.target d.args) w=_
    simp only[resolve,Sem.run_bind,Sem.run_pure,Result.andThen_ok,invoke,builtin,List.map_toArray,List.map_cons,List.map_nil,dP]
   ·simp only[ak]
    rw[← hβ σ.b.length (by simp[JX hd]),jB]
  case min=>exact mm true args ts h
  case max=>exact mm false args ts h
 case makeSlice ts l c' =>
  unfold Yn at h
  (repeat' split at h) <;> try (cases h;done)
  rename_i _ e ht _ ti oJ _ kl l' hl _ kc c' hc'
  cases h
  obtain⟨h0,hlc,hby,xM,oe⟩:=hc
  obtain⟨d1,r6,cP⟩:=dp V.ki ht
  simp only[dr]at cP
  subst cP
  obtain⟨i,z,hi,hz,vT,NT,Hl⟩:=(V.ki e ti oJ).info
  have Hk:=(V.ki e ti oJ).len
  have l8:=(V.ki e ti oJ).flat
  have dP:=run_make (P:=V.P) w ts e i z r6 hi hz kl kc l' c' h0 hlc (by rw[NT];exact hby) xM
  have e1:=hf.ev hl (cN.refl _ β)
  have e2:=hf.ev hc' (cN.refl _ β)
  simp only[ak]at e1 e2
  rw[← e1,← e2]at dP
  have hnn:l'.toNat≤c'.toNat:=by omega
  have hzs:z.cells.size=ti.size:=by rw[Hl];simp[Hk]
  have hzt:z.cells.toList=ti.zero.map (ak me):=by rw[Hl]
  have hM:(madeCells z.cells (c'.toNat * i.size)).toList=tR (ti.zero.map (ak me)) c'.toNat:=by
   rw[vT,← hzs,Nh _ _ (by omega),hzt]
  have hlz:(ti.zero.map (ak me)).length=ti.size:=by simpa using Hk
  have fD:(HW ti.zero l'.toNat).length=l'.toNat * ti.size:=by
   have:=congrArg List.length (yI ti.zero me l'.toNat)
   rw[mA,hlz]at this
   simpa using this
  have hmade:∀ β',(madeCells z.cells (c'.toNat * i.size)).toList=(HW ti.zero l'.toNat).map (ak β')++(madeCells z.cells (c'.toNat * i.size)).toList.drop (l'.toNat * ti.size):=fun β'=>by
   rw[hM,yI,l8 β',BR _ _ _ hnn,hlz,List.take_append_drop]
  have tu:=hw.more (w':=w.alloc (.cells (madeCells z.cells (c'.toNat * i.size)) e)) ((Below.refl _ _).alloc (zPL _) _) (.own (HW ti.zero l'.toNat) e ti.size l'.toNat true) ⟨w.heap.size,0,c'.toNat+1⟩ (·=w.heap.size) (fun β' hβ=>kY (rest:=(madeCells z.cells (c'.toNat * i.size)).toList.drop (l'.toNat * ti.size)) (fz:=(0,0)) (by
   rw[eI,← hmade β']) (.inr (zPL _)) fD hnn (by unfold maxLen;omega) (by
   rw[fD,List.length_drop,hM,mA,hlz]
   have:l'.toNat * ti.size≤c'.toNat * ti.size:=zP7 _ hnn
   omega)) (fun k hk=>by subst hk;exact⟨zPL _,by rw[size_alloc];exact zP1 _⟩)
  refine wpv (dc dP) hK ⟨_,_,(hf.more (by simp) (iu _ _ _)).put dB (fun β' hβ=>?_),tu⟩
  simp only[ak]
  rw[← hβ σ.b.length (by simp),jB]
  simp[oV]
 case indexAddr ts x i =>
  unfold Xc at h
  (repeat' split at h) <;> try (cases h;done)
  rename_i _ e ht _ s hs _ x' hx _ k kk hi _ c0 y ha
  cases h
  unfold Ym at ha
  split at ha
  ·rename_i j n
   split at ha
   ·rename_i cc ee ss nn mm' hj
    cases ha
    obtain⟨⟨rfl,hss,l6,Ho⟩,mL⟩:=hc
    simp only[Xc.ow,hj]at mL
    subst mL
    obtain⟨d1,r6,cP⟩:=dp V.ki ht
    simp only[dr]at cP
    subst cP
    have hz:(Go.sizeOf e).run V.P w=Result.ok ss w:=by
     unfold sz at hs
     cases zF:V.Γ e with
     | none=>simp[zF]at hs
     | some ti=>simp[zF]at hs;rw[← hs];exact(V.ki e ti zF).size w
    have hnz:(β j).cap≠0:=by
     rcases hw.own hj (cN.refl _ β) with⟨-,h2,-⟩|⟨h2,-⟩
     ·subst h2;omega
     ·exact h2
    have e1:=hf.ev hx (cN.refl _ β)
    have e2:=hf.ev hi (cN.refl _ β)
    simp only[ak,oV,if_neg hnz]at e1 e2
    refine wpv (v:=ak β (.p j (kk.toNat * ss))) (w':=w) ?_ hK ⟨β,fp,hf.put dB (fun β' hβ=>?_),hw⟩
    ·refine dc ?_
     rw[e1,e2]
     simp[Instr.indexAt,asIntOf,run_underlying r6,l6,Ho,hz,ak,eY]
    ·simp only[ak]
     rw[hβ j (zPN.1 hj).1]
   ·cases ha
  ·cases ha
 case slice ts x lo hi mx =>
  cases mx with
  | some mx =>
    cases lo <;> cases hi <;> simp only[reduceCtorEq]at h
    rename_i hi
    unfold Il at h
    (repeat' split at h) <;> try (cases h;done)
    rename_i _ e ht _ s hs _ x' hx _ kh vh hh _ km vm hm _ c0 y ha
    cases h
    obtain⟨d1,r6,cP⟩:=dp V.ki ht
    simp only[dr]at cP
    subst cP
    obtain⟨dP,hy⟩:=cap_ok (kh:=kh) (km:=km) hw r6 (MB hs w) ha hc
    have e1:=hf.ev hx (cN.refl _ β)
    have e2:=hf.ev hh (cN.refl _ β)
    have e3:=hf.ev hm (cN.refl _ β)
    simp only[ak]at e2 e3
    have hv:(execOp a.eval (⟨dst,.slice ts x none (some hi) (some mx),ty,pos,after,guard⟩:Oper)).run V.P w=Result.ok (.value (ak β y)) w:=by
     refine dc ?_
     simp only[zPR,zQc,e1,e2,e3]
     exact dP
    exact wpv hv hK ⟨β,fp,hf.put dB (fun β' hβ=>hy β' hβ),hw⟩
  | none =>
  simp only at h
  unfold Xj at h
  (repeat' split at h) <;> try (cases h;done)
  rename_i _ e ht _ s hs _ x' hx _ lo' hlo _ hi' hhi _ c0 n0 bs2 ha
  cases h
  obtain⟨hc,hsi⟩:=hc
  obtain⟨d1,r6,cP⟩:=dp V.ki ht
  simp only[dr]at cP
  subst cP
  have hz:(Go.sizeOf e).run V.P w=Result.ok s w:=MB hs w
  obtain⟨b,fp₂,dP,hlen,tu⟩:=re_ok hw r6 hz ha hc hsi
  have hv:(execOp a.eval (⟨dst,.slice ts x lo hi none,ty,pos,after,guard⟩:Oper)).run V.P w=Result.ok (.value (oV b n0)) w:=by
   refine dc ?_
   rw[hf.ev hx (cN.refl _ β),xS (hf.ok β (cN.refl _ _)) hlo,xS (hf.ok β (cN.refl _ _)) hhi]
   exact dP
  refine wpv hv hK ⟨_,fp₂,(hf.more (by rw[hlen];exact Nat.le_succ _) (iu _ _ _)).put dB (fun β' hβ=>?_),tu⟩
  simp only[ak]
  rw[← hβ σ.b.length (by rw[hlen];exact zP1 _),jB]
 case convert ts td x =>
  unfold Yb at h
  (repeat' split at h) <;> try (cases h;done)
  ·rename_i _ hts _ e htd _ hte _ l hx
   cases h
   obtain⟨d1,r6,cP⟩:=dp V.ki hts
   obtain⟨d2,AG,bJ⟩:=dp V.ki htd
   obtain⟨d3,hd3,eF⟩:=dp V.ki hte
   simp only[dr]at cP bJ eF
   subst cP bJ eF
   have dP:=Lib.run_convert_string_bytes w ts td e ⟨zPZ l⟩ r6 AG hd3
   have hss:(⟨zPZ l⟩:ByteArray).size=l.length:=rfl
   rw[hss]at dP
   have qL:=grownCap_ge w l.length 0 e
   have hle:=grownCap_le_maxLen w l.length 0 e hc
   have hbc:Lib.bytesCells w e ⟨zPZ l⟩=((l.map dW).map (ak β)++List.replicate (grownCap w l.length 0 e - l.length) (Value.int .u8 0)).toArray:=by
    apply zQb
    simp[Lib.bytesCells,dW,ak,Function.comp_def,hss]
   have vS:=Lib.bytesWorld_at_new w e ⟨zPZ l⟩
   have Lo:Below w.heap.size w (Lib.bytesWorld w e ⟨zPZ l⟩):=⟨by simp[Lib.bytesWorld,World.freeze];rfl,rfl,rfl,by rw[Lib.bytesWorld_size];omega,fun k hk=>Lib.bytesWorld_at_old _ _ _ k hk⟩
   have hsize:=Lib.bytesWorld_size w e ⟨zPZ l⟩
   rw[hbc]at vS
   generalize Lib.bytesWorld w e ⟨zPZ l⟩=w1 at dP vS Lo hsize
   generalize grownCap w l.length 0 e=cap' at dP vS qL hle
   have tu:=hw.more Lo (.own (l.map dW) e 1 l.length true) ⟨w.heap.size,0,cap'+1⟩ (·=w.heap.size) (fun β' hβ=>kY (by
    rw[vS]
    congr 3
    rw[List.map_map,List.map_map]
    rfl) (by left;simp) (by simp) qL hle (by simp;omega)) (fun k hk=>by subst hk;exact⟨zPL _,by rw[hsize];exact zP1 _⟩)
   have e1:=hf.ev hx (cN.refl _ β)
   simp only[ak]at e1
   rw[← e1]at dP
   refine wpv (dc dP) hK ⟨_,_,(hf.more (by simp) (iu _ _ _)).put dB (fun β' hβ=>?_),tu⟩
   simp only[ak]
   rw[← hβ σ.b.length (by simp),jB]
   simp[oV]
  ·rename_i _ e hts _ htd _ hte _ hx
   cases h
   obtain⟨d1,r6,cP⟩:=dp V.ki hts
   obtain⟨d2,AG,bJ⟩:=dp V.ki htd
   obtain⟨d3,hd3,eF⟩:=dp V.ki hte
   simp only[dr]at cP bJ eF
   subst cP bJ eF
   have e1:=hf.ev hx (cN.refl _ β)
   simp only[ak]at e1
   have dP:=run_convert_bytes_nil w ts e r6 hd3 0 0 td AG
   rw[← e1]at dP
   exact wpv (dc dP) hK ⟨β,fp,hf.put dB (fun β' hβ=>by simp[ak];rfl),hw⟩
  ·rename_i _ e hts _ htd _ hte _ i n hx _ c0 ee s n' mm' hi
   cases h
   obtain⟨rfl,rfl,bp⟩:=hc
   obtain⟨d1,r6,cP⟩:=dp V.ki hts
   obtain⟨d2,AG,bJ⟩:=dp V.ki htd
   obtain⟨d3,hd3,eF⟩:=dp V.ki hte
   simp only[dr]at cP bJ eF
   subst cP bJ eF
   have e1:=hf.ev hx (cN.refl _ β)
   simp only[ak,oV]at e1
   have dP:(convert ts td (a.eval x)).run V.P w=Result.ok (.string ⟨zPZ (c0.map vf)⟩) w:=by
    rw[e1]
    rcases hw.own hi (cN.refl _ β) with⟨h1,rfl,rfl,-⟩|⟨h1,h2,h3,h4,h5,-⟩
    ·rw[if_pos h1]
     exact run_convert_bytes_nil w ts e r6 hd3 0 0 td AG
    ·rw[if_neg h1]
     have hl:n'=(c0.map vf).length:=by simpa using h4.symm
     rw[hl]
     refine run_convert_bytes_back w ts td e _ _ (c0.map vf) r6 hd3 AG (fun j hj=>?_)
     rw[eY]
     have hj':j<c0.length:=by simpa using hj
     refine h5 j _ ?_
     simp only[List.getElem?_map,zP0 hj',zPR,List.getElem_map]
     rw[LM β (zPJ.1 bp _ (List.getElem_mem hj'))]
   exact wpv (dc dP) hK ⟨β,fp,hf.put dB (fun β' hβ=>by simp[ak]),hw⟩
 case buildSlice ts n ps =>
  unfold Xa at h
  (repeat' split at h) <;> try (cases h;done)
  rename_i _ e ht _ ti oJ _ l hl _ c0 l8
  cases h
  obtain⟨K2,sd,oe⟩:=hc
  obtain⟨d1,r6,cP⟩:=dp V.ki ht
  simp only[dr]at cP
  subst cP
  obtain⟨i,z,hi,hz,vT,NT,Hl⟩:=(V.ki e ti oJ).info
  have hps:=fun β' hβ=>oS (β':=β') hf hβ hl
  have iU:=rz l8
  rw[K2]at iU
  have uB:=fun β'=>Aa β' ti.size l 0 c0 l8 ((Array.range (n * i.size)).map (z.cells[· % z.cells.size]!)) (by rw[Nat.zero_add,K2];simp[vT])
  have dP:∀ β',cN σ.b.length β β'→(Instr.buildSlice ts n (ps.map fun p=>(p.1,a.eval p.2))).run V.P w=Result.ok (.slice (some ⟨w.heap.size,0,none⟩) n n) (w.alloc (.cells (c0.map (ak β')).toArray e)):=fun β' hβ=>by
   have e2:=hps β' hβ
   by_cases hn:n=0
   ·subst hn
    have NQ:l=[]:=zPT K2
    subst NQ
    have jT:c0=[]:=zPT (by rw[iU];simp)
    subst jT
    have e3:(ps.toList.map fun p=>(p.1,a.eval p.2))=[]:=e2
    have e4:Array.range 0=#[]:=rfl
    simp[Instr.buildSlice,run_underlying r6,Go.sizeOf,typeInfo,hi,e3,Instr.fill,newRow,e4]
   ·refine run_buildSlice (P:=V.P) w ts e n (ps.map fun p=>(p.1,a.eval p.2)) (c0.map (ak β')).toArray i z r6 hi hz (by rw[vT];omega) (by rw[vT];exact Nat.ne_of_gt (Nat.mul_pos (by omega) oe)) ?_
    have e3:=uB β'
    rw[← vT]at e3
    rw[Array.toList_map,e2,e3]
    congr 1
    apply zQb
    rw[Nat.zero_add,K2]
    simp
  have AH:∀ β',cN σ.b.length β β'→c0.map (ak β)=c0.map (ak β'):=fun β' hβ=>by
   have h1:=dP β (cN.refl _ _)
   rw[dP β' hβ]at h1
   injection h1 with _ h1
   have h2:=congrArg (fun w':World=>w'.heap[w.heap.size]?) h1
   simp only[eI]at h2
   have h3:=(Obj.cells.inj (zP3.inj h2)).1
   have h4:=congrArg Array.toList h3
   exact h4.symm
  have tu:=hw.more (w':=w.alloc (.cells (c0.map (ak β)).toArray e)) ((Below.refl _ _).alloc (zPL _) _) (.own c0 e ti.size n true) ⟨w.heap.size,0,n+1⟩ (·=w.heap.size) (fun β' hβ=>kY (rest:=[]) (fz:=(0,0)) (by
   rw[eI,AH β' hβ.fP,zP5]) (.inr (zPL _)) iU (zPL _) (by unfold maxLen;have:n * 1≤n * ti.size:=Nat.mul_le_mul_left _ oe;omega) (by simpa using iU)) (fun k hk=>by subst hk;exact⟨zPL _,by rw[size_alloc];exact zP1 _⟩)
  refine wpv (dc (dP β (cN.refl _ _))) hK ⟨_,_,(hf.more (by simp) (iu _ _ _)).put dB (fun β' hβ=>?_),tu⟩
  simp only[ak]
  rw[← hβ σ.b.length (by simp),jB]
  simp[oV]
end
open Go
def rF:List Oper→Nat→List Oper
 | [],_=>[]
 | o::_,0=>[o]
 | _::r,k+1=>rF r k
def jH:List Nat→Nat→Nat
 | [],_=>0
 | x::r,j=>if x=j then 0 else jH r j+1
def permE (p:List Nat)(e:Edge):Edge:=⟨jH p e.on,e.ground⟩
def Jl (p:List Nat):Option (Nat × Bool)→Option (Nat × Bool)
 | none=>none
 | some (g,b)=>some (jH p g,b)
def rV (p:List Nat):Oper→Oper
 | ⟨dst,op,ty,pos,after,guard⟩=>⟨dst,op,ty,pos,after.map (permE p),Jl p guard⟩
def qt (ops:List Oper)(q:List Nat):List Nat→List Oper
 | []=>[]
 | x::r=>(rF ops x).map (rV q)++qt ops q r
def tU (ops:Array Oper):List Nat→Array Oper
 | []=>ops
 | x::r=>(qt ops.toList (x::r) (x::r)).toArray
def H5 (ops:Array Oper)(p:List Nat):Bool:=p.length==ops.size&&p.all (fun i=>decide (i<ops.size))&&(zQd ops.size).all (fun k=>p.contains k&&(decide (p.getD k 0<ops.size)&&jH p (p.getD k 0)==k))
def Fl (ops:Array Oper):List Nat→Prop
 | []=>True
 | x::r=>H5 ops (x::r)=true
theorem Fk {ops:Array Oper}{x:Nat}{r:List Nat}(h:H5 ops (x::r)=true):Fl ops (x::r):=h
theorem xW (l:List Oper)(k:Nat):rF l k=l[k]?.toList:=by
 induction l generalizing k with
 | nil=>simp[rF]
 | cons o r ih=>cases k with
   | zero=>simp[rF]
   | succ k=>simp[rF,ih]
theorem vC (ops:List Oper)(q:List Nat):∀ (p:List Nat),(∀ i∈p,i<ops.length)→(qt ops q p).length=p.length∧∀ k:Nat,(qt ops q p)[k]? = (p[k]?).bind fun i=>(ops[i]?).map (rV q)
 | [],_=>⟨rfl,fun k=>by simp[qt]⟩
 | x::r,h=>by
   obtain⟨h1,h2⟩:=vC ops q r (fun i hi=>h i (List.mem_cons_of_mem _ hi))
   have hx:x<ops.length:=h x (zQe ..)
   have e:rF ops x=[ops[x]]:=by rw[xW,zP0 hx];rfl
   refine⟨by simp[qt,e,h1],fun k=>?_⟩
   cases k with
   | zero=>simp[qt,e,zP0 hx]
   | succ k=>simp[qt,e,h2]
theorem kX:∀ (p:List Nat)(j:Nat),(j∈p→p[jH p j]? = some j)∧(j ∉ p→jH p j=p.length)
 | [],j=>by simp[jH]
 | x::r,j=>by
   obtain⟨h1,h2⟩:=kX r j
   by_cases h:x=j
   ·simp[jH,h]
   ·have h':¬ j=x:=fun e=>h e.symm
    simp only[jH,if_neg h,List.mem_cons,h',false_or,List.getElem?_cons_succ,zQa]
    exact⟨h1,fun hn=>by rw[h2 hn]⟩
theorem BW (p:List Nat)(o:Oper):(rV p o).dst=o.dst:=by cases o;rfl
theorem M7 {P:Program}{p:List Nat}{o:Oper}{a:Act}{w:World}{K:Act→World→Prop}{Q:Exit→Act→World→Prop}(h:(rV p o).wp P a w K Q):o.wp P a w K Q:=by cases o;exact h
theorem H3 {P:Program}{p:List Nat}{o:Oper}{a:Act}{w:World}(h:(rV p o).asks P a w):o.asks P a w:=by cases o;exact h
structure OrdP (p:List Nat) (n:Nat):Prop where
 len:p.length=n
 lt:∀ i∈p,i<n
 mem:∀ {i:Nat},i<n→i∈p
 onto:∀ k,k<n→∃ i,i<n∧jH p i=k
section
variable {ops:Array Oper} {p:List Nat} (hp:OrdP p ops.size)
def ug (ops:Array Oper)(p:List Nat):Array Oper:=(qt ops.toList p p).toArray
include hp
theorem vH:(ug ops p).size=ops.size:=by
 have:=(vC ops.toList p p (fun i hi=>by simpa using hp.lt i hi)).1
 simp[ug,this,hp.len]
theorem y9 {i:Nat}(hi:i<ops.size):(ug ops p)[jH p i]? = (ops[i]?).map (rV p):=by
 have h2:=(vC ops.toList p p (fun i hi=>by simpa using hp.lt i hi)).2 (jH p i)
 have h3:=(kX p i).1 (hp.mem hi)
 simp only[ug,List.getElem?_toArray,h2,h3,Option.bind_some]
 simp
theorem Iq {i:Nat}(hi:i<ops.size):jH p i<ops.size:=by
 have h3:=(kX p i).1 (hp.mem hi)
 have:=(zPN.1 h3).1
 rw[hp.len]at this
 exact this
theorem Nq {i:Nat}(hi:¬ i<ops.size):jH p i=ops.size:=by
 rw[(kX p i).2 (fun h=>hi (hp.lt i h)),hp.len]
theorem inv_inj {i k:Nat}(hi:i<ops.size)(hk:k<ops.size)(h:jH p i=jH p k):i=k:=by
 have h1:=(kX p i).1 (hp.mem hi)
 have h2:=(kX p k).1 (hp.mem hk)
 rw[h,h2]at h1
 exact((zP3.injEq _ _).mp h1).symm
theorem Mp (tmps:Array Value)(g:Nat):yielded (ug ops p) tmps (jH p g)=yielded ops tmps g:=by
 unfold yielded
 have:((ug ops p)[jH p g]?).bind (·.dst)=(ops[g]?).bind (·.dst):=by
  by_cases h:g<ops.size
  ·rw[y9 hp h]
   rw[zPY h]
   simp[BW]
  ·rw[Nq hp h,Array.getElem?_eq_none (by rw[vH hp];exact zPL _),Array.getElem?_eq_none (by omega)]
 rw[this]
theorem wanted' (tmps:Array Value)(o:Oper):Region.wanted (rV p o) (yielded (ug ops p) tmps)=Region.wanted o (yielded ops tmps):=by
 obtain⟨dst,op,ty,pos,after,guard⟩:=o
 cases guard with
 | none=>rfl
 | some g =>
   obtain⟨g,b⟩:=g
   simp only[rV,Jl,Region.wanted,Mp hp]
def G5 (ops:Array Oper)(p:List Nat)(L L':Array Bool):Prop:=L.size=ops.size∧L'.size=ops.size∧∀ i,i<ops.size→L'.getD (jH p i) false=L.getD i false
omit hp in
theorem JQ {L:Array Bool}{i:Nat}(h:i<L.size):L.getD i true=L.getD i false:=by simp[Array.getD,h]
theorem HZ {md:Region.Mode}{L L':Array Bool}(hs:G5 ops p L L'){i:Nat}(hi:i<ops.size):jH p i∈Region.ready md (ug ops p) L'↔i∈Region.ready md ops L:=by
 obtain⟨s1,s2,s3⟩:=hs
 rw[mem_ready,mem_ready,JQ (by rw[s2];exact Iq hp hi),JQ (by rw[s1];exact hi),s3 i hi,y9 hp hi]
 have ho:ops[i]? = some ops[i]:=zPY hi
 rw[ho]
 have rY:∀ n:Nat,L'.getD (jH p n) false=L.getD n false:=fun n=>by
  by_cases hn:n<ops.size
  ·exact s3 n hn
  ·rw[Nq hp hn]
   simp[Array.getD,s1,s2,hn]
 refine and_congr_right fun _=>?_
 generalize ops[i]=o
 obtain⟨dst,op,ty,pos,after,guard⟩:=o
 simp only[zPR,zP3.injEq,exists_eq_left',rV,Array.mem_map,forall_exists_index,and_imp,forall_apply_eq_imp_iff₂]
 refine forall_congr' fun e=>forall_congr' fun he=>?_
 simp only[permE,rY]
 rfl
theorem set' {L L':Array Bool}(hs:G5 ops p L L'){i:Nat}(hi:i<ops.size):G5 ops p (L.setIfInBounds i true) (L'.setIfInBounds (jH p i) true):=by
 obtain⟨s1,s2,s3⟩:=hs
 refine⟨by simpa using s1,by simpa using s2,fun k hk=>?_⟩
 by_cases h:i=k
 ·subst h
  have:=Iq hp hk
  simp[Array.getD,s1,s2,hk,this]
 ·have h':jH p i≠jH p k:=fun e=>h (inv_inj hp hi hk e)
  rw[getD_set_ne false h,getD_set_ne false h']
  exact s3 k hk
theorem Jt {md:Region.Mode}{L L':Array Bool}(hs:G5 ops p L L'):Region.ready md ops L=[]→Region.ready md (ug ops p) L'=[]:=fun h=>by
 cases h':Region.ready md (ug ops p) L' with
 | nil=>rfl
 | cons k r =>
   have hk:k∈Region.ready md (ug ops p) L':=by rw[h'];exact zQe ..
   have aA:k<ops.size:=by
    obtain⟨o,ho,_⟩:=(mem_ready.1 hk).2
    have:=(zPM.1 ho).1
    rwa [vH hp]at this
   obtain⟨i,hi,e⟩:=hp.onto k aA
   rw[← e,HZ hp hs hi,h]at hk
   cases hk
theorem Ev {P:Program}{Q:Exit→Act→World→Prop}{md:Region.Mode}:∀ (fuel:Nat)(L L':Array Bool)(a:Act)(w:World),G5 ops p L L'→wpAny P md (ug ops p) Q fuel L' a w→wpAny P md ops Q fuel L a w:=by
 intro fuel
 induction fuel with
 | zero =>
   intro L L' a w hs h
   refine⟨?_,h.2⟩
   cases h':Region.ready md ops L with
   | nil=>rfl
   | cons i r =>
     have hi:i∈Region.ready md ops L:=by rw[h'];exact zQe ..
     have aA:i<ops.size:=by
      obtain⟨o,ho,_⟩:=(mem_ready.1 hi).2
      exact(zPM.1 ho).1
     rw[← HZ hp hs aA,h.1]at hi
     cases hi
 | succ fuel ih =>
   intro L L' a w hs h
   refine⟨fun h0=>h.1 (Jt hp hs h0),fun i hi=>?_⟩
   have aA:i<ops.size:=by
    obtain⟨o,ho,_⟩:=(mem_ready.1 hi).2
    exact(zPM.1 ho).1
   have h1:=h.2 _ ((HZ hp hs aA).2 hi)
   have ho:ops[i]? = some ops[i]:=zPY aA
   unfold wpOp at h1 ⊢
   rw[y9 hp aA,ho]at h1
   rw[ho]
   simp only[zPR,wanted' hp,BW]at h1 ⊢
   have hK:∀ a w,wpAny P md (ug ops p) Q fuel (L'.setIfInBounds (jH p i) true) a w→wpAny P md ops Q fuel (L.setIfInBounds i true) a w:=fun a w=>ih _ _ a w (set' hp hs aA)
   split
   ·rename_i hw
    rw[if_pos hw]at h1
    exact h1.imp (fun h=>Oper.wp_mono hK (M7 h)) (fun h=>⟨H3 h.1,h.2⟩)
   ·rename_i hw
    rw[if_neg hw]at h1
    exact hK _ _ h1
end
theorem Hx {P:Program}{Q:Exit→Act→World→Prop}{md:Region.Mode}{ops:Array Oper}{a:Act}{w:World}:∀ (p:List Nat),Fl ops p→wpAny P md (tU ops p) Q (tU ops p).size (zQg (tU ops p).size false) a w→wpAny P md ops Q ops.size (zQg ops.size false) a w
 | [],_,h=>h
 | x::r,hb,h=>by
   simp only[Fl,H5,zPH,beq_iff_eq,decide_eq_true_eq,zPJ]at hb
   obtain⟨⟨h1,h2⟩,h3⟩:=hb
   have hp:OrdP (x::r) ops.size:=⟨h1,h2,fun {i} hi=>zP6.1 (h3 i (zP8.2 hi)).1,fun k hk=>⟨_,(h3 k (zP8.2 hk)).2⟩⟩
   have hs:=vH hp
   have e:tU ops (x::r)=ug ops (x::r):=rfl
   rw[e,hs]at h
   refine Ev hp _ _ _ _ _ ⟨by simp,by simp,fun i hi=>?_⟩ h
   have:=Iq hp hi
   simp[Array.getD,hi,this]
open Go Go.RowKit Wf
inductive j6 where
 | go (c:Prop) (σ:St)
 | call (f:FuncId) (args:List SV) (dst:Option Tmp) (σ:St)
 | bad
def goR (dst:Option Tmp)(σ:St):Option (Prop × SV)→j6→j6
 | some (c,x),_=>.go c ⟨put dst x σ.t,σ.b⟩
 | none,m=>m
def XC (V:Cx)(dst:Option Tmp)(T:TypeId)(σ:St):j6:=match V.Γ T with
 | some ti=>.go True ⟨put dst (.p σ.b.length 0) σ.t,σ.b++[.cells ti.zero T true]⟩
 | none=>.bad
def sBox (dst:Option Tmp)(T:TypeId)(x:Operand)(σ:St):j6:=match ev σ.t x with
 | some x=>.go (Hj x=false) ⟨put dst (.p σ.b.length 0) σ.t,σ.b++[.cells (cells x) T true]⟩
 | none=>.bad
def XU (V:Cx)(dst:Option Tmp)(T:TypeId)(x:Operand)(σ:St):j6:=match ev σ.t x with
 | some (.p i off)=>match j3 σ.b i with
   | some (c,_,_)=>match V.Γ T with
     | some ti=>match XM ti.agg off ti.size c with
       | some x=>.go (off+ti.size≤c.length) ⟨put dst x σ.t,σ.b⟩
       | none=>.bad
     | none=>.bad
   | none=>.bad
 | _=>.bad
def XH (V:Cx)(dst:Option Tmp)(T:TypeId)(x y:Operand)(σ:St):j6:=match ev σ.t x with
 | some (.p i off)=>match ev σ.t y with
   | some y=>match j3 σ.b i with
     | some (c,_,m)=>match sz V.Γ T with
       | some s=>.go (m=true∧(cells y).all one=true∧(cells y).length=s∧off+s≤c.length) ⟨put dst (.v undef) σ.t,yz σ.b i (Xs c off (cells y))⟩
       | none=>.bad
     | none=>.bad
   | none=>.bad
 | _=>.bad
def Xr (V:Cx)(dst:Option Tmp)(T:TypeId)(ps:List (Nat × Operand))(σ:St):j6:=match V.Γ T with
 | some ti=>match ti.kind with
   | .struct fs=>match Xl σ.t ps with
     | some ps=>match XZ fs V.Γ ps ti.zero with
       | some c=>.go True ⟨put dst (.agg c) σ.t,σ.b⟩
       | none=>.bad
     | none=>.bad
   | _=>.bad
 | none=>.bad
def Xt:Fn→Bool
 | .func _=>true
 | _=>false
def sNil (dst:Option Tmp)(x:Operand)(σ:St):j6:=match ev σ.t x with
 | some (.p i off)=>.go True ⟨put dst (.p i off) σ.t,σ.b⟩
 | some (.fn f l)=>.go (Xt f=true) ⟨put dst (.fn f l) σ.t,σ.b⟩
 | some (.mv f l)=>.go True ⟨put dst (.mv f l) σ.t,σ.b⟩
 | _=>.bad
def XL (dst:Option Tmp)(f:Operand)(args:List Operand)(σ:St):j6:=match ev σ.t f with
 | some (.fn (.func f) caps)=>match Ep σ.t args with
   | some l=>.call f (l++caps) dst σ
   | none=>.bad
 | some (.mv f first)=>match Ep σ.t args with
   | some l=>.call f (first++l) dst σ
   | none=>.bad
 | _=>.bad
def Yd (V:Cx)(dst:Option Tmp):Op→St→j6
 | .alloc T,σ=>XC V dst T σ
 | .box T x,σ=>sBox dst T x σ
 | .load T x,σ=>XU V dst T x σ
 | .store T x y,σ=>XH V dst T x y σ
 | .build T ps,σ=>Xr V dst T ps.toList σ
 | .nilCheck x,σ=>sNil dst x σ
 | .call ⟨.value f,args,_⟩,σ=>XL dst f args.toList σ
 | _,_=>.bad
def CN (V:Cx)(dst:Option Tmp)(op:Op)(σ:St):j6:=goR dst σ (pv V.Γ σ.t op) (Yd V dst op σ)
def LX:Option (Prop × St)→j6→j6
 | some (c,σ),_=>.go c σ
 | none,m=>m
def XR (V:Cx)(dst:Option Tmp)(op:Op)(σ:St):j6:=goR dst σ (pv V.Γ σ.t op) (LX (Yl V dst op σ) (Yd V dst op σ))
def lX (V:Cx)(K:St→Prop):j6→Prop
 | .go c σ=>c∧K σ
 | .call f args dst σ=>(∃ r,PC V f args r∧K ⟨put dst r σ.t,σ.b⟩)∨(∃ R,SC V f args σ.b R∧∀ r bs,R r bs→K ⟨put dst r σ.t,bs⟩)
 | .bad=>False
theorem wz {V:Cx}{n:Nat}{dst:Option Tmp}{op:Op}{σ:St}{K:St→Prop}(hf:fits n dst=true)(h:lX V K (CN V dst op σ)):vcO V n dst op σ K:=by
 refine⟨hf,?_⟩
 unfold CN at h
 split
 ·rename_i c x hp
  rw[hp]at h
  exact h
 ·rename_i hp
  rw[hp]at h
  simp only[goR]at h
  cases op <;> simp only[Yd]at h <;> simp only[vcM]
  case alloc T=>unfold XC at h;(repeat' split at h) <;> simp_all [lX]
  case box T x=>unfold sBox at h;(repeat' split at h) <;> simp_all [lX]
  case load T x=>unfold XU at h;(repeat' split at h) <;> simp_all [lX]
  case store T x y=>unfold XH at h;(repeat' split at h) <;> simp_all [lX]
  case build T ps=>unfold Xr at h;(repeat' split at h) <;> simp_all [lX]
  case nilCheck x =>
   unfold sNil at h
   split at h
   ·rename_i e;rw[e];exact h.2
   ·rename_i f l e
    rw[e]
    refine⟨?_,h.2⟩
    have:=h.1
    cases f <;> simp[Xt]at this ⊢
   ·rename_i f l e;rw[e];exact h.2
   ·cases h
  case call c =>
   obtain⟨callee,args,ts⟩:=c
   cases callee <;> simp only at h ⊢
   case value f=>unfold XL at h;(repeat' split at h) <;> simp_all [lX]
   all_goals exact h
  all_goals exact h
theorem qg {V:Cx}{F:Fx V}{dst:Option Tmp}{op:Op}{σ:St}{K:St→Prop}(dB:fits F.n dst=true)(h:lX V K (XR V dst op σ)){a:Act}{w:World}(hr:Rel F σ a w)(ty:TypeId)(pos:String)(after:Array Edge)(guard:Option (Nat × Bool))(Q:Exit→Act→World→Prop) :
 (⟨dst,op,ty,pos,after,guard⟩:Oper).wp V.P a w (fun a w=>∃ σ,K σ∧Rel F σ a w) Q:=by
 unfold XR at h
 cases hp:pv V.Γ σ.t op with
 | some p =>
   rw[hp]at h
   exact BE (wz dB (by unfold CN;rw[hp];exact h)) hr _ rfl rfl Q
 | none =>
   rw[hp]at h
   simp only[goR]at h
   cases hn:Yl V dst op σ with
   | some p =>
     rw[hn]at h
     exact EH dB hn h.1 h.2 hr ty pos after guard Q
   | none =>
     rw[hn]at h
     exact BE (wz dB (by unfold CN;rw[hp];exact h)) hr _ rfl rfl Q
structure lW where
 x:SV
 nb:Option (List av)
 all:Bool
 rd:List (Nat × Nat × Nat)
 wr:List (Nat × Nat × Nat)
structure Rk where
 s:Bool
 all:Bool
 rd:List (Nat × Nat × Nat)
 wr:List (Nat × Nat × Nat)
inductive lV where
 | val (c:Prop) (r:lW)
 | call (f:FuncId) (args:List SV)
 | bad
def sf (c:Prop)(x:SV):lV:=.val c ⟨x,none,false,[],[]⟩
def LA:Option (Prop × SV)→lV→lV
 | some (c,x),_=>sf c x
 | none,m=>m
def XD (V:Cx)(T:TypeId)(σ:St):lV:=match V.Γ T with
 | some ti=>.val True ⟨.p σ.b.length 0,some (σ.b++[.cells ti.zero T true]),false,[],[(σ.b.length,0,0)]⟩
 | none=>.bad
def OZ (T:TypeId)(x:Operand)(σ:St):lV:=match ev σ.t x with
 | some x=>.val (Hj x=false) ⟨.p σ.b.length 0,some (σ.b++[.cells (cells x) T true]),false,[],[(σ.b.length,0,0)]⟩
 | none=>.bad
def XI (V:Cx)(T:TypeId)(x:Operand)(σ:St):lV:=match ev σ.t x with
 | some (.p i off)=>match j3 σ.b i with
   | some (c,_,_)=>match V.Γ T with
     | some ti=>match XM ti.agg off ti.size c with
       | some x=>.val (off+ti.size≤c.length∧0<ti.size) ⟨x,none,false,[(i,off,ti.size)],[]⟩
       | none=>.bad
     | none=>.bad
   | none=>.bad
 | _=>.bad
def XF (V:Cx)(T:TypeId)(x y:Operand)(σ:St):lV:=match ev σ.t x with
 | some (.p i off)=>match ev σ.t y with
   | some y=>match j3 σ.b i with
     | some (c,_,m)=>match sz V.Γ T with
       | some s=>.val (m=true∧(cells y).all one=true∧(cells y).length=s∧off+s≤c.length∧0<s) ⟨.v undef,some (yz σ.b i (Xs c off (cells y))),false,[],[(i,off,s)]⟩
       | none=>.bad
     | none=>.bad
   | none=>.bad
 | _=>.bad
def XB (V:Cx)(T:TypeId)(ps:List (Nat × Operand))(σ:St):lV:=match V.Γ T with
 | some ti=>match ti.kind with
   | .struct fs=>match Xl σ.t ps with
     | some ps=>match XZ fs V.Γ ps ti.zero with
       | some c=>sf True (.agg c)
       | none=>.bad
     | none=>.bad
   | _=>.bad
 | none=>.bad
def OY (x:Operand)(σ:St):lV:=match ev σ.t x with
 | some (.p i off)=>sf True (.p i off)
 | some (.fn f l)=>sf (Xt f=true) (.fn f l)
 | _=>.bad
def XK (f:Operand)(args:List Operand)(σ:St):lV:=match ev σ.t f with
 | some (.fn (.func f) caps)=>match Ep σ.t args with
   | some l=>.call f (l++caps)
   | none=>.bad
 | _=>.bad
def Xv (V:Cx):Op→St→lV
 | .alloc T,σ=>XD V T σ
 | .box T x,σ=>OZ T x σ
 | .load T x,σ=>XI V T x σ
 | .store T x y,σ=>XF V T x y σ
 | .build T ps,σ=>XB V T ps.toList σ
 | .nilCheck x,σ=>OY x σ
 | .call ⟨.value f,args,_⟩,σ=>XK f args.toList σ
 | _,_=>.bad
def idxs:List (Option SV)→List (Nat × Nat × Nat)
 | []=>[]
 | some (.o j _)::r=>(j,0,0)::idxs r
 | some (.f j _)::r=>(j,0,0)::idxs r
 | _::r=>idxs r
def Xz (V:Cx):Op→Bool
 | .call ⟨.builtin .append,_,_⟩=>false
 | .makeSlice _ _ _=>false
 | .buildSlice _ _ _=>false
 | .slice _ _ none (some _) (some _)=>true
 | .slice _ _ _ _ _=>false
 | .convert _ _ _=>false
 | _=>true
def Ek:Op→List Operand
 | .call ⟨_,args,_⟩=>args.toList
 | .buildSlice _ _ ps=>ps.toList.map (·.2)
 | .makeSlice _ a v=>[a,v]
 | .indexAddr _ a v=>[a,v]
 | .slice _ x _ _ _=>[x]
 | .convert _ _ x=>[x]
 | _=>[]
def dN (V:Cx)(op:Op)(σ:St):Option (Prop × St)→lV→lV
 | some (c,σ'),_=>match σ'.t with
   | (_,x)::_=>if Xz V op then .val c ⟨x,none,false,idxs ((Ek op).map (ev σ.t)),[]⟩
       else .val c ⟨x,some σ'.b,false,[],(σ.b.length,0,0)::idxs ((Ek op).map (ev σ.t))⟩
   | []=>.bad
 | none,m=>m
def XV (V:Cx)(op:Op)(σ:St):lV:=LA (pv V.Γ σ.t op) (dN V op σ (Yl V (some 0) op σ) (Xv V op σ))
def ny (ops:Array Oper):Nat→Nat→Nat→Bool
 | 0,_,_=>false
 | f+1,i,k=>match ops[i]? with
   | some o=>o.after.any fun e=>Region.binds .any e&&(e.on==k||ny ops f e.on k)
   | none=>false
def ovl (a b:Nat × Nat × Nat):Bool:=a.1==b.1&&(b.2.2==0||(decide (a.2.1<b.2.1+b.2.2)&&decide (b.2.1<a.2.1+a.2.2)))
def o4 (xs ys:List (Nat × Nat × Nat)):Bool:=xs.any fun a=>ys.any fun b=>ovl a b
def wI (ops:Array Oper)(i k:Nat):Bool:=match (ops[k]?).bind (·.dst) with
 | some d=>(match ops[i]? with
   | some o=>(o.looksAt ops).contains d||o.dst==some d
   | none=>false)
 | none=>false
def AW:Rk:=⟨false,false,[],[]⟩
def fT (ops:Array Oper)(k:Nat):Bool:=match ops[k]? with
 | some ⟨some _,.alloc _,_,_,_,none⟩=>true
 | some ⟨some _,.buildSlice _ _ _,_,_,_,none⟩=>true
 | _=>false
def yp (ops:Array Oper)(i k:Nat):Bool:=if k<i then ny ops ops.size i k else ny ops ops.size k i
def Dl (ops:Array Oper)(rs:List Rk)(i k:Nat):Bool:=!(fT ops k&&decide (k<i))||(zQd k).all fun j=>!(((rs[j]?).getD AW).s)||ny ops ops.size i j
def yP (ops:Array Oper)(rs:List Rk)(i k:Nat):Bool :=
 if wI ops i k then yp ops i k&&Dl ops rs i k
 else if ((rs[i]?).getD AW).s&&((rs[k]?).getD AW).s then fT ops (max i k)||yp ops i k
 else if ((rs[k]?).getD AW).s&&!((rs[i]?).getD AW).rd.isEmpty then(yp ops i k&&Dl ops rs i k)||!(((rs[k]?).getD AW).all||o4 ((rs[i]?).getD AW).rd ((rs[k]?).getD AW).wr)
 else true
def Eb (ops:Array Oper)(rs:List Rk):Bool :=
 (zQd ops.size).all fun i=>(zQd ops.size).all fun k=>k==i||yP ops rs i k
def O9 (ops:Array Oper):Bool :=
 (zQd ops.size).all fun i=>match ops[i]? with
  | some o=>o.after.all fun e=>!Region.binds .any e||decide (e.on<i)
  | none=>true
def Pe (ops:Array Oper)(rs:List Rk):Prop:=(Eb ops rs&&O9 ops)=true
inductive OT where
 | leaf
 | one (i:Nat) (t:OT)
 | cH (i:Nat) (t:OT)
 | alt (a b:OT)
def wu (n:Nat)(L:List Nat):Array Bool:=L.foldr (fun i a=>a.setIfInBounds i true) (zQg n false)
def OT.zU:OT→List Nat
 | .one i _=>[i]
 | .alt a b=>a.zU++b.zU
 | _=>[]
def OT.Ba (ops:Array Oper):List Nat→OT→Bool
 | L,.leaf=>(Region.ready .any ops (wu ops.size L)).isEmpty
 | L,.one i t=>decide (L.length<ops.size)&&(Region.ready .any ops (wu ops.size L)==[i])&&Ba ops (i::L) t
 | L,.cH i t=>decide (L.length<ops.size)&&Region.noSelect ops&&Region.free .any ops (wu ops.size L) i&&(Region.ready .any ops (wu ops.size L)).contains i&&Ba ops (i::L) t
 | L,.alt a b=>decide (L.length<ops.size)&&!(Region.ready .any ops (wu ops.size L)).isEmpty&&((Region.ready .any ops (wu ops.size L)).all fun i=>(OT.alt a b).zU.contains i)&&LY ops L a&&LY ops L b
where LY (ops:Array Oper):List Nat→OT→Bool
 | L,.one i t=>Ba ops (i::L) t
 | L,.alt a b=>LY ops L a&&LY ops L b
 | _,_=>false
inductive How where
 | ord (p:List Nat)
 | all (t:OT)
inductive Item where
 | j5 (ops:Array Oper) (L:List Nat) (t:OT)
 | cut (J:St→Prop)
 | nY (ops:Array Oper) (l:List Oper) (rs:List Rk)
 | code (c:Code)
 | ops (ops:Array Oper) (l:List Oper)
 | D3 (id:Nat)
 | D2 (I:St→Prop) (μ:St→Nat) (m:Nat)
def XE (id:Nat):List Item→Option (List Item)
 | []=>none
 | .D3 id'::k=>if id'=id then some k else XE id k
 | _::k=>XE id k
structure Fin where
 rs:List ResultVar
 K:SV→List av→Prop
 /-- How each region that draws is reckoned. -/
 how:Nat→How
def IW (V:Cx)(E:Fin)(σ:St):Option (List SV)→Prop
 | some l=>E.K (ym l) σ.b
 | none=>False
def kj:List Oper→Nat→Option Tmp
 | [],_=>none
 | o::_,0=>o.dst
 | _::r,j+1=>kj r j
def Yk (t:List (Nat × SV)):Option Tmp→Option (Nat × Bool)
 | some d=>match lk d t with
   | some (.bool b)=>some (d,b)
   | _=>none
 | none=>none
def nob:Value→Bool
 | .bool _=>false
 | _=>true
theorem KM:nob undef=true:=rfl
def gvU (t:List (Nat × SV)):Option Tmp→Bool
 | some d=>match lk d t with
   | some (.v x)=>nob x
   | _=>false
 | none=>false
def shape:av→av
 | .cells _ T m=>.cells [] T m
 | .own _ e s n m=>.own [] e s n m
 | r=>r
def qY:av→List SV
 | .cells c _ _=>c
 | .own c _ _ _ _=>c
 | _=>[]
def ob (q:Option Nat)(r:av):av × Nat × Option SV:=(shape r,(qY r).length,match q with
 | some p=>(qY r)[p]?
 | none=>none)
def inR (x:Nat × Nat × Nat)(q:Option Nat):Prop:=q=none∨∃ p,q=some p∧x.2.1≤p∧p<x.2.1+x.2.2
def My (x:Nat × Nat × Nat)(j:Nat)(q:Option Nat):Prop:=x.1=j∧(x.2.2=0∨∃ p,q=some p∧x.2.1≤p∧p<x.2.1+x.2.2)
def seen (x:Nat × Nat × Nat)(bi bs:List av):Prop:=∀ q,inR x q→(bs[x.1]?).map (ob q)=(bi[x.1]?).map (ob q)
def G6 (W:List (Nat × Nat × Nat))(b b0:List av):Prop:=∀ j q,(∀ y∈W,¬ My y j q)→(b[j]?).map (ob q)=(b0[j]?).map (ob q)
theorem DC {W:List (Nat × Nat × Nat)}{b b0:List av}(h:∀ j,(∀ y∈W,y.1≠j)→b[j]? = b0[j]?)(hW:∀ y∈W,y.2.2=0):G6 W b b0:=fun j q hq=>by
 rw[h j fun y hy e=>hq y hy ⟨e,.inl (hW y hy)⟩]
def XQ (b:Bool)(X Y:Prop):Prop:=(b=true→X)∧(b=false→Y)
theorem Xn (X Y:Prop):XQ true X Y=X:=by simp[XQ]
theorem Xo (X Y:Prop):XQ false X Y=Y:=by simp[XQ]
def XG (b want:Bool)(X Y:Prop):Prop:=(b=want→X)∧(b=!want→Y)
theorem Xg (X Y:Prop):XG true true X Y=X:=by simp[XG]
theorem Xd (X Y:Prop):XG false false X Y=X:=by simp[XG]
theorem Xe (X Y:Prop):XG true false X Y=Y:=by simp[XG]
theorem Xf (X Y:Prop):XG false true X Y=Y:=by simp[XG]
mutual
def eD (V:Cx)(n:Nat)(E:Fin):Nat→List Item→St→Prop
 | 0,_,_=>False
 | _+1,[],σ=>IW V E σ (XT V σ E.rs)
 | f+1,.code .skip::k,σ=>eD V n E f k σ
 | f+1,.code (.region _ ops false)::k,σ=>eD V n E f (.ops ops ops.toList::k) σ
 | f+1,.code (.region id ops true)::k,σ=>HX V n E f ops k σ (E.how id)
 | f+1,.code (.seq x y)::k,σ=>eD V n E f (.code x::.code y::k) σ
 | f+1,.code (.cond c x y)::k,σ=>XN V n E f x y k σ (ev σ.t c)
 | f+1,.code (.block id x)::k,σ=>eD V n E f (.code x::.D3 id::k) σ
 | f+1,.code (.loop x)::k,σ=>Ju V n E f x k σ
 | f+1,.code (.exit id)::k,σ=>XO V n E f σ (XE id k)
 | _+1,.code .ret::_,σ=>IW V E σ (XT V σ E.rs)
 | _+1,.code _::_,_=>False
 | f+1,.D3 _::k,σ=>eD V n E f k σ
 | _+1,.D2 I μ m::_,σ=>I σ∧μ σ<m
 | f+1,.ops _ []::k,σ=>eD V n E f k σ
 | f+1,.ops ops (⟨dst,op,_,_,_,none⟩::r)::k,σ=>fits n dst=true∧Yc V n E f ops r k (XR V dst op σ)
 | f+1,.ops ops (⟨dst,op,_,_,_,some (j,want)⟩::r)::k,σ=>fits n dst=true∧XA V n E f ops dst op want r k σ (Yk σ.t (kj ops.toList j)) (gvU σ.t (kj ops.toList j))
 | _+1,.cut J::_,σ=>J σ
 | f+1,.j5 _ _ .leaf::k,σ=>eD V n E f k σ
 | f+1,.j5 ops L (.one i t)::k,σ=>eD V n E f (.ops ops (rF ops.toList i)::.j5 ops (i::L) t::k) σ
 | f+1,.j5 ops L (.cH i t)::k,σ=>Jk V n E f ops L i t k σ (rF ops.toList i)
 | f+1,.j5 ops L (.alt a b)::k,σ=>eD V n E f (.j5 ops L a::k) σ∧eD V n E f (.j5 ops L b::k) σ
 | f+1,.nY ops [] rs::k,σ=>Pe ops rs∧eD V n E f k σ
 | f+1,.nY ops (⟨dst,op,_,_,_,none⟩::r) rs::k,σ=>fits n dst=true∧Yg V n E f ops r rs k dst σ (XV V op σ)
 | f+1,.nY ops (⟨dst,op,_,_,_,some (j,want)⟩::r) rs::k,σ=>fits n dst=true∧Xy V n E f ops dst op want r rs k σ (Yk σ.t (kj ops.toList j)) (gvU σ.t (kj ops.toList j))
def HX (V:Cx)(n:Nat)(E:Fin):Nat→Array Oper→List Item→St→How→Prop
 | f,ops,k,σ,.ord p=>Fl ops p∧eD V n E f (.nY (tU ops p) (tU ops p).toList []::k) σ
 | f,ops,k,σ,.all t=>OT.Ba ops [] t=true∧∃ J:St→Prop,eD V n E f (.j5 ops [] t::.cut J::k) σ∧∀ σ',J σ'→eD V n E f k σ'
def Jk (V:Cx)(n:Nat)(E:Fin):Nat→Array Oper→List Nat→Nat→OT→List Item→St→List Oper→Prop
 | f,ops,L,i,t,k,σ,[⟨dst,op,_,_,_,none⟩]=>fits n dst=true∧Jj V n E f ops L i t k σ dst (pv V.Γ σ.t op)
 | _,_,_,_,_,_,_,_=>False
def Jj (V:Cx)(n:Nat)(E:Fin):Nat→Array Oper→List Nat→Nat→OT→List Item→St→Option Tmp→Option (Prop × SV)→Prop
 | f,ops,L,i,t,k,σ,dst,some (c,x)=>c∧eD V n E f (.j5 ops (i::L) t::k) ⟨put dst x σ.t,σ.b⟩
 | _,_,_,_,_,_,_,_,none=>False
def Yg (V:Cx)(n:Nat)(E:Fin):Nat→Array Oper→List Oper→List Rk→List Item→Option Tmp→St→lV→Prop
 | f,ops,r,rs,k,dst,σ,.val c ⟨x,none,all,rd,wr⟩=>c∧eD V n E f (.nY ops r (rs++[⟨false,all,rd,wr⟩])::k) ⟨put dst x σ.t,σ.b⟩
 | f,ops,r,rs,k,dst,σ,.val c ⟨x,some b,all,rd,wr⟩=>c∧eD V n E f (.nY ops r (rs++[⟨true,all,rd,wr⟩])::k) ⟨put dst x σ.t,b⟩
 | f,ops,r,rs,k,dst,σ,.call g args=>CC V n E f ops r rs k dst σ g args
 | _,_,_,_,_,_,_,.bad=>False
def CC (V:Cx)(n:Nat)(E:Fin):Nat→Array Oper→List Oper→List Rk→List Item→Option Tmp→St→FuncId→List SV→Prop
 | f,ops,r,rs,k,dst,σ,g,args=>(∃ x,PC V g args x∧eD V n E f (.nY ops r (rs++[⟨false,false,[],[]⟩])::k) ⟨put dst x σ.t,σ.b⟩)∨(∃ x b,SC V g args σ.b (fun r b'=>r=x∧b'=b)∧eD V n E f (.nY ops r (rs++[⟨true,true,[],[]⟩])::k) ⟨put dst x σ.t,b⟩) ∨
   (∃ x b W,SC V g args σ.b (fun r b'=>r=x∧b'=b)∧G6 W b σ.b∧eD V n E f (.nY ops r (rs++[⟨true,false,[],W⟩])::k) ⟨put dst x σ.t,b⟩)
def Xy (V:Cx)(n:Nat)(E:Fin):Nat→Array Oper→Option Tmp→Op→Bool→List Oper→List Rk→List Item→St→Option (Nat × Bool)→Bool→Prop
 | f,ops,dst,op,want,r,rs,k,σ,some (d,b),_=>fits n (some d)=true∧XG b want (Yg V n E f ops r rs k dst ⟨(d,.bool want)::σ.t,σ.b⟩ (XV V op ⟨(d,.bool want)::σ.t,σ.b⟩)) (eD V n E f (.nY ops r (rs++[⟨false,false,[],[]⟩])::k) ⟨put dst (.v undef) ((d,.bool (!want))::σ.t),σ.b⟩)
 | f,ops,dst,_,_,r,rs,k,σ,none,true=>eD V n E f (.nY ops r (rs++[⟨false,false,[],[]⟩])::k) ⟨put dst (.v undef) σ.t,σ.b⟩
 | _,_,_,_,_,_,_,_,_,none,false=>False
def XN (V:Cx)(n:Nat)(E:Fin):Nat→Code→Code→List Item→St→Option SV→Prop
 | f,x,y,k,σ,some (.bool b)=>XQ b (eD V n E f (.code x::k) σ) (eD V n E f (.code y::k) σ)
 | _,_,_,_,_,_=>False
def Ju (V:Cx)(n:Nat)(E:Fin):Nat→Code→List Item→St→Prop
 | f,x,k,σ=>∃ (I:St→Prop) (μ:St→Nat),I σ∧∀ σ',I σ'→eD V n E f (.code x::.D2 I μ (μ σ')::k) σ'
def XO (V:Cx)(n:Nat)(E:Fin):Nat→St→Option (List Item)→Prop
 | f,σ,some k=>eD V n E f k σ
 | _,_,none=>False
def Yc (V:Cx)(n:Nat)(E:Fin):Nat→Array Oper→List Oper→List Item→j6→Prop
 | f,ops,r,k,.go c σ=>c∧eD V n E f (.ops ops r::k) σ
 | f,ops,r,k,.call g args dst σ=>CB V n E f ops r k g args dst σ
 | _,_,_,_,.bad=>False
def CB (V:Cx)(n:Nat)(E:Fin):Nat→Array Oper→List Oper→List Item→FuncId→List SV→Option Tmp→St→Prop
 | f,ops,r,k,g,args,dst,σ=>(∃ x,PC V g args x∧eD V n E f (.ops ops r::k) ⟨put dst x σ.t,σ.b⟩)∨(∃ R,SC V g args σ.b R∧∀ x bs,R x bs→eD V n E f (.ops ops r::k) ⟨put dst x σ.t,bs⟩)
def XA (V:Cx)(n:Nat)(E:Fin):Nat→Array Oper→Option Tmp→Op→Bool→List Oper→List Item→St→Option (Nat × Bool)→Bool→Prop
 | f,ops,dst,op,want,r,k,σ,some (d,b),_=>fits n (some d)=true∧XG b want (Yc V n E f ops r k (XR V dst op ⟨(d,.bool want)::σ.t,σ.b⟩)) (eD V n E f (.ops ops r::k) ⟨put dst (.v undef) ((d,.bool (!want))::σ.t),σ.b⟩)
 | f,ops,dst,_,_,r,k,σ,none,true=>eD V n E f (.ops ops r::k) ⟨put dst (.v undef) σ.t,σ.b⟩
 | _,_,_,_,_,_,_,_,none,false=>False
end
open Go Go.RowKit Wf
def dD {S:Type}(u:Nat→S→S)(D:Nat→Bool):Nat→S→S
 | 0,s=>s
 | n+1,s=>if D n then u n (dD u D n s) else dD u D n s
theorem qQ {S X:Type}(u:Nat→S→S)(obs:S→X)(hu:∀ k s s',obs s=obs s'→obs (u k s)=obs (u k s'))(D D':Nat→Bool):∀ (n:Nat)(s:S),
 (∀ k,k<n→D k=D' k∨∀ s,obs (u k s)=obs s)→obs (dD u D n s)=obs (dD u D' n s)
 | 0,_,_=>rfl
 | n+1,s,h=>by
   have ih:=qQ u obs hu D D' n s (fun k hk=>h k (by omega))
   simp only[dD]
   rcases h n (by omega) with e|e
   ·rw[e]
    split
    ·exact hu _ _ _ ih
    ·exact ih
   ·split <;> split <;> simp only[e,ih]
theorem fold_congr {S:Type}(u:Nat→S→S)(D D':Nat→Bool):∀ (n:Nat)(s:S),(∀ k,k<n→D k=D' k)→dD u D n s=dD u D' n s
 | 0,_,_=>rfl
 | n+1,s,h=>by simp only[dD];rw[h n (by omega),fold_congr u D D' n s (fun k hk=>h k (by omega))]
def vA (i:Nat):Nat→Bool:=fun k=>decide (k<i)
def gg (D:Nat→Bool)(i:Nat):Nat→Bool:=fun k=>D k||decide (k=i)
theorem Ox {S : Type} (u : Nat → S → S) : ∀ (n i : Nat) (s : S), i ≤ n → dD u (vA i) n s = dD u (vA i) i s := by
  intro n
  induction n with
  | zero => intro i s h; have : i = 0 := by omega
            subst this; rfl
  | succ n ih =>
    intro i s h
    by_cases e : i = n + 1
    · subst e; rfl
    · simp only [dD]
      rw [if_neg (by simp [vA]; omega)]
      exact ih i s (by omega)
theorem Oz {S:Type}(u:Nat→S→S)(D:Nat→Bool):∀ (n:Nat)(s:S),(∀ k,k<n→D k=true)→dD u D n s=dD u (vA n) n s:=by
 intro n s h
 exact fold_congr u D (vA n) n s (fun k hk=>by rw[h k hk];simp[vA,hk])
theorem Bx {S:Type}(u:Nat→S→S)(i:Nat)(s:S):dD u (vA (i+1)) (i+1) s=u i (dD u (vA i) i s):=by
 simp only[dD]
 rw[if_pos (by simp[vA])]
 congr 1
 exact fold_congr u _ _ i s (fun k hk=>by simp[vA];omega)
theorem Ow {S X:Type}(u:Nat→S→S)(obs:S→X)(hu:∀ k s s',obs s=obs s'→obs (u k s)=obs (u k s'))(D:Nat→Bool)(n i:Nat)(s:S)(hi:i≤n)
 (h:∀ k,k<n→(∃ s,obs (u k s)≠obs s)→D k=decide (k<i)):obs (dD u D n s)=obs (dD u (vA i) i s):=by
 rw[← Ox u n i s hi]
 refine qQ u obs hu D (vA i) n s (fun k hk=>?_)
 by_cases e:∃ s,obs (u k s)≠obs s
 ·exact .inl (h k hk e)
 ·exact .inr (fun s=>Classical.byContradiction fun bK=>e ⟨s,bK⟩)
theorem Oy {S X : Type} (u : Nat → S → S) (obs : S → X) (hu : ∀ k s s', obs s = obs s' → obs (u k s) = obs (u k s')) (D : Nat → Bool) (n i : Nat) (s : S) (hi : i < n) (hD : D i = false)
    (h : (∃ s, obs (u i s) ≠ obs s) → ∀ k, k < n → (∃ s, obs (u k s) ≠ obs s) → D k = true → k < i)
    : obs (dD u (gg D i) n s) = obs (u i (dD u D n s)) := by
  by_cases e : ∃ s, obs (u i s) ≠ obs s
  · -- nothing behind i shows
    have h1 : obs (dD u (gg D i) n s) = obs (dD u (fun k => gg D i k && decide (k ≤ i)) n s) :=
      qQ u obs hu _ _ n s (fun k hk => by
        by_cases ek : ∃ s, obs (u k s) ≠ obs s
        · left
          by_cases kv : k ≤ i
          · simp [kv]
          · have : D k = false := by
              cases N5 : D k
              · rfl
              · have := h e k hk ek N5; omega
            simp [gg, this]; omega
        · exact .inr (fun s => Classical.byContradiction fun bK => ek ⟨s, bK⟩))
    have h2 : ∀ m, i < m → dD u (fun k => gg D i k && decide (k ≤ i)) m s = u i (dD u D i s) := by
      intro m
      induction m with
      | zero => intro hm; omega
      | succ m ih =>
        intro hm
        simp only [dD]
        by_cases NN : m = i
        · subst NN
          rw [if_pos (by simp [gg])]
          congr 1
          exact fold_congr u _ _ m s (fun k hk => by simp [gg, show k ≠ m by omega, show k ≤ m by omega])
        · rw [if_neg (by simp; omega)]
          exact ih (by omega)
    rw [h1, h2 n hi]
    refine hu _ _ _ ?_
    have h3 : obs (dD u D n s) = obs (dD u (fun k => D k && decide (k < i)) n s) :=
      qQ u obs hu _ _ n s (fun k hk => by
        by_cases ek : ∃ s, obs (u k s) ≠ obs s
        · left
          cases N5 : D k
          · simp
          · have := h e k hk ek N5; simp [this]
        · exact .inr (fun s => Classical.byContradiction fun bK => ek ⟨s, bK⟩))
    have h4 : ∀ m, i ≤ m → dD u (fun k => D k && decide (k < i)) m s = dD u D i s := by
      intro m
      induction m with
      | zero => intro hm; have : i = 0 := by omega
                subst this; rfl
      | succ m ih =>
        intro hm
        by_cases NN : i = m + 1
        · subst NN
          exact fold_congr u _ _ (m + 1) s (fun k hk => by simp; omega)
        · simp only [dD]
          rw [if_neg (by simp; omega)]
          exact ih (by omega)
    rw [h3, h4 n (by omega)]
  · have e' : ∀ s, obs (u i s) = obs s := fun s => Classical.byContradiction fun bK => e ⟨s, bK⟩
    rw [e']
    refine qQ u obs hu _ _ n s (fun k hk => ?_)
    by_cases kv : k = i
    · subst kv; exact .inr e'
    · left; simp [gg, kv]
theorem J6 {P:Program}{ops:Array Oper}{Q:Exit→Act→World→Prop}{md:Region.Mode}(Inv:(Nat→Bool)→Act→World→Prop)
 (JB:∀ (listed:Array Bool) a w i,listed.size=ops.size→Inv (fun k=>listed.getD k false) a w→i∈Region.ready md ops listed→wpOp P ops Q i (fun a' w'=>Inv (gg (fun k=>listed.getD k false) i) a' w') a w)
 (kL:∀ (listed:Array Bool) a w,listed.size=ops.size→Inv (fun k=>listed.getD k false) a w→Region.ready md ops listed=[]→Q .normal a w) :
 ∀ (fuel:Nat) (listed:Array Bool) a w,listed.size=ops.size→(listed.toList.filter (fun b=>!b)).length≤fuel→Inv (fun k=>listed.getD k false) a w→wpAny P md ops Q fuel listed a w:=by
 have key:∀ (listed:Array Bool) (i:Nat),i∈Region.ready md ops listed→i<listed.size∧listed.getD i false=false:=by
  intro listed i hi
  have:=(mem_ready.1 hi).1
  have aA:i<listed.size:=by
   rcases zP9 i listed.size with h|h
   ·exact h
   ·simp[h]at this
  exact⟨aA,by simp[aA]at this ⊢;exact this⟩
 intro fuel
 induction fuel with
 | zero =>
   intro listed a w hs hc hI
   have hr:Region.ready md ops listed=[]:=by
    rcases h:Region.ready md ops listed with _|⟨i,r⟩
    ·rfl
    ·have hi:i∈Region.ready md ops listed:=by rw[h];simp
     obtain⟨aA,hf⟩:=key listed i hi
     have:false∈listed.toList.filter (fun b=>!b):=by
      simp only[List.mem_filter]
      refine⟨?_,rfl⟩
      have:listed[i]=false:=by simpa[aA] using hf
      rw[← this]
      exact zPV.2 (Array.getElem_mem aA)
     have:=List.length_pos_of_mem this
     omega
   exact⟨hr,kL listed a w hs hI hr⟩
 | succ fuel ih =>
   intro listed a w hs hc hI
   refine⟨fun hr=>kL listed a w hs hI hr,fun i hi=>?_⟩
   obtain⟨aA,hf⟩:=key listed i hi
   refine wpOp_mono (fun a' w' hI'=>ih (listed.setIfInBounds i true) a' w' (by simp[hs]) ?_ ?_) (JB listed a w i hs hI hi)
   ·have hl:listed[i]=false:=by simpa[aA] using hf
    have e:listed.toList=listed.toList.take i++false::listed.toList.drop (i+1):=by
     have h1:=(List.take_append_drop i listed.toList).symm
     rw[List.drop_eq_getElem_cons (by simpa using aA)]at h1
     simpa[hl] using h1
    have hlen:(listed.toList.take i).length=i:=by simp;omega
    have e2:(listed.setIfInBounds i true).toList=listed.toList.take i++true::listed.toList.drop (i+1):=by
     rw[Array.toList_setIfInBounds]
     conv=>lhs;rw[e]
     rw[List.set_append_right _ _ (by omega)]
     simp[hlen]
    rw[e2]
    rw[e]at hc
    simp at hc ⊢
    omega
   ·have e:(fun k=>(listed.setIfInBounds i true).getD k false)=gg (fun k=>listed.getD k false) i:=by
     funext k
     by_cases h:k=i
     ·subst h;simp[gg,aA]
     ·simp only[gg]
      rw[zQi,Array.getElem?_setIfInBounds_ne (fun q=>h q.symm),← zQi]
      simp[h]
    rw[e]
    exact hI'
open Go Go.RowKit Wf
section
variable {V:Cx} {F:Fx V} {β:Nat→Bt} {fp:Nat→Nat→Prop}
theorem Fh {Γ:TypeId→Option TI}{t t':List (Nat × SV)}{op:Op}(h:∀ x∈op.operands,ev t x=ev t' x):pv Γ t op=pv Γ t' op:=by
 have opt:∀ o:Option Operand,(∀ x,o=some x→ev t x=ev t' x)→sM t o=sM t' o:=fun o ho=>by
  cases o with
  | none=>rfl
  | some x=>simp[sM,ho x rfl]
 have lst:∀ l:List Operand,(∀ x∈l,ev t x=ev t' x)→l.mapM (ev t)=l.mapM (ev t'):=fun l=>by
  induction l with
  | nil=>intro _;rfl
  | cons x r ih=>intro hl;simp only[List.mapM_cons];rw[hl x (by simp),ih (fun y hy=>hl y (by simp[hy]))]
 cases op <;> simp only[pv]
 case move x=>simp only[XX];rw[h x (by simp[Op.operands])]
 case assign x=>simp only[XX];rw[h x (by simp[Op.operands])]
 case pick c a b=>simp only[Ya];rw[h c (by simp[Op.operands]),h a (by simp[Op.operands]),h b (by simp[Op.operands])]
 case fieldAddr S x f=>simp only[Xb];rw[h x (by simp[Op.operands])]
 case field S x f=>simp only[Xu];rw[h x (by simp[Op.operands])]
 case binOp op T x y yt=>simp only[oBin];rw[h x (by simp[Op.operands]),h y (by simp[Op.operands])]
 case unOp op T x=>simp only[oUn];rw[h x (by simp[Op.operands])]
 case convert S D x=>simp only[Ye];rw[h x (by simp[Op.operands])]
 case slice T x lo hi mx =>
  cases mx with
  | some _=>rfl
  | none =>
    simp only[Xw]
    rw[h x (by simp[Op.operands]),opt lo (fun y hy=>h y (by simp[Op.operands,hy])),opt hi (fun y hy=>h y (by simp[Op.operands,hy]))]
 case index T x i=>simp only[Xx];rw[h x (by simp[Op.operands]),h i (by simp[Op.operands])]
 case build T ps =>
  have hp:∀ l:List (Nat × Operand),(∀ x∈l,ev t x.2=ev t' x.2)→Xl t l=Xl t' l:=fun l=>by
   induction l with
   | nil=>intro _;rfl
   | cons x r ih=>intro hl;obtain⟨i,o⟩:=x;simp only[Xl];rw[hl (i,o) (by simp),ih (fun y hy=>hl y (by simp[hy]))]
  simp only[Xk]
  rw[hp ps.toList (fun x hx=>h x.2 (by simp only[Op.operands];rw[List.mem_toArray];exact zQm hx))]
 case indexAddr T x i=>simp only[XS];rw[h x (by simp[Op.operands]),h i (by simp[Op.operands])]
 case extract x i=>simp only[Xh];rw[h x (by simp[Op.operands])]
 case makeFunc f first caps =>
  simp only[Yh]
  unfold Ep
  rw[lst caps.toList (fun x hx=>h x (by simp only[Op.operands];exact zQk.2 (.inr (zPV.1 hx)))),
   lst first.toList (fun x hx=>h x (by simp only[Op.operands];exact zQk.2 (.inl (zPV.1 hx))))]
 case call c =>
  obtain⟨callee,args,ts⟩:=c
  cases callee <;> (try simp only)
  rename_i b
  cases b <;> (try simp only)
  simp only[KK]
  split
  ·rename_i x hx
   rw[h x (by
    simp only[Op.operands,Call.operands]
    refine zQk.2 (.inr (zPV.1 ?_))
    rw[hx];simp)]
  ·rfl
theorem HQ (c:List SV)(r:av):shape (yy c r)=shape r:=by cases r <;> rfl
theorem IL {bs:List av}{i:Nat}{c:List SV}{T:TypeId}{m:Bool}(h:j3 bs i=some (c,T,m)):∃ r,bs[i]? = some r∧qY r=c∧∀ c' r',shape r'=shape r→qY r'=c'→(∀ bs':List av,bs'[i]? = some r'→j3 bs' i=some (c',T,m)):=by
 obtain⟨r,hr,-,hc⟩:=nV h
 refine⟨r,hr,by rcases hc with rfl|⟨s,n,rfl⟩ <;> rfl,fun c' r' hs hcr bs' hb=>?_⟩
 unfold j3
 rw[hb]
 rcases hc with rfl|⟨s,n,rfl⟩ <;> cases r' <;> simp[shape]at hs <;> simp[qY]at hcr <;> simp[hs,hcr]
theorem KJ {a b:Nat × Nat × Nat}(h:ovl a b=false){q:Option Nat}(hq:inR a q):¬ My b a.1 q:=by
 rintro⟨h1,h2⟩
 have:ovl a b=true:=by
  unfold ovl
  simp only[zPH,beq_iff_eq,zPK,decide_eq_true_eq]
  refine⟨h1.symm,?_⟩
  rcases h2 with h2|⟨p,rfl,h3,h4⟩
  ·exact .inl h2
  ·rcases hq with hq|⟨p',hp,h5,h6⟩
   ·cases hq
   ·cases hp
    exact .inr ⟨by omega,by omega⟩
 rw[h]at this
 cases this
theorem MJ {j off n:Nat}{bi bs:List av}(h:seen (j,off,n) bi bs){c:List SV}{T:TypeId}{m:Bool}(hg:j3 bi j=some (c,T,m)) :
 ∃ c',j3 bs j=some (c',T,m)∧c'.length=c.length∧∀ p,off≤p→p<off+n→c'[p]? = c[p]? := by
 obtain⟨r,hr,rfl,bp⟩:=IL hg
 have key:∀ q,inR (j,off,n) q→∃ r',bs[j]? = some r'∧ob q r'=ob q r:=fun q hq=>by
  have:=h q hq
  simp only[hr]at this
  cases hbs:bs[j]? with
  | none=>rw[hbs]at this;simp at this
  | some r' =>
    rw[hbs]at this
    simp only[zPR,zP3.injEq]at this
    exact⟨r',rfl,this⟩
 obtain⟨r',hr',ho⟩:=key none (.inl rfl)
 simp only[ob,Prod.mk.injEq,and_true]at ho
 refine⟨qY r',bp _ r' ho.1 rfl bs hr',ho.2,fun p h1 h2=>?_⟩
 obtain⟨r2,JD,pJ⟩:=key (some p) (.inr ⟨p,rfl,h1,h2⟩)
 rw[hr']at JD
 cases JD
 simp only[ob,Prod.mk.injEq]at pJ
 exact pJ.2.2
theorem ES {j off k:Nat}{bi bs:List av}(h:seen (j,off,k) bi bs){c:List SV}{e s n:Nat}{m:Bool}(hg:bi[j]? = some (.own c e s n m)):∃ c',bs[j]? = some (.own c' e s n m):=by
 have:=h none (.inl rfl)
 simp only[hg]at this
 cases hbs:bs[j]? with
 | none=>rw[hbs]at this;simp at this
 | some r' =>
   rw[hbs]at this
   simp only[zPR,zP3.injEq,ob,Prod.mk.injEq,and_true]at this
   cases r' <;> simp[shape]at this
   rename_i c' _ _ _ _
   obtain⟨⟨rfl,rfl,rfl,rfl⟩,-⟩:=this
   exact⟨c',rfl⟩
theorem Fo {agg:Bool}{off n:Nat}{c c':List SV}(hn:0<n)(h:∀ p,off≤p→p<off+n→c'[p]? = c[p]?):XM agg off n c'=XM agg off n c:=by
 unfold XM
 cases agg
 ·simp[h off (zPL _) (by omega)]
 ·simp only[if_true]
  congr 2
  apply List.ext_getElem?
  intro q
  simp only[List.getElem?_take,List.getElem?_drop]
  split
  ·exact h (off+q) (by omega) (by omega)
  ·rfl
theorem mapM_congr {t t':List (Nat × SV)}:∀ (l:List Operand),(∀ x∈l,ev t x=ev t' x)→Ep t l=Ep t' l
 | [],_=>rfl
 | x::r,h=>by
   have:=mapM_congr r (fun y hy=>h y (by simp[hy]))
   unfold Ep at this ⊢
   simp only[List.mapM_cons]
   rw[h x (by simp),this]
theorem jU {t t':List (Nat × SV)}:∀ (l:List (Nat × Operand)),(∀ x∈l.map (·.2),ev t x=ev t' x)→Xl t l=Xl t' l
 | [],_=>rfl
 | (i,x)::r,h=>by
  simp only[Xl]
  rw[h x (by simp),jU r (fun y hy=>h y (by simp only[List.map_cons,List.mem_cons];exact .inr hy))]
def hdS:List (Nat × SV)→SV
 | (_,x)::_=>x
 | []=>.v undef
theorem Ke {dst:Option Tmp}{op:Op}{t:List (Nat × SV)}{b:List av}{c:Prop}{σ':St}(hs:Yl V dst op ⟨t,b⟩=some (c,σ')):∃ x,σ'.t=put dst x t:=by
 cases op <;> simp only[Yl,reduceCtorEq]at hs
 case call cl =>
  obtain⟨callee,args,ts⟩:=cl
  cases callee <;> (try simp only[reduceCtorEq]at hs)
  rename_i bi
  cases bi <;> (try simp only[reduceCtorEq]at hs)
  case append =>
   unfold Xm at hs
   (repeat' split at hs) <;> try (cases hs;done)
   cases hs
   exact⟨_,rfl⟩
  all_goals
   unfold Xq at hs
   (repeat' split at hs) <;> try (cases hs;done)
   obtain⟨z,hz,e⟩:=zQh.1 hs
   cases e
   exact⟨z,rfl⟩
 case slice T x lo hi mx =>
  cases mx with
  | some mx =>
    cases lo <;> cases hi <;> simp only[reduceCtorEq]at hs
    unfold Il at hs
    (repeat' split at hs) <;> try (cases hs;done)
    cases hs
    exact⟨_,rfl⟩
  | none =>
  simp only at hs
  unfold Xj at hs
  (repeat' split at hs) <;> try (cases hs;done)
  cases hs
  exact⟨_,rfl⟩
 case convert S D x =>
  unfold Yb at hs
  (repeat' split at hs) <;> try (cases hs;done)
  all_goals
   cases hs
   exact⟨_,rfl⟩
 all_goals
  first|unfold Yn at hs|unfold Xa at hs|unfold Xc at hs
  (repeat' split at hs) <;> try (cases hs;done)
  cases hs
  exact⟨_,rfl⟩
theorem Kf {op:Op}{t t':List (Nat × SV)}{b:List av}(h:∀ x∈op.operands,ev t' x=ev t x)(dst:Option Tmp) :
 Yl V dst op ⟨t',b⟩=(Yl V (some 0) op ⟨t,b⟩).map fun p=>(p.1,⟨put dst (hdS p.2.t) t',p.2.b⟩):=by
 have opt:∀ o:Option Operand,(∀ x,o=some x→ev t' x=ev t x)→sM t' o=sM t o:=fun o ho=>by
  cases o with
  | none=>rfl
  | some x=>simp[sM,ho x rfl]
 cases op <;> simp only[Yl,zQc]
 case call cl =>
  obtain⟨callee,args,ts⟩:=cl
  have xK:∀ x∈args.toList,ev t' x=ev t x:=fun x hx=>h x (by
   simp only[Op.operands,Call.operands]
   exact zQk.2 (.inr (zPV.1 hx)))
  cases callee <;> (try simp only[zQc])
  rename_i bi
  cases bi <;> (try simp only[zQc])
  case append =>
   unfold Xm
   generalize args.toList=L at xK
   generalize ts.toList=TS
   match L,xK with
   | [s,x],xK =>
     simp only[xK s (by simp),xK x (by simp)]
     (repeat' split) <;> rfl
   | [],_=>rfl
   | [_],_=>rfl
   | _::_::_::_,_=>rfl
  all_goals
   unfold Xq
   generalize args.toList=L at xK
   match L,xK with
   | [s,x],xK =>
     simp only[xK s (by simp),xK x (by simp)]
     split
     ·split
      ·rw[Option.map_map];rfl
      ·rfl
     ·rfl
   | [],_=>rfl
   | [_],_=>rfl
   | _::_::_::_,_=>rfl
 case makeSlice T l cc =>
  unfold Yn
  simp only[h l (by simp[Op.operands]),h cc (by simp[Op.operands])]
  (repeat' split) <;> rfl
 case buildSlice T n ps =>
  unfold Xa
  simp only[jU (t:=t') (t':=t) ps.toList (fun x hx=>h x (by simp only[Op.operands];rw[List.mem_toArray];exact hx))]
  (repeat' split) <;> rfl
 case indexAddr T x i =>
  unfold Xc
  simp only[h x (by simp[Op.operands]),h i (by simp[Op.operands])]
  (repeat' split) <;> rfl
 case slice T x lo hi mx =>
  cases mx with
  | some mx =>
    cases lo <;> cases hi <;> simp only[zQc]
    rename_i hi
    unfold Il
    simp only[h x (by simp[Op.operands]),h hi (by simp[Op.operands]),h mx (by simp[Op.operands])]
    (repeat' split) <;> rfl
  | none =>
  simp only
  unfold Xj
  simp only[h x (by simp[Op.operands]),opt lo (fun y hy=>h y (by simp[Op.operands,hy])),opt hi (fun y hy=>h y (by simp[Op.operands,hy]))]
  (repeat' split) <;> rfl
 case convert S D x =>
  unfold Yb
  simp only[h x (by simp[Op.operands])]
  (repeat' split) <;> rfl
theorem lq {op:Op}{t t':List (Nat × SV)}{b:List av}(h:∀ x∈op.operands,ev t' x=ev t x){c:Prop}{σ':St}(hs:Yl V (some 0) op ⟨t,b⟩=some (c,σ')) :
 ∃ x,σ'.t=(0,x)::t∧∀ dst,Yl V dst op ⟨t',b⟩=some (c,⟨put dst x t',σ'.b⟩):=by
 obtain⟨x,hx⟩:=Ke hs
 refine⟨x,hx,fun dst=>?_⟩
 rw[Kf h dst,hs]
 simp only[zPR,hx]
 rfl
theorem Ns {l:List (Option SV)}{j n:Nat}(h:some (SV.o j n)∈l):(j,0,0)∈idxs l:=by
 induction l with
 | nil=>cases h
 | cons x r ih =>
   simp only[List.mem_cons]at h
   rcases h with h|h
   ·subst h;simp[idxs]
   ·have:=ih h
    cases x with
    | none=>simpa[idxs] using this
    | some v=>cases v <;> simp[idxs,this]
theorem KT {l:List (Option SV)}{x:Nat × Nat × Nat}(h:x∈idxs l):x.2.2=0:=by
 induction l with
 | nil=>cases h
 | cons y r ih =>
   cases y with
   | none=>exact ih (by simpa[idxs] using h)
   | some v =>
     cases v
     case o j n =>
      simp only[idxs,List.mem_cons]at h
      rcases h with rfl|h
      ·rfl
      ·exact ih h
     case f j n =>
      simp only[idxs,List.mem_cons]at h
      rcases h with rfl|h
      ·rfl
      ·exact ih h
     all_goals exact ih (by simpa[idxs] using h)
theorem Ih {op:Op}{t:List (Nat × SV)}{o:Operand}(ho:o∈Ek op){j n:Nat}(he:ev t o=some (.o j n)):(j,0,0)∈idxs ((Ek op).map (ev t)) :=
 Ns (by rw[← he];exact zQm ho)
theorem OS {e s:Nat}{x:SV}{b bs:List av}{n:Nat}{c:List SV}(h:uJ b e s x=some (n,c,bs)){j:Nat}(hj:∀ i m,x=.o i m→i≠j):bs[j]? = b[j]? ∧ bs.length=b.length:=by
 cases x <;> simp only[uJ,reduceCtorEq]at h
 case aj=>cases h;exact⟨rfl,rfl⟩
 case o i m =>
  split at h
  ·split at h
   ·cases h
    exact⟨zQj (hj i _ rfl),by simp⟩
   ·cases h
  ·cases h
 case f i m =>
  split at h
  ·split at h
   ·cases h
    exact⟨rfl,rfl⟩
   ·cases h
  ·cases h
theorem j4 {b:List av}{X:av}{j:Nat}(hj:j≠b.length):(b++[X])[j]? = b[j]? := by
 rcases zP9 j b.length with h|h
 ·rw[zPO h]
 ·rw[zPS h,zP4 h,zP4 (by simp;omega)]
theorem HK {op:Op}{t:List (Nat × SV)}{b:List av}{c:Prop}{σ':St}(hs:Yl V (some 0) op ⟨t,b⟩=some (c,σ')){j:Nat}(hj:j≠b.length)(hi:∀ x∈idxs ((Ek op).map (ev t)),x.1≠j):σ'.b[j]? = b[j]? := by
 have bK:∀ (o:Operand),o∈Ek op→∀ i m,ev t o=some (.o i m)→i≠j:=fun o ho i m he=>hi _ (Ih ho he)
 cases op <;> simp only[Yl,reduceCtorEq]at hs
 case call cl =>
  obtain⟨callee,args,ts⟩:=cl
  have xK:∀ x∈args.toList,x∈Ek (Op.call ⟨callee,args,ts⟩):=fun x hx=>hx
  cases callee <;> (try simp only[reduceCtorEq]at hs)
  rename_i bi
  cases bi <;> (try simp only[reduceCtorEq]at hs)
  case append =>
   unfold Xm at hs
   split at hs
   ·rename_i s x hl
    (repeat' split at hs) <;> try (cases hs;done)
    cases hs
    rename_i hd _ _ _ _
    obtain⟨h1,h2⟩:=OS hd (j:=j) (fun i m e=>bK s (xK s (by rw[hl];simp)) i m (by rw[← e];assumption))
    simp only
    rw[j4 (by rw[h2];exact hj),h1]
   ·cases hs
  all_goals
   unfold Xq at hs
   (repeat' split at hs) <;> try (cases hs;done)
   obtain⟨z,hz,e⟩:=zQh.1 hs
   cases e
   rfl
 case makeSlice T l cc =>
  unfold Yn at hs
  (repeat' split at hs) <;> try (cases hs;done)
  cases hs
  exact j4 hj
 case buildSlice T n ps =>
  unfold Xa at hs
  (repeat' split at hs) <;> try (cases hs;done)
  cases hs
  exact j4 hj
 case indexAddr T x i =>
  unfold Xc at hs
  (repeat' split at hs) <;> try (cases hs;done)
  cases hs
  rfl
 case slice T x lo hi' mx =>
  cases mx with
  | some mx =>
    cases lo <;> cases hi' <;> simp only[reduceCtorEq]at hs
    unfold Il at hs
    (repeat' split at hs) <;> try (cases hs;done)
    cases hs
    rfl
  | none =>
  simp only at hs
  unfold Xj at hs
  (repeat' split at hs) <;> try (cases hs;done)
  rename_i NG
  cases hs
  simp only
  unfold reS at NG
  split at NG
  ·rename_i i m he
   have Gj:i≠j:=bK x (by simp[Ek]) i m he
   split at NG
   ·split at NG
    ·(repeat' split at NG) <;> cases NG
     all_goals first
      | rw[j4 (by simpa using hj),zQj Gj]
      | exact j4 hj
    ·cases NG
   ·cases NG
  ·cases NG
 case convert S D x =>
  unfold Yb at hs
  (repeat' split at hs) <;> try (cases hs;done)
  all_goals cases hs
  all_goals first|rfl|exact j4 hj
theorem EI {op:Op}(hr:Xz V op=true){t:List (Nat × SV)}{b b':List av}{c:Prop}{σ':St}(hs:Yl V (some 0) op ⟨t,b⟩=some (c,σ'))(hc:c)
 (nQ:∀ x∈idxs ((Ek op).map (ev t)),seen x b b'):∃ c',c'∧Yl V (some 0) op ⟨t,b'⟩=some (c',⟨σ'.t,b'⟩):=by
 cases op <;> simp only[Yl,reduceCtorEq]at hs
 case call cl =>
  obtain⟨callee,args,ts⟩:=cl
  cases callee <;> (try simp only[reduceCtorEq]at hs)
  rename_i bi
  cases bi <;> (try simp only[reduceCtorEq]at hs)
  case append=>simp[Xz]at hr
  all_goals
   simp only[Yl]
   unfold Xq at hs ⊢
   split at hs
   ·rename_i s x hl
    simp only
    split at hs
    ·rename_i u hu
     split at hs
     ·rename_i v hv
      obtain⟨z,hz,e⟩:=zQh.1 hs
      cases e
      exact⟨True,trivial,by simp[hl,hu,hv,hz]⟩
     ·cases hs
    ·cases hs
   ·cases hs
 case indexAddr T x i =>
  simp only[Yl]
  unfold Xc at hs ⊢
  split at hs
  ·rename_i e hk
   split at hs
   ·rename_i s mL
    split at hs
    ·rename_i u hu
     split at hs
     ·rename_i k kk hi
      split at hs
      ·rename_i c0 y ha
       cases hs
       simp only at hu hi
       simp only[hu,hi]
       unfold Ym at ha
       split at ha
       ·rename_i j n
        split at ha
        ·rename_i cc e1 s1 n1 m1 hj
         cases ha
         obtain⟨c'',hb'⟩:=ES (nQ (j,0,0) (Ih (o:=x) (by simp[Ek]) hu)) hj
         simp only at hc
         refine⟨_,?_,by simp only[Ym,hb'];rfl⟩
         refine⟨hc.1,?_⟩
         have h2:=hc.2
         simp only[Xc.ow,hj]at h2
         simp only[Xc.ow,hb']
         exact h2
        ·cases ha
       ·cases ha
      ·cases hs
     ·cases hs
    ·cases hs
   ·cases hs
  ·cases hs
 case slice T x lo hi mx =>
  cases mx with
  | none=>cases lo <;> cases hi <;> simp[Xz]at hr
  | some mx =>
    cases lo with
    | some _=>cases hi <;> simp[Xz]at hr
    | none =>
      cases hi with
      | none=>simp[Xz]at hr
      | some hi =>
        simp only[Yl]
        simp only at hs
        unfold Il at hs ⊢
        split at hs
        ·rename_i e hk
         split at hs
         ·rename_i s mL
          split at hs
          ·rename_i u hu
           split at hs
           ·rename_i k1 h1 hhi
            split at hs
            ·rename_i k2 h2 hmx
             split at hs
             ·rename_i c0 y ha
              cases hs
              simp only at hu hhi hmx
              simp only[hu,hhi,hmx]
              unfold GO at ha
              split at ha
              ·rename_i j n
               split at ha
               ·rename_i cc e1 s1 n1 m1 hj
                cases ha
                obtain⟨c'',hb'⟩:=ES (nQ (j,0,0) (Ih (o:=x) (by simp[Ek]) hu)) hj
                refine⟨_,hc,by simp only[GO,hb']⟩
               ·cases ha
              ·cases ha
               exact⟨_,hc,by simp only[GO]⟩
              ·cases ha
             ·cases hs
            ·cases hs
           ·cases hs
          ·cases hs
         ·cases hs
        ·cases hs
 all_goals simp[Xz]at hr
theorem MD {dst:Option Tmp}{op:Op}{t t':List (Nat × SV)}{b b':List av}(h:∀ x∈op.operands,ev t' x=ev t x){c:Prop}{r:lW}(hs:XV V op ⟨t,b⟩=.val c r)(hc:c)(hb:r.nb.isSome=true→b'=b)(nQ:r.nb=none→∀ x∈r.rd,seen x b b') :
 lX V (fun σ=>σ=⟨put dst r.x t',r.nb.getD b'⟩) (XR V dst op ⟨t',b'⟩):=by
 unfold XV at hs
 unfold XR
 rw[Fh (t:=t') (t':=t) h]
 simp only at hs
 cases hp:pv V.Γ t op with
 | some p =>
   rw[hp]at hs
   obtain⟨c',x⟩:=p
   simp only[LA,sf]at hs
   cases hs
   exact⟨hc,rfl⟩
 | none =>
   rw[hp]at hs
   simp only[LA,goR]at hs ⊢
   cases hn:Yl V (some 0) op ⟨t,b⟩ with
   | some p =>
     obtain⟨c',σ'⟩:=p
     rw[hn]at hs
     obtain⟨x,hx,-⟩:=lq (t':=t) (fun _ _=>rfl) hn
     simp only[dN,hx]at hs
     split at hs
     ·rename_i K1
      cases hs
      obtain⟨c2,mg,e2⟩:=EI K1 hn hc (nQ rfl)
      obtain⟨x2,LZ,e3⟩:=lq h e2
      simp only[hx,List.cons.injEq,Prod.mk.injEq,true_and,and_true]at LZ
      rw[e3 dst]
      simp only[LX]
      exact⟨mg,by rw[← LZ];rfl⟩
     ·cases hs
      obtain rfl:=hb rfl
      obtain⟨x2,LZ,e3⟩:=lq h hn
      simp only[hx,List.cons.injEq,Prod.mk.injEq,true_and,and_true]at LZ
      rw[e3 dst]
      simp only[LX]
      exact⟨hc,by rw[← LZ];rfl⟩
   | none =>
     rw[hn]at hs
     simp only[dN]at hs
     cases op <;> simp only[Xv,reduceCtorEq]at hs
     case alloc T =>
      unfold XD at hs
      simp only[Yl,LX,Yd,XC]
      split at hs
      ·rename_i ti oJ
       cases hs
       obtain rfl:=hb rfl
       exact⟨trivial,rfl⟩
      ·cases hs
     case box T x =>
      unfold OZ at hs
      simp only[Yl,LX,Yd,sBox]
      split at hs
      ·rename_i u hu
       cases hs
       obtain rfl:=hb rfl
       simp only at hu
       rw[h x (by simp[Op.operands]),hu]
       exact⟨hc,rfl⟩
      ·cases hs
     case load T x =>
      unfold XI at hs
      simp only[Yl,LX,Yd,XU]
      rw[h x (by simp[Op.operands])]
      (repeat' split at hs) <;> try (cases hs;done)
      rename_i i off he _ c0 T0 m0 hg _ ti oJ _ y hy
      cases hs
      simp only at he hg
      obtain⟨c1,Bl,xG,K4⟩:=MJ (nQ rfl (i,off,ti.size) (by simp)) hg
      rw[he]
      simp only[Bl,oJ,Fo hc.2 K4,hy]
      exact⟨by rw[xG];exact hc.1,rfl⟩
     case store T x y =>
      unfold XF at hs
      simp only[Yl,LX,Yd,XH]
      rw[h x (by simp[Op.operands]),h y (by simp[Op.operands])]
      (repeat' split at hs) <;> try (cases hs;done)
      rename_i i off he _ u hu _ c0 T0 m0 hg _ s mL
      cases hs
      obtain rfl:=hb rfl
      simp only at he hg hu
      rw[he,hu]
      simp only[hg,mL]
      exact⟨⟨hc.1,hc.2.1,hc.2.2.1,hc.2.2.2.1⟩,rfl⟩
     case build T ps =>
      unfold XB at hs
      simp only[Yl,LX,Yd,Xr]
      rw[jU (t:=t') (t':=t) ps.toList (fun x hx=>h x (by simp only[Op.operands];rw[List.mem_toArray];exact hx))]
      (repeat' split at hs) <;> try (cases hs;done)
      rename_i ti oJ _ fs hk _ l hl _ cc Oc
      simp only[sf]at hs
      cases hs
      simp only at hl
      simp only[oJ,hk,hl,Oc]
      exact⟨trivial,rfl⟩
     case nilCheck x =>
      unfold OY at hs
      simp only[Yl,LX,Yd,sNil]
      rw[h x (by simp[Op.operands])]
      split at hs
      ·rename_i i off he
       simp only[sf]at hs
       cases hs
       simp only at he
       rw[he]
       exact⟨trivial,rfl⟩
      ·rename_i f l he
       simp only[sf]at hs
       cases hs
       simp only at he
       rw[he]
       exact⟨hc,rfl⟩
      ·cases hs
     case call cl =>
      obtain⟨callee,args,ts⟩:=cl
      cases callee <;> simp only[reduceCtorEq]at hs
      unfold XK at hs
      (repeat' split at hs) <;> cases hs
theorem HL {dst:Option Tmp}{op:Op}{t t':List (Nat × SV)}{b b':List av}(h:∀ x∈op.operands,ev t' x=ev t x){g:FuncId}{args:List SV}(hs:XV V op ⟨t,b⟩=.call g args):XR V dst op ⟨t',b'⟩=.call g args dst ⟨t',b'⟩:=by
 unfold XV at hs
 unfold XR
 rw[Fh (t:=t') (t':=t) h]
 simp only at hs
 cases hp:pv V.Γ t op with
 | some p=>rw[hp]at hs;obtain⟨c',x⟩:=p;simp[LA,sf]at hs
 | none =>
   rw[hp]at hs
   simp only[LA,goR]at hs ⊢
   cases hn:Yl V (some 0) op ⟨t,b⟩ with
   | some p =>
     obtain⟨c',σ'⟩:=p
     rw[hn]at hs
     obtain⟨x,hx,-⟩:=lq (t':=t) (fun _ _=>rfl) hn
     simp only[dN,hx]at hs
     split at hs <;> cases hs
   | none =>
     rw[hn]at hs
     simp only[dN]at hs
     cases op <;> simp only[Xv,reduceCtorEq]at hs
     case alloc T=>unfold XD at hs;(repeat' split at hs) <;> cases hs
     case box T x=>unfold OZ at hs;(repeat' split at hs) <;> cases hs
     case load T x=>unfold XI at hs;(repeat' split at hs) <;> cases hs
     case store T x y=>unfold XF at hs;(repeat' split at hs) <;> cases hs
     case build T ps=>unfold XB at hs;(repeat' split at hs) <;> (try simp only[sf]at hs) <;> cases hs
     case nilCheck x=>unfold OY at hs;(repeat' split at hs) <;> (try simp only[sf]at hs) <;> cases hs
     case call cl =>
      obtain⟨callee,args,ts⟩:=cl
      cases callee <;> simp only[reduceCtorEq]at hs
      rename_i f
      unfold XK at hs
      simp only[Yl,LX,Yd,XL]
      rw[h f (by simp[Op.operands,Call.operands])]
      have he:Ep t' args.toList=Ep t args.toList:=mapM_congr args.toList (fun x hx=>h x (by
       simp only[Op.operands,Call.operands]
       exact zQk.2 (.inr (zPV.1 hx))))
      rw[he]
      split at hs
      ·rename_i ff caps hf
       split at hs
       ·rename_i l hl
        simp only at hf hl
        rw[hf]
        simp only[hl]
        cases hs
        rfl
       ·cases hs
      ·cases hs
def UnE (r:lW)(bi:List av):Prop:=∀ nb,r.nb=some nb→r.all=false→∀ j q,(∀ x∈r.wr,¬ My x j q)→(nb[j]?).map (ob q)=(bi[j]?).map (ob q)
theorem EJ {op:Op}{t:List (Nat × SV)}{b:List av}{c:Prop}{r:lW}(hs:XV V op ⟨t,b⟩=.val c r)(hc:c):UnE r b:=by
 intro nb zP bp j q hwr
 unfold XV at hs
 simp only at hs
 cases hp:pv V.Γ t op with
 | some p=>rw[hp]at hs;obtain⟨c',x⟩:=p;simp only[LA,sf]at hs;cases hs;cases zP
 | none =>
   rw[hp]at hs
   simp only[LA]at hs
   cases hn:Yl V (some 0) op ⟨t,b⟩ with
   | some p =>
     obtain⟨c',σ'⟩:=p
     rw[hn]at hs
     obtain⟨x,hx,-⟩:=lq (t':=t) (fun _ _=>rfl) hn
     simp only[dN,hx]at hs
     split at hs
     ·cases hs;cases zP
     ·cases hs
      cases zP
      rw[HK hn (j:=j) (fun e=>hwr (b.length,0,0) (by simp) ⟨e.symm,.inl rfl⟩) (fun x hx e=>hwr x (by simp[hx]) ⟨e,.inl ?_⟩)]
      exact KT hx
   | none =>
     rw[hn]at hs
     simp only[dN]at hs
     cases op <;> simp only[Xv,reduceCtorEq]at hs
     case alloc T =>
      unfold XD at hs
      (repeat' split at hs) <;> try (cases hs;done)
      cases hs;cases zP
      rw[j4 (fun e=>hwr (b.length,0,0) (by simp) ⟨e.symm,.inl rfl⟩)]
     case box T x =>
      unfold OZ at hs
      (repeat' split at hs) <;> try (cases hs;done)
      cases hs;cases zP
      rw[j4 (fun e=>hwr (b.length,0,0) (by simp) ⟨e.symm,.inl rfl⟩)]
     case load T x =>
      unfold XI at hs
      (repeat' split at hs) <;> try (cases hs;done)
      cases hs;cases zP
     case store T x y =>
      unfold XF at hs
      (repeat' split at hs) <;> try (cases hs;done)
      rename_i i off he _ u hu _ c0 T0 m0 hg _ s mL
      cases hs;cases zP
      obtain⟨-,-,h3,h4,h5⟩:=hc
      simp only at hg hwr
      obtain⟨r0,JE,-,jT⟩:=nV hg
      rw[CQ JE]
      by_cases nR:i=j
      ·subst nR
       have dF:i<b.length:=(zPN.1 JE).1
       rw[List.getElem?_set_self dF,JE]
       have iM:qY r0=c0:=by rcases jT with rfl|⟨s',n',rfl⟩ <;> rfl
       have hcell2:qY (yy (Xs c0 off (cells u)) r0)=Xs c0 off (cells u):=by rcases jT with rfl|⟨s',n',rfl⟩ <;> rfl
       have hlen:(Xs c0 off (cells u)).length=c0.length:=by simp[Xs];omega
       simp only[zPR,ob,HQ,iM,hcell2,hlen]
       congr 3
       cases q with
       | none=>rfl
       | some p =>
         have hpr:¬ (off≤p∧p<off+s):=fun hh=>hwr (i,off,s) (by simp) ⟨rfl,.inr ⟨p,rfl,hh.1,hh.2⟩⟩
         simp only[Xs]
         rcases zP9 p off with aA|qL
         ·rw[List.append_assoc,zPO (by simp;omega),List.getElem?_take,if_pos aA]
         ·have hge2:off+s≤p:=by omega
          rw[zPS (by simp;omega),List.getElem?_drop]
          congr 1
          simp
          omega
      ·rw[zQj nR]
     case build T ps =>
      unfold XB at hs
      (repeat' split at hs) <;> (try simp only[sf]at hs) <;> cases hs
      cases zP
     case nilCheck x =>
      unfold OY at hs
      (repeat' split at hs) <;> (try simp only[sf]at hs) <;> cases hs
      all_goals cases zP
     case call cl =>
      obtain⟨callee,args,ts⟩:=cl
      cases callee <;> simp only[reduceCtorEq]at hs
      unfold XK at hs
      (repeat' split at hs) <;> cases hs
end
open Go Go.RowKit Wf
section
variable {V:Cx} {F:Fx V}
def cO:lW:=⟨.v undef,none,false,[],[]⟩
def AB (F:Fx V)(ops:Array Oper)(i:Nat)(ti:List (Nat × SV))(bi:List av)(r:lW):Prop :=
 ∀ (Q:Exit→Act→World→Prop) (K:Act→World→Prop) (a:Act) (w:World) (t':List (Nat × SV)) (b':List av) (o:Oper),ops[i]? = some o →
  (∀ d∈o.looksAt ops,lk d t'=lk d ti)→(r.nb.isSome=true→b'=bi)→(r.nb=none→∀ x∈r.rd,seen x bi b')→Rel F ⟨t',b'⟩ a w →
  (∀ a' w',Rel F ⟨put o.dst r.x t',r.nb.getD b'⟩ a' w'→K a' w')→wpOp V.P ops Q i K a w
def jy (ops:Array Oper)(k:Nat):Option Tmp:=(ops[k]?).bind (·.dst)
def uS (ops:Array Oper)(recs:List lW)(k:Nat)(t:List (Nat × SV)):List (Nat × SV):=put (jy ops k) (recs.getD k cO).x t
theorem BS {t t':List (Nat × SV)}{b:List av}{a:Act}{w:World}(h:Rel F ⟨t,b⟩ a w)(e:∀ d,lk d t'=lk d t):Rel F ⟨t',b⟩ a w:=by
 obtain⟨β,fp,hf,hw⟩:=h
 exact⟨β,fp,⟨fun β' hβ=>⟨(hf.ok β' hβ).size,(hf.ok β' hβ).defers,fun d x hd=>(hf.ok β' hβ).get d x (by rw[← e];exact hd)⟩⟩,hw⟩
theorem MZ {σ:St}{a:Act}{w:World}(h:Rel F σ a w):Rel F σ a w.drew:=by
 obtain⟨β,fp,hf,hw⟩:=h
 exact⟨β,fp,hf,hw.drew⟩
theorem nr (d:Nat)(dst:Option Tmp)(x:SV)(t:List (Nat × SV)):lk d (put dst x t)=if dst=some d then some x else lk d t:=by
 cases dst with
 | none=>simp[put]
 | some e =>
   simp only[put,lk,zP3.injEq]
   by_cases h:d=e
   ·subst h;simp
   ·rw[if_neg h,if_neg (fun q=>h q.symm)]
theorem kH {d:Nat}{dst:Option Tmp}{x:SV}{t t':List (Nat × SV)}(h:lk d t=lk d t'):lk d (put dst x t)=lk d (put dst x t'):=by
 rw[nr,nr,h]
theorem iG {ops:Array Oper}{D:Nat→Bool}(iU:∀ i o,ops[i]? = some o→D i=true→∀ e∈o.after,Region.binds .any e=true→D e.on=true) :
 ∀ (f i k:Nat),ny ops f i k=true→(∀ o,ops[i]? = some o→∀ e∈o.after,Region.binds .any e=true→D e.on=true)→D k=true
 | 0,i,k,h,_=>by simp[ny]at h
 | f+1,i,k,h,hp=>by
   simp only[ny]at h
   split at h
   ·rename_i o ho
    obtain⟨e,he,h⟩:=Array.any_eq_true'.1 h
    simp only[zPH,zPK,beq_iff_eq]at h
    obtain⟨hb,h⟩:=h
    have hon:=hp o ho e he hb
    rcases h with rfl|h
    ·exact hon
    ·exact iG iU f e.on k h (fun o' ho'=>iU e.on o' ho' hon)
   ·cases h
theorem HV (m j:Nat):(zQg m false).getD j false=false:=by
 rcases zP9 j m with h|h <;> simp[h]
def pY (Y:Nat):SV:=.v (.pointer (some ⟨Y,0,none⟩))
def Fx.at (F:Fx V){β:Nat→Bt}{fp:Nat→Nat→Prop}{b:List av}{w:World}(h:Wd F β fp b w):Fx V :=
 ⟨F.n,w,fun k=>∃ i r,b[i]? = some r∧r.dg=true∧fp i k,h.env,fun k ⟨i,r,hi,hm,hk⟩=>(h.dg i r hi hm k hk).elim (fun h1=>Nat.le_trans (V.Gz _ F.e0) h1) (fun h1=>F.ownG k h1),β,b,fun k=>∃ i r,b[i]? = some r∧fp i k⟩
theorem Wd.here {β:Nat→Bt}{fp:Nat→Nat→Prop}{b:List av}{w:World}(h:Wd F β fp b w):Wd (F.at h) β fp b w:=⟨tz.refl _ _,h.bx,fun i r hi hm k hk=>.inr ⟨i,r,hi,hm,hk⟩,⟨cN.refl _ _,zPL _⟩,fun i r hi k hk=>.inr ⟨i,r,hi,hk⟩⟩
theorem Wd.join {b b₂:List av}{w w':World}{β β₂:Nat→Bt}{fp fp₂:Nat→Nat→Prop}(h:Wd F β fp b w)(h2:Wd (F.at h) β₂ fp₂ b₂ w'):Wd F β₂ fp₂ b₂ w':=by
 have mL:=h2.fr.size
 refine⟨⟨h2.fr.os.trans h.fr.os,h2.fr.tape.trans h.fr.tape,h2.fr.output.trans h.fr.output,Nat.le_trans h.fr.size mL,fun k hk hn=>?_⟩,h2.bx,fun i r hi hm k hk=>?_,?_,fun i r hi k hk=>?_⟩
 ·rw[h2.fr.block k (Nat.lt_of_lt_of_le hk h.fr.size) (fun⟨i,r,hi,hm,hk'⟩=>?_)]
  ·exact h.fr.block k hk hn
  ·rcases h.dg i r hi hm k hk' with h1|h1
   ·omega
   ·exact hn h1
 ·rcases h2.dg i r hi hm k hk with h1|⟨j,r0,hj,Mb,l6⟩
  ·exact .inl (Nat.le_trans h.fr.size h1)
  ·exact h.dg j r0 hj Mb k l6
 ·exact⟨fun i hi=>(h.xZ.Es i hi).trans (h2.xZ.Es i (Nat.lt_of_lt_of_le hi h.xZ.len)),Nat.le_trans h.xZ.len h2.xZ.len⟩
 ·rcases h2.qP i r hi k hk with h1|⟨j,r0,hj,l6⟩
  ·exact .inl (Nat.le_trans h.fr.size h1)
  ·exact h.qP j r0 hj k l6
theorem Wd.adopt {β:Nat→Bt}{fp:Nat→Nat→Prop}{w:World}{b:List av}(h:Wd F β fp b w)(r:av)(t:Bt)(f:Nat→Prop)
 (hr:∀ β',cN (b.length+1) (re β b.length t) β'→Holds β' t f w r) (hf:∀ k,f k→F.w0.heap.size≤k∧k<w.heap.size∧∀ i r,b[i]? = some r→¬ fp i k) :
 Wd F (re β b.length t) (sg fp b.length f) (b++[r]) w:=by
 have old:∀ {i r'},(b++[r])[i]? = some r'→(i<b.length∧b[i]? = some r')∨(i=b.length∧r'=r):=fun {i r'} hi=>by
  rcases zP9 i b.length with aA|qL
  ·rw[zPO aA]at hi;exact .inl ⟨aA,hi⟩
  ·have hi':i=b.length:=by
    have:=(zPN.1 hi).1
    rw[zPI,zPQ]at this
    omega
   subst hi'
   rw[zPS (zPL _)]at hi
   simp at hi
   exact .inr ⟨rfl,hi.symm⟩
 have fo:∀ {i},i<b.length→sg fp b.length f i=fp i:=fun {i} hi=>by funext k;simp[sg,show i≠b.length by omega]
 have fn:sg fp b.length f b.length=f:=by funext k;simp[sg]
 refine⟨h.fr,fun β' hβ=>?_,fun i r' hi hm k hk=>?_,?_,fun i r' hi k hk=>?_⟩
 ·rw[zPI,zPQ]at hβ
  have hb':=h.bx β' hβ.fP
  have lI:β' b.length=t:=by rw[← hβ b.length (by omega),jB]
  refine⟨fun i r' hi=>?_,fun i r' hi k hk=>?_,fun i j r1 r2 hi hj bK hm k hk hk'=>?_⟩
  ·rcases old hi with⟨aA,hi⟩|⟨rfl,rfl⟩
   ·rw[fo aA];exact hb'.holds i r' hi
   ·rw[fn,lI];exact hr β' hβ
  ·rcases old hi with⟨aA,hi⟩|⟨rfl,rfl⟩
   ·rw[fo aA]at hk;exact hb'.lt i r' hi k hk
   ·rw[fn]at hk;exact(hf k hk).2.1
  ·rcases old hi with⟨aA,hi2⟩|⟨ei,e1⟩
   ·rcases old hj with⟨hlt',gm⟩|⟨ej,e2⟩
    ·rw[fo aA]at hk;rw[fo hlt']at hk';exact hb'.sep i j r1 r2 hi2 gm bK hm k hk hk'
    ·rw[ej]at hk'
     rw[fo aA]at hk;rw[fn]at hk'
     exact(hf k hk').2.2 i r1 hi2 hk
   ·rcases old hj with⟨hlt',gm⟩|⟨ej,e2⟩
    ·rw[ei]at hk
     rw[fn]at hk;rw[fo hlt']at hk'
     exact(hf k hk).2.2 j r2 gm hk'
    ·exact bK (ei.trans ej.symm)
 ·rcases old hi with⟨aA,hi⟩|⟨rfl,rfl⟩
  ·rw[fo aA]at hk;exact h.dg i r' hi hm k hk
  ·rw[fn]at hk;exact .inl (hf k hk).1
 ·have hl:=h.xZ.len
  exact⟨fun i hi=>(h.xZ.Es i hi).trans (iu β _ _ i (by omega)),by rw[zPI];omega⟩
 ·rcases old hi with⟨aA,hi⟩|⟨rfl,rfl⟩
  ·rw[fo aA]at hk;exact h.qP i r' hi k hk
  ·rw[fn]at hk;exact .inl (hf k hk).1
structure FlD where
 d:Nat→Nat
 z:Nat→List SV
 T:Nat→TypeId
 L:Nat→Nat
 q:Nat→Option (Nat × Nat)
def flR (q:Option (Nat × Nat))(z:List SV)(T:TypeId):av:=match q with
 | none=>.cells z T true
 | some (s,n)=>.own z T s n true
def flV (q:Option (Nat × Nat))(L:Nat):SV:=match q with
 | none=>.p L 0
 | some (_,n)=>.o L n
def flB (q:Option (Nat × Nat))(Y:Nat):Bt:=match q with
 | none=>⟨Y,0,0⟩
 | some (_,n)=>⟨Y,0,n+1⟩
def LD (q:Option (Nat × Nat))(Y:Nat):SV:=match q with
 | none=>pY Y
 | some (_,n)=>.v (.slice (some ⟨Y,0,none⟩) n n)
def flW (q:Option (Nat × Nat))(z:List SV):Prop:=match q with
 | none=>True
 | some (s,n)=>z.length=n * s∧n≤maxLen
theorem OD {q:Option (Nat × Nat)}{z:List SV}{T:TypeId}{Y:Nat}{β':Nat→Bt}{w:World}(hq:flW q z)(h:w.heap[Y]? = some (.cells (z.map (ak β')).toArray T)):Holds β' (flB q Y) (·=Y) w (flR q z T):=by
 cases q with
 | none=>exact⟨rfl,⟨[],(0,0),⟨by rw[zP5];exact h,.inr (zPL _)⟩,rfl⟩,fun k=>Iff.rfl⟩
 | some p =>
   obtain⟨s,n⟩:=p
   exact kY (rest:=[]) (fz:=(0,0)) (by rw[zP5];exact h) (.inr (zPL _)) hq.1 (zPL _) hq.2 (by simpa using hq.1)
theorem fl_conc {q:Option (Nat × Nat)}{Y L:Nat}{β' β:Nat→Bt}(h:β' L=flB q Y):ak β (LD q Y)=ak β' (flV q L):=by
 cases q with
 | none=>simp[ak,pY,LD,flV,h,flB]
 | some p=>obtain⟨s,n⟩:=p;simp[ak,LD,flV,h,flB,oV]
theorem OE {q:Option (Nat × Nat)}{Y:Nat}(β β':Nat→Bt):ak β (LD q Y)=ak β' (LD q Y):=by
 cases q with
 | none=>simp[ak,pY,LD]
 | some p=>obtain⟨s,n⟩:=p;simp[ak,LD]
def AD (F:Fx V)(G:FlD)(A:Nat→Bool)(t:List (Nat × SV))(b:List av)(a:Act)(w:World):Prop:=∃ (β:Nat→Bt) (fp:Nat→Nat→Prop) (Y:Nat→Nat) (tt:List (Nat × SV)),
 Fm F β b.length tt a∧Wd F β fp b w ∧
 (∀ k,A k=true→lk (G.d k) tt=some (LD (G.q k) (Y k))∧lk (G.d k) t=some (flV (G.q k) (G.L k))∧F.w0.heap.size≤Y k∧Y k<w.heap.size∧(∀ β',cN b.length β β'→w.heap[Y k]? = some (.cells ((G.z k).map (ak β')).toArray (G.T k)))∧∀ i r,b[i]? = some r→¬ fp i (Y k)) ∧
 (∀ k l,A k=true→A l=true→k≠l→Y k≠Y l)∧∀ e,(∀ k,A k=true→G.d k≠e)→lk e tt=lk e t
theorem AD.none {G:FlD}{A:Nat→Bool}{t:List (Nat × SV)}{b:List av}{a:Act}{w:World}(h:AD F G A t b a w)(hA:∀ k,A k=false):Rel F ⟨t,b⟩ a w:=by
 obtain⟨β,fp,Y,tt,hf,hw,-,-,hl⟩:=h
 exact BS ⟨β,fp,hf,hw⟩ (fun d=>(hl d (fun k hk=>by rw[hA k]at hk;cases hk)).symm)
theorem AD.take {G:FlD}{A A':Nat→Bool}{t:List (Nat × SV)}{b:List av}{a:Act}{w:World}(h:AD F G A t b a w){c:Nat}(hc:A c=true)(hA:∀ k,A' k=true→A k=true∧k≠c)(hA2:∀ k,A k=true→k≠c→A' k=true)(hL:G.L c=b.length)
 (hz:flW (G.q c) (G.z c)) (hd:∀ k,A k=true→k≠c→G.d k≠G.d c):AD F G A' t (b++[flR (G.q c) (G.z c) (G.T c)]) a w:=by
 obtain⟨β,fp,Y,tt,hf,hw,hy,hdis,hl⟩:=h
 obtain⟨g1,g2,g3,g4,g5,g6⟩:=hy c hc
 have gx:=hw.adopt (flR (G.q c) (G.z c) (G.T c)) (flB (G.q c) (Y c)) (·=Y c) (fun β' hβ=>OD hz (g5 β' hβ.fP)) (fun k hk=>by subst hk;exact⟨g3,g4,g6⟩)
 refine⟨_,_,Y,(G.d c,flV (G.q c) b.length)::tt,⟨fun β' hβ=>?_⟩,gx,fun k hk=>?_,fun k l hk hl' bK=>hdis k l (hA k hk).1 (hA l hl').1 bK,fun e he=>?_⟩
 ·rw[zPI,zPQ]at hβ
  have h0:=hf.ok β' hβ.fP
  refine⟨h0.size,h0.defers,fun d x hd=>?_⟩
  simp only[lk]at hd
  split at hd
  ·rename_i e
   subst e
   cases hd
   rw[h0.get _ _ g1]
   exact fl_conc (by rw[← hβ b.length (by omega),jB])
  ·exact h0.get d x hd
 ·obtain⟨cP,bJ⟩:=hA k hk
  obtain⟨q1,q2,q3,q4,q5,q6⟩:=hy k cP
  refine⟨?_,q2,q3,q4,fun β' hβ=>q5 β' (by rw[zPI,zPQ]at hβ;exact hβ.fP),fun i r hi Gn=>?_⟩
  ·simp only[lk];rw[if_neg (hd k cP bJ)];exact q1
  ·rcases zP9 i b.length with aA|qL
   ·rw[zPO aA]at hi
    exact q6 i r hi (by simpa[sg,show i≠b.length by omega] using Gn)
   ·have hi':i=b.length:=by
     have:=(zPN.1 hi).1
     rw[zPI,zPQ]at this
     omega
    subst hi'
    have:Y k=Y c:=by simpa[sg] using Gn
    exact hdis k c cP hc bJ this
 ·simp only[lk]
  split
  ·rename_i e1
   rw[e1,g2,hL]
  ·rename_i e1
   refine hl e (fun k hk=>?_)
   by_cases hkc:k=c
   ·subst hkc;exact fun q=>e1 q.symm
   ·exact he k (hA2 k hk hkc)
theorem OU {ops:Array Oper}{recs:List lW}{a0:Act}{w:World}{t0:List (Nat × SV)}{b0:List av}{Q:Exit→Act→World→Prop}(G:FlD)(T:Nat→List (Nat × SV))(B:Nat→List av)(hT0:∀ d,lk d (T 0)=lk d t0)(l9:B 0=b0)
 (hT:∀ i,i<ops.size→∀ d,lk d (T (i+1))=lk d (put (jy ops i) (recs.getD i cO).x (T i)))
 (hB:∀ i,i<ops.size→B (i+1)=(recs.getD i cO).nb.getD (B i))
 (K8:∀ i,i<ops.size→∀ F':Fx V,F'.n=F.n→AB F' ops i (T i) (B i) (recs.getD i cO)) (KX:∀ i,i<ops.size→UnE (recs.getD i cO) (B i))
 (l8:∀ k,fT ops k=true→jy ops k=some (G.d k)∧G.d k<F.n∧G.L k=(B k).length∧(∃ W,recs.getD k cO=⟨flV (G.q k) (B k).length,some (B k++[flR (G.q k) (G.z k) (G.T k)]),false,[],W⟩)∧flW (G.q k) (G.z k)∧∃ o,ops[k]? = some o∧o.guard=none ∧
   ∀ (β:Nat→Bt) (m:Nat) (tt:List (Nat × SV)) (a:Act) (w:World),Fm F β m tt a→(∀ d∈o.looksAt ops,lk d tt=lk d (T k))→∀ β',cN m β β'→(execOp a.eval o).run V.P w=Result.ok (.value (ak me (LD (G.q k) w.heap.size))) (w.alloc (.cells ((G.z k).map (ak β')).toArray (G.T k))))
 (hlen:recs.length=ops.size) (hc:Pe ops (recs.map fun r=>⟨r.nb.isSome,r.all,r.rd,r.wr⟩)) (hr:Rel F ⟨t0,b0⟩ a0 w)
 (hQ:∀ a w',Rel F ⟨T ops.size,B ops.size⟩ a w'→Q .normal a w'):wpAny V.P .any ops Q ops.size (zQg ops.size false) a0 { w with drawn:=w.drawn+1 }:=by
 simp only[Pe,zPH]at hc
 obtain⟨hc,hah⟩:=hc
 let n:=ops.size
 let isS:Nat→Prop:=fun k=>(recs.getD k cO).nb.isSome=true
 have hrk:∀ k,k<n→(((recs.map fun r=>(⟨r.nb.isSome,r.all,r.rd,r.wr⟩:Rk))[k]?).getD AW)=⟨(recs.getD k cO).nb.isSome,(recs.getD k cO).all,(recs.getD k cO).rd,(recs.getD k cO).wr⟩:=fun k hk=>by
  have hk':k<recs.length:=by rw[hlen];exact hk
  simp[zPW,zP0 hk']
 have NK:∀ i k,i<n→k<n→k≠i→yP ops (recs.map fun r=>(⟨r.nb.isSome,r.all,r.rd,r.wr⟩:Rk)) i k=true:=fun i k hi hk bK=>by
  have h1:=zPJ.1 (zPJ.1 hc i (zP8.2 hi)) k (zP8.2 hk)
  simp only[zPK,beq_iff_eq]at h1
  rcases h1 with h1|h1
  ·exact absurd h1 bK
  ·exact h1
 have NI:∀ i k,k<n→Dl ops (recs.map fun r=>(⟨r.nb.isSome,r.all,r.rd,r.wr⟩:Rk)) i k=true→fT ops k=true→k<i→∀ j,j<k→isS j→ny ops ops.size i j=true:=fun i k hk hp hf kv j hj hs=>by
  unfold Dl at hp
  rw[hf,decide_eq_true kv]at hp
  simp only[Bool.and_self,Bool.not_true,Bool.false_or]at hp
  have h1:=zPJ.1 hp j (zP8.2 hj)
  rw[hrk j (by omega)]at h1
  have hs':(recs.getD j cO).nb.isSome=true:=hs
  have h1:(!((recs.getD j cO).nb.isSome)||ny ops ops.size i j)=true:=h1
  rw[hs',Bool.not_true,Bool.false_or]at h1
  exact h1
 -- what must be ordered
 have NC:∀ i k,i<n→k<n→k≠i→wI ops i k=true→yp ops i k=true∧(fT ops k=true→k<i→∀ j,j<k→isS j→ny ops ops.size i j=true):=fun i k hi hk bK Oa=>by
  have h1:=NK i k hi hk bK
  unfold yP at h1
  rw[if_pos Oa,zPH]at h1
  exact⟨h1.1,NI i k hk h1.2⟩
 have hSS:∀ i k,k<i→i<n→isS i→isS k→fT ops i=false→ny ops ops.size i k=true:=fun i k kv hi hsi AE hnf=>by
  have h1:=NK i k hi (by omega) (by omega)
  have hmax:max i k=i:=by omega
  unfold yP at h1
  rw[hrk i hi,hrk k (by omega)]at h1
  have e1:(recs.getD i cO).nb.isSome=true:=hsi
  have e2:(recs.getD k cO).nb.isSome=true:=AE
  split at h1
  ·rw[zPH]at h1
   have:=h1.1
   unfold yp at this
   rwa [if_pos kv]at this
  ·rw[if_pos (by simp only[e1,e2,Bool.and_self]),hmax,hnf,Bool.false_or]at h1
   unfold yp at h1
   rwa [if_pos kv]at h1
 have oL:∀ i k,i<n→k<n→k≠i→¬ isS i→isS k→∀ x∈(recs.getD i cO).rd,((recs.getD k cO).all=true∨∃ y∈(recs.getD k cO).wr,ovl x y=true)→yp ops i k=true∧(fT ops k=true→k<i→∀ j,j<k→isS j→ny ops ops.size i j=true):=fun i k hi hk bK hnsi hs x hx Oa=>by
  have h1:=NK i k hi hk bK
  unfold yP at h1
  rw[hrk i hi,hrk k hk]at h1
  have e1:(recs.getD i cO).nb.isSome=false:=by
   cases h:(recs.getD i cO).nb.isSome with
   | false=>rfl
   | true=>exact absurd h hnsi
  split at h1
  ·rw[zPH]at h1
   exact⟨h1.1,NI i k hk h1.2⟩
  ·rw[if_neg (by simp only[e1,Bool.false_and];simp),if_pos (by
    simp only[zPH,Bool.not_eq_true']
    refine⟨hs,?_⟩
    cases hl:(recs.getD i cO).rd with
    | nil=>rw[hl]at hx;cases hx
    | cons _ _=>rfl)]at h1
   simp only[zPK,Bool.not_eq_true',zPH]at h1
   rcases h1 with h1|h1
   ·exact⟨h1.1,NI i k hk h1.2⟩
   ·exfalso
    simp only[Bool.or_eq_false_iff]at h1
    rcases Oa with Oa|⟨y,hy,Cf⟩
    ·rw[Oa]at h1;cases h1.1
    ·have:o4 (recs.getD i cO).rd (recs.getD k cO).wr=true:=by
      unfold o4
      exact zPX.2 ⟨x,hx,zPX.2 ⟨y,hy,Cf⟩⟩
     rw[this]at h1
     cases h1.2
 have Gp:∀ k,fT ops k=true→k<n:=fun k hk=>by
  obtain⟨-,-,-,-,-,o,ho,-⟩:=l8 k hk
  exact(zPM.1 ho).1
 have hflS:∀ k,fT ops k=true→isS k:=fun k hk=>by
  obtain⟨-,-,-,⟨_,NF⟩,-⟩:=l8 k hk
  show (recs.getD k cO).nb.isSome=true
  rw[NF];rfl
 -- the run in the text's order
 have hTf:∀ i,i≤n→∀ d,lk d (T i)=lk d (dD (uS ops recs) (vA i) i t0):=fun i=>by
  induction i with
  | zero=>intro _ d;exact hT0 d
  | succ i ih =>
    intro hi d
    rw[hT i (by omega) d,Bx]
    exact kH (ih (by omega) d)
 have huS:∀ d k (s s':List (Nat × SV)),lk d s=lk d s'→lk d (uS ops recs k s)=lk d (uS ops recs k s'):=fun d k s s' h=>kH h
 have hchS:∀ d k,(∃ s,lk d (uS ops recs k s)≠lk d s)→jy ops k=some d:=fun d k ⟨s,hs⟩=>by
  unfold uS at hs
  rw[nr]at hs
  by_cases h:jy ops k=some d
  ·exact h
  ·rw[if_neg h]at hs;exact absurd rfl hs
 have hidN:∀ k,¬ isS k→∀ b,(recs.getD k cO).nb.getD b=b:=fun k hs b=>by
  cases h:(recs.getD k cO).nb with
  | none=>rfl
  | some x=>exact absurd (by show ((recs.getD k cO).nb).isSome=true;rw[h];rfl) hs
 let AS:(Nat→Bool)→Nat→Nat→Bool:=fun D c k=>fT ops k&&(D k&&decide (c≤k))
 have hdis:∀ k l,fT ops k=true→fT ops l=true→k≠l→G.d k=G.d l→∀ (D:Nat→Bool),(∀ i o,ops[i]? = some o→D i=true→∀ e∈o.after,Region.binds .any e=true→D e.on=true)→D k=true→D l=true→∀ c,c<n→D c=false→isS c→c≤k→c≤l→False:=fun k l hk hl bK he D iU hDk hDl c DR Ml rH hck hcl'=>by
  -- the later one comes behind all that is ahead of the earlier one
  have key:∀ k l,fT ops k=true→fT ops l=true→k<l→G.d k=G.d l→D k=true→D l=true→c≤k→False:=fun k l hk hl x9 he hDk hDl hck=>by
   obtain⟨N5,-⟩:=l8 k hk
   obtain⟨pK,-,-,-,-,o,ho,-⟩:=l8 l hl
   have hs:wI ops l k=true:=by
    unfold wI
    unfold jy at N5
    rw[N5,ho]
    have:o.dst=some (G.d l):=by unfold jy at pK;rw[ho]at pK;exact pK
    simp[this,he]
   obtain⟨-,h2⟩:=NC l k (Gp l hl) (Gp k hk) (by omega) hs
   have hck':c≠k:=fun e=>by rw[← e,Ml]at hDk;cases hDk
   have:=iG iU _ l c (h2 hk x9 c (by omega) rH) (fun o' ho'=>iU l o' ho' hDl)
   rw[Ml]at this;cases this
  rcases Nat.lt_or_gt_of_ne bK with h|h
  ·exact key k l hk hl h he hDk hDl hck
  ·exact key l k hl hk h he.symm hDl hDk hcl'
 -- those that are next are counted
 have hadv:∀ (D:Nat→Bool) (a:Act) (w:World) (t:List (Nat × SV)),(∀ i o,ops[i]? = some o→D i=true→∀ e∈o.after,Region.binds .any e=true→D e.on=true)→∀ (m c:Nat),c+m=n→(∀ k,k<c→isS k→D k=true)→(∀ k,c≤k→k<n→isS k→D k=true→fT ops k=true) →
  (∀ k l,AS D c k=true→AS D c l=true→k≠l→G.d k≠G.d l)→AD F G (AS D c) t (B c) a w→∃ c',c'≤n∧(∀ k,k<c'→isS k→D k=true)∧(c'<n→isS c'∧D c'=false)∧AD F G (AS D c') t (B c') a w:=fun D a w t iU m=>by
  induction m with
  | zero =>
    intro c DR fj _ _ hrel
    exact⟨c,by omega,fj,fun h=>by omega,hrel⟩
  | succ m ih =>
    intro c DR fj Gq hdd hrel
    by_cases hs:isS c
    ·cases hD:D c with
     | false=>exact⟨c,by omega,fj,fun _=>⟨hs,hD⟩,hrel⟩
     | true =>
       have hf:=Gq c (zPL _) (by omega) hs hD
       obtain⟨-,-,hL,⟨_,NF⟩,hW,-⟩:=l8 c hf
       have hBc:B (c+1)=B c++[flR (G.q c) (G.z c) (G.T c)]:=by rw[hB c (by omega),NF];rfl
       have hAc:AS D c c=true:=by simp[AS,hf,hD]
       have Cn:∀ k,AS D (c+1) k=true→AS D c k=true∧k≠c:=fun k hk=>by
        simp only[AS,zPH,decide_eq_true_eq]at hk ⊢
        exact⟨⟨hk.1,hk.2.1,by omega⟩,by omega⟩
       refine ih (c+1) (by omega) (fun k hk AE=>?_) (fun k hk=>Gq k (by omega)) (fun k l hk hl=>hdd k l (Cn k hk).1 (Cn l hl).1) ?_
       ·rcases Nat.lt_or_eq_of_le (Nat.lt_succ_iff.1 hk) with h1|rfl
        ·exact fj k h1 AE
        ·exact hD
       ·rw[hBc]
        refine hrel.take hAc Cn (fun k hk bK=>?_) hL hW (fun k hk bK=>hdd k c hk hAc bK)
        simp only[AS,zPH,decide_eq_true_eq]at hk ⊢
        exact⟨hk.1,hk.2.1,by omega⟩
    ·have hBc:B (c+1)=B c:=by rw[hB c (by omega)];exact hidN c hs _
     have II:AS D (c+1)=AS D c:=by
      funext k
      by_cases hk:fT ops k=true
      ·have bK:k≠c:=fun e=>hs (e ▸ hflS k hk)
       simp only[AS]
       congr 2
       exact decide_eq_decide.2 ⟨fun h=>by omega,fun h=>by omega⟩
      ·simp only[AS,Bool.not_eq_true]at hk ⊢
       rw[hk];rfl
     refine ih (c+1) (by omega) (fun k hk AE=>?_) (fun k hk=>Gq k (by omega)) (by rw[II];exact hdd) (by rw[hBc,II];exact hrel)
     rcases Nat.lt_or_eq_of_le (Nat.lt_succ_iff.1 hk) with h1|rfl
     ·exact fj k h1 AE
     ·exact absurd AE hs
 let Inv:(Nat→Bool)→Act→World→Prop:=fun D a w=>(∃ c,c≤n∧(∀ k,k<c→isS k→D k=true)∧(c<n→isS c∧D c=false)∧AD F G (AS D c) (dD (uS ops recs) D n t0) (B c) a w)∧(∀ i o,ops[i]? = some o→D i=true→∀ e∈o.after,Region.binds .any e=true→D e.on=true)
 refine J6 Inv ?_ ?_ ops.size _ a0 _ (by simp) (by simp) ?_
 ·rintro listed a w i mL ⟨⟨c,DR,fj,nu,hrel⟩,iU⟩ hi
  obtain⟨hun1,o,ho,bp⟩:=mem_ready.1 hi
  have rZ:i<n:=(zPM.1 ho).1
  have hDi:listed.getD i false=false:=by
   have:i<listed.size:=by rw[mL];exact rZ
   simp[this]at hun1 ⊢;exact hun1
  have hpr:∀ o',ops[i]? = some o'→∀ e∈o'.after,Region.binds .any e=true→listed.getD e.on false=true:=fun o' ho' e he hb=>by
   rw[ho]at ho';cases ho';exact bp e he hb
  obtain⟨D,hDD⟩:∃ D:Nat→Bool,D=fun k=>listed.getD k false:=⟨_,rfl⟩
  have hDk:∀ k,listed.getD k false=D k:=fun k=>by rw[hDD]
  rw[← hDD]at hrel iU ⊢
  rw[hDk]at hDi
  simp only[hDk]at hpr fj nu
  have N9:∀ l o',ops[l]? = some o'→gg D i l=true→∀ e∈o'.after,Region.binds .any e=true→gg D i e.on=true:=by
   intro l o' ho' hl e he hb
   simp only[gg,zPK,decide_eq_true_eq]at hl ⊢
   rcases hl with hl|rfl
   ·exact .inl (iU l o' ho' hl e he hb)
   ·exact .inl (hpr o' ho' e he hb)
  have order:∀ k,k<n→k≠i→yp ops i k=true→D k=decide (k<i):=fun k hk bK h1=>by
   unfold yp at h1
   split at h1
   ·rename_i aA
    rw[decide_eq_true aA]
    exact iG iU _ i k h1 hpr
   ·rename_i aA
    rw[decide_eq_false aA]
    cases hD:D k with
    | false=>rfl
    | true =>
      have:=iG iU _ k i h1 (fun o' ho'=>iU k o' ho' hD)
      rw[hDi]at this
      cases this
  have N7:∀ d,(d∈o.looksAt ops∨o.dst=some d)→∀ k,k<n→(∃ s,lk d (uS ops recs k s)≠lk d s)→D k=decide (k<i):=fun d hd k hk hch=>by
   by_cases kv:k=i
   ·subst kv;rw[hDi];simp
   ·refine order k hk kv (NC i k rZ hk kv ?_).1
    unfold wI
    have:=hchS d k hch
    unfold jy at this
    rw[this,ho]
    simp only[zPK,zP6,beq_iff_eq]
    exact hd
  have NO:∀ d,d∈o.looksAt ops→lk d (dD (uS ops recs) D n t0)=lk d (T i):=fun d hd=>by
   rw[hTf i (Nat.le_of_lt rZ) d]
   exact Ow (uS ops recs) (lk d) (huS d) D n i t0 (Nat.le_of_lt rZ) (N7 d (.inl hd))
  have e1:∀ d,lk d (dD (uS ops recs) (gg D i) n t0)=lk d (put o.dst (recs.getD i cO).x (dD (uS ops recs) D n t0)):=fun d=>by
   have hd:jy ops i=o.dst:=by unfold jy;rw[ho];rfl
   have:=Oy (uS ops recs) (lk d) (huS d) D n i t0 rZ hDi (fun hch k hk hk' hD=>by
    have hdd:=hchS d i hch
    rw[hd]at hdd
    have:=N7 d (.inr hdd) k hk hk'
    rw[hD]at this
    exact of_decide_eq_true this.symm)
   rw[this]
   unfold uS
   rw[hd]
  -- what is done of what changes things
  have hmin:∀ k,c≤k→k<n→isS k→D k=true→fT ops k=true:=fun k hck hk hs hD=>by
   cases hf:fT ops k with
   | true=>rfl
   | false =>
     exfalso
     obtain⟨rH,Ml⟩:=nu (by omega)
     have bK:c≠k:=fun e=>by rw[← e,Ml]at hD;cases hD
     have:=iG iU _ k c (hSS k c (by omega) hk hs rH hf) (fun o' ho'=>iU k o' ho' hD)
     rw[Ml]at this
     cases this
  have hA:∀ k,AS D c k=true→fT ops k=true∧D k=true∧c≤k:=fun k hk=>by
   simp only[AS,zPH,decide_eq_true_eq]at hk
   exact hk
  have hnear:∀ k,AS D c k=true→(fT ops k=true→k<i→∀ j,j<k→isS j→ny ops ops.size i j=true)→D k=decide (k<i)→False:=fun k hk h2 h3=>by
   obtain⟨hf,hD,hck⟩:=hA k hk
   have Ho:=Gp k hf
   obtain⟨rH,Ml⟩:=nu (by omega)
   have bK:c≠k:=fun e=>by rw[← e,Ml]at hD;cases hD
   rw[hD]at h3
   have kv:=of_decide_eq_true h3.symm
   have:=iG iU _ i c (h2 hf kv c (by omega) rH) hpr
   rw[Ml]at this
   cases this
  have vX:∀ k,AS D c k=true→G.d k ∉ o.looksAt ops∧o.dst≠some (G.d k):=fun k hk=>by
   obtain⟨hf,hD,hck⟩:=hA k hk
   have Ho:=Gp k hf
   have kv:k≠i:=fun e=>by rw[e,hDi]at hD;cases hD
   have sX:¬ wI ops i k=true:=fun hs=>by
    obtain⟨h1,h2⟩:=NC i k rZ Ho kv hs
    exact hnear k hk h2 (order k Ho kv h1)
   have N5:=(l8 k hf).1
   unfold jy at N5
   unfold wI at sX
   rw[N5,ho]at sX
   simp only[zPK,zP6,beq_iff_eq,not_or]at sX
   exact sX
  have hddD:∀ k l,AS D c k=true→AS D c l=true→k≠l→G.d k≠G.d l:=fun k l hk hl bK he=>by
   obtain⟨hf,hD,hck⟩:=hA k hk
   obtain⟨hf',hD',hck'⟩:=hA l hl
   have Ho:=Gp k hf
   obtain⟨rH,Ml⟩:=nu (by omega)
   exact hdis k l hf hf' bK he D iU hD hD' c (by omega) Ml rH hck hck'
  -- an operation that is no such cell
  have NJ:fT ops i=false→((recs.getD i cO).nb.isSome=true→B c=B i)→((recs.getD i cO).nb=none→∀ x∈(recs.getD i cO).rd,seen x (B i) (B c))→∀ c',(recs.getD i cO).nb.getD (B c)=B c'→(∀ k,AS (gg D i) c' k=AS D c k) →
   wpOp V.P ops Q i (fun a' w'=>AD F G (AS (gg D i) c') (dD (uS ops recs) (gg D i) n t0) (B c') a' w') a w:=fun hnf hb nQ c' hc' II=>by
   obtain⟨β,fp,Y,tt,hf,hw,hy,hd,rY⟩:=hrel
   refine K8 i rZ (F.at hw) rfl Q _ a w tt (B c) o ho (fun d hd'=>(rY d (fun k hk e=>(vX k hk).1 (by rw[e];exact hd'))).trans (NO d hd')) hb nQ ⟨β,fp,⟨hf.ok⟩,hw.here⟩ ?_
   rintro a' w' ⟨β₂,fp₂,p6,gx⟩
   have mL:w.heap.size≤w'.heap.size:=gx.fr.size
   rw[show (⟨put o.dst (recs.getD i cO).x tt,(recs.getD i cO).nb.getD (B c)⟩:St)=⟨put o.dst (recs.getD i cO).x tt,B c'⟩ by rw[hc']]at p6 gx
   refine⟨β₂,fp₂,Y,put o.dst (recs.getD i cO).x tt,⟨p6.ok⟩,hw.join gx,fun k hk=>?_,fun k l hk hl=>hd k l (by rw[← II];exact hk) (by rw[← II];exact hl),fun e he=>?_⟩
   ·rw[II]at hk
    obtain⟨g1,g2,g3,g4,g5,g6⟩:=hy k hk
    have bK:=(vX k hk).2
    refine⟨by rw[nr,if_neg bK];exact g1,by rw[e1,nr,if_neg bK];exact g2,g3,Nat.lt_of_lt_of_le g4 mL,fun β' hβ=>(gx.fr.block _ g4 (fun⟨j,r,hj,_,hk⟩=>g6 j r hj hk)).trans (g5 β' (fun i hi=>(gx.xZ.Es i hi).trans (hβ i (Nat.lt_of_lt_of_le hi gx.xZ.len)))),fun j r hj hk=>?_⟩
    rcases gx.qP j r hj _ hk with h1|⟨j',r',hj',hk'⟩
    ·have:w.heap.size≤Y k:=h1
     omega
    ·exact g6 j' r' hj' hk'
   ·rw[e1,nr,nr]
    split
    ·rfl
    ·exact rY e (fun k hk=>he k (by rw[II];exact hk))
  have xj:∀ c' k,k≠i→AS (gg D i) c' k=AS D c' k:=fun c' k hk=>by simp[AS,gg,hk]
  by_cases IC:fT ops i=true
  ·
   have hci:c≤i:=by
    apply Nat.le_of_not_lt
    intro aA
    have:=fj i aA (hflS i IC)
    rw[hDi]at this;cases this
   obtain⟨hdi,hdn,hLi,⟨_,NF⟩,hW,o',ho',hg,zS⟩:=l8 i IC
   rw[ho]at ho'
   cases ho'
   have Cj:o.dst=some (G.d i):=by unfold jy at hdi;rw[ho]at hdi;exact hdi
   have zR:∀ a' w',AD F G (AS (gg D i) c) (dD (uS ops recs) (gg D i) n t0) (B c) a' w'→Inv (gg D i) a' w':=fun a' w' hr'=>by
    refine⟨hadv (gg D i) a' w' _ N9 (n - c) c (by omega) (fun k hk hs=>by simp[gg,fj k hk hs]) (fun k hk Ho hs hD=>?_) (fun k l hk hl bK he=>?_) hr',N9⟩
    ·by_cases kv:k=i
     ·rw[kv];exact IC
     ·exact hmin k hk Ho hs (by simpa[gg,kv] using hD)
    ·by_cases kv:k=i
     ·subst kv
      have hl':AS D c l=true:=by rw[← xj c l (fun e=>bK e.symm)];exact hl
      exact(vX l hl').2 (by rw[Cj,he])
     ·by_cases rJ:l=i
      ·subst rJ
       have hk':AS D c k=true:=by rw[← xj c k kv];exact hk
       exact(vX k hk').2 (by rw[Cj,he])
      ·exact hddD k l (by rw[← xj c k kv];exact hk) (by rw[← xj c l rJ];exact hl) bK he
   refine wpOp_mono (fun a' w' h=>zR a' w' h) ?_
   obtain⟨β,fp,Y,tt,hf,hw,hy,hd,rY⟩:=hrel
   have pJ:=ho
   unfold wpOp
   rw[ho]
   simp only
   rw[if_pos (by simp[Region.wanted,hg])]
   left
   have hex:=zS β _ tt a w hf (fun d hd'=>(rY d (fun k hk e=>(vX k hk).1 (by rw[e];exact hd'))).trans (NO d hd'))
   have dP:=hex β (cN.refl _ _)
   have hall':∀ β',cN (B c).length β β'→(G.z i).map (ak β)=(G.z i).map (ak β'):=fun β' hβ=>by
    have h1:=hex β' hβ
    rw[dP]at h1
    injection h1 with _ h1
    have h2:=congrArg (fun w':World=>w'.heap[w.heap.size]?) h1
    simp only[eI]at h2
    have h3:=(Obj.cells.inj (zP3.inj h2)).1
    exact congrArg Array.toList h3
   have Lo:Below w.heap.size w (w.alloc (.cells ((G.z i).map (ak β)).toArray (G.T i))):=(Below.refl _ _).alloc (zPL _) _
   have vS:=eI w (.cells ((G.z i).map (ak β)).toArray (G.T i))
   have mL:(w.alloc (.cells ((G.z i).map (ak β)).toArray (G.T i))).heap.size=w.heap.size+1:=size_alloc _ _
   refine wp_of_value dP ?_
   rw[Cj]
   generalize w.alloc (.cells ((G.z i).map (ak β)).toArray (G.T i))=w2 at Lo vS mL
   refine⟨β,fp,fun k=>if k=i then w.heap.size else Y k,(G.d i,LD (G.q i) w.heap.size)::tt,⟨fun β' hβ=>by rw[OE me β'];exact(hf.ok β' hβ).put hdn (LD (G.q i) w.heap.size)⟩,hw.below Lo,fun k hk=>?_,fun k l hk hl bK=>?_,fun e he=>?_⟩
   ·by_cases kv:k=i
    ·subst kv
     simp only[if_true]
     refine⟨by simp[lk],?_,hw.fr.size,by omega,fun β' hβ=>by rw[← hall' β' hβ];exact vS,fun j r hj hk=>?_⟩
     ·rw[e1,nr,if_pos Cj,NF,hLi]
     ·have:=(hw.bx β (cN.refl _ _)).lt j r hj _ hk
      omega
    ·have hk':AS D c k=true:=by rw[← xj c k kv];exact hk
     obtain⟨g1,g2,g3,g4,g5,g6⟩:=hy k hk'
     have bK:=(vX k hk').2
     simp only[if_neg kv]
     refine⟨?_,?_,g3,by omega,fun β' hβ=>(Lo.block _ g4).trans (g5 β' hβ),g6⟩
     ·simp only[lk]
      rw[if_neg (fun e=>bK (by rw[Cj,e]))]
      exact g1
     ·rw[e1,nr,if_neg bK];exact g2
   ·have D1:∀ k,AS (gg D i) c k=true→k≠i→AS D c k=true:=fun k h1 h2=>by rw[← xj c k h2];exact h1
    by_cases k1:k=i
    ·have k2:l≠i:=fun e=>bK (k1.trans e.symm)
     simp only[if_pos k1,if_neg k2]
     have:=(hy l (D1 l hl k2)).2.2.2.1
     omega
    ·by_cases k2:l=i
     ·simp only[if_neg k1,if_pos k2]
      have:=(hy k (D1 k hk k1)).2.2.2.1
      omega
     ·simp only[if_neg k1,if_neg k2]
      exact hd k l (D1 k hk k1) (D1 l hl k2) bK
   ·have bK:G.d i≠e:=he i (by simp[AS,gg,IC,hci])
    have h1:lk e ((G.d i,LD (G.q i) w.heap.size)::tt)=lk e tt:=by simp only[lk];rw[if_neg (fun q=>bK q.symm)]
    rw[h1,rY e (fun k hk=>he k (by
     obtain⟨-,hD,-⟩:=hA k hk
     rw[xj c k (fun q=>by rw[q,hDi]at hD;cases hD)];exact hk)),e1,nr,if_neg (fun q=>bK (zP3.inj (Cj.symm.trans q)))]
  ·have IC:fT ops i=false:=by simpa using IC
   by_cases hs:isS i
   ·
    have hci:c=i:=by
     apply Nat.le_antisymm
     ·apply Nat.le_of_not_lt
      intro aA
      have:=fj i aA hs
      rw[hDi]at this;cases this
     ·apply Nat.le_of_not_lt
      intro aA
      obtain⟨rH,Ml⟩:=nu (by omega)
      have:=iG iU _ i c (hSS i c aA rZ hs rH IC) hpr
      rw[Ml]at this;cases this
    subst hci
    have II:∀ k,AS (gg D c) (c+1) k=AS D c k:=fun k=>by
     by_cases hkc:k=c
     ·subst hkc;simp[AS,IC]
     ·simp only[AS,gg,hkc,decide_false,Bool.or_false]
      congr 2
      exact decide_eq_decide.2 ⟨fun h=>by omega,fun h=>by omega⟩
    refine wpOp_mono ?_ (NJ IC (fun _=>rfl) (fun zP=>by have:(recs.getD c cO).nb.isSome=true:=hs;rw[zP]at this;cases this) (c+1) (hB c rZ).symm II)
    intro a' w' hr'
    refine⟨hadv (gg D c) a' w' _ N9 (n - (c+1)) (c+1) (by omega) (fun k hk AE=>?_) (fun k hk Ho AE hD=>hmin k (by omega) Ho AE (by simpa[gg,show k≠c by omega] using hD)) (fun k l hk hl=>hddD k l (by rw[← II];exact hk) (by rw[← II];exact hl)) hr',N9⟩
    rcases Nat.lt_or_eq_of_le (Nat.lt_succ_iff.1 hk) with h1|rfl
    ·simp[gg,fj k h1 AE]
    ·simp[gg]
   ·
    have nQ:∀ x∈(recs.getD i cO).rd,seen x (B i) (B c):=fun x hx q hq=>by
     have step:∀ k,k<n→(k<i∧c≤k∨i<k∧k<c)→((B (k+1))[x.1]?).map (ob q)=((B k)[x.1]?).map (ob q):=fun k hk hb=>by
      rw[hB k hk]
      cases zP:(recs.getD k cO).nb with
      | none=>rfl
      | some nb =>
        have AE:isS k:=by show ((recs.getD k cO).nb).isSome=true;rw[zP];rfl
        have bK:k≠i:=by omega
        have sX:¬ ((recs.getD k cO).all=true∨∃ y∈(recs.getD k cO).wr,ovl x y=true):=fun Oa=>by
         obtain⟨h1,h2⟩:=oL i k rZ hk bK hs AE x hx Oa
         have h3:=order k hk bK h1
         rcases hb with⟨kv,hck⟩|⟨hik,hkc⟩
         ·have hD:D k=true:=by rw[h3];exact decide_eq_true kv
          exact hnear k (by simp only[AS,hmin k hck hk AE hD,hD,decide_eq_true hck,Bool.and_self]) h2 h3
         ·have:=fj k hkc AE
          rw[h3,decide_eq_false (by omega)]at this
          cases this
        simp only[not_or,not_exists,not_and,Bool.not_eq_true]at sX
        exact KX k hk nb zP sX.1 x.1 q (fun y hy=>KJ (sX.2 y hy) hq)
     have walk:∀ (m p:Nat),p+m≤n→(∀ k,p≤k→k<p+m→((B (k+1))[x.1]?).map (ob q)=((B k)[x.1]?).map (ob q))→((B (p+m))[x.1]?).map (ob q)=((B p)[x.1]?).map (ob q):=fun m p=>by
      induction m with
      | zero=>intro _ _;rfl
      | succ m ih =>
        intro h1 h2
        have:=h2 (p+m) (by omega) (by omega)
        rw[show p+(m+1)=p+m+1 by omega,this]
        exact ih (by omega) (fun k h3 h4=>h2 k h3 (by omega))
     rcases zP9 c i with aA|qL
     ·have:=walk (i - c) c (by omega) (fun k h3 h4=>step k (by omega) (.inl ⟨by omega,h3⟩))
      rw[show c+(i - c)=i by omega]at this
      exact this.symm
     ·have hi1:((B (i+1))[x.1]?).map (ob q)=((B i)[x.1]?).map (ob q):=by
       rw[hB i rZ,hidN i hs (B i)]
      have:=walk (c - i) i (by omega) (fun k h3 h4=>by
       rcases Nat.lt_or_eq_of_le h3 with h5|rfl
       ·exact step k (by omega) (.inr ⟨h5,by omega⟩)
       ·exact hi1)
      rw[show i+(c - i)=c by omega]at this
      exact this
    have II:∀ k,AS (gg D i) c k=AS D c k:=fun k=>by
     by_cases kv:k=i
     ·subst kv;simp[AS,IC]
     ·exact xj c k kv
    refine wpOp_mono ?_ (NJ IC (fun h=>absurd h hs) (fun _=>nQ) c (hidN i hs _) II)
    intro a' w' hr'
    refine⟨⟨c,DR,fun k hk AE=>by simp[gg,fj k hk AE],fun aA=>⟨(nu aA).1,?_⟩,hr'⟩,N9⟩
    have bK:c≠i:=fun e=>hs (e ▸ (nu aA).1)
    simp[gg,bK,(nu aA).2]
 ·rintro listed a w mL ⟨⟨c,DR,fj,nu,hrel⟩,iU⟩ hr
  have bp:∀ k,k<n→listed.getD k false=true:=fun k=>by
   induction k using Nat.strongRecOn with
   | _ k ih =>
     intro hk
     cases hl:listed.getD k false with
     | true=>rfl
     | false =>
       exfalso
       obtain⟨o,ho⟩:∃ o,ops[k]? = some o:=⟨ops[k]'hk,by simp[hk]⟩
       have hks:k<listed.size:=by rw[mL];exact hk
       have:k∈Region.ready .any ops listed:=by
        refine mem_ready.2 ⟨?_,o,ho,fun e he hb=>?_⟩
        ·simp[hks]at hl ⊢;exact hl
        ·have h1:=zPJ.1 hah k (zP8.2 hk)
         rw[ho]at h1
         have h2:=Array.all_eq_true'.1 h1 e he
         simp only[hb,Bool.not_true,Bool.false_or,decide_eq_true_eq]at h2
         exact ih e.on h2 (by omega)
       rw[hr]at this
       cases this
  have hce:c=n:=by
   apply Nat.le_antisymm DR
   apply Nat.le_of_not_lt
   intro aA
   have h1:=(nu aA).2
   have h2:=bp c aA
   simp only at h1
   rw[h2]at h1
   cases h1
  subst hce
  have JC:=hrel.none (fun k=>by
   cases hf:fT ops k with
   | false=>simp only[AS,hf,Bool.false_and]
   | true =>
     have:=Gp k hf
     show (fT ops k&&(listed.getD k false&&decide (ops.size≤k)))=false
     rw[decide_eq_false (show ¬ ops.size≤k from Nat.not_le.2 this),Bool.and_false,Bool.and_false])
  have e1:=Oz (uS ops recs) (fun k=>listed.getD k false) ops.size t0 bp
  have JC:Rel F ⟨dD (uS ops recs) (fun k=>listed.getD k false) ops.size t0,B ops.size⟩ a w:=JC
  rw[e1]at JC
  exact hQ a w (BS JC (fun d=>hTf ops.size (zPL _) d))
 ·have e3:(fun k=>(zQg ops.size false).getD k false)=fun _=>false:=funext fun k=>HV _ _
  show Inv _ a0 _
  rw[e3]
  have e:∀ {S:Type} (u:Nat→S→S) (m:Nat) (s:S),dD u (fun _=>false) m s=s:=fun u m s=>by
   induction m with
   | zero=>rfl
   | succ m ih=>simp only[dD];rw[if_neg (by simp),ih]
  obtain⟨β,fp,hf,hw⟩:=hr
  refine⟨?_,fun i o _ h=>by cases h⟩
  have h0:AD F G (AS (fun _=>false) 0) t0 (B 0) a0 w.drew:=by
   rw[l9]
   refine⟨β,fp,fun _=>0,t0,hf,hw.drew,fun k hk=>?_,fun k l hk=>?_,fun _ _=>rfl⟩ <;> simp[AS]at hk
  have:=hadv (fun _=>false) a0 w.drew t0 (fun i o _ h=>by cases h) n 0 (by omega) (fun k hk=>by omega) (fun k _ _ _ h=>by cases h) (fun k l hk=>by simp[AS]at hk) h0
  obtain⟨c,h1,h2,h3,h4⟩:=this
  exact⟨c,h1,h2,h3,by rw[e];exact h4⟩
end
open Go Go.RowKit Wf
section
variable {V:Cx} {F:Fx V}
theorem zs {ops:Array Oper}{o:Oper}{t t':List (Nat × SV)}(h:∀ d∈o.looksAt ops,lk d t'=lk d t):∀ x∈o.op.operands,ev t' x=ev t x:=fun x hx=>by
 cases x with
 | tmp d =>
   simp only[ev]
   refine h d ?_
   unfold Oper.looksAt
   simp only[List.mem_append,List.mem_filterMap]
   exact .inl ⟨.tmp d,zPV.2 hx,rfl⟩
 | const _=>rfl
 | global _=>rfl
 | func _=>rfl
theorem yb:∀ (l:List Oper)(j:Nat),kj l j=(l[j]?).bind (·.dst)
 | [],j=>by simp[kj]
 | o::r,0=>by simp[kj]
 | o::r,j+1=>by simp[kj,yb r j]
theorem Gv {ops:Array Oper}{σt:List (Nat × SV)}{β:Nat→Bt}{a:Act}(hf:lY β F.n σt a){j d:Nat}{b:Bool}(h:Yk σt (kj ops.toList j)=some (d,b)) :
 yielded ops a.tmps j=some b∧a.tmps.getD d undef=.bool b:=by
 refine gval_ok hf ?_
 unfold Yk at h
 split at h
 ·rename_i d' hd
  rw[yb]at hd
  unfold gval
  rw[List.getElem?_map]
  cases ho:ops.toList[j]? with
  | none=>rw[ho]at hd;simp at hd
  | some o =>
    rw[ho]at hd
    simp at hd
    simp only[zPR,hd]
    exact h
 ·cases h
theorem Oq {ops:List Oper}{t:List (Nat × SV)}{j:Nat}(h:gvU t (kj ops j)=true):∃ d x,kj ops j=some d∧lk d t=some (.v x)∧nob x=true:=by
 unfold gvU at h
 split at h
 ·rename_i d hd
  split at h
  ·rename_i x hx
   exact⟨d,x,hd,hx,h⟩
  ·cases h
 ·cases h
theorem Oo {ops:Array Oper}{σt:List (Nat × SV)}{β:Nat→Bt}{a:Act}(hf:lY β F.n σt a){j d:Nat}{x:Value}(hd:kj ops.toList j=some d)(hx:lk d σt=some (.v x))(hn:nob x=true):yielded ops a.tmps j=none:=by
 have hg:=hf.get _ _ hx
 simp only[ak]at hg
 rw[yb]at hd
 have hd':(ops[j]?).bind (·.dst)=some d:=by simpa using hd
 unfold yielded
 rw[hd']
 simp only[Option.bind_some]
 cases ht:a.tmps[d]? with
 | none=>rfl
 | some y =>
   have:y=x:=by rw[← hg];simp[zQi,ht]
   subst this
   cases y <;> simp[nob]at hn ⊢
theorem Lz {ops:List Oper}{t t':List (Nat × SV)}{j d:Nat}{b:Bool}(h:Yk t (kj ops j)=some (d,b))(hl:lk d t'=lk d t):Yk t' (kj ops j)=some (d,b):=by
 unfold Yk at h ⊢
 split at h
 ·rename_i d' hd
  split at h
  ·rename_i b' hb
   cases h
   rw[hl,hb]
  ·cases h
 ·cases h
theorem gval_lk {ops:List Oper}{t:List (Nat × SV)}{j d:Nat}{b:Bool}(h:Yk t (kj ops j)=some (d,b)):lk d t=some (.bool b)∧kj ops j=some d:=by
 unfold Yk at h
 split at h
 ·rename_i d' hd
  split at h
  ·rename_i b' hb
   cases h
   exact⟨hb,hd⟩
  ·cases h
 ·cases h
theorem xl {ops:Array Oper}{o:Oper}{j d:Nat}{want:Bool}(hg:o.guard=some (j,want))(hd:kj ops.toList j=some d):d∈o.looksAt ops:=by
 unfold Oper.looksAt
 rw[hg]
 simp only[List.mem_append]
 right
 rw[yb]at hd
 have:(ops[j]?).bind (·.dst)=some d:=by simpa using hd
 rw[this]
 simp
theorem FL {t:List (Nat × SV)}{d:Nat}{b:Bool}(h:lk d t=some (.bool b)):∀ e,lk e ((d,.bool b)::t)=lk e t:=fun e=>by
 simp only[lk]
 split
 ·rename_i he;subst he;exact h.symm
 ·rfl
theorem Ex {ops:Array Oper}{o:Oper}(h:o.guard=none)(a:Act):Region.wanted o (yielded ops a.tmps)=true:=by simp[Region.wanted,h]
theorem Js {ops:Array Oper}{i:Nat}{t tt:List (Nat × SV)}{b:List av}{o:Oper}{c:Prop}{r:lW}(ho:ops[i]? = some o)(dB:fits F.n o.dst=true)(hs:XV V o.op ⟨tt,b⟩=.val c r)(hc:c)(zF:∀ e,lk e tt=lk e t)
 (hw:∀ (ta:List (Nat × SV)) (ba:List av) (a:Act) (w:World),Rel F ⟨ta,ba⟩ a w→(∀ d∈o.looksAt ops,lk d ta=lk d t)→Region.wanted o (yielded ops a.tmps)=true):AB F ops i t b r:=by
 intro Q K a w t' b' o' ho' hl hb nQ hr hK
 rw[ho]at ho'
 cases ho'
 unfold wpOp
 rw[ho]
 simp only
 rw[if_pos (hw t' b' a w hr hl)]
 left
 refine Oper.wp_mono (fun a w ⟨σ,hσ,hrel⟩=>?_) (qg (F:=F) dB (MD (dst:=o.dst) (t':=t') (b':=b') (zs (ops:=ops) (t:=tt) (fun d hd=>(hl d hd).trans (zF d).symm)) hs hc hb nQ) hr o.type o.pos o.after o.guard _)
 subst hσ
 exact hK a w hrel
theorem za {ops:Array Oper}{i:Nat}{t tt:List (Nat × SV)}{b:List av}{o:Oper}{g:FuncId}{args:List SV}{r:lW}(ho:ops[i]? = some o)(dB:fits F.n o.dst=true)(hs:XV V o.op ⟨tt,b⟩=.call g args)(zF:∀ e,lk e tt=lk e t)
 (JE:(∃ x,PC V g args x∧r=⟨x,none,false,[],[]⟩)∨(∃ x nb al W,SC V g args b (fun r' b'=>r'=x∧b'=nb)∧r=⟨x,some nb,al,[],W⟩))
 (hw:∀ (ta:List (Nat × SV)) (ba:List av) (a:Act) (w:World),Rel F ⟨ta,ba⟩ a w→(∀ d∈o.looksAt ops,lk d ta=lk d t)→Region.wanted o (yielded ops a.tmps)=true):AB F ops i t b r:=by
 intro Q K a w t' b' o' ho' hl hb nQ hr hK
 rw[ho]at ho'
 cases ho'
 unfold wpOp
 rw[ho]
 simp only
 rw[if_pos (hw t' b' a w hr hl)]
 left
 have hcall:=HL (dst:=o.dst) (t':=t') (b':=b') (zs (ops:=ops) (t:=tt) (fun d hd=>(hl d hd).trans (zF d).symm)) hs
 have hh:lX V (fun σ=>σ=⟨put o.dst r.x t',r.nb.getD b'⟩) (XR V o.dst o.op ⟨t',b'⟩):=by
  rw[hcall]
  rcases JE with⟨x,K3,rfl⟩|⟨x,nb,al,W,rH,rfl⟩
  ·exact .inl ⟨x,K3,rfl⟩
  ·obtain rfl:=hb rfl
   exact .inr ⟨_,rH,fun r' bs ⟨h1,h2⟩=>by subst h1 h2;rfl⟩
 refine Oper.wp_mono (fun a w ⟨σ,hσ,hrel⟩=>?_) (qg (F:=F) dB hh hr o.type o.pos o.after o.guard _)
 subst hσ
 exact hK a w hrel
theorem FG {ops:Array Oper}{i:Nat}{t:List (Nat × SV)}{b:List av}{o:Oper}(ho:ops[i]? = some o)(dB:fits F.n o.dst=true)
 (hw:∀ (ta:List (Nat × SV)) (ba:List av) (a:Act) (w:World),Rel F ⟨ta,ba⟩ a w→(∀ d∈o.looksAt ops,lk d ta=lk d t)→Region.wanted o (yielded ops a.tmps)=false):AB F ops i t b ⟨.v undef,none,false,[],[]⟩:=by
 intro Q K a w t' b' o' ho' hl hb nQ hr hK
 rw[ho]at ho'
 cases ho'
 unfold wpOp
 rw[ho]
 simp only
 rw[if_neg (by rw[hw t' b' a w hr hl];simp)]
 obtain⟨β,fp,hf,tu⟩:=hr
 exact hK _ w ⟨β,fp,hf.put dB (fun _ _=>rfl),tu⟩
theorem CI (r:lW)(h:r.nb=none)(b:List av):UnE r b:=fun nb zP=>by rw[h]at zP;cases zP
def G9 (F:Fx V)(ops:Array Oper)(r:lW)(t:List (Nat × SV))(b:List av)(i d:Nat)(z:List SV)(T:TypeId)(q:Option (Nat × Nat)):Prop :=
 jy ops i=some d∧d<F.n∧(∃ W,r=⟨flV q b.length,some (b++[flR q z T]),false,[],W⟩)∧flW q z∧∃ o,ops[i]? = some o∧o.guard=none ∧
  ∀ (β:Nat→Bt) (m:Nat) (tt:List (Nat × SV)) (a:Act) (w:World),Fm F β m tt a→(∀ d∈o.looksAt ops,lk d tt=lk d t)→∀ β',cN m β β'→(execOp a.eval o).run V.P w=Result.ok (.value (ak me (LD q w.heap.size))) (w.alloc (.cells (z.map (ak β')).toArray T))
theorem EL {T:TypeId}{σ:St}{c:Prop}{r:lW}(h:XV V (.alloc T) σ=.val c r):∃ ti,V.Γ T=some ti∧r=⟨.p σ.b.length 0,some (σ.b++[.cells ti.zero T true]),false,[],[(σ.b.length,0,0)]⟩:=by
 unfold XV at h
 simp only[pv,Yl,LA,dN,Xv,XD]at h
 split at h
 ·rename_i ti oJ
  cases h
  exact⟨ti,oJ,rfl⟩
 ·cases h
theorem vn {T:TypeId}{σ:St}{g:FuncId}{args:List SV}(h:XV V (.alloc T) σ=.call g args):False:=by
 unfold XV at h
 simp only[pv,Yl,LA,dN,Xv,XD]at h
 split at h <;> cases h
theorem LO {ts e:TypeId}{n:Nat}{ps:Array (Nat × Operand)}{t:List (Nat × SV)}{l:List (Nat × SV)}{c0:List SV}{ti:TI}(ht:kd V.Γ ts=some (.slice e))(oJ:V.Γ e=some ti)(hl:Xl t ps.toList=some l)(l8:Yi ti.size 0 l=some c0)(K2:l.length=n)(sd:n * ti.size≤16777216)(oe:0<ti.size)
 {β:Nat→Bt} {m:Nat} {a:Act} (hf:Fm F β m t a) (w:World) (β':Nat→Bt) (hβ:cN m β β'):(Instr.buildSlice ts n (ps.map fun p=>(p.1,a.eval p.2))).run V.P w=Result.ok (.slice (some ⟨w.heap.size,0,none⟩) n n) (w.alloc (.cells (c0.map (ak β')).toArray e)):=by
 obtain⟨d1,r6,cP⟩:=dp V.ki ht
 simp only[dr]at cP
 subst cP
 obtain⟨i,z,hi,hz,vT,NT,Hl⟩:=(V.ki e ti oJ).info
 have e2:=oS (β':=β') hf hβ hl
 have iU:=rz l8
 rw[K2]at iU
 have uB:=Aa β' ti.size l 0 c0 l8 ((Array.range (n * i.size)).map (z.cells[· % z.cells.size]!)) (by rw[Nat.zero_add,K2];simp[vT])
 by_cases hn:n=0
 ·subst hn
  have NQ:l=[]:=zPT K2
  subst NQ
  have jT:c0=[]:=zPT (by rw[iU];simp)
  subst jT
  have e3:(ps.toList.map fun p=>(p.1,a.eval p.2))=[]:=e2
  have e4:Array.range 0=#[]:=rfl
  simp[Instr.buildSlice,run_underlying r6,Go.sizeOf,typeInfo,hi,e3,Instr.fill,newRow,e4]
 ·refine run_buildSlice (P:=V.P) w ts e n (ps.map fun p=>(p.1,a.eval p.2)) (c0.map (ak β')).toArray i z r6 hi hz (by rw[vT];omega) (by rw[vT];exact Nat.ne_of_gt (Nat.mul_pos (by omega) oe)) ?_
  have e3:=uB
  rw[← vT]at e3
  rw[Array.toList_map,e2,e3]
  congr 1
  apply zQb
  rw[Nat.zero_add,K2]
  simp
theorem EK {ts:TypeId}{n:Nat}{ps:Array (Nat × Operand)}{σ:St}{c:Prop}{r:lW}(h:XV V (.buildSlice ts n ps) σ=.val c r)(hc:c):∃ e ti l c0,kd V.Γ ts=some (.slice e)∧V.Γ e=some ti∧Xl σ.t ps.toList=some l∧Yi ti.size 0 l=some c0∧l.length=n∧n * ti.size≤16777216∧0<ti.size∧∃ W,r=⟨.o σ.b.length n,some (σ.b++[.own c0 e ti.size n true]),false,[],W⟩:=by
 unfold XV at h
 simp only[pv,LA,Yl,Xv]at h
 cases hx:Xa V (some 0) ts n ps.toList σ with
 | none=>rw[hx]at h;simp only[dN]at h;cases h
 | some y =>
   rw[hx]at h
   obtain⟨c',σ'⟩:=y
   unfold Xa at hx
   (repeat' split at hx) <;> try (cases hx;done)
   rename_i _ e ht _ ti oJ _ l hl _ c0 l8
   cases hx
   simp only[dN,put,Xz,Bool.false_eq_true,if_false]at h
   cases h
   exact⟨e,ti,l,c0,ht,oJ,hl,l8,hc.1,hc.2.1,hc.2.2,_,rfl⟩
theorem vk {ts:TypeId}{n:Nat}{ps:Array (Nat × Operand)}{σ:St}{g:FuncId}{args:List SV}(h:XV V (.buildSlice ts n ps) σ=.call g args):False:=by
 unfold XV at h
 simp only[pv,LA,Yl,Xv]at h
 cases hx:Xa V (some 0) ts n ps.toList σ with
 | none=>rw[hx]at h;simp only[dN]at h;cases h
 | some y =>
   rw[hx]at h
   obtain⟨c',σ'⟩:=y
   simp only[dN]at h
   split at h
   ·split at h <;> cases h
   ·cases h
structure G7 (F:Fx V) (ops:Array Oper) (t0:List (Nat × SV)) (b0:List av) (recs:List lW) (T:Nat→List (Nat × SV)) (B:Nat→List av) (σ:St):Prop where
 t0:∀ d,lk d (T 0)=lk d t0
 b0:B 0=b0
 t:∀ i,i<recs.length→∀ d,lk d (T (i+1))=lk d (put (jy ops i) (recs.getD i cO).x (T i))
 b:∀ i,i<recs.length→B (i+1)=(recs.getD i cO).nb.getD (B i)
 op:∀ i,i<recs.length→∀ F':Fx V,F'.n=F.n→AB F' ops i (T i) (B i) (recs.getD i cO)
 un:∀ i,i<recs.length→UnE (recs.getD i cO) (B i)
 te:T recs.length=σ.t
 be:B recs.length=σ.b
 fl:∀ i,i<recs.length→fT ops i=true→∃ d z Ta q,G9 F ops (recs.getD i cO) (T i) (B i) i d z Ta q
theorem G7.step {ops:Array Oper}{t0:List (Nat × SV)}{b0:List av}{recs:List lW}{T:Nat→List (Nat × SV)}{B:Nat→List av}{σ:St}(h:G7 F ops t0 b0 recs T B σ){o:Oper}(ho:ops[recs.length]? = some o)(r:lW)(tt:List (Nat × SV))
 (zF:∀ d,lk d tt=lk d (put o.dst r.x σ.t)) (K8:∀ F':Fx V,F'.n=F.n→AB F' ops recs.length σ.t σ.b r) (KX:UnE r σ.b) (l8:fT ops recs.length=true→∃ d z Ta q,G9 F ops r σ.t σ.b recs.length d z Ta q) :
 G7 F ops t0 b0 (recs++[r]) (fun i=>if i=recs.length+1 then tt else T i) (fun i=>if i=recs.length+1 then r.nb.getD σ.b else B i) ⟨tt,r.nb.getD σ.b⟩:=by
 have lI:(recs++[r]).getD recs.length cO=r:=by simp[zPW]
 have Ge:∀ i,i<recs.length→(recs++[r]).getD i cO=recs.getD i cO:=fun i hi=>by simp[zPW,zPO hi]
 have hd:jy ops recs.length=o.dst:=by unfold jy;rw[ho];rfl
 refine⟨?_,?_,fun i hi=>?_,fun i hi=>?_,fun i hi=>?_,fun i hi=>?_,?_,?_,fun i hi hf=>?_⟩
 ·simp only[if_neg (show (0:Nat)≠recs.length+1 by omega)];exact h.t0
 ·simp only[if_neg (show (0:Nat)≠recs.length+1 by omega)];exact h.b0
 all_goals try (rw[zPI,zPQ]at hi)
 ·intro d
  simp only[if_neg (show i≠recs.length+1 by omega)]
  by_cases he:i=recs.length
  ·subst he
   simp only[if_true]
   rw[lI,hd,h.te]
   exact zF d
  ·rw[if_neg (by omega),Ge i (by omega)]
   exact h.t i (by omega) d
 ·simp only[if_neg (show i≠recs.length+1 by omega)]
  by_cases he:i=recs.length
  ·subst he
   simp only[if_true]
   rw[lI,h.be]
  ·rw[if_neg (by omega),Ge i (by omega)]
   exact h.b i (by omega)
 ·simp only[if_neg (show i≠recs.length+1 by omega)]
  by_cases he:i=recs.length
  ·subst he
   rw[lI,h.te,h.be]
   exact K8
  ·rw[Ge i (by omega)]
   exact h.op i (by omega)
 ·simp only[if_neg (show i≠recs.length+1 by omega)]
  by_cases he:i=recs.length
  ·subst he
   rw[lI,h.be]
   exact KX
  ·rw[Ge i (by omega)]
   exact h.un i (by omega)
 ·simp
 ·simp
 ·simp only[if_neg (show i≠recs.length+1 by omega)]
  by_cases he:i=recs.length
  ·subst he
   rw[lI,h.te,h.be]
   exact l8 hf
  ·rw[Ge i (by omega)]
   exact h.fl i (by omega) hf
def HU (r:lW):Rk:=⟨r.nb.isSome,r.all,r.rd,r.wr⟩
theorem Nk {ops:Array Oper}{t0:List (Nat × SV)}{b0:List av}{E:Fin}{k:List Item}:∀ (f:Nat)(l pre:List Oper)(recs:List lW)(T:Nat→List (Nat × SV))(B:Nat→List av)(σ:St),ops.toList=pre++l→recs.length=pre.length →
 G7 F ops t0 b0 recs T B σ→eD V F.n E f (.nY ops l (recs.map HU)::k) σ →
 ∃ f' recs' T' B' σ',f'<f∧recs'.length=ops.size∧G7 F ops t0 b0 recs' T' B' σ'∧Pe ops (recs'.map HU)∧eD V F.n E f' k σ':=by
 intro f
 induction f with
 | zero=>intro l pre recs T B σ _ _ _ h;cases l <;> simp[eD]at h
 | succ f ih =>
   intro l pre recs T B σ fk hlen hlex h
   match l with
   | [] =>
     simp only[eD]at h
     refine⟨f,recs,T,B,σ,zP1 _,?_,hlex,h.1,h.2⟩
     have:=congrArg List.length fk
     simp at this
     omega
   | o::r =>
     have ho:ops[recs.length]? = some o:=by
      have:ops.toList[recs.length]? = some o:=by rw[fk,hlen];simp
      simpa using this
     have next:∀ (rc:lW) (tt:List (Nat × SV)),(∀ d,lk d (put o.dst rc.x tt)=lk d (put o.dst rc.x σ.t))→(∀ F':Fx V,F'.n=F.n→AB F' ops recs.length σ.t σ.b rc)→UnE rc σ.b→(fT ops recs.length=true→∃ d z Ta q,G9 F ops rc σ.t σ.b recs.length d z Ta q) →
      eD V F.n E f (.nY ops r (recs.map HU++[HU rc])::k) ⟨Vc.put o.dst rc.x tt,rc.nb.getD σ.b⟩ →
      ∃ f' recs' T' B' σ',f'<f+1∧recs'.length=ops.size∧G7 F ops t0 b0 recs' T' B' σ'∧Pe ops (recs'.map HU)∧eD V F.n E f' k σ':=fun rc tt zF K8 KX hflr hv=>by
      obtain⟨f',recs',T',B',σ',h1,h2,h3,h4,h5⟩:=ih r (pre++[o]) (recs++[rc]) _ _ _ (by rw[fk];simp) (by simp[hlen]) (hlex.step ho rc (Vc.put o.dst rc.x tt) zF K8 KX hflr) (by simpa using hv)
      exact⟨f',recs',T',B',σ',by omega,h2,h3,h4,h5⟩
     have Gq:fT ops recs.length=true→o.guard=none∧∃ d,o.dst=some d∧((∃ Ta,o.op=.alloc Ta)∨∃ ts n ps,o.op=.buildSlice ts n ps):=fun h=>by
      unfold fT at h
      rw[ho]at h
      split at h
      ·rename_i e;cases e;exact⟨rfl,_,rfl,.inl ⟨_,rfl⟩⟩
      ·rename_i e;cases e;exact⟨rfl,_,rfl,.inr ⟨_,_,_,rfl⟩⟩
      ·cases h
     have hdat:jy ops recs.length=o.dst:=by unfold jy;rw[ho];rfl
     obtain⟨dst,op,ty,pos,after,guard⟩:=o
     simp only at Gq hdat
     -- one operation, wanted
     have go:∀ (tt:List (Nat × SV)),(∀ e,lk e tt=lk e σ.t)→(∀ F':Fx V,F'.n=F.n→∀ (ta:List (Nat × SV)) (ba:List av) (a:Act) (w:World),Rel F' ⟨ta,ba⟩ a w→(∀ d∈(⟨dst,op,ty,pos,after,guard⟩:Oper).looksAt ops,lk d ta=lk d σ.t)→Region.wanted ⟨dst,op,ty,pos,after,guard⟩ (yielded ops a.tmps)=true) →
      fits F.n dst=true→Yg V F.n E f ops r (recs.map HU) k dst ⟨tt,σ.b⟩ (XV V op ⟨tt,σ.b⟩) →
      ∃ f' recs' T' B' σ',f'<f+1∧recs'.length=ops.size∧G7 F ops t0 b0 recs' T' B' σ'∧Pe ops (recs'.map HU)∧eD V F.n E f' k σ':=fun tt zF Gb dB En=>by
      have NH:∀ x d,lk d (put dst x tt)=lk d (put dst x σ.t):=fun x d=>kH (zF d)
      have hfit':∀ F':Fx V,F'.n=F.n→fits F'.n dst=true:=fun F' e=>by rw[e];exact dB
      have jr:∀ {c:Prop} {rc:lW},XV V op ⟨tt,σ.b⟩=.val c rc→c→fT ops recs.length=true→∃ d z Ta q,G9 F ops rc σ.t σ.b recs.length d z Ta q:=fun {c rc} hs hc hf=>by
       obtain⟨hg,d,hd,⟨Ta,K8⟩|⟨ts,n,ps,K8⟩⟩:=Gq hf
       ·subst K8
        obtain⟨ti,oJ,hrc⟩:=EL hs
        refine⟨d,ti.zero,Ta,none,hdat.trans hd,?_,⟨_,hrc⟩,trivial,_,ho,hg,fun β m tt' a w hfm rY β' hβ=>?_⟩
        ·rw[hd]at dB
         simpa[fits] using dB
        ·rw[(V.ki Ta ti oJ).flat β']
         exact dc (BP (V:=V) Ta ti oJ w)
       ·subst K8
        obtain⟨e,ti,l,c0,h1,h2,h3,h4,h5,h6,h7,W,hrc⟩:=EK hs hc
        have iU:=rz h4
        refine⟨d,c0,e,some (ti.size,n),hdat.trans hd,?_,⟨W,hrc⟩,⟨by rw[iU,h5],?_⟩,_,ho,hg,fun β m tt' a w hfm rY β' hβ=>?_⟩
        ·rw[hd]at dB
         simpa[fits] using dB
        ·unfold maxLen
         have:n * 1≤n * ti.size:=Nat.mul_le_mul_left _ h7
         omega
        ·have hev:=zs (ops:=ops) (o:=⟨dst,.buildSlice ts n ps,ty,pos,after,guard⟩) (t:=tt) (t':=tt') (fun d hd=>(rY d hd).trans (zF d).symm)
         have h3':Xl tt' ps.toList=some l:=by
          rw[jU (t:=tt') (t':=tt) ps.toList (fun x hx=>hev x (by simp only[Op.operands];rw[List.mem_toArray];exact hx))]
          exact h3
         exact dc (LO (F:=F) h1 h2 h3' h4 h5 h6 h7 hfm w β' hβ)
      have hnc:∀ {g:FuncId} {args:List SV} {rc:lW},XV V op ⟨tt,σ.b⟩=.call g args→fT ops recs.length=true→∃ d z Ta q,G9 F ops rc σ.t σ.b recs.length d z Ta q:=fun {g args rc} hs hf=>by
       obtain⟨-,d,-,⟨Ta,K8⟩|⟨ts,n,ps,K8⟩⟩:=Gq hf
       ·rw[K8]at hs
        exact(vn hs).elim
       ·rw[K8]at hs
        exact(vk hs).elim
      cases Bj:XV V op ⟨tt,σ.b⟩ with
      | val c rc =>
        rw[Bj]at En
        obtain⟨x,nb,al,rd,wr⟩:=rc
        cases nb with
        | none =>
          simp only[Yg]at En
          exact next ⟨x,none,al,rd,wr⟩ tt (NH x) (fun F' e=>Js ho (hfit' F' e) Bj En.1 zF (Gb F' e)) (EJ Bj En.1) (jr Bj En.1) En.2
        | some nb =>
          simp only[Yg]at En
          exact next ⟨x,some nb,al,rd,wr⟩ tt (NH x) (fun F' e=>Js ho (hfit' F' e) Bj En.1 zF (Gb F' e)) (EJ Bj En.1) (jr Bj En.1) En.2
      | call g args =>
        rw[Bj]at En
        simp only[Yg,CC]at En
        rcases En with⟨x,K3,hv⟩|⟨x,nb,rH,hv⟩|⟨x,nb,W,rH,hout,hv⟩
        ·exact next ⟨x,none,false,[],[]⟩ tt (NH x) (fun F' e=>za ho (hfit' F' e) Bj zF (.inl ⟨x,K3,rfl⟩) (Gb F' e)) (CI _ rfl _) (hnc Bj) hv
        ·exact next ⟨x,some nb,true,[],[]⟩ tt (NH x) (fun F' e=>za ho (hfit' F' e) Bj zF (.inr ⟨x,nb,true,[],rH,rfl⟩) (Gb F' e)) (fun _ _ h=>by cases h) (hnc Bj) hv
        ·exact next ⟨x,some nb,false,[],W⟩ tt (NH x) (fun F' e=>za ho (hfit' F' e) Bj zF (.inr ⟨x,nb,false,W,rH,rfl⟩) (Gb F' e)) (fun _ h _ j q hq=>by cases h;exact hout j q hq) (hnc Bj) hv
      | bad=>rw[Bj]at En;simp[Yg]at En
     cases guard with
     | none =>
       simp only[eD]at h
       exact go σ.t (fun _=>rfl) (fun F' _ ta _ a _ _ _=>Ex rfl a) h.1 h.2
     | some q =>
       obtain⟨j,want⟩:=q
       simp only[eD]at h
       obtain⟨dB,h⟩:=h
       have hfit':∀ F':Fx V,F'.n=F.n→fits F'.n dst=true:=fun F' e=>by rw[e];exact dB
       have hng:∀ {rc:lW},fT ops recs.length=true→∃ d z Ta q,G9 F ops rc σ.t σ.b recs.length d z Ta q:=fun hf=>by
        have:=(Gq hf).1
        cases this
       cases hg:Yk σ.t (kj ops.toList j) with
       | none =>
         cases hu:gvU σ.t (kj ops.toList j) with
         | false=>rw[hg,hu]at h;simp[Xy]at h
         | true =>
           rw[hg,hu]at h
           simp only[Xy,XG]at h
           obtain⟨d,x,hgd,rY,sX⟩:=Oq hu
           refine next ⟨.v undef,none,false,[],[]⟩ σ.t (fun _=>rfl) (fun F' e=>FG ho (hfit' F' e) (fun ta ba a w hr hl=>by
            obtain⟨β,fp,hf,-⟩:=hr
            have hy:=Oo (hf.ok β (cN.refl _ _)) hgd (by rw[hl d (xl rfl hgd)];exact rY) sX
            simp[Region.wanted,hy])) (CI _ rfl _) hng h
       | some q =>
         obtain⟨d,b⟩:=q
         rw[hg]at h
         simp only[Xy,XG]at h
         obtain⟨hd,h1,h2⟩:=h
         obtain⟨rY,hgd⟩:=gval_lk hg
         have Nx:∀ F':Fx V,F'.n=F.n→∀ (ta:List (Nat × SV)) (ba:List av) (a:Act) (w:World),Rel F' ⟨ta,ba⟩ a w→(∀ e∈(⟨dst,op,ty,pos,after,some (j,want)⟩:Oper).looksAt ops,lk e ta=lk e σ.t)→yielded ops a.tmps j=some b:=fun F' _ ta ba a w hr hl=>by
          obtain⟨β,fp,hf,-⟩:=hr
          exact(Gv (hf.ok β (cN.refl _ _)) (Lz hg (hl d (xl rfl hgd)))).1
         by_cases hb:b=want
         ·subst hb
          exact go ((d,.bool b)::σ.t) (FL rY) (fun F' e ta ba a w hr hl=>by simp[Region.wanted,Nx F' e ta ba a w hr hl]) dB (h1 rfl)
         ·have hb':b=!want:=by cases b <;> cases want <;> simp at hb ⊢
          have hv:=h2 hb'
          rw[← hb']at hv
          exact next ⟨.v undef,none,false,[],[]⟩ ((d,.bool b)::σ.t) (fun e=>kH (FL rY e)) (fun F' e=>FG ho (hfit' F' e) (fun ta ba a w hr hl=>by simp[Region.wanted,Nx F' e ta ba a w hr hl,hb])) (CI _ rfl _) hng hv
end
open Go Go.RowKit Wf
section
variable {V:Cx} {F:Fx V}
theorem wp_then {P:Program}{o:Oper}{a:Act}{w:World}{N K:Act→World→Prop}{Q:Exit→Act→World→Prop}(hk:∀ a w,N a w→K a w)(h:o.wp P a w (fun a w=>Exit.then N Q .normal a w) (Exit.then N Q)):o.wp P a w K Q:=by
 refine Oper.wp_mono hk ?_
 unfold Oper.wp at *
 generalize (execOp a.eval o).run P w=r at *
 cases r with
 | ok n w' =>
   cases n <;> simp only[Oper.upon]at h ⊢ <;> exact h
 | halt x w'=>cases x <;> simp only[Oper.upon]at h ⊢ <;> exact h
theorem KQ {N:Act→World→Prop}{Q:Exit→Act→World→Prop}(h:LetsOut (Exit.then N Q)):LetsOut Q:=h
def aoV (P:Program)(ops:Array Oper)(L:List Nat)(t:OT)(Q:Exit→Act→World→Prop)(a:Act)(w:World):Prop :=
 (OT.Ba ops L t=true→wpAny P .any ops Q (ops.size - L.length) (wu ops.size L) a w) ∧
 (OT.Ba.LY ops L t=true→L.length<ops.size→∀ i∈t.zU,wpOp P ops Q i (wpAny P .any ops Q (ops.size - (L.length+1)) (wu ops.size (i::L))) a w)
def tx (F:Fx V)(Qf:Exit→Act→World→Prop):List Item→Exit→Act→World→Prop
 | []=>Qf
 | .code c::k=>Exit.then (c.wp V.P (tx F Qf k)) (tx F Qf k)
 | .ops ops l::k=>Exit.then (wpList V.P ops (tx F Qf k) l) (tx F Qf k)
 | .nY _ _ _::k=>Exit.then (fun _ _=>True) (tx F Qf k)
 | .j5 ops L t::k=>Exit.then (fun a w=>OT.Ba ops L t=true∨OT.Ba.LY ops L t=true→aoV V.P ops L t (tx F Qf k) a w) (tx F Qf k)
 | .cut J::k=>Exit.then (fun a w=>∃ σ,J σ∧Rel F σ a w) (tx F Qf k)
 | .D3 id::k=>Exit.inBlock id (tx F Qf k)
 | .D2 I μ m::k=>Exit.then (fun a w=>∃ σ,I σ∧μ σ<m∧Rel F σ a w) (tx F Qf k)
theorem j7 {Qf:Exit→Act→World→Prop}{id:Nat}{a:Act}{w:World}:∀ {k k':List Item},XE id k=some k'→tx F Qf k' .normal a w→tx F Qf k (.exit id) a w
 | [],k',h,_=>by simp[XE]at h
 | .code c::k,k',h,hq=>by simp only[XE]at h;exact j7 (k:=k) h hq
 | .ops ops l::k,k',h,hq=>by simp only[XE]at h;exact j7 (k:=k) h hq
 | .D2 _ _ _::k,k',h,hq=>by simp only[XE]at h;exact j7 (k:=k) h hq
 | .nY _ _ _::k,k',h,hq=>by simp only[XE]at h;exact j7 (k:=k) h hq
 | .j5 _ _ _::k,k',h,hq=>by simp only[XE]at h;exact j7 (k:=k) h hq
 | .cut _::k,k',h,hq=>by simp only[XE]at h;exact j7 (k:=k) h hq
 | .D3 id'::k,k',h,hq=>by
   simp only[XE]at h
   show Exit.inBlock id' (tx F Qf k) (.exit id) a w
   split at h
   ·rename_i e
    cases h
    simp only[Exit.inBlock,if_pos e.symm]
    exact hq
   ·rename_i e
    simp only[Exit.inBlock,if_neg (fun q=>e (Eq.symm q))]
    exact j7 (k:=k) h hq
theorem mT {Qf:Exit→Act→World→Prop}{a:Act}{w:World}(hq:Qf .ret a w):∀ (k:List Item),tx F Qf k .ret a w
 | []=>hq
 | .code c::k=>mT hq k
 | .ops ops l::k=>mT hq k
 | .D2 _ _ _::k=>mT hq k
 | .nY _ _ _::k=>mT hq k
 | .j5 _ _ _::k=>mT hq k
 | .cut _::k=>mT hq k
 | .D3 id'::k=>mT hq k
theorem iR {Qf:Exit→Act→World→Prop}{c:List PanicEntry}{a:Act}{w:World}:∀ (k:List Item),tx F Qf k (.panic c) a w→Qf (.panic c) a w
 | [],h=>h
 | .code _::k,h=>iR k h
 | .ops _ _::k,h=>iR k h
 | .nY _ _ _::k,h=>iR k h
 | .j5 _ _ _::k,h=>iR k h
 | .cut _::k,h=>iR k h
 | .D3 _::k,h=>iR k h
 | .D2 _ _ _::k,h=>iR k h
theorem Bk {E:Fin}{n f:Nat}{ops:Array Oper}{r:List Oper}{k:List Item}{s:j6}(h:Yc V n E f ops r k s):lX V (fun σ=>eD V n E f (.ops ops r::k) σ) s:=by
 cases s <;> simp only[Yc]at h
 ·exact h
 ·unfold CB at h;exact h
theorem J7 {E:Fin}{Qf:Exit→Act→World→Prop}(hn:∀ σ a w,IW V E σ (XT V σ E.rs)→Rel F σ a w→Qf .normal a w)(hret:∀ σ a w,IW V E σ (XT V σ E.rs)→Rel F σ a w→Qf .ret a w)(hpan:∀ c a w,¬ Qf (.panic c) a w) :
 ∀ (f:Nat) (items:List Item) (σ:St),eD V F.n E f items σ→∀ a w,Rel F σ a w→tx F Qf items .normal a w:=by
 intro f
 induction f using Nat.strongRecOn with
 | _ f0 ihs =>
 cases f0 with
 | zero=>intro items σ h;cases items <;> simp[eD]at h
 | succ f =>
   have ih:∀ (items:List Item) (σ:St),eD V F.n E f items σ→∀ a w,Rel F σ a w→tx F Qf items .normal a w:=ihs f (zP1 _)
   have step:∀ (ops:Array Oper) (o:Oper) (r:List Oper) (k:List Item) (σ:St) (a:Act) (w:World),fits F.n o.dst=true→Yc V F.n E f ops r k (XR V o.dst o.op σ)→Rel F σ a w →
    o.wp V.P a w (wpList V.P ops (tx F Qf k) r) (tx F Qf k):=fun ops o r k σ a w dB h hr=>by
    refine Oper.wp_mono (fun a w ⟨σ',h1,h2⟩=>?_) (qg (F:=F) dB (Bk h) hr o.type o.pos o.after o.guard _)
    exact ih (.ops ops r::k) σ' h1 a w h2
   intro items σ h a w hr
   match items with
   | []=>simp only[eD]at h;exact hn σ a w h hr
   | .D3 id::k=>simp only[eD]at h;exact ih k σ h a w hr
   | .D2 I μ m::k=>simp only[eD]at h;exact⟨σ,h.1,h.2,hr⟩
   | .nY ops l rs::k=>exact trivial
   | .cut J::k=>simp only[eD]at h;exact⟨σ,h,hr⟩
   | .j5 ops L .leaf::k =>
     simp only[eD]at h
     refine fun _=>⟨fun da=>?_,fun da=>by simp[OT.Ba.LY]at da⟩
     simp only[OT.Ba,List.isEmpty_iff]at da
     have hq:tx F Qf k .normal a w:=ih k σ h a w hr
     cases hf:ops.size - L.length with
     | zero=>exact⟨da,hq⟩
     | succ m=>exact⟨fun _=>hq,fun i hi=>by rw[da]at hi;cases hi⟩
   | .j5 ops L (.one i t)::k =>
     simp only[eD]at h
     have lH:OT.Ba ops (i::L) t=true→i<ops.size→wpOp V.P ops (tx F Qf k) i (wpAny V.P .any ops (tx F Qf k) (ops.size - (L.length+1)) (wu ops.size (i::L))) a w:=fun da hi=>by
      have h1:wpList V.P ops (tx F Qf (.j5 ops (i::L) t::k)) (rF ops.toList i) a w:=ih _ σ h a w hr
      have ho:ops[i]? = some ops[i]:=zPY hi
      have hn:rF ops.toList i=[ops[i]]:=by rw[xW];simp[ho]
      rw[hn]at h1
      have hk:∀ a w,tx F Qf (.j5 ops (i::L) t::k) .normal a w→wpAny V.P .any ops (tx F Qf k) (ops.size - (L.length+1)) (wu ops.size (i::L)) a w:=fun a w hq=>(hq (.inl da)).1 da
      unfold wpOp
      rw[ho]
      simp only[wpList]at h1 ⊢
      split
      ·rename_i hw
       rw[if_pos hw]at h1
       rcases h1 with h1|⟨h1,h2⟩
       ·refine .inl ?_
        exact wp_then hk h1
       ·exact .inr ⟨h1,KQ h2⟩
      ·rename_i hw
       rw[if_neg hw]at h1
       exact hk _ _ h1
     refine fun _=>⟨fun da=>?_,fun da hL j hj=>?_⟩
     ·simp only[OT.Ba,zPH,decide_eq_true_eq,beq_iff_eq]at da
      obtain⟨⟨hL,K1⟩,da⟩:=da
      obtain⟨m,hm⟩:∃ m,ops.size - L.length=m+1:=⟨ops.size - L.length - 1,by omega⟩
      have hm':ops.size - (L.length+1)=m:=by omega
      rw[hm' ]at lH
      rw[hm]
      refine⟨fun h0=>by rw[h0]at K1;simp at K1,fun j hj=>?_⟩
      have hi:i<ops.size:=by
       have h1:i∈Region.ready .any ops (wu ops.size L):=by rw[K1];exact List.mem_singleton.2 rfl
       obtain⟨o,ho,_⟩:=(mem_ready.1 h1).2
       exact(zPM.1 ho).1
      rw[K1,List.mem_singleton]at hj
      subst hj
      exact lH da hi
     ·simp only[OT.zU,List.mem_singleton]at hj
      subst hj
      simp only[OT.Ba.LY]at da
      by_cases hi:j<ops.size
      ·exact lH da hi
      ·unfold wpOp
       rw[Array.getElem?_eq_none (by omega)]
       have h1:wpList V.P ops (tx F Qf (.j5 ops (j::L) t::k)) (rF ops.toList j) a w:=ih _ σ h a w hr
       rw[xW,show ops.toList[j]? = none from by simp;omega]at h1
       exact(h1 (.inl da)).1 da
   | .j5 ops L (.alt x y)::k =>
     simp only[eD]at h
     have hx:OT.Ba.LY ops L x=true→_:=fun da=>(ih (.j5 ops L x::k) σ h.1 a w hr (.inr da)).2 da
     have hy:OT.Ba.LY ops L y=true→_:=fun da=>(ih (.j5 ops L y::k) σ h.2 a w hr (.inr da)).2 da
     refine fun _=>⟨fun da=>?_,fun da hL j hj=>?_⟩
     ·simp only[OT.Ba,zPH,decide_eq_true_eq,Bool.not_eq_true',zPJ]at da
      obtain⟨⟨⟨⟨hL,bK⟩,bp⟩,h1⟩,h2⟩:=da
      obtain⟨m,hm⟩:∃ m,ops.size - L.length=m+1:=⟨ops.size - L.length - 1,by omega⟩
      have hm':ops.size - (L.length+1)=m:=by omega
      rw[hm']at hx hy
      rw[hm]
      refine⟨fun h0=>by rw[h0]at bK;simp at bK,fun j hj=>?_⟩
      have oL:=zP6.1 (bp j hj)
      have eg:(wu ops.size L).setIfInBounds j true=wu ops.size (j::L):=rfl
      rw[eg]
      simp only[OT.zU,List.mem_append]at oL
      rcases oL with hm|hm
      ·exact hx h1 hL j hm
      ·exact hy h2 hL j hm
     ·simp only[OT.Ba.LY,zPH]at da
      simp only[OT.zU,List.mem_append]at hj
      rcases hj with hj|hj
      ·exact hx da.1 hL j hj
      ·exact hy da.2 hL j hj
   | .j5 ops L (.cH i t)::k =>
     simp only[eD]at h
     refine fun _=>⟨fun da=>?_,fun da=>by simp[OT.Ba.LY]at da⟩
     simp only[OT.Ba,zPH,decide_eq_true_eq]at da
     obtain⟨⟨⟨⟨hL,hns⟩,kK⟩,K1⟩,da⟩:=da
     obtain⟨m,hm⟩:∃ m,ops.size - L.length=m+1:=⟨ops.size - L.length - 1,by omega⟩
     have hi:i<ops.size:=by
      obtain⟨o,ho,_⟩:=(mem_ready.1 (zP6.1 K1)).2
      exact(zPM.1 ho).1
     have ho:ops[i]? = some ops[i]:=zPY hi
     have hn:rF ops.toList i=[ops[i]]:=by rw[xW];simp[ho]
     rw[hn]at h
     generalize hoi:ops[i]=oi at h ho
     obtain⟨dst,op,ty,pos,after,guard⟩:=oi
     cases guard with
     | some g=>simp[Jk]at h
     | none =>
     simp only[Jk]at h
     obtain⟨dB,h⟩:=h
     cases hp:pv V.Γ σ.t op with
     | none=>rw[hp]at h;simp[Jj]at h
     | some p =>
     obtain⟨c,x⟩:=p
     rw[hp]at h
     simp only[Jj]at h
     obtain⟨hc,h⟩:=h
     obtain⟨β,fp,hf,hw⟩:=hr
     have hy:Yields V.P ops ⟨dst,op,ty,pos,after,none⟩ (ak β x) a:=.inl ⟨by simp[Region.wanted],fun w=>BU (o:=⟨dst,op,ty,pos,after,none⟩) V.ki (hf.ok β (cN.refl _ _)) hp hc w⟩
     rw[hm]
     refine wpAny_take ho hns kK K1 (fun c a w hq=>absurd (iR k hq) (hpan c _ w)) hy ?_
     have hrel:Rel F ⟨put dst x σ.t,σ.b⟩ (a.put dst (ak β x)) w:=⟨β,fp,hf.put dB (fun β' hβ=>?_),hw⟩
     ·have h1:=(ih (.j5 ops (i::L) t::k) _ h _ w hrel (.inl da)).1 da
      have hm':ops.size - (L.length+1)=m:=by omega
      rw[zQa,hm']at h1
      exact h1
     ·have h1:=BU (o:=⟨dst,op,ty,pos,after,none⟩) V.ki (hf.ok β (cN.refl _ _)) hp hc w
      have h2:=BU (o:=⟨dst,op,ty,pos,after,none⟩) V.ki (hf.ok β' hβ) hp hc w
      rw[h1]at h2
      injection h2 with h2
      injection h2
   | .ops ops []::k=>simp only[eD]at h;exact ih k σ h a w hr
   | .ops ops (⟨dst,op,ty,pos,after,none⟩::r)::k =>
     simp only[eD]at h
     show wpList V.P ops (tx F Qf k) (⟨dst,op,ty,pos,after,none⟩::r) a w
     unfold wpList
     rw[if_pos (by simp[Region.wanted])]
     exact .inl (step ops ⟨dst,op,ty,pos,after,none⟩ r k σ a w h.1 h.2 hr)
   | .ops ops (⟨dst,op,ty,pos,after,some (j,want)⟩::r)::k =>
     simp only[eD]at h
     obtain⟨dB,h⟩:=h
     show wpList V.P ops (tx F Qf k) (⟨dst,op,ty,pos,after,some (j,want)⟩::r) a w
     cases hg:Yk σ.t (kj ops.toList j) with
     | none =>
       cases hu:gvU σ.t (kj ops.toList j) with
       | false=>rw[hg,hu]at h;simp[XA]at h
       | true =>
         rw[hg,hu]at h
         simp only[XA,XG]at h
         obtain⟨d,x,hgd,rY,sX⟩:=Oq hu
         obtain⟨β,fp,hf,hw⟩:=hr
         have hy:=Oo (hf.ok β (cN.refl _ _)) hgd rY sX
         unfold wpList
         rw[if_neg (by simp[Region.wanted,hy])]
         exact ih (.ops ops r::k) _ h _ w ⟨β,fp,hf.put dB (fun _ _=>rfl),hw⟩
     | some p =>
       obtain⟨d,b⟩:=p
       rw[hg]at h
       simp only[XA,XG]at h
       obtain⟨hd,h1,h2⟩:=h
       obtain⟨β,fp,hf,hw⟩:=hr
       obtain⟨hy,hv⟩:=Gv (hf.ok β (cN.refl _ _)) hg
       unfold wpList
       by_cases hb:b=want
       ·subst hb
        rw[if_pos (by simp[Region.wanted,hy])]
        exact .inl (step ops ⟨dst,op,ty,pos,after,some (j,b)⟩ r k _ a w dB (h1 rfl) ⟨β,fp,hf.relit (fun _ _=>hv),hw⟩)
       ·have hb':b=!want:=by cases b <;> cases want <;> simp at hb ⊢
        rw[if_neg (by simp[Region.wanted,hy,hb])]
        exact ih (.ops ops r::k) _ (h2 hb') _ w ⟨β,fp,(hf.relit (x:=.bool (!want)) (fun _ _=>by rw[← hb'];exact hv)).put dB (fun _ _=>rfl),hw⟩
   | .code c::k =>
     show c.wp V.P (tx F Qf k) a w
     cases c with
     | skip=>simp only[eD]at h;exact wp_skip (ih k σ h a w hr)
     | region id ops draw =>
       cases draw
       ·simp only[eD]at h
        exact wp_region_list (ih (.ops ops ops.toList::k) σ h a w hr)
       ·simp only[eD]at h
        cases hw:E.how id with
        | all t =>
          rw[hw]at h
          simp only[HX]at h
          obtain⟨da,J,h1,h2⟩:=h
          refine wp_mono (Q:=tx F Qf (.cut J::k)) (wp_region_any V.mixed ?_) (fun e a' w' hq=>?_)
          ·have h3:=(ih (.j5 ops [] t::.cut J::k) σ h1 a { w with drawn:=w.drawn+1 } (MZ hr) (.inl da)).1 da
           exact h3
          ·cases e with
           | normal =>
             obtain⟨σ',hj,hr'⟩:=hq
             exact ih k σ' (h2 σ' hj) a' w' hr'
           | _=>exact hq
        | ord p =>
        rw[hw]at h
        simp only[HX]at h
        obtain⟨hpm,h⟩:=h
        refine wp_region_any V.mixed (Hx p hpm ?_)
        generalize tU ops p=ops at h ⊢
        cases f with
        | zero=>simp[eD]at h
        | succ f1 =>
        have hlex:G7 F ops σ.t σ.b [] (fun _=>σ.t) (fun _=>σ.b) σ:=⟨fun _=>rfl,rfl,fun i hi=>by simp at hi,fun i hi=>by simp at hi,fun i hi=>by simp at hi,fun i hi=>by simp at hi,rfl,rfl,fun i hi=>by simp at hi⟩
        obtain⟨f',recs,T,B,σ',aA,hlen,hl,da,hv⟩:=Nk (f1+1) ops.toList [] [] _ _ σ (by simp) rfl hlex h
        classical
        have hch:∃ G:FlD,∀ k,fT ops k=true→G9 F ops (recs.getD k cO) (T k) (B k) k (G.d k) (G.z k) (G.T k) (G.q k)∧G.L k=(B k).length:=by
         have h1:∀ k,∃ p:Nat × List SV × TypeId × Option (Nat × Nat),fT ops k=true→G9 F ops (recs.getD k cO) (T k) (B k) k p.1 p.2.1 p.2.2.1 p.2.2.2:=fun k=>by
          by_cases hk:fT ops k=true
          ·have aA:k<recs.length:=by
            unfold fT at hk
            split at hk
            ·rename_i e
             rw[hlen]
             exact(zPM.1 e).1
            ·rename_i e
             rw[hlen]
             exact(zPM.1 e).1
            ·cases hk
           obtain⟨d,z,Ta,q,h⟩:=hl.fl k aA hk
           exact⟨(d,z,Ta,q),fun _=>h⟩
          ·exact⟨(0,[],0,none),fun h=>absurd h hk⟩
         exact⟨⟨fun k=>(Classical.choose (h1 k)).1,fun k=>(Classical.choose (h1 k)).2.1,fun k=>(Classical.choose (h1 k)).2.2.1,fun k=>(B k).length,fun k=>(Classical.choose (h1 k)).2.2.2⟩,fun k hk=>⟨Classical.choose_spec (h1 k) hk,rfl⟩⟩
        obtain⟨G,hG⟩:=hch
        refine OU (recs:=recs) G T B hl.t0 hl.b0 (fun i hi=>hl.t i (by omega)) (fun i hi=>hl.b i (by omega)) (fun i hi=>hl.op i (by omega)) (fun i hi=>hl.un i (by omega)) (fun k hk=>by obtain⟨⟨g1,g2,g3,g4⟩,g5⟩:=hG k hk;exact⟨g1,g2,g5,g3,g4⟩) hlen da hr (fun a' w' hrel=>?_)
        rw[← hlen,hl.te,hl.be]at hrel
        exact ihs f' (by omega) k σ' hv a' w' hrel
     | seq x y=>simp only[eD]at h;exact wp_seq (ih (.code x::.code y::k) σ h a w hr)
     | cond c x y =>
       simp only[eD]at h
       cases hb:ev σ.t c with
       | none=>rw[hb]at h;simp[XN]at h
       | some v =>
         rw[hb]at h
         cases v <;> simp only[XN,XQ]at h
         rename_i b
         obtain⟨β,fp,hf,hw⟩:=hr
         exact wp_cond_split (t:=b) ((hf.ev hb (cN.refl _ β)).trans rfl) (fun e=>ih (.code x::k) σ (h.1 e) a w ⟨β,fp,hf,hw⟩) (fun e=>ih (.code y::k) σ (h.2 e) a w ⟨β,fp,hf,hw⟩)
     | block id x=>simp only[eD]at h;exact wp_block (ih (.code x::.D3 id::k) σ h a w hr)
     | exit id =>
       simp only[eD]at h
       cases hx:XE id k with
       | none=>rw[hx]at h;simp[XO]at h
       | some k' =>
         rw[hx]at h
         simp only[XO]at h
         exact wp_exit (j7 hx (ih k' σ h a w hr))
     | ret=>simp only[eD]at h;exact wp_ret (mT (hret σ a w h hr) k)
     | loop x =>
       simp only[eD,Ju]at h
       obtain⟨I,μ,h0,hround⟩:=h
       classical
       let S:Act→World→Nat→Prop:=fun a w n=>∃ σ,μ σ=n∧I σ∧Rel F σ a w
       let m:Act→World→Nat:=fun a w=>if h:∃ n,S a w n then Classical.choose (least h) else 0
       refine wp_loop (fun a w=>∃ n,S a w n) m ⟨μ σ,σ,rfl,h0,hr⟩ (fun a w hI=>?_)
       have hm:m a w=Classical.choose (least hI):=dif_pos hI
       obtain⟨σ',hμ,hI',hr'⟩:=(Classical.choose_spec (least hI)).1
       refine wp_mono (ih (.code x::.D2 I μ (μ σ')::k) σ' (hround σ' hI') a w hr') ?_
       intro e a2 w2 h2
       cases e with
       | normal =>
         obtain⟨σ2,h3,h4,JD⟩:=h2
         have hS:∃ n,S a2 w2 n:=⟨μ σ2,σ2,rfl,h3,JD⟩
         refine⟨hS,?_⟩
         have hm2:m a2 w2=Classical.choose (least hS):=dif_pos hS
         have:=(Classical.choose_spec (least hS)).2 _ ⟨σ2,rfl,h3,JD⟩
         rw[hm,hm2]
         omega
       | _=>exact h2
     | _=>simp[eD]at h
theorem sC (how:Nat→How){f:FuncId}{fn:Func}{c:Code}{args:List SV}{bs:List av}{R:SV→List av→Prop}{n:Nat}{rs:Array ResultVar}(fuel:Nat)(hf:V.P.funcs[f]? = some fn)(hb:fn.body=some c)(hn:fn.ntmps=n)(hr:fn.results=rs)(qM:Enters V f)
 (hlen:args.length≤n) (rH:∀ β β',cN bs.length β β'→a8 β args=a8 β' args) (h:eD V n ⟨rs.toList,R,how⟩ fuel [.code c] ⟨Yj 0 args,bs⟩):SC V f args bs R:=by
 refine sc_core hf hb hn hr qM hlen rH (fun F hF a w hrel=>?_)
 subst hF
 refine J7 (Qf:=Qof F (kret V rs.toList R)) (fun σ a w h hr=>⟨σ,?_,hr⟩) (fun σ a w h hr=>⟨σ,?_,hr⟩) (fun c a w ⟨_,h,_⟩=>h) fuel [.code c] ⟨Yj 0 args,bs⟩ h a w hrel
 all_goals
  simp only at h
  cases hl:XT V σ rs.toList with
  | none=>rw[hl]at h;simp[IW]at h
  | some l=>rw[hl]at h;simp only[kret,hl];exact h
theorem bo {f:FuncId}{fn:Func}{c:Code}{args:List SV}{bs:List av}{R:SV→List av→Prop}{n:Nat}{rs:Array ResultVar}(fuel:Nat)(hf:V.P.funcs[f]? = some fn)(hb:fn.body=some c)(hn:fn.ntmps=n)(hr:fn.results=rs)(qM:Enters V f)
 (hlen:args.length≤n) (rH:∀ β β',cN bs.length β β'→a8 β args=a8 β' args) (h:eD V n ⟨rs.toList,R,fun _=>.ord []⟩ fuel [.code c] ⟨Yj 0 args,bs⟩):SC V f args bs R :=
 sC (fun _=>.ord []) fuel hf hb hn hr qM hlen rH h
theorem aZ {f:FuncId}{fn:Func}{c:Code}{args:List SV}{r:SV}{n:Nat}{rs:Array ResultVar}(fuel:Nat)(hf:V.P.funcs[f]? = some fn)(hb:fn.body=some c)(hn:fn.ntmps=n)(hr:fn.results=rs)(qM:Enters V f)
 (hlen:args.length≤n) (fa:flat.ai args=true) (fr:flat r=true) (h:eD V n ⟨rs.toList,fun r' _=>r'=r,fun _=>.ord []⟩ fuel [.code c] ⟨Yj 0 args,[]⟩):PC V f args r :=
 M8 fa fr (bo fuel hf hb hn hr qM hlen (fun β β' _=>eG args fa β β') h)
theorem aa {E:Fin}{n f:Nat}{ops:Array Oper}{r:List Oper}{k:List Item}{g:FuncId}{args:List SV}{dst:Option Tmp}{σ:St}{x:SV}(h:PC V g args x)(h2:eD V n E f (.ops ops r::k) ⟨put dst x σ.t,σ.b⟩):CB V n E f ops r k g args dst σ:=by
 unfold CB;exact .inl ⟨x,h,h2⟩
theorem ae {E:Fin}{n f:Nat}{ops:Array Oper}{r:List Oper}{k:List Item}{g:FuncId}{args:List SV}{dst:Option Tmp}{σ:St}{R:SV→List av→Prop}(h:SC V g args σ.b R)(h2:∀ x bs,R x bs→eD V n E f (.ops ops r::k) ⟨put dst x σ.t,bs⟩):CB V n E f ops r k g args dst σ:=by
 unfold CB;exact .inr ⟨R,h,h2⟩
theorem aY {E:Fin}{n f:Nat}{ops:Array Oper}{r:List Oper}{rs:List Rk}{k:List Item}{g:FuncId}{args:List SV}{dst:Option Tmp}{σ:St}{x:SV}(h:PC V g args x)(h2:eD V n E f (.nY ops r (rs++[⟨false,false,[],[]⟩])::k) ⟨put dst x σ.t,σ.b⟩):CC V n E f ops r rs k dst σ g args:=by
 unfold CC;exact .inl ⟨x,h,h2⟩
theorem bG {E:Fin}{n f:Nat}{ops:Array Oper}{r:List Oper}{rs:List Rk}{k:List Item}{g:FuncId}{args:List SV}{dst:Option Tmp}{σ:St}{x:SV}{b:List av}(W:List (Nat × Nat × Nat))(h:SC V g args σ.b (fun r' b'=>r'=x∧b'=b))(ho:G6 W b σ.b)
 (h2:eD V n E f (.nY ops r (rs++[⟨true,false,[],W⟩])::k) ⟨put dst x σ.t,b⟩):CC V n E f ops r rs k dst σ g args:=by
 unfold CC;exact .inr (.inr ⟨x,b,W,h,ho,h2⟩)
theorem tS {E:Fin}{n f:Nat}{ops:Array Oper}{k:List Item}{σ:St}{t:OT}(J:St→Prop)(da:OT.Ba ops [] t=true)(h:eD V n E f (.j5 ops [] t::.cut J::k) σ)(h2:∀ σ',J σ'→eD V n E f k σ'):HX V n E f ops k σ (.all t):=by
 simp only[HX]
 exact⟨da,J,h,h2⟩
theorem az {E:Fin}{n f:Nat}{x:Code}{k:List Item}{σ:St}(I:St→Prop)(μ:St→Nat)(h0:I σ)(h:∀ σ',I σ'→eD V n E f (.code x::.D2 I μ (μ σ')::k) σ'):Ju V n E f x k σ:=by
 unfold Ju;exact⟨I,μ,h0,h⟩
def eS (f:Nat→Nat)(l:List (Nat × Nat × Nat)):List (Nat × Nat × Nat):=l.map fun x=>(f x.1,x.2.1,x.2.2)
def cW (f:Nat→Nat)(r:Rk):Rk:=⟨r.s,r.all,eS f r.rd,eS f r.wr⟩
theorem I8 (f:Nat→Nat)(xs ys:List (Nat × Nat × Nat))(h:o4 xs ys=true):o4 (eS f xs) (eS f ys)=true:=by
 unfold o4 at h ⊢
 obtain⟨a,ha,h⟩:=zPX.1 h
 obtain⟨b,hb,h⟩:=zPX.1 h
 refine zPX.2 ⟨_,zQm ha,zPX.2 ⟨_,zQm hb,?_⟩⟩
 unfold ovl at h ⊢
 simp only[zPH,beq_iff_eq]at h ⊢
 exact⟨by rw[h.1],h.2⟩
theorem bO (f:Nat→Nat){ops:Array Oper}{rs:List Rk}(h:Pe ops (rs.map (cW f))):Pe ops rs:=by
 simp only[Pe,zPH]at h ⊢
 refine⟨?_,h.2⟩
 have h1:=h.1
 unfold Eb at h1 ⊢
 refine zPJ.2 (fun i hi=>zPJ.2 (fun k hk=>?_))
 have h2:=zPJ.1 (zPJ.1 h1 i hi) k hk
 simp only[zPK]at h2 ⊢
 refine h2.imp_right (fun h2=>?_)
 have hg:∀ j,((rs.map (cW f))[j]?).getD AW=cW f ((rs[j]?).getD AW):=fun j=>by
  rw[List.getElem?_map]
  cases rs[j]? <;> rfl
 have hp:Dl ops (rs.map (cW f)) i k=Dl ops rs i k:=by unfold Dl;simp only[hg];rfl
 unfold yP at h2 ⊢
 simp only[hg,hp]at h2
 generalize (rs[i]?).getD AW=ri at h2 ⊢
 generalize (rs[k]?).getD AW=rk at h2 ⊢
 have hs:∀ r,(cW f r).s=r.s:=fun _=>rfl
 have ha:∀ r,(cW f r).all=r.all:=fun _=>rfl
 have he:(cW f ri).rd.isEmpty=ri.rd.isEmpty:=by
  show (ri.rd.map _).isEmpty=_
  cases ri.rd <;> rfl
 rw[hs,hs,ha,he]at h2
 split
 ·rename_i hc
  rw[if_pos hc]at h2
  exact h2
 ·rename_i hc
  rw[if_neg hc]at h2
  split
  ·rename_i JK
   rw[if_pos JK]at h2
   exact h2
  ·rename_i JK
   rw[if_neg JK]at h2
   split
   ·rename_i mg
    rw[if_pos mg]at h2
    simp only[zPK,Bool.not_eq_true',Bool.or_eq_false_iff]at h2 ⊢
    refine h2.imp_right (fun h2=>⟨h2.1,?_⟩)
    cases ho:o4 ri.rd rk.wr with
    | false=>rfl
    | true =>
      have:=I8 f _ _ ho
      rw[show o4 (eS f ri.rd) (eS f rk.wr)=false from h2.2]at this
      cases this
   ·rfl
end
def qE (ms:List Nat):List (Nat × Bool)→Nat
 | []=>0
 | (e,true)::r=>qE ms r ||| (1 <<< e) ||| ms.getD e 0
 | (_,false)::r=>qE ms r
def Ov {β:Type}(m:Nat)(f:Nat→β):β:=match m with
 | 0=>f 0
 | k+1=>f (k+1)
theorem LB {β:Type}(m:Nat)(f:Nat→β):Ov m f=f m:=by cases m <;> rfl
def edges (o:Oper):List (Nat × Bool):=o.after.toList.map fun e=>(e.on,Region.binds .any e)
def Aj:List Oper→List Nat→List Nat
 | [],ms=>ms
 | o::r,ms=>Ov (qE ms (edges o)) fun m=>Aj r (ms++[m])
def DS (D:List Nat)(i k:Nat):Bool:=(D.getD i 0).testBit k
def Mz (D:List Nat)(i k:Nat):Bool:=if k<i then DS D i k else DS D k i
def preF (ops:Array Oper)(rs:List Rk)(D:List Nat)(i k:Nat):Bool:=!(fT ops k&&decide (k<i))||(zQd k).all fun j=>!(((rs[j]?).getD AW).s)||DS D i j
def pairF (ops:Array Oper)(rs:List Rk)(D:List Nat)(i k:Nat):Bool :=
 if wI ops i k then Mz D i k&&preF ops rs D i k
 else if ((rs[i]?).getD AW).s&&((rs[k]?).getD AW).s then fT ops (max i k)||Mz D i k
 else if ((rs[k]?).getD AW).s&&!((rs[i]?).getD AW).rd.isEmpty then(Mz D i k&&preF ops rs D i k)||!(((rs[k]?).getD AW).all||o4 ((rs[i]?).getD AW).rd ((rs[k]?).getD AW).wr)
 else true
def okF (ops:Array Oper)(rs:List Rk):Bool :=
 ((zQd ops.size).all fun i=>(zQd ops.size).all fun k=>k==i||pairF ops rs (Aj ops.toList []) i k)&&O9 ops
theorem Ai {ops:Array Oper}:∀ (f g i k:Nat),f≤g→ny ops f i k=true→ny ops g i k=true
 | 0,_,_,_,_,h=>by simp[ny]at h
 | f+1,0,_,_,h,_=>by omega
 | f+1,g+1,i,k,hfg,h=>by
   rw[ny]at h ⊢
   split at h
   ·rename_i o ho
    rw[← Array.any_toList,zPX]at h ⊢
    obtain⟨e,he,h⟩:=h
    refine⟨e,he,?_⟩
    simp only[zPH,zPK]at h ⊢
    refine⟨h.1,h.2.imp id (Ai f g e.on k (by omega))⟩
   ·cases h
theorem sP (ms:List Nat)(k:Nat):∀ l:List (Nat × Bool),(qE ms l).testBit k=true→∃ e,(e,true)∈l∧(e=k∨(ms.getD e 0).testBit k=true)
 | [],h=>by simp[qE]at h
 | (e,true)::r,h=>by
  rw[qE,Nat.testBit_or,Nat.testBit_or,zPK,zPK]at h
  rcases h with(h|h) | h
  ·obtain⟨e',h1,h2⟩:=sP ms k r h
   exact⟨e',List.mem_cons_of_mem _ h1,h2⟩
  ·refine⟨e,zQe,.inl ?_⟩
   rw[Nat.one_shiftLeft,Nat.testBit_two_pow]at h
   simpa using h
  ·exact⟨e,zQe,.inr h⟩
 | (_,false)::r,h=>by
  rw[qE]at h
  obtain⟨e',h1,h2⟩:=sP ms k r h
  exact⟨e',List.mem_cons_of_mem _ h1,h2⟩
theorem GJ {ops:Array Oper}:∀ (r:List Oper)(ms:List Nat),ops.toList.drop ms.length=r→(∀ i k,(ms.getD i 0).testBit k=true→i<ms.length∧ny ops (i+1) i k=true) →
 ∀ i k,((Aj r ms).getD i 0).testBit k=true→ny ops (i+1) i k=true
 | [],ms,_,h,i,k,hb=>(h i k hb).2
 | o::r,ms,hd,h,i,k,hb=>by
   rw[Aj,LB]at hb
   have aA:ms.length<ops.toList.length:=by
    apply Nat.lt_of_not_le
    intro hle
    rw[List.drop_eq_nil_of_le hle]at hd
    cases hd
   have ho:ops[ms.length]? = some o:=by
    rw[← Array.getElem?_toList,zP0 aA]
    rw[List.drop_eq_getElem_cons aA]at hd
    rw[(List.cons.inj hd).1]
   refine GJ r (ms++[qE ms (edges o)]) ?_ ?_ i k hb
   ·rw[zPI,zPQ]
    rw[List.drop_eq_getElem_cons aA]at hd
    exact(List.cons.inj hd).2
   ·intro i k hb
    rw[zPW]at hb
    rcases Nat.lt_trichotomy i ms.length with hi|hi|hi
    ·rw[zPO hi,← zPW]at hb
     exact⟨by simp;omega,(h i k hb).2⟩
    ·subst hi
     rw[zPS (zPL _),Nat.sub_self]at hb
     simp only[List.getElem?_cons_zero,Option.getD_some]at hb
     refine⟨by simp,?_⟩
     obtain⟨e,h1,h2⟩:=sP ms k _ hb
     obtain⟨d,r6,AG⟩:=List.mem_map.1 h1
     rw[ny,ho]
     simp only
     rw[← Array.any_toList]
     refine zPX.2 ⟨d,r6,?_⟩
     simp only[Prod.mk.injEq]at AG
     rw[AG.2,AG.1,Bool.true_and,zPK]
     rcases h2 with rfl|h2
     ·left;simp
     ·right
      have:=h e k h2
      exact Ai (e+1) _ e k (by omega) this.2
    ·rw[zP4 (by simp;omega)]at hb
     simp at hb
theorem aq {ops:Array Oper}{rs:List Rk}(h:okF ops rs=true):Pe ops rs:=by
 unfold okF at h
 rw[zPH]at h
 obtain⟨h,ha⟩:=h
 unfold Pe Eb
 rw[zPH]
 refine⟨zPJ.2 fun i hi=>zPJ.2 fun k hk=>?_,ha⟩
 have h1:=zPJ.1 (zPJ.1 h i hi) k hk
 rw[zPK]at h1 ⊢
 refine h1.imp id fun h1=>?_
 have hdep:∀ i k,i∈zQd ops.size→DS (Aj ops.toList []) i k=true→ny ops ops.size i k=true:=fun i k hi hb =>
  Ai (i+1) _ i k (by have:=zP8.1 hi;omega) (GJ ops.toList [] (by simp) (fun i k hb=>by simp at hb) i k hb)
 have htie:Mz (Aj ops.toList []) i k=true→yp ops i k=true:=fun h=>by
  unfold Mz at h
  unfold yp
  split
  ·rename_i kv;rw[if_pos kv]at h;exact hdep i k hi h
  ·rename_i kv;rw[if_neg kv]at h;exact hdep k i hk h
 have fj:preF ops rs (Aj ops.toList []) i k=true→Dl ops rs i k=true:=fun h=>by
  unfold preF at h
  unfold Dl
  rw[zPK]at h ⊢
  refine h.imp id (fun h=>zPJ.2 fun j hj=>?_)
  have:=zPJ.1 h j hj
  rw[zPK]at this ⊢
  exact this.imp id (fun h=>hdep i j hi h)
 unfold pairF at h1
 unfold yP
 split
 ·rename_i hc
  rw[if_pos hc,zPH]at h1
  rw[zPH]
  exact⟨htie h1.1,fj h1.2⟩
 ·rename_i hc
  rw[if_neg hc]at h1
  split
  ·rename_i JK
   rw[if_pos JK,zPK]at h1
   rw[zPK]
   exact h1.imp id htie
  ·rename_i JK
   rw[if_neg JK]at h1
   split
   ·rename_i mg
    rw[if_pos mg]at h1
    rw[zPK]at h1 ⊢
    refine h1.imp (fun h1=>?_) id
    rw[zPH]at h1 ⊢
    exact⟨htie h1.1,fj h1.2⟩
   ·rfl
def cw:=zPG (zPG (zPG (zPG (zPG (@KM) (zPG (@Option.getD_some.{0}) (@Option.getD_none.{0}))) (zPG (@List.getElem?_cons_zero.{0}) (zPG (@List.getElem?_cons_succ.{0}) (@zQa.{0})))) (zPG (zPG (@List.length_nil.{0}) (zPG (@List.cons_append.{0}) (@List.nil_append.{0}))) (zPG (@zP5.{0}) (zPG (@List.map_cons.{0,0}) (@List.map_nil.{0,0}))))) (zPG (zPG (zPG (@List.take_succ_cons.{0}) (zPG (@List.take_zero.{0}) (@List.drop_succ_cons.{0}))) (zPG (@List.drop_zero.{0}) (zPG (@List.set_cons_zero.{0}) (@List.set_cons_succ.{0})))) (zPG (zPG (@List.all_cons.{0}) (zPG (@List.all_nil.{0}) (@List.mapIdx_cons.{0,0}))) (zPG (zPG (@List.mapIdx_nil.{0,0}) (@List.getD_cons_zero.{0})) (zPG (@List.getD_cons_succ.{0}) (@zPR.{0,0})))))) (zPG (zPG (zPG (zPG (@zQc.{0,0}) (zPG (@zP3.injEq.{0}) (@Nat.zero_add))) (zPG (@Nat.add_zero) (zPG (@decide_true) (@decide_false)))) (zPG (zPG (@Bool.and_true) (zPG (@Bool.true_and) (@Bool.and_false))) (zPG (zPG (@Bool.false_and) (@true_and)) (zPG (@and_true) (@false_and))))) (zPG (zPG (zPG (@and_false) (zPG (@if_true.{1}) (@if_false.{1}))) (zPG (@List.toList_toArray.{0}) (zPG (@Bool.not_true) (@Bool.not_false)))) (zPG (zPG (@Bool.false_eq_true) (zPG (@false_implies) (@Int.toNat_natCast))) (zPG (zPG (@Wf.HG) (@Wf.HI)) (zPG (@Wf.HH) (@List.take_length.{0}))))))
def cz:=zPG (zPG (zPG (zPG (@eD.eq_21) (@eD.eq_22)) (zPG (@eD.eq_23) (@eD.eq_24))) (zPG (zPG (@eD.eq_25) (@HX.eq_1)) (zPG (@Jk.eq_1) (@Jj.eq_1)))) (zPG (zPG (zPG (zPG (@tU.eq_1) (zPG (@tU.eq_2) (@Fl.eq_1))) (zPG (@qt.eq_1) (zPG (@qt.eq_2) (@rF.eq_1)))) (zPG (zPG (@rF.eq_2) (zPG (@rF.eq_3) (@rV.eq_1))) (zPG (zPG (@Jl.eq_1) (@Jl.eq_2)) (zPG (@jH.eq_1) (@jH.eq_2))))) (zPG (zPG (zPG (zPG (zPG (zPG (zPG (zPG (@eD.eq_1) (@eD.eq_2)) (zPG (@eD.eq_3) (@eD.eq_4))) (zPG (zPG (@eD.eq_5) (@eD.eq_6)) (zPG (@eD.eq_7) (zPG (@eD.eq_8) (@eD.eq_9))))) (zPG (zPG (zPG (@eD.eq_10) (@eD.eq_11)) (zPG (@eD.eq_12) (@eD.eq_13))) (zPG (zPG (@eD.eq_14) (@eD.eq_15)) (zPG (@eD.eq_16) (zPG (@eD.eq_17) (@eD.eq_18)))))) (zPG (zPG (zPG (zPG (@eD.eq_19) (@eD.eq_20)) (zPG (@XQ.eq_1) (@XG.eq_1))) (zPG (zPG (@gvU.eq_1) (@gvU.eq_2)) (zPG (@yy.eq_1) (zPG (@yy.eq_2) (@yy.eq_3))))) (zPG (zPG (zPG (@LX.eq_1) (@LX.eq_2)) (zPG (@Yl.eq_1) (zPG (@Yl.eq_2) (@Yl.eq_3)))) (zPG (zPG (@Yl.eq_4) (@Yl.eq_5)) (zPG (@Yl.eq_6) (zPG (@Yl.eq_7) (@Yl.eq_8))))))) (zPG (zPG (zPG (zPG (zPG (zPG @Yl.eq_9 (zPG @Yl.eq_10 (zPG @Il.eq_1 (zPG @GO.eq_1 @GO.eq_2)))) (@Xm.eq_1)) (zPG (@Xm.eq_2) (@Xm.eq_3))) (zPG (zPG (@Yn.eq_1) (@Yi.eq_1)) (zPG (@Yi.eq_2) (zPG (@Xa.eq_1) (@Ym.eq_1))))) (zPG (zPG (zPG (@Ym.eq_2) (@Xc.eq_1)) (zPG (@Xc.ow.eq_1) (zPG (@Xc.ow.eq_2) (@reS.eq_1)))) (zPG (zPG (@reS.eq_2) (@Xj.eq_1)) (zPG (@Yb.eq_1) (zPG (@mmS.eq_1) (@mmS.eq_2)))))) (zPG (zPG (zPG (zPG (@Xq.eq_1) (@Xq.eq_2)) (zPG (@uJ.eq_1) (@uJ.eq_2))) (zPG (zPG (zPG @uJ.eq_3 (zPG @GP.eq_1 @GP.eq_2)) (@rC.eq_1)) (zPG (@rC.eq_2) (zPG (@rC.eq_3) (@rC.eq_4))))) (zPG (zPG (zPG (@XP.eq_1) (@XP.eq_2)) (zPG (@XP.eq_3) (zPG (@XN.eq_1) (@XN.eq_2)))) (zPG (zPG (@XO.eq_1) (@XO.eq_2)) (zPG (@Yc.eq_1) (zPG (@Yc.eq_2) (@Yc.eq_3)))))))) (zPG (zPG (zPG (zPG (zPG (zPG (@XA.eq_1) (@XA.eq_2)) (zPG (@XA.eq_3) (@Yg.eq_1))) (zPG (zPG (@Yg.eq_2) (@Yg.eq_3)) (zPG (@Yg.eq_4) (zPG (@Xy.eq_1) (@Xy.eq_2))))) (zPG (zPG (zPG (@Xy.eq_3) (@XE.eq_1)) (zPG (@XE.eq_2) (zPG (@XE.eq_3) (@IW.eq_1)))) (zPG (zPG (@IW.eq_2) (@kj.eq_1)) (zPG (@kj.eq_2) (zPG (@kj.eq_3) (@Yk.eq_1)))))) (zPG (zPG (zPG (zPG (@Yk.eq_2) (@XR.eq_1)) (zPG (@Yd.eq_1) (@Yd.eq_2))) (zPG (zPG (@Yd.eq_3) (@Yd.eq_4)) (zPG (@Yd.eq_5) (zPG (@Yd.eq_6) (@Yd.eq_7))))) (zPG (zPG (zPG (@Yd.eq_8) (@goR.eq_1)) (zPG (@goR.eq_2) (zPG (@XC.eq_1) (@sBox.eq_1)))) (zPG (zPG (@XU.eq_1) (@XH.eq_1)) (zPG (@Xr.eq_1) (zPG (@sNil.eq_1) (@XL.eq_1))))))) (zPG (zPG (zPG (zPG (zPG (@Xt.eq_1) (@Xt.eq_2)) (zPG (@XV.eq_1) (@Xv.eq_1))) (zPG (zPG (@Xv.eq_2) (@Xv.eq_3)) (zPG (@Xv.eq_4) (zPG (@Xv.eq_5) (@Xv.eq_6))))) (zPG (zPG (zPG (@Xv.eq_7) (@Xv.eq_8)) (zPG (@LA.eq_1) (zPG (@LA.eq_2) (@sf.eq_1)))) (zPG (zPG (@XI.eq_1) (@XF.eq_1)) (zPG (@XB.eq_1) (zPG (@OY.eq_1) (@XK.eq_1)))))) (zPG (zPG (zPG (zPG (@XD.eq_1) (@OZ.eq_1)) (zPG (@dN.eq_1) (@dN.eq_2))) (zPG (zPG (@Xz.eq_1) (@Xz.eq_2)) (zPG (@Xz.eq_3) (zPG (@Xz.eq_4) (@Xz.eq_5))))) (zPG (zPG (zPG (zPG (@Xz.eq_6) (@Xz.eq_7)) (@Ek.eq_1)) (zPG (@Ek.eq_2) (zPG (@Ek.eq_3) (@Ek.eq_4)))) (zPG (zPG (@Ek.eq_5) (@Ek.eq_6)) (zPG (@Ek.eq_7) (zPG (@idxs.eq_1) (@idxs.eq_2))))))))) (zPG (zPG (zPG (zPG (zPG (zPG (zPG (zPG (@idxs.eq_3) (@idxs.eq_4)) (@pv.eq_1)) (zPG (@pv.eq_2) (@pv.eq_3))) (zPG (zPG (@pv.eq_4) (@pv.eq_5)) (zPG (@pv.eq_6) (zPG (@pv.eq_7) (@pv.eq_8))))) (zPG (zPG (zPG (@pv.eq_9) (@pv.eq_10)) (zPG (@pv.eq_11) (zPG (@pv.eq_12) (@pv.eq_13)))) (zPG (zPG (@pv.eq_14) (@pv.eq_15)) (zPG (@pv.eq_16) (zPG (@XX.eq_1) (@Ya.eq_1)))))) (zPG (zPG (zPG (zPG (@XJ.eq_1) (@XJ.eq_2)) (zPG (@XJ.eq_3) (@XJ.eq_4))) (zPG (zPG (@Xb.eq_1) (@Xu.eq_1)) (zPG (@oBin.eq_1) (zPG (@oUn.eq_1) (@oUn.eq_2))))) (zPG (zPG (zPG (@Ye.eq_1) (@XW.eq_1)) (zPG (@XW.eq_2) (zPG (@XW.eq_3) (@Xw.eq_1)))) (zPG (zPG (@Xx.eq_1) (@Xh.eq_1)) (zPG (@Xk.eq_1) (zPG (@XY.eq_1) (@XY.eq_2))))))) (zPG (zPG (zPG (zPG (zPG (@XS.eq_1) (@KK.eq_1)) (zPG (@KK.eq_2) (@KK.eq_3))) (zPG (zPG (@oF.eq_1) (@oF.eq_2)) (zPG (@oF.eq_3) (zPG (@oF.eq_4) (@Yh.eq_1))))) (zPG (zPG (zPG (@Yh.eq_2) (@Yh.eq_3)) (zPG (@Yh.eq_4) (zPG (@ev.eq_1) (@ev.eq_2)))) (zPG (zPG (@ev.eq_3) (@ev.eq_4)) (zPG (@lk.eq_1) (zPG (@lk.eq_2) (@put.eq_1)))))) (zPG (zPG (zPG (zPG (@put.eq_2) (@fits.eq_1)) (zPG (@fits.eq_2) (@kd.eq_1))) (zPG (zPG (@sz.eq_1) (@bin.eq_1)) (zPG (@bin.eq_2) (zPG (@bin.eq_3) (@oZ.eq_1))))) (zPG (zPG (zPG (@oZ.eq_2) (@oZ.eq_3)) (zPG (@oZ.eq_4) (zPG (@oZ.eq_5) (@oZ.eq_6)))) (zPG (zPG (@oZ.eq_7) (@oZ.eq_8)) (zPG (@oZ.eq_9) (zPG (@oZ.eq_10) (@oZ.eq_11)))))))) (zPG (zPG (zPG (zPG (zPG (zPG (@oZ.eq_12) (@oZ.eq_13)) (zPG (@oZ.eq_14) (@oZ.eq_15))) (zPG (zPG (@oZ.eq_16) (@oZ.eq_17)) (zPG (@BC.eq_1) (zPG (@BC.eq_2) (@BC.eq_3))))) (zPG (zPG (zPG (@BC.eq_4) (@BC.eq_5)) (zPG (@BC.eq_6) (zPG (@BC.eq_7) (@BC.eq_8)))) (zPG (zPG (@El.eq_1) (@ar.eq_1)) (zPG (@ar.eq_2) (zPG (@IU.eq_1) (@IU.eq_2)))))) (zPG (zPG (zPG (zPG (@IU.eq_3) (@IU.eq_4)) (zPG (@IU.eq_5) (@IU.eq_6))) (zPG (zPG (@IU.eq_7) (@IU.eq_8)) (zPG (@eqS.eq_1) (zPG (@eqS.eq_2) (@GA.eq_1))))) (zPG (zPG (zPG (@GA.eq_2) (@GA.eq_3)) (zPG (@GA.eq_4) (zPG (@GA.eq_5) (@GA.eqF.eq_1)))) (zPG (zPG (@GA.eqF.eq_2) (@Ik.eq_1)) (zPG (@Ik.eq_2) (zPG (@Ik.eq_3) (@Ax.eq_1))))))) (zPG (zPG (zPG (zPG (zPG (@Ax.eq_2) (@Ax.eq_3)) (zPG (@Ax.eq_4) (@Ax.eq_5))) (zPG (zPG (@sM.eq_1) (@sM.eq_2)) (zPG (@XM.eq_1) (zPG (@cells.eq_1) (@cells.eq_2))))) (zPG (zPG (zPG (@Hj.eq_1) (@Hj.eq_2)) (zPG (@one.eq_1) (zPG (@one.eq_2) (@one.eq_3)))) (zPG (zPG (@one.eq_4) (@Xs.eq_1)) (zPG (@j3.eq_1) (zPG (@yz.eq_1) (@XZ.eq_1)))))) (zPG (zPG (zPG (zPG (@XZ.eq_2) (@Yf.eq_1)) (zPG (@Yf.eq_2) (@Xl.eq_1))) (zPG (zPG (@Xl.eq_2) (@XT.eq_1)) (zPG (@XT.eq_2) (zPG (@Kw.eq_1) (@Kw.eq_2))))) (zPG (zPG (zPG (@ym.eq_1) (@ym.eq_2)) (zPG (@ofV.eq_1) (zPG (@ofV.eq_2) (@ofV.eq_3)))) (zPG (zPG (@ofV.eq_4) (@ofV.eq_5)) (zPG (@ofV.eq_6) (zPG (@Yj.eq_1) (@Yj.eq_2)))))))))))
theorem gK {P Q H : Prop} (hs : H) (h : Q) (e : H → P = Q := by intro hs; simp only [cz, ↓Xn, ↓Xo, ↓Xg, ↓Xd, ↓Xe, ↓Xf, Tryz.VΓ, Tryz.Γs, Xp, Xi, Nat.reduceAdd, Nat.reduceSub, Nat.reduceLT, Nat.reduceLeDiff, reduceIte, reduceCtorEq, Nat.reduceEqDiff, implies_true, forall_const, cw, beq_self_eq_true, bne_self_eq_false, Int.reduceBEq, Int.reduceBNe, Int.reduceLT, Int.reduceLE, hs] <;> rfl) : P := (e hs).symm ▸ h
theorem se {P Q : Prop} (h : Q) (e : P = Q := by simp only [cz, ↓Xn, ↓Xo, ↓Xg, ↓Xd, ↓Xe, ↓Xf, Tryz.VΓ, Tryz.Γs, Xp, Xi, Nat.reduceAdd, Nat.reduceSub, Nat.reduceLT, Nat.reduceLeDiff, reduceIte, reduceCtorEq, Nat.reduceEqDiff, implies_true, forall_const, cw, beq_self_eq_true, bne_self_eq_false, Int.reduceBEq, Int.reduceBNe, Int.reduceLT, Int.reduceLE] <;> rfl) : P := e.symm ▸ h
theorem gN {P Q H : Prop} (hs : H) (h : Q) (e : H → P = Q := by intro hs; simp only [cz, ↓Xn, ↓Xo, ↓Xg, ↓Xd, ↓Xe, ↓Xf, Tryz.VΓ, Tryz.Γs, Xp, Xi, Nat.reduceAdd, Nat.reduceSub, Nat.reduceLT, Nat.reduceLeDiff, reduceIte, reduceCtorEq, Nat.reduceEqDiff, implies_true, forall_const, cw, hs] <;> rfl) : P := (e hs).symm ▸ h
theorem bC {P Q : Prop} (h : Q) (e : P = Q := by simp only [cz, ↓Xn, ↓Xo, ↓Xg, ↓Xd, ↓Xe, ↓Xf, Tryz.VΓ, Tryz.Γs, Xp, Xi, Nat.reduceAdd, Nat.reduceSub, Nat.reduceLT, Nat.reduceLeDiff, reduceIte, reduceCtorEq, Nat.reduceEqDiff, implies_true, forall_const, cw] <;> rfl) : P := e.symm ▸ h
end Vc
namespace Go.Proofs.YtnmlimehgifadaaGreatDoor
open Go Vc Go.RowKit Wf
open Go.ChangeShapes Go.WideShapes Go.ChangeAt
open Go.WideMaps Go.WideElems
open Go.ChangeMaps (setBlock shut_map_nil open_string shut_string keptBut_setBlock frozen?_setBlock heap_setBlock_same)
theorem IV {W:World}(h:W.ShapedOpen Tryz.prog):Env W :=
 Go.Proofs.cell_of_shapedOpen_int (zero:=#[.int .i64 0]) (t:=3) h (of_decide_eq_true (by kernel_rfl)) (by kernel_rfl) rfl (by kernel_rfl) (by kernel_rfl) Tryz.underlying3
theorem own:ownKnob Tryz.prog.godebug=none:=by kernel_rfl
theorem laidOut:laidOutB Tryz.prog=true:=by kernel_rfl
section
variable {H:Type} {enc:TypeId × Value→H} {W W':World}
theorem rP {P:Program}(hl:laidOutB P=true){B:Nat}:∀ {ts:List TypeId}{vs:List Value}{ds:List (DataW H)}{ps:List MemPlace},ts.all (fun t=>P.readableRec t&&decide (t<P.types.size))=true →
 DataW.TrodAll enc P W 0 (fun _=>true) true ts vs ds ps→(∀ p∈ps,W.sameAt W' p)→(∀ p∈ps,p.block<B)→DataW.TrodAll enc P W' 0 (fun b=>decide (b<B)) true ts vs ds ps
 | [],[],[],ps,_,h,_,_=>h
 | t::ts,v::vs,d::ds,ps,hr,h,hs,hb=>by
   obtain⟨p,q,h1,h2,rfl⟩:=h
   simp only[List.all_cons,zPH,decide_eq_true_eq]at hr
   exact⟨p,q,Trod_stays hl hr.1.1 hr.1.2 h1 (fun x hx=>hs x (zQl _ hx)) (fun x hx=>by simpa using hb x (zQl _ hx)),rP hl hr.2 h2 (fun x hx=>hs x (List.mem_append_right _ hx)) (fun x hx=>hb x (List.mem_append_right _ hx)),rfl⟩
 | [],_::_,_,_,_,h,_,_=>by cases h
 | [],[],_::_,_,_,h,_,_=>by cases h
 | _::_,[],_,_,_,h,_,_=>by cases h
 | _::_,_::_,[],_,_,h,_,_=>by cases h
theorem zw {P:Program}{fn:Func}{s:ChangeSpec}{args:Array Value}{ds gs:List (DataW H)}{before:List MemPlace}{tb:TypeId}(hl:laidOutB P=true)
 (hpar:fn.params.toList.all (fun t=>P.readableRec t&&decide (t<P.types.size))=true) (hv:s.vars=[]) (hr:fn.resultTypes=#[tb]) (htb:P.underlying tb=some .bool)
 (hgs:gs=[]) (qJ:(s.fn H ds).results=[.lit (.bool true)]) (pc:(s.fn H ds).args=ds) (hvs:(s.fn H ds).vars=[])
 (hW:DataW.Whole enc P fn.params.toList s.vars false W args.toList ds gs before) (bel:Below W.heap.size W W'):s.post enc P fn false true false false W args (.bool true) W':=by
 have aA:=hW.lt
 have hW':=hW
 obtain⟨p,q,hA,hV,hb,-,-⟩:=hW
 subst hgs
 rw[hv]at hV
 obtain⟨-,rfl⟩:=trodVars_none hV
 subst hb
 refine⟨ds,[],_,[],p,[],hW',?_,?_,?_,bel.frame _,fun h=>by cases h⟩
 ·rw[zP5,qJ,hr]
  exact trodAll_mk1 (shut_bool htb _)
 ·rw[zP5,pc]
  exact rP hl hpar hA (fun x hx=>bel.same (aA x (zQl _ hx))) (fun x hx=>aA x (zQl _ hx))
 ·rw[zP5,hvs,hv]
  rfl
end
def flatD:Nat→DataW Unit→List Value
 | _,.lit (.int k i)=>[.int k i]
 | n+1,.agg ps=>ps.flatMap (flatD n)
 | _,_=>[]
def setCells (d:DataW Unit):Obj→Obj
 | .cells _ t fr=>.cells (flatD 8 d).toArray t fr
 | o=>o
noncomputable def rv (os:Os):World :=
 { World.holding Tryz.prog os ⟨#[],#[],[]⟩ with heap:=((World.holding Tryz.prog os ⟨#[],#[],[]⟩).heap.modify 1 (setCells Go.Pinned.utf8First)).modify 2 (setCells Rows.laid_unicode_utf8_acceptRanges) }
set_option maxRecDepth 100000 in
theorem zx (os : Os) (args : Array Value) : laidMet Tryz.prog [("unicode/utf8.acceptRanges", Rows.laid_unicode_utf8_acceptRanges), ("unicode/utf8.first", Rows.laid_unicode_utf8_first)] ((rv os).forCall (fun _ _ => 0) ⟨#[], args, []⟩).memory :=
 laidMet_of_run3 8 (by kernel_rfl) (by kernel_rfl) (by kernel_rfl)
open Go in
theorem yO:false=Tryz.pinned.checked.prog.looks []:=by kernel_rfl
open Go Go.RowKit
set_option maxRecDepth 100000
theorem pf_maps:mapsRowed Tryz.pinned.checked.prog=true:=by kernel_rfl
theorem pf_stops:(Tryz.pinned.checked.prog.stops==[])=true:=by kernel_rfl
theorem pf_knobs:(Tryz.pinned.checked.prog.stopKnobs==[])=true:=by kernel_rfl
theorem pf_keys:(Rows.worldApartRow.plainKeys==Tryz.pinned.checked.prog.plainKeys)=true:=by kernel_rfl
theorem pf_heard:Tryz.pinned.checked.prog.stopsHeard=true:=by kernel_rfl
theorem pf_may:Tryz.pinned.checked.prog.mayEnter=true:=by kernel_rfl
theorem pf_lifts:(Rows.worldApartRow.lifted==Tryz.pinned.checked.prog.liftsFinal)=true:=by kernel_rfl
theorem pf_make:(Tryz.pinned.checked.prog.make==some Rows.worldApartRow.make)=true:=by kernel_rfl
theorem and4 {a b c d:Bool}(h:(a&&b&&c&&d)=true):(a=true∧b=true)∧c=true∧d=true:=by
 simp only[zPH]at h
 exact⟨⟨h.1.1.1,h.1.1.2⟩,h.1.2,h.2⟩
end Go.Proofs.YtnmlimehgifadaaGreatDoor
