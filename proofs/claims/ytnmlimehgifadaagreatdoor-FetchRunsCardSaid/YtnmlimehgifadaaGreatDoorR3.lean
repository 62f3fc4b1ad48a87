/- R3 -/
import Derived.Lib.ConvBytes
import Derived.Laws.IdiomStrings
import Derived.Laws.BytesArg
import Derived.Great.BuildSlice
import Derived.Still
import Derived.Test.YtnmlimehgifadaaGreatDoorRows
import Derived.WalkKit
import Derived.ProofKit
import Derived.OpenShut
import Derived.Shelf.Vars
import Derived.ShutString
import Derived.WideKeyArgs
import Derived.ChangeSame
import Derived.Deep.DeepHandedRow
import Derived.Deep.DeepLaidRun
import Derived.Lib.LaidTab
import Derived.Lib.SmallJoins
import Derived.SizedLaws
import Derived.Test.YtnmlimehgifadaaGreatDoorCards
import Derived.Test.YtnmlimehgifadaaGreatDoorTie
import Derived.Test.YtnmlimehgifadaaGreatDoorR2
open And renaming intro→zQF
open Bool renaming and_eq_true→zQG,or_eq_true→zQJ
open List renaming length_append→zQH,all_eq_true→zQI,getElem?_eq_some_iff→zQM,getElem?_append_left→zQN,length_singleton→zQO,getElem?_append_right→zQQ,eq_nil_of_length_eq_zero→zQR,getD_eq_getElem?_getD→zQT,any_eq_true→zQU,toArray→zQW,getElem?_eq_getElem→zQX,getElem?_eq_none→zQ1,append_nil→zQ2,contains_iff_mem→zQ3,mem_range→zQ5,length_cons→zQ7,range→zRa,mem_cons_self→zRb,getElem?_set_ne→zRf,mem_append_left→zRh,mem_map_of_mem→zRj,map_append→zRm
open Nat renaming le_refl→zQK,lt_succ_self→zQY,add_mul→zQZ,mul_le_mul_right→zQ4,lt_or_ge→zQ6
open Array renaming getElem?_eq_some_iff→zQL,mem_toList_iff→zQS,getElem?_eq_getElem→zQV,ext'→zQ8,replicate→zRc,getD_eq_getD_getElem?→zRe,mem_append→zRg
open Option renaming map_some→zQP,some→zQ0,map_none→zQ9,map_eq_some_iff→zRd
open Go.Proofs.Tryz
set_option linter.all false
set_option maxHeartbeats 16000000
set_option maxRecDepth 20000
namespace Vc
open Go Go.RowKit Wf
def eb (b:UInt8):SV:=.int .u8 b.toNat
def BE:SV→Bool
 | .int .u8 n=>decide (0≤n∧n<256)
 | _=>false
def vP:SV→UInt8
 | .int _ n=>n.toNat.toUInt8
 | _=>0
theorem lH (l:Bytes):(l.map eb).map vP=l:=by
 rw[List.map_map]
 conv=>rhs;rw[← List.map_id l]
 apply List.map_congr_left
 intro b _;simp[eb,vP]
theorem gw (l:Bytes):(l.map eb).all BE=true:=by
 rw[List.all_map,zQI];intro b _;have:=b.toNat_lt
 simp[eb,BE];omega
theorem M0 (β:Nat→Bt){x:SV}(h:BE x=true):aj β x=.int .u8 (vP x).toNat:=by
 unfold BE at h;split at h
 ·rename_i n
  simp only[decide_eq_true_eq]at h;simp only[aj,vP];congr 1
  simp
  omega
 ·cases h
def rV (bs:List aq)(s:Nat):SV→Option (Nat × List SV)
 | .ai=>some (0,[])
 | .str l=>if s=1 then some (l.length,l.map eb) else none
 | .o j m=>match bs[j]? with
   | some (.own c _ s' n _)=>if s'=s∧n=m then some (m,c) else none
   | _=>none
 | _=>none
def vq (bs:List aq)(e s:Nat):SV→Option (Nat × List SV × List aq)
 | .ai=>some (0,[],bs)
 | .o j m=>match bs[j]? with
   | some (.own c e' s' n true)=>if e'=e∧s'=s∧n=m then some (m,c,bs.set j .gone) else none
   | _=>none
 | .f j m=>match bs[j]? with
   | some (.own c e' s' n _)=>if e'=e∧s'=s∧n=m then some (m,c,bs) else none
   | _=>none
 | _=>none
def HY:SV→Bool
 | .f _ _=>true
 | _=>false
def XP:Kd→Bool
 | .str=>true
 | .slice _=>true
 | _=>false
def Xm (V:Cx)(dst:Option Tmp)(args:List Operand)(ts:List TypeId)(σ:St):Option (Prop × St):=match args with
 | [s,x]=>match ts with
   | [t,u]=>match kd V.Γ t with
     | some (.slice e)=>match kd V.Γ u with
       | some ku=>match V.Γ e with
         | some ti=>match ev σ.t s with
           | some s=>match ev σ.t x with
             | some x=>match vq σ.b e ti.size s with
               | some (n,c,bs)=>match rV σ.b ti.size x with
                 | some (m,xs)=>some ((HY s=true→0<m)∧XP ku=true∧0<ti.size∧xs.all one=true∧n+m≤maxLen∧(n+m) * ti.bytes≤140737488355328,⟨put dst (.o σ.b.length (n+m)) σ.t,bs++[.own (c++xs) e ti.size (n+m) true]⟩)
                 | none=>none
               | none=>none
             | none=>none
           | none=>none
         | none=>none
       | none=>none
     | _=>none
   | _=>none
 | _=>none
def I3 (z:List SV):Nat→List SV
 | 0=>[]
 | n+1=>z++I3 z n
def Yn (V:Cx)(dst:Option Tmp)(t:TypeId)(l c:Operand)(σ:St):Option (Prop × St):=match kd V.Γ t with
 | some (.slice e)=>match V.Γ e with
   | some ti=>match ev σ.t l with
     | some (.int _ l)=>match ev σ.t c with
       | some (.int _ c)=>some (0≤l∧l≤c∧(ti.bytes:Int) * c≤281474976710656∧c≤9223372036854775807∧0<ti.size,⟨put dst (.o σ.b.length l.toNat) σ.t,σ.b++[.own (I3 ti.zero l.toNat) e ti.size l.toNat true]⟩)
       | _=>none
     | _=>none
   | none=>none
 | _=>none
def Yi (s:Nat):Nat→List (Nat × SV)→Option (List SV)
 | _,[]=>some []
 | k,(i,x)::r=>if i=k∧Ip x=false∧(cells x).length=s then match Yi s (k+1) r with
    | some c=>some (cells x++c)
    | none=>none
   else none
def Xa (V:Cx)(dst:Option Tmp)(t:TypeId)(n:Nat)(ps:List (Nat × Operand))(σ:St):Option (Prop × St):=match kd V.Γ t with
 | some (.slice e)=>match V.Γ e with
   | some ti=>match Xl σ.t ps with
     | some ps=>match Yi ti.size 0 ps with
       | some c=>some (ps.length=n∧n * ti.size≤16777216∧0<ti.size,⟨put dst (.o σ.b.length n) σ.t,σ.b++[.own c e ti.size n true]⟩)
       | none=>none
     | none=>none
   | none=>none
 | _=>none
def Ym (bs:List aq)(k:Int):SV→Option (Prop × SV)
 | .o i n=>match bs[i]? with
   | some (.own _ _ s n' _)=>some (n'=n∧0<s∧0≤k∧k<n,.p i (k.toNat * s))
   | _=>none
 | _=>none
def Xc (V:Cx)(dst:Option Tmp)(t:TypeId)(x i:Operand)(σ:St):Option (Prop × St):=match kd V.Γ t with
 | some (.slice e)=>match sz V.Γ e with
   | some s=>match ev σ.t x with
     | some x=>match ev σ.t i with
       | some (.int _ k)=>match Ym σ.b k x with
         | some (c,y)=>some (c∧oN σ.b x s,⟨put dst y σ.t,σ.b⟩)
         | none=>none
       | _=>none
     | none=>none
   | none=>none
 | _=>none
where oN (bs:List aq) (x:SV) (s:Nat):Prop:=match x with
 | .o i _=>match bs[i]? with
   | some (.own _ _ s' _ _)=>s'=s
   | _=>False
 | _=>False
def reS (bs:List aq)(lo hi:Option SV):SV→Option (Prop × Nat × List aq)
 | .o i n=>match bs[i]? with
   | some (.own c e s n' m)=>match AW n lo hi with
     | some (k,f,u)=>match lo with
       | none=>match m with
         | true=>some (k∧n'=n∧0<s,u,bs.set i .gone++[.own (c.take (u * s)) e s u true])
         | false=>some (k∧n'=n∧0<s,u,bs++[.own (c.take (u * s)) e s u false])
       | some _=>some (k∧n'=n∧0<s,u - f,bs.set i (.own c e s n' false)++[.own ((c.take (u * s)).drop (f * s)) e s (u - f) false])
     | none=>none
   | _=>none
 | _=>none
def Xj (V:Cx)(dst:Option Tmp)(t:TypeId)(x:Operand)(lo hi:Option Operand)(σ:St):Option (Prop × St):=match kd V.Γ t with
 | some (.slice e)=>match sz V.Γ e with
   | some s=>match ev σ.t x with
     | some x=>match tx σ.t lo with
       | some lo=>match tx σ.t hi with
         | some hi=>match reS σ.b lo hi x with
           | some (c,n,bs)=>some (c∧Xc.oN σ.b x s,⟨put dst (.o σ.b.length n) σ.t,bs⟩)
           | none=>none
         | none=>none
       | none=>none
     | none=>none
   | none=>none
 | _=>none
def HX (bs:List aq)(s:Nat)(hi mx:Int):SV→Option (Prop × SV)
 | .o i n=>match bs[i]? with
   | some (.own _ _ s' n' _)=>some (n'=n∧s'=s∧hi=(n:Int)∧mx=(n:Int),.f i n)
   | _=>none
 | .ai=>some (hi=0∧mx=0,.ai)
 | _=>none
def Jp (V:Cx)(dst:Option Tmp)(t:TypeId)(x hi mx:Operand)(σ:St):Option (Prop × St):=match kd V.Γ t with
 | some (.slice e)=>match sz V.Γ e with
   | some s=>match ev σ.t x with
     | some x=>match ev σ.t hi with
       | some (.int _ hi)=>match ev σ.t mx with
         | some (.int _ mx)=>match HX σ.b s hi mx x with
           | some (c,y)=>some (c,⟨put dst y σ.t,σ.b⟩)
           | none=>none
         | _=>none
       | _=>none
     | none=>none
   | none=>none
 | _=>none
def Yb (V:Cx)(dst:Option Tmp)(src d:TypeId)(x:Operand)(σ:St):Option (Prop × St):=match kd V.Γ src with
 | some .str=>match kd V.Γ d with
   | some (.slice e)=>match kd V.Γ e with
     | some (.int .u8)=>match ev σ.t x with
       | some (.str l)=>some (l.length≤maxLen,⟨put dst (.o σ.b.length l.length) σ.t,σ.b++[.own (l.map eb) e 1 l.length true]⟩)
       | _=>none
     | _=>none
   | _=>none
 | some (.slice e)=>match kd V.Γ d with
   | some .str=>match kd V.Γ e with
     | some (.int .u8)=>match ev σ.t x with
       | some .ai=>some (True,⟨put dst (.str []) σ.t,σ.b⟩)
       | some (.o i n)=>match σ.b[i]? with
         | some (.own c _ s n' _)=>some (n'=n∧s=1∧c.all BE=true,⟨put dst (.str (c.map vP)) σ.t,σ.b⟩)
         | _=>none
       | _=>none
     | _=>none
   | _=>none
 | _=>none
def mmS (min:Bool):SV→SV→Option SV
 | .int k x,.int _ y=>some (.int k (if min then(if y<x then y else x) else(if x<y then y else x)))
 | _,_=>none
def Xq (min:Bool)(dst:Option Tmp)(args:List Operand)(σ:St):Option (Prop × St):=match args with
 | [x,y]=>match ev σ.t x with
   | some x=>match ev σ.t y with
     | some y=>(mmS min x y).map fun z=>(True,⟨put dst z σ.t,σ.b⟩)
     | none=>none
   | none=>none
 | _=>none
def Yl (V:Cx)(dst:Option Tmp):Op→St→Option (Prop × St)
 | .call ⟨.builtin .append,args,ts⟩,σ=>Xm V dst args.toList ts.toList σ
 | .call ⟨.builtin .min,args,_⟩,σ=>Xq true dst args.toList σ
 | .call ⟨.builtin .max,args,_⟩,σ=>Xq false dst args.toList σ
 | .makeSlice t l c,σ=>Yn V dst t l c σ
 | .buildSlice t n ps,σ=>Xa V dst t n ps.toList σ
 | .indexAddr t x i,σ=>Xc V dst t x i σ
 | .slice t x lo hi none,σ=>Xj V dst t x lo hi σ
 | .slice t x none (some hi) (some mx),σ=>Jp V dst t x hi mx σ
 | .convert s d x,σ=>Yb V dst s d x σ
 | _,_=>none
section
variable {V:Cx} {F:Fx V} {β:Nat→Bt} {fp:Nat→Nat→Prop} {bs:List aq} {w:World} {t:List (Nat × SV)} {a:Act}
theorem Wd.own (h:Wd F β fp bs w){i n s e:Nat}{c:List SV}{m:Bool}(hi:bs[i]? = some (.own c e s n m)){β':Nat→Bt}(hβ:cP bs.length β β'):Holds β' (β' i) (fp i) w (.own c e s n m):=(h.bx β' hβ).holds i _ hi
theorem own_len (h:Wd F β fp bs w){i n s e:Nat}{c:List SV}{m:Bool}(hi:bs[i]? = some (.own c e s n m)):c.length=n * s:=by
 rcases h.own hi (cP.refl _ β) with⟨-,rfl,rfl,-⟩|⟨-,-,-,h4,-⟩
 ·simp
 ·exact h4
theorem IQ (h:Wd F β fp bs w){s:Nat}(hs:0<s){x:SV}{m:Nat}{xs:List SV}(hx:rV bs s x=some (m,xs)){β':Nat→Bt}(hβ:cP bs.length β β')(w':World)(hw':w'.heap=w.heap)(P:Program) :
 (Builtin.lenOf (aj β' x)).run P w'=Result.ok m w'∧(Builtin.firstCells s m (aj β' x)).run P w'=Result.ok (xs.map (aj β')).toArray w'∧xs.length=m * s:=by
 unfold rV at hx;split at hx
 ·cases hx
  simp[aj,Builtin.lenOf,Builtin.firstCells]
 ·rename_i l
  split at hx
  ·rename_i uY
   cases hx
   subst uY;refine⟨by simp[aj,Builtin.lenOf];rfl,?_,QB⟩;simp only[aj,Builtin.firstCells,Sem.run_pure];congr 1
   apply zQ8
   have e:(⟨zQW l⟩:ByteArray).extract 0 l.length=⟨zQW l⟩:=by rw[fN];simp
   rw[e];simp[eb,aj,Function.comp_def]
  ·cases hx
 ·rename_i j m'
  split at hx
  ·rename_i c e s' n mn hj
   split at hx
   ·rename_i hc
    obtain⟨rfl,rfl⟩:=hc;cases hx
    have hl:=own_len h hj;have ho:=h.own hj hβ;refine⟨?_,?_,hl⟩
    ·simp only[aj,oV];split <;> simp[Builtin.lenOf]
    ·simp only[aj,oV]
     rcases ho with⟨h1,h2,h3,-⟩|⟨h1,-,-,-,h5,-⟩
     ·rw[if_pos h1];subst h3;simp[Builtin.firstCells]
     ·rw[if_neg h1]
      refine run_firstCells_some (P:=P) w' _ _ _ _ _ _ (by simpa using hl) (fun j v hv=>?_);rw[fe];have:=h5 j v hv
      rw[← this];exact World.cell?_of_block (w:=w) (by rw[hw'])
   ·cases hx
  ·cases hx
 ·cases hx
theorem DH {P:Program}(w:World)(t u ty e:TypeId)(i:TypeInfo)(ht:P.underlying t=some (.slice e)){d:TypeDesc}(hu:P.underlying u=some d)(hd:d=.string∨∃ e',d=.slice e')(hi:P.info? e=some i)
 (g lR sCap m:Nat) (x:Value) (news:List Value) (hlen:(Builtin.lenOf x).run P w=Result.ok m w) (hf:(Builtin.firstCells i.size m x).run P w=Result.ok news.toArray w) (G5:lR+m≤sCap) {w':World}
 (jg:(storeCells ⟨g,lR * i.size,none⟩ news).run P w=Result.ok () w') :
 (Builtin.append_ #[t,u] ty #[.slice (some ⟨g,0,none⟩) lR sCap,x]).run P w=Result.ok (.slice (some ⟨g,0,none⟩) (lR+m) sCap) w':=by
 rcases hd with rfl|⟨e',rfl⟩ <;> simp[Builtin.append_,run_underlying ht,run_underlying hu,Go.sizeOf,typeInfo,hi,hlen,G5,hf,fe,jg]
theorem DI {P:Program}(w:World)(t u ty e:TypeId)(i:TypeInfo)(z:Value)(ht:P.underlying t=some (.slice e)){d:TypeDesc}(hu:P.underlying u=some d)(hd:d=.string∨∃ e',d=.slice e')(hi:P.info? e=some i)(hz:i.zero=some z)
 (b:Option Addr) (lR sCap m:Nat) (x:Value) (olds news:List Value) (hlen:(Builtin.lenOf x).run P w=Result.ok m w) (hf:(Builtin.firstCells i.size m x).run P w.drew=Result.ok news.toArray w.drew)
 (ho:(Builtin.firstCells i.size lR (.slice b lR sCap)).run P w.drew=Result.ok olds.toArray w.drew)
 (hg:sCap<lR+m) (yq:lR+m≤maxLen) (wM:(lR+m) * i.bytes≤140737488355328) :
 (Builtin.append_ #[t,u] ty #[.slice b lR sCap,x]).run P w =
  Result.ok (.slice (some ⟨w.heap.size,0,none⟩) (lR+m) (grownCap w (lR+m) sCap e)) (w.drew.alloc (.cells ((olds++news).toArray++Builtin.zeroCells z.cells (grownCap w (lR+m) sCap e - (lR+m))) e)):=by
 have hn:¬ (lR+m≤sCap):=QA;have h63':¬ (9223372036854775807<((lR:Int)+(m:Int))):=by unfold maxLen at yq;omega
 have h48':¬ (281474976710656<Builtin.nextslicecap (lR+m) sCap * i.bytes):=by have:=growslice_fits hg wM;omega
 rcases hd with rfl|⟨e',rfl⟩ <;> simp[Builtin.append_,run_underlying ht,run_underlying hu,Go.sizeOf,typeInfo,zeroValue,hi,hz,hlen,hn,h63',h48',Question.forced,hf,ho,newRow,grownCap]
 all_goals
  congr 2
  apply zQ8
  simp
theorem lv {w:World}{g cap e s n:Nat}{c:List SV}{β':Nat→Bt}{rest:List Value}{fz:Nat × Nat}(hh:w.heap[g]? = some (.cells (c.map (aj β')++rest).toArray e fz))(hfz:c.length+rest.length≤fz.1∨fz.2≤fz.1)(hc:c.length=n * s)(hn:n≤cap)(Ar:cap≤maxLen)(lZ:c.length+rest.length=cap * s) :
 Holds β' ⟨g,0,cap+1⟩ (·=g) w (.own c e s n true):=by
 have hd:Head w g e (c.map (aj β')) rest fz:=⟨hh,QC⟩;exact .inr ⟨QB,hn,Ar,hc,hd.wE,fun _=>⟨rfl,rest,fz,hd,hfz,lZ⟩,fun k=>Iff.rfl⟩
theorem holds_nil {w:World}{e s:Nat}{β':Nat→Bt}{m:Bool}:Holds β' ⟨0,0,0⟩ (fun _=>False) w (.own [] e s 0 m):=.inl ⟨rfl,rfl,rfl,QB⟩
theorem Lb {e s:Nat}{sv:SV}{n:Nat}{c:List SV}{bs2:List aq}(h:vq bs e s sv=some (n,c,bs2)):bs2.length=bs.length:=by
 unfold vq at h;split at h
 ·cases h;rfl
 ·split at h
  ·split at h
   ·cases h;simp
   ·cases h
  ·cases h
 ·split at h
  ·split at h
   ·cases h;rfl
   ·cases h
  ·cases h
 ·cases h
theorem Ew {w:World}{b:Nat}{x:Obj}(h:w.heap[b]? = some x):b<w.heap.size:=(zQL.1 h).1
theorem La (h:Wd F β fp bs w){e s:Nat}{sv:SV}{n:Nat}{c:List SV}{bs2:List aq}(hs:vq bs e s sv=some (n,c,bs2)){w':World}(hb:Below w.heap.size w w')(r:aq)(b:Bt)(f:Nat→Prop)
 (hr:∀ β',cP (bs.length+1) (qh β bs.length b) β'→Holds β' b f w' r) (hf:∀ k,f k→w.heap.size≤k∧k<w'.heap.size):∃ fp₂,Wd F (qh β bs.length b) fp₂ (bs2++[r]) w':=by
 unfold vq at hs;split at hs
 ·cases hs;exact⟨_,h.more hb r b f hr hf⟩
 ·split at hs
  ·rename_i hj
   split at hs
   ·cases hs
    exact⟨_,h.swap hj rfl (tW.kg hb) r b f hr (fun k hk=>⟨.inr (hf k hk).1,(hf k hk).2⟩)⟩
   ·cases hs
  ·cases hs
 ·split at hs
  ·split at hs
   ·cases hs;exact⟨_,h.more hb r b f hr hf⟩
   ·cases hs
  ·cases hs
 ·cases hs
theorem app_ok (h:Wd F β fp bs w){t u e s:Nat}(ht:V.P.underlying t=some (.slice e)){d:TypeDesc}(hu:V.P.underlying u=some d)(hd:d=.string∨∃ e',d=.slice e'){ti:TI}(o7:V.Γ e=some ti)(lZ:ti.size=s)(kN:0<s)
 {sv xv:SV} {n m:Nat} {c xs:List SV} {bs2:List aq} (hs:vq bs e s sv=some (n,c,bs2)) (hx:rV bs s xv=some (m,xs)) (hxv:∀ β',cP bs.length β β'→aj β xv=aj β' xv) (h1:xs.all one=true) (yq:n+m≤maxLen) (hby:(n+m) * ti.bytes≤140737488355328) (h0m:HY sv=true→0<m) (ty:TypeId) :
 ∃ b fp₂ w',(Builtin.append_ #[t,u] ty #[aj β sv,aj β xv]).run V.P w=Result.ok (oV b (n+m)) w'∧Wd F (qh β bs.length b) fp₂ (bs2++[.own (c++xs) e s (n+m) true]) w':=by
 obtain⟨i,z,hi,hz,wJ,O8,Ir⟩:=(V.kF e ti o7).info;have Iq:=(V.kF e ti o7).len;have hiss:i.size=s:=wJ.trans lZ;obtain⟨u3,Ix,o6⟩:=IQ h kN hx (cP.refl _ β) w rfl V.P;obtain⟨mF,qk,-⟩:=IQ h kN hx (cP.refl _ β) w.drew rfl V.P;have hxa:∀ β',cP bs.length β β'→xs.map (aj β)=xs.map (aj β'):=fun β' hβ=>by
  have h2:=(IQ h kN hx hβ w rfl V.P).2.1;rw[← hxv β' hβ,Ix]at h2;injection h2 with h2
  simpa using h2
 rw[← hiss]at Ix qk;have hzs:z.cells.size=s:=by rw[Ir];simp[Iq,lZ]
 -- a new row
 have grow:∀ (b:Option Addr) (cap:Nat) (hca:∀ β',cP bs.length β β'→c.map (aj β)=c.map (aj β')) (fY:c.length=n * s),(Builtin.firstCells i.size n (.slice b n cap)).run V.P w.drew=Result.ok (c.map (aj β)).toArray w.drew→cap<n+m →
  ∃ b' fp₂ w',(Builtin.append_ #[t,u] ty #[.slice b n cap,aj β xv]).run V.P w=Result.ok (oV b' (n+m)) w'∧Wd F (qh β bs.length b') fp₂ (bs2++[.own (c++xs) e s (n+m) true]) w':=fun b cap hca fY ho hg=>by
  have dU:=DI (P:=V.P) w t u ty e i z ht hu hd hi hz b n cap m (aj β xv) (c.map (aj β)) (xs.map (aj β)) u3 qk ho hg yq (by rw[O8];exact hby);have sL:=grownCap_ge w (n+m) cap e;have hle:=grownCap_le_maxLen w (n+m) cap e yq;generalize grownCap w (n+m) cap e=cap' at dU sL hle;have hwd0:∃ fp₂,Wd F (qh β bs.length ⟨w.heap.size,0,cap'+1⟩) fp₂ (bs2++[.own (c++xs) e s (n+m) true]) (w.drew.alloc (.cells ((c.map (aj β)++xs.map (aj β)).toArray++Builtin.zeroCells z.cells (cap' - (n+m))) e)):=by
   refine La h hs (((Below.refl _ _).drew).alloc (zQK _) _) (.own (c++xs) e s (n+m) true) ⟨w.heap.size,0,cap'+1⟩ (·=w.heap.size) (fun β' hβ=>?_) (fun k hk=>?_)
   ·refine lv (rest:=(Builtin.zeroCells z.cells (cap' - (n+m))).toList) (fz:=(0,0)) ?_ (.inr (zQK _)) (by rw[zQH,fY,o6,zQZ]) sL hle ?_
    ·have e1:=eK w.drew (.cells ((c.map (aj β)++xs.map (aj β)).toArray++Builtin.zeroCells z.cells (cap' - (n+m))) e)
     have e2:w.drew.heap.size=w.heap.size:=rfl;rw[e2]at e1;rw[e1,hca β' hβ.gd,hxa β' hβ.gd];congr 2
     apply zQ8
     simp
    ·rw[zQH,fY,o6]
     simp only[Array.length_toList,size_zeroCells,hzs];rw[← zQZ,← zQZ];congr 1
     omega
   ·subst hk
    exact⟨zQK _,by rw[size_alloc];exact zQY _⟩
  obtain⟨fp₂,tS⟩:=hwd0;exact⟨⟨w.heap.size,0,cap'+1⟩,fp₂,_,by rw[dU];simp[oV],tS⟩
 -- nothing at all
 have none0:c=[]→n=0→∃ b' fp₂ w',(Builtin.append_ #[t,u] ty #[.slice none 0 0,aj β xv]).run V.P w=Result.ok (oV b' (n+m)) w'∧Wd F (qh β bs.length b') fp₂ (bs2++[.own (c++xs) e s (n+m) true]) w':=fun kn kj=>by
  subst kn kj;by_cases hm:m=0
  ·subst hm
   have hxs:xs=[]:=zQR (by rw[o6];simp);subst hxs;obtain⟨fp₂,tS⟩:=La h hs (Below.refl _ w) (.own [] e s 0 true) ⟨0,0,0⟩ (fun _=>False) (fun β' _=>holds_nil) (fun k hk=>hk.elim);refine⟨⟨0,0,0⟩,fp₂,w,?_,tS⟩;rcases hd with rfl|⟨e',rfl⟩ <;> simp[Builtin.append_,run_underlying ht,run_underlying hu,Go.sizeOf,typeInfo,hi,u3,Ix,oV]
  ·exact grow none 0 (fun _ _=>rfl) QB (by simp[Builtin.firstCells]) QA
 have hs':=hs;unfold vq at hs';split at hs'
 ·cases hs'
  simpa[aj] using none0 rfl rfl
 ·rename_i j n0
  split at hs'
  ·rename_i c0 e0 s0 n1 hj
   split at hs'
   ·rename_i xU
    obtain⟨rfl,rfl,rfl⟩:=xU;cases hs'
    have ho:=h.own hj (cP.refl _ β);rcases ho with⟨k1,k2,k3,-⟩|⟨k1,k2,k3,k4,k5,k6,k7⟩
    ·have:=none0 k3 k2
     simp only[aj,oV,if_pos k1];rw[k2]at this ⊢;exact this
    ·obtain⟨k8,rest,fz,k9,k10,k11⟩:=k6 rfl
     have hjlt:j<bs.length:=(zQM.1 hj).1;have hgj:ko bs j=some (c,e0,true):=by simp[ko,hj]
     simp only[aj,oV,if_neg k1];by_cases G5:n+m≤(β j).cap - 1
     ·have fY:(c.map (aj β)).length=n * s0:=by simpa using k4
      have hmul:n * s0+m * s0≤((β j).cap - 1) * s0:=by rw[← zQZ];exact zQ4 _ G5
      have jg:=jo (P:=V.P) (β j).fy (n * s0) e0 fz (xs.map (aj β)) 0 _ w k9.1 QC QC (fun v hv=>by
       simp only[List.mem_map]at hv;obtain⟨x,hx',rfl⟩:=hv;exact xG (zQI.1 h1 x hx') β)
      have e1:(List.take (n * s0+0) (c.map (aj β)++rest)++xs.map (aj β)++List.drop (n * s0+0+(xs.map (aj β)).length) (c.map (aj β)++rest))=(c++xs).map (aj β)++rest.drop (m * s0):=by
       simp only[Nat.add_zero,zRm];rw[List.take_append_of_le_length QA,List.take_of_length_le QA,List.drop_append,List.drop_of_length_le QC];simp[o6,k4]
      simp only[e1]at jg;have dU:=DH (P:=V.P) w t u ty e0 i ht hu hd hi (β j).fy n ((β j).cap - 1) m (aj β xv) (xs.map (aj β)) u3 Ix G5 (by rw[hiss];exact jg);have wI:=setRow_heap w (β j).fy _ ((c++xs).map (aj β)++rest.drop (m * s0)).toArray _ _ k9.1;have hcb:(β j).cap - 1+1=(β j).cap:=QA;have tS:=h.swap hj rfl (w':=w.setRow (β j).fy ((c++xs).map (aj β)++rest.drop (m * s0)).toArray) ⟨rfl,rfl,rfl,QB,fun k hk hn=>setRow_other _ _ _ _ (fun ek=>hn ((k7 k).2 ek))⟩ (.own (c++xs) e0 s0 (n+m) true) ⟨(β j).fy,0,(β j).cap - 1+1⟩ (·=(β j).fy) (fun β' hβ=>?_) (fun k hk=>?_)
      ·refine⟨⟨(β j).fy,0,(β j).cap - 1+1⟩,_,_,?_,tS⟩
       rw[k8,dU];simp[oV]
      ·refine lv (rest:=rest.drop (m * s0)) (fz:=fz) ?_ ?_ (by rw[zQH,k4,o6,zQZ]) G5 k3 ?_
       ·rw[wI,zRm,h.H9 hgj hβ.gd,hxa β' hβ.gd,← zRm]
       ·simp only[zQH,List.length_drop]
        rcases k10 with k10|k10
        ·left;omega
        ·exact .inr k10
       ·simp only[zQH,List.length_drop]
        omega
      ·subst hk
       refine⟨.inl ((k7 _).2 rfl),?_⟩;rw[setRow_size];exact Ew k9.1
     ·refine grow _ _ (fun β' hβ=>h.H9 hgj hβ) k4 ?_ QA
      rw[hiss];refine run_firstCells_some (P:=V.P) w.drew s0 n _ n _ (c.map (aj β)) (by simpa using k4) (fun q v hv=>?_);rw[fe];exact k5 q v hv
   ·cases hs'
  ·cases hs'
 ·rename_i j n0
  split at hs'
  ·rename_i c0 e0 s0 n1 m1 hj
   split at hs'
   ·rename_i xU
    obtain⟨rfl,rfl,rfl⟩:=xU;cases hs'
    have JG:0<m:=h0m rfl;have hgj:ko bs j=some (c,e0,m1):=by simp[ko,hj]
    have ho:=h.own hj (cP.refl _ β);rcases ho with⟨k1,k2,k3,-⟩|⟨k1,k2,k3,k4,k5,k6,k7⟩
    ·have:=none0 k3 k2
     simp only[aj,fV,if_pos k1];rw[k2]at this ⊢;exact this
    ·simp only[aj,fV,if_neg k1]
     refine grow _ _ (fun β' hβ=>h.H9 hgj hβ) k4 ?_ QA;rw[hiss];refine run_firstCells_some (P:=V.P) w.drew s0 n _ n _ (c.map (aj β)) (by simpa using k4) (fun q v hv=>?_);rw[fe];exact k5 q v hv
   ·cases hs'
  ·cases hs'
 ·cases hs'
theorem Wd.split (h:Wd F β fp bs w){i:Nat}{r0:aq}(hi:bs[i]? = some r0)(r1 r:aq)(b:Bt)(f1 f:Nat→Prop)(h1:∀ β',cP bs.length β β'→Holds β' (β' i) f1 w r1)(tU:r1.dD=false)(Ix:∀ k,f1 k→fp i k)
 (hr:∀ β',cP (bs.length+1) (qh β bs.length b) β'→Holds β' b f w r) (hf:∀ k,f k→fp i k) (hm:r.dD=true→r0.dD=true∧∀ k,¬ f1 k) :
 Wd F (qh β bs.length b) (fun j k=>if j=bs.length then f k else if j=i then f1 k else fp j k) (bs.set i r1++[r]) w:=by
 have yk:i<bs.length:=(zQM.1 hi).1;have old:∀ {j:Nat} {r':aq},(bs.set i r1++[r])[j]? = some r'→(j<bs.length∧j≠i∧bs[j]? = some r')∨(j=i∧r'=r1)∨(j=bs.length∧r'=r):=fun {j r'} hj=>by
  rcases zQ6 j bs.length with az|sL
  ·rw[zQN (by simpa using az)]at hj
   by_cases oo:j=i
   ·subst oo
    rw[List.getElem?_set_self yk]at hj;exact .inr (.inl ⟨rfl,by simpa using hj.symm⟩)
   ·rw[zRf (fun e=>oo e.symm)]at hj
    exact .inl ⟨az,oo,hj⟩
  ·have hj':j=bs.length:=by
    have:=(zQM.1 hj).1
    rw[zQH,zQO,List.length_set]at this;omega
   subst hj';rw[zQQ QB]at hj;simp at hj
   exact .inr (.inr ⟨rfl,hj.symm⟩)
 have dK:=h.bx β (cP.refl _ _);have fo:∀ {j:Nat},j<bs.length→j≠i→(fun k=>if j=bs.length then f k else if j=i then f1 k else fp j k)=fp j:=fun {j} hj bF=>by funext k;simp[show j≠bs.length by omega,bF]
 have fi:(fun k=>if i=bs.length then f k else if i=i then f1 k else fp i k)=f1:=by funext k;simp[show i≠bs.length by omega]
 have fn:(fun k=>if bs.length=bs.length then f k else if bs.length=i then f1 k else fp bs.length k)=f:=by funext k;simp
 refine⟨h.fr,fun β' hβ=>?_,fun j r' hj hm' k hk=>?_,?_,fun j r' hj k hk=>?_⟩
 ·rw[zQH,zQO,List.length_set]at hβ
  have hb':=h.bx β' hβ.gd;have mc:β' bs.length=b:=by rw[← hβ bs.length QA,jP]
  refine⟨fun j r' hj=>?_,fun j r' hj k hk=>?_,fun j l r2 r3 hj hl bF jW k hk hk'=>?_⟩
  ·rcases old hj with⟨az,bF,fU⟩|⟨ej,e2⟩|⟨ej,e2⟩
   ·simp only[fo az bF];exact hb'.holds j r' fU
   ·subst ej e2
    rw[fi];exact h1 β' hβ.gd
   ·subst ej e2
    rw[fn,mc];exact hr β' hβ
  ·rcases old hj with⟨az,bF,fU⟩|⟨ej,e2⟩|⟨ej,e2⟩
   ·simp only[if_neg (show j≠bs.length by omega),if_neg bF]at hk
    exact dK.lt j r' fU k hk
   ·subst ej
    simp only[if_neg (show j≠bs.length by omega),if_true]at hk;exact dK.lt j r0 hi k (Ix k hk)
   ·subst ej
    simp only[if_true]at hk;exact dK.lt i r0 hi k (hf k hk)
  ·rcases old hj with⟨az,hnj,fU⟩|⟨ej,e2⟩|⟨ej,e2⟩
   ·simp only[if_neg (show j≠bs.length by omega),if_neg hnj]at hk
    rcases old hl with⟨hlt',tF,mF⟩|⟨el,e3⟩|⟨el,e3⟩
    ·simp only[if_neg (show l≠bs.length by omega),if_neg tF]at hk'
     exact dK.sep j l r2 r3 fU mF bF jW k hk hk'
    ·subst el e3
     simp only[if_neg (show l≠bs.length by omega),if_true]at hk';rcases jW with jW|jW
     ·exact dK.sep j l r2 r0 fU hi hnj (.inl jW) k hk (Ix k hk')
     ·rw[tU]at jW;cases jW
    ·subst el e3
     simp only[if_true]at hk';rcases jW with jW|jW
     ·exact dK.sep j i r2 r0 fU hi hnj (.inl jW) k hk (hf k hk')
     ·exact dK.sep j i r2 r0 fU hi hnj (.inr (hm jW).1) k hk (hf k hk')
   ·subst ej e2
    simp only[if_neg (show j≠bs.length by omega),if_true]at hk;rcases old hl with⟨hlt',tF,mF⟩|⟨el,e3⟩|⟨el,e3⟩
    ·simp only[if_neg (show l≠bs.length by omega),if_neg tF]at hk'
     rcases jW with jW|jW
     ·rw[tU]at jW;cases jW
     ·exact dK.sep l j r3 r0 mF hi tF (.inl jW) k hk' (Ix k hk)
    ·exact bF el.symm
    ·subst el e3
     rcases jW with jW|jW
     ·rw[tU]at jW;cases jW
     ·exact(hm jW).2 k hk
   ·subst ej e2
    simp only[if_true]at hk;rcases old hl with⟨hlt',tF,mF⟩|⟨el,e3⟩|⟨el,e3⟩
    ·simp only[if_neg (show l≠bs.length by omega),if_neg tF]at hk'
     rcases jW with jW|jW
     ·exact dK.sep l i r3 r0 mF hi tF (.inr (hm jW).1) k hk' (hf k hk)
     ·exact dK.sep l i r3 r0 mF hi tF (.inl jW) k hk' (hf k hk)
    ·subst el e3
     simp only[if_neg (show l≠bs.length by omega),if_true]at hk';rcases jW with jW|jW
     ·exact(hm jW).2 k hk'
     ·rw[tU]at jW;cases jW
    ·exact bF el.symm
 ·rcases old hj with⟨az,bF,fU⟩|⟨ej,e2⟩|⟨ej,e2⟩
  ·simp only[if_neg (show j≠bs.length by omega),if_neg bF]at hk
   exact h.dD j r' fU hm' k hk
  ·subst e2;rw[tU]at hm';cases hm'
  ·subst ej e2
   simp only[if_true]at hk;exact h.dD i r0 hi (hm hm').1 k (hf k hk)
 ·have hl:=h.A9.len
  exact⟨fun j hj=>(h.A9.H9 j hj).trans (iF β _ _ j QA),by rw[zQH,List.length_set];omega⟩
 ·rcases old hj with⟨az,bF,fU⟩|⟨ej,e2⟩|⟨ej,e2⟩
  ·simp only[if_neg (show j≠bs.length by omega),if_neg bF]at hk
   exact h.se j r' fU k hk
  ·subst ej
   simp only[if_neg (show j≠bs.length by omega),if_true]at hk;exact h.se j r0 hi k (Ix k hk)
  ·subst ej
   simp only[if_true]at hk;exact h.se i r0 hi k (hf k hk)
theorem H6 {n cap:Nat}(hle:n≤cap){lo hi:Option SV}{c:Prop}{f u:Nat}{β:Nat→Bt}(h:AW n lo hi=some (c,f,u))(hc:c)(P:Program)(w:World) :
 (Instr.sliceBounds true n cap (lo.map (aj β)) (hi.map (aj β)) none).run P w=Result.ok (f,u,cap) w∧f≤u∧u≤n∧(lo=none→f=0):=by
 unfold AW at h;split at h <;> simp only[zQ0.injEq,Prod.mk.injEq,reduceCtorEq]at h
 all_goals
  obtain⟨rfl,rfl,rfl⟩:=h;refine⟨?_,QA,QA,QB⟩;simp[aj,Instr.sliceBounds,Instr.sliceBound,asIntOf,go_sem];try omega
 rw[if_pos QA,if_pos QA]
theorem NJ {e s:Nat}(hs:sz V.Γ e=some s)(w:World):(Go.sizeOf e).run V.P w=Result.ok s w:=by
 unfold sz at hs;cases Ab:V.Γ e with
 | none=>simp[Ab]at hs
 | some ti=>simp[Ab]at hs;rw[← hs];exact(V.kF e ti Ab).size w
theorem Md {w:World}{b off:Nat}{vs:List Value}(h:rF w b off vs)(k j:Nat):rF w b (off+k) ((vs.take j).drop k):=fun q v hv=>by
 have h1:=h (k+q) v (by
  rw[List.getElem?_drop]at hv;rw[List.getElem?_take]at hv;split at hv
  ·exact hv
  ·cases hv)
 rw[Nat.add_assoc];exact h1
theorem re_ok (h:Wd F β fp bs w){t e s:Nat}(ht:V.P.underlying t=some (.slice e))(hz:(Go.sizeOf e).run V.P w=Result.ok s w){lo hi:Option SV}{x:SV}{c0:Prop}{n0:Nat}{bs2:List aq}(ha:reS bs lo hi x=some (c0,n0,bs2))(hc:c0)(hsi:Xc.oN bs x s) :
 ∃ b fp₂,(Instr.sliceAt t (aj β x) (lo.map (aj β)) (hi.map (aj β)) none).run V.P w=Result.ok (oV b n0) w∧bs2.length=bs.length+1∧Wd F (qh β bs.length b) fp₂ bs2 w:=by
 unfold reS at ha;split at ha
 ·rename_i i n
  split at ha
  ·rename_i c e' s' n' m hi'
   simp only[Xc.oN,hi']at hsi;subst hsi;have yk:i<bs.length:=(zQM.1 hi').1;split at ha
   ·rename_i k f u hb
    have hsame:k∧n'=n∧0<s':=by
     (repeat' split at ha) <;> (cases ha;exact hc)
    obtain⟨hk,rfl,kN⟩:=hsame;have ho:=h.own hi' (cP.refl _ β);have hgi:ko bs i=some (c,e',m):=by simp[ko,hi']
    -- the new slice, as a thing that may only be read
    have wI:∃ b,(Instr.sliceAt t (aj β (.o i n')) (lo.map (aj β)) (hi.map (aj β)) none).run V.P w=Result.ok (oV b (u - f)) w∧f≤u∧u≤n'∧(lo=none→f=0) ∧
     (∀ m',(m'=true→m=true∧lo=none)→∀ β',cP (bs.length+1) (qh β bs.length b) β'→Holds β' b (fp i) w (.own ((c.take (u * s')).drop (f * s')) e' s' (u - f) m')):=by
     rcases ho with⟨h1,h2,h3,h4⟩|⟨h1,h2,h3,h4,h5,h6,h7⟩
     ·subst h2 h3
      obtain⟨hsb,hfu,OR,hlo⟩:=H6 (β:=β) (zQK 0) hb hk V.P w;have hu:u=0:=QA;have hf:f=0:=QA;subst hu hf;refine⟨⟨0,0,0⟩,?_,zQK _,zQK _,fun _=>rfl,fun m' _ β' _=>.inl ⟨rfl,rfl,QB,h4⟩⟩;simp only[aj,oV,if_pos h1];simp[Instr.sliceAt,Instr.slice,run_underlying ht,hsb,hz]
     ·obtain⟨hsb,hfu,OR,hlo⟩:=H6 (β:=β) h2 hb hk V.P w
      refine⟨⟨(β i).fy,if (β i).cap - 1=f then(β i).off else(β i).off+f * s',(β i).cap - 1 - f+1⟩,?_,hfu,OR,hlo,fun m' hm' β' hβ=>.inr ⟨QB,QC,QC,?_,?_,fun hm=>?_,h7⟩⟩
      ·simp only[aj,oV,if_neg h1]
       simp only[Instr.sliceAt,Instr.slice,run_underlying ht,hsb,hz,Sem.run_bind,Result.andThen_ok,Sem.run_pure,zQP,fe];simp
       split <;> rfl
      ·rw[List.length_drop,List.length_take,h4,Nat.min_eq_left (zQ4 _ OR),Nat.sub_mul]
      ·have:=Md h5 (f * s') (u * s')
       rw[h.H9 hgi hβ.gd]at this;rw[List.map_drop,List.map_take];by_cases Pk:(β i).cap - 1=f
       ·have:u=f:=QA
        subst this;intro q v hv;rw[List.drop_of_length_le (by rw[List.length_take];exact Nat.min_le_left _ _)]at hv;cases hv
       ·simp only[if_neg Pk]
        exact this
      ·obtain⟨tU,hlo1⟩:=hm' hm
       have JL:=hlo hlo1;subst JL;obtain⟨h8,rest,fz,h9,eB,fM⟩:=h6 tU;have hus:u * s'≤c.length:=by rw[h4];exact zQ4 _ OR
       refine⟨by simp[h8],(c.drop (u * s')).map (aj β')++rest,fz,⟨?_,?_⟩,?_,?_⟩
       ·rw[h9.1,Nat.zero_mul,List.drop_zero,← List.append_assoc,← zRm,List.take_append_drop,h.H9 hgi hβ.gd]
       ·have:=h9.2
        simp at this ⊢
        omega
       ·simp
        omega
       ·simp
        omega
    obtain⟨b,dU,hfu,OR,hlo,hnw⟩:=wI;cases lo with
    | none =>
      have JL:=hlo rfl;subst JL;have hnw':=hnw m (fun hm=>⟨hm,rfl⟩);simp only[Nat.zero_mul,List.drop_zero,Nat.sub_zero]at hnw' dU;cases m with
      | false =>
        cases ha
        have eU:bs.set i (.own c e' s' n' false)=bs:=by
         apply List.ext_getElem?
         intro q;rw[List.getElem?_set];split
         ·rename_i hq
          subst hq;first|exact hi'.symm | (rw[if_pos yk];exact hi'.symm)
         ·rfl
        have hs:=h.split hi' (.own c e' s' n' false) _ b (fp i) (fp i) (fun β' hβ=>h.own hi' hβ) rfl (fun k hk=>hk) hnw' (fun k hk=>hk) (fun hm=>by cases hm);rw[eU]at hs;exact⟨b,_,dU,QB,hs⟩
      | true =>
      cases ha
      exact⟨b,_,dU,QB,h.split hi' .gone _ b (fun _=>False) (fp i) (fun β' hβ k hk=>hk) rfl (fun k hk=>hk.elim) hnw' (fun k hk=>hk) (fun hm=>⟨hm,fun k hk=>hk⟩)⟩
    | some l =>
      cases ha
      refine⟨b,_,dU,QB,h.split hi' (.own c e' s' n' false) _ b (fp i) (fp i) (fun β' hβ=>?_) rfl (fun k hk=>hk) (hnw false QB) (fun k hk=>hk) (fun hm=>by cases hm)⟩;rcases h.own hi' hβ with hh|⟨h1,h2,h3,h4,h5,-,h7⟩
      ·exact .inl hh
      ·exact .inr ⟨h1,h2,h3,h4,h5,QB,h7⟩
   ·cases ha
  ·cases ha
 ·cases ha
theorem cap_ok (h:Wd F β fp bs w){t e s:Nat}(ht:V.P.underlying t=some (.slice e))(hz:(Go.sizeOf e).run V.P w=Result.ok s w){kh km:IntKind}{hi mx:Int}{x y:SV}{c0:Prop}(ha:HX bs s hi mx x=some (c0,y))(hc:c0) :
 (Instr.sliceAt t (aj β x) none (some (.int kh hi)) (some (.int km mx))).run V.P w=Result.ok (aj β y) w∧(∀ β',cP bs.length β β'→aj β y=aj β' y):=by
 unfold HX at ha;split at ha
 ·rename_i i n
  split at ha
  ·rename_i c e' s' n' m hi'
   cases ha
   obtain⟨rfl,rfl,rfl,rfl⟩:=hc;have yk:i<bs.length:=(zQM.1 hi').1;refine⟨?_,fun β' hβ=>by simp only[aj];rw[hβ i yk]⟩;rcases h.own hi' (cP.refl _ β) with⟨h1,h2,h3,h4⟩|⟨h1,h2,h3,h4,h5,h6,h7⟩
   ·subst h2 h3
    simp only[aj,oV,fV,if_pos h1];simp[Instr.sliceAt,Instr.slice,Instr.sliceBounds,Instr.sliceBound,asIntOf,run_underlying ht,hz,go_sem]
   ·simp only[aj,oV,fV,if_neg h1]
    simp[Instr.sliceAt,Instr.slice,Instr.sliceBounds,Instr.sliceBound,asIntOf,run_underlying ht,hz,go_sem,h2,fe]
  ·cases ha
 ·cases ha
  obtain⟨rfl,rfl⟩:=hc;exact⟨by simp[aj,Instr.sliceAt,Instr.slice,Instr.sliceBounds,Instr.sliceBound,asIntOf,run_underlying ht,hz,go_sem],fun β' _=>rfl⟩
 ·cases ha
theorem rR {s:Nat}:∀ {ps:List (Nat × SV)}{k:Nat}{c:List SV},Yi s k ps=some c→c.length=ps.length * s
 | [],k,c,h=>by cases h;simp
 | (i,x)::r,k,c,h=>by
  simp only[Yi]at h;split at h
  ·rename_i hc
   split at h
   ·rename_i c1 h1
    cases h
    rw[zQH,rR h1,hc.2.2,zQ7,zQZ];omega
   ·cases h
  ·cases h
theorem Au (β:Nat→Bt)(s:Nat):∀ (ps:List (Nat × SV))(k:Nat)(c:List SV),Yi s k ps=some c→∀ (cs:Array Value),(k+ps.length) * s≤cs.size →
 Instr.fill (fun i=>some (i * s,s)) cs (ps.map fun p=>(p.1,aj β p.2))=some (cs.toList.take (k * s)++c.map (aj β)++cs.toList.drop ((k+ps.length) * s)).toArray
 | [],k,c,h,cs,hcs=>by
   cases h
   simp[Instr.fill]
 | (i,x)::r,k,c,h,cs,hcs=>by
  simp only[Yi]at h;split at h
  ·rename_i hc
   obtain⟨rfl,hv,hl⟩:=hc;split at h
   ·rename_i c1 h1
    cases h
    have gX:=gZ β x hv;rw[zQ7]at hcs;have e0:(i+(r.length+1)) * s=(i+1+r.length) * s:=by congr 1;omega
    rw[e0]at hcs;have e1:(i+1) * s=i * s+s:=by rw[zQZ,Nat.one_mul]
    have e2:(i+1) * s≤(i+1+r.length) * s:=zQ4 _ QA;simp only[List.map_cons,Instr.fill,gX,List.size_toArray,List.length_map];rw[if_neg (by simp[hl];omega)];have hz:=tX (i * s) ((cells x).map (aj β)) 0 cs QC;rw[← Array.foldl_toList,Array.toList_zipIdx];simp only[Nat.add_zero,List.length_map]at hz;rw[hz,Au β s r (i+1) c1 h1 _ (by simp[hl];omega)];congr 2
    rw[zQ7,e0];simp only[zRm,hl];have l1:(cs.toList.take (i * s)).length=i * s:=by simp;omega
    have l2:(cs.toList.take (i * s)++(cells x).map (aj β)).length=(i+1) * s:=by rw[zQH,l1,List.length_map,hl,e1]
    rw[List.take_append_of_le_length QA,List.take_of_length_le QA,List.drop_append,List.drop_of_length_le QA,List.nil_append,l2,List.drop_drop];have e3:i * s+s+((i+1+r.length) * s - (i+1) * s)=(i+1+r.length) * s:=QA;rw[e3];simp
   ·cases h
  ·cases h
def uC:List Value→Nat→List Value
 | _,0=>[]
 | z,n+1=>z++uC z n
theorem mR (z:List Value):∀ n,(uC z n).length=n * z.length
 | 0=>by simp[uC]
 | n+1=>by simp[uC,mR z n,zQZ,Nat.add_comm]
theorem F4 (z:List Value):∀ (n j:Nat),j<n * z.length→(uC z n)[j]? = z[j % z.length]?
 | 0,j,h=>by simp at h
 | n+1,j,h=>by
   simp only[uC];by_cases hj:j<z.length
   ·rw[zQN hj,Nat.mod_eq_of_lt hj]
   ·rw[zQQ QA,F4 z n (j - z.length) (by rw[zQZ]at h;omega)]
    congr 1
    rw[Nat.mod_eq_sub_mod (by omega:j ≥ z.length)]
theorem Ox (z:Array Value)(n:Nat)(hz:0<z.size):(madeCells z (n * z.size)).toList=uC z.toList n:=by
 apply List.ext_getElem?
 intro j;by_cases hj:j<n * z.size
 ·rw[F4 _ _ _ (by simpa using hj)]
  have hm:j % z.size<z.size:=Nat.mod_lt _ hz;simp[madeCells,hj,hm]
 ·rw[zQ1 (by simp[madeCells];omega),zQ1 (by rw[mR];simpa using hj)]
theorem Cr (z:List Value):∀ (n k:Nat),k≤n→uC z k=(uC z n).take (k * z.length)
 | _,0,_=>by simp[uC]
 | 0,k+1,h=>QA
 | n+1,k+1,h=>by
   simp only[uC];rw[zQZ,Nat.one_mul,Nat.add_comm,List.take_length_add_append,← Cr z n k QA]
theorem zh (z:List SV)(β:Nat→Bt):∀ n,(I3 z n).map (aj β)=uC (z.map (aj β)) n
 | 0=>rfl
 | n+1=>by simp[I3,uC,zh z β n]
theorem wpv {o:Oper}{v:Value}{w w':World}{K:St→Prop}{Q:Exit→Act→World→Prop}(h:(execOp a.eval o).run V.P w=Result.ok (.value v) w'){σ:St}(hK:K σ)(hr:Rel F σ (a.put o.dst v) w'):o.wp V.P a w (fun a w=>∃ σ,K σ∧Rel F σ a w) Q :=
 wp_of_value h ⟨σ,hK,hr⟩
theorem Ft {dst:Option Tmp}{op:Op}{σ σ':St}{c:Prop}{K:St→Prop}(dp:fits F.n dst=true)(h:Yl V dst op σ=some (c,σ'))(hc:c)(hK:K σ'){a:Act}{w:World}(hr:Rel F σ a w)(ty:TypeId)(pos:String)(after:Array Edge)(guard:Option (Nat × Bool))(Q:Exit→Act→World→Prop) :
 (⟨dst,op,ty,pos,after,guard⟩:Oper).wp V.P a w (fun a w=>∃ σ,K σ∧Rel F σ a w) Q:=by
 obtain⟨β,fp,hf,hw⟩:=hr;have mm:∀ (min:Bool) (args:Array Operand) (ts:Array TypeId),Xq min dst args.toList σ=some (c,σ')→(⟨dst,.call ⟨.builtin (if min then .min else .max),args,ts⟩,ty,pos,after,guard⟩:Oper).wp V.P a w (fun a w=>∃ σ,K σ∧Rel F σ a w) Q:=fun min args ts h=>by
  unfold Xq at h;split at h
  ·rename_i x y xO
   split at h
   ·rename_i x' hx
    split at h
    ·rename_i y' hy
     simp only[zRd,Prod.mk.injEq]at h;obtain⟨z,hz,-,rfl⟩:=h;have ea:args=#[x,y]:=by apply zQ8;simpa using xO
     subst ea;have h1:=hf.ev hx (cP.refl _ β);have h2:=hf.ev hy (cP.refl _ β);unfold mmS at hz;split at hz
     ·cases hz
      simp only[aj]at h1 h2;refine wpv (v:=_) (w':=w) ?_ hK ⟨β,fp,hf.put dp (fun β' _=>rfl),hw⟩;cases min
      ·simp only[Bool.false_eq_true,if_false,execOp,resolve,invoke,builtin,Builtin.max_,Builtin.max2,aj]
       generalize a.eval=ρ at h1 h2;simp[h1,h2,Builtin.max_,Builtin.max2]
      ·simp only[if_true,execOp,resolve,invoke,builtin,Builtin.min_,Builtin.min2,aj]
       generalize a.eval=ρ at h1 h2;simp[h1,h2,Builtin.min_,Builtin.min2]
     ·cases hz
    ·cases h
   ·cases h
  ·cases h
 cases op <;> simp only[Yl,reduceCtorEq]at h
 case call cl =>
  obtain⟨callee,args,ts⟩:=cl;cases callee <;> (try simp only[reduceCtorEq]at h)
  rename_i bi
  cases bi <;> (try simp only[reduceCtorEq]at h)
  case append =>
   unfold Xm at h
   (repeat' split at h) <;> try (cases h;done)
   rename_i s x qb _ t u hts _ e ht _ ku hu _ ti o7 _ sv hs _ xv hx _ n c0 bs2 hd _ m xs rZ
   cases h
   obtain⟨h0m,hku,kN,h1,yq,hby⟩:=hc;have ea:args=#[s,x]:=by apply zQ8;simpa using qb
   have et:ts=#[t,u]:=by apply zQ8;simpa using hts
   subst ea et;obtain⟨d1,vL,cV⟩:=c9 V.kF ht;obtain⟨d2,vK,bS⟩:=c9 V.kF hu;simp only[dk]at cV;subst cV;have hdd:d2=.string∨∃ e',d2=.slice e':=by
    cases ku <;> simp[XP]at hku <;> simp only[dk]at bS
    ·exact .inl bS
    ·exact .inr ⟨_,bS⟩
   obtain⟨b,fp₂,w',dU,tS⟩:=app_ok hw vL vK hdd o7 rfl kN hd rZ (fun β' hβ=>by rw[← hf.ev hx (cP.refl _ β),← hf.ev hx hβ]) h1 yq hby h0m ty;rw[← hf.ev hs (cP.refl _ β),← hf.ev hx (cP.refl _ β)]at dU;refine wpv (v:=oV b (n+m)) (w':=w') ?_ hK ⟨_,fp₂,(hf.more (by simp[Lb hd]) (iF _ _ _)).put dp (fun β' hβ=>?_),tS⟩
   ·show Sem.run V.P (do let d ← resolve a.eval ⟨.builtin .append,#[s,x],#[t,u]⟩ ty;invoke d.target d.args) w=_
    simp only[resolve,Sem.run_bind,Sem.run_pure,Result.andThen_ok,invoke,builtin,List.map_toArray,List.map_cons,List.map_nil,dU]
   ·simp only[aj]
    rw[← hβ σ.b.length (by simp[Lb hd]),jP]
  case min=>exact mm true args ts h
  case max=>exact mm false args ts h
 case makeSlice ts l c' =>
  unfold Yn at h
  (repeat' split at h) <;> try (cases h;done)
  rename_i _ e ht _ ti o7 _ kl l' hl _ kc c' hc'
  cases h
  obtain⟨h0,hlc,hby,yq,kN⟩:=hc;obtain⟨d1,vL,cV⟩:=c9 V.kF ht;simp only[dk]at cV;subst cV;obtain⟨i,z,hi,hz,wJ,O8,Ir⟩:=(V.kF e ti o7).info;have Iq:=(V.kF e ti o7).len;have nT:=(V.kF e ti o7).flat;have dU:=run_make (P:=V.P) w ts e i z vL hi hz kl kc l' c' h0 hlc (by rw[O8];exact hby) yq;have e1:=hf.ev hl (cP.refl _ β);have e2:=hf.ev hc' (cP.refl _ β);simp only[aj]at e1 e2;rw[← e1,← e2]at dU;have hnn:l'.toNat≤c'.toNat:=QA;have hzs:z.cells.size=ti.size:=by rw[Ir];simp[Iq]
  have hzt:z.cells.toList=ti.zero.map (aj nX):=by rw[Ir]
  have hM:(madeCells z.cells (c'.toNat * i.size)).toList=uC (ti.zero.map (aj nX)) c'.toNat:=by
   rw[wJ,← hzs,Ox _ _ QA,hzt]
  have hlz:(ti.zero.map (aj nX)).length=ti.size:=by simpa using Iq
  have fH:(I3 ti.zero l'.toNat).length=l'.toNat * ti.size:=by
   have:=congrArg List.length (zh ti.zero nX l'.toNat)
   rw[mR,hlz]at this;simpa using this
  have hmade:∀ β',(madeCells z.cells (c'.toNat * i.size)).toList=(I3 ti.zero l'.toNat).map (aj β')++(madeCells z.cells (c'.toNat * i.size)).toList.drop (l'.toNat * ti.size):=fun β'=>by
   rw[hM,zh,nT β',Cr _ _ _ hnn,hlz,List.take_append_drop]
  have tS:=hw.more (w':=w.alloc (.cells (madeCells z.cells (c'.toNat * i.size)) e)) ((Below.refl _ _).alloc (zQK _) _) (.own (I3 ti.zero l'.toNat) e ti.size l'.toNat true) ⟨w.heap.size,0,c'.toNat+1⟩ (·=w.heap.size) (fun β' hβ=>lv (rest:=(madeCells z.cells (c'.toNat * i.size)).toList.drop (l'.toNat * ti.size)) (fz:=(0,0)) (by
   rw[eK,← hmade β']) (.inr (zQK _)) fH hnn (by unfold maxLen;omega) (by
   rw[fH,List.length_drop,hM,mR,hlz];have:l'.toNat * ti.size≤c'.toNat * ti.size:=zQ4 _ hnn
   omega)) (fun k hk=>by subst hk;exact⟨zQK _,by rw[size_alloc];exact zQY _⟩)
  refine wpv (cU dU) hK ⟨_,_,(hf.more QB (iF _ _ _)).put dp (fun β' hβ=>?_),tS⟩;simp only[aj];rw[← hβ σ.b.length QB,jP];simp[oV]
 case indexAddr ts x i =>
  unfold Xc at h
  (repeat' split at h) <;> try (cases h;done)
  rename_i _ e ht _ s hs _ x' hx _ k kk hi _ c0 y ha
  cases h
  unfold Ym at ha;split at ha
  ·rename_i j n
   split at ha
   ·rename_i cc ee ss nn mm' hj
    cases ha
    obtain⟨⟨rfl,hss,kD,Iv⟩,lZ⟩:=hc;simp only[Xc.oN,hj]at lZ;subst lZ;obtain⟨d1,vL,cV⟩:=c9 V.kF ht;simp only[dk]at cV;subst cV;have hz:(Go.sizeOf e).run V.P w=Result.ok ss w:=by
     unfold sz at hs;cases Ab:V.Γ e with
     | none=>simp[Ab]at hs
     | some ti=>simp[Ab]at hs;rw[← hs];exact(V.kF e ti Ab).size w
    have hnz:(β j).cap≠0:=by
     rcases hw.own hj (cP.refl _ β) with⟨-,h2,-⟩|⟨h2,-⟩
     ·subst h2;omega
     ·exact h2
    have e1:=hf.ev hx (cP.refl _ β);have e2:=hf.ev hi (cP.refl _ β);simp only[aj,oV,if_neg hnz]at e1 e2;refine wpv (v:=aj β (.p j (kk.toNat * ss))) (w':=w) ?_ hK ⟨β,fp,hf.put dp (fun β' hβ=>?_),hw⟩
    ·refine cU ?_
     rw[e1,e2];simp[Instr.indexAt,asIntOf,run_underlying vL,kD,Iv,hz,aj,fe]
    ·simp only[aj]
     rw[hβ j (zQM.1 hj).1]
   ·cases ha
  ·cases ha
 case slice ts x lo hi mx =>
  cases mx with
  | some mx =>
    cases lo <;> cases hi <;> simp only[reduceCtorEq]at h
    rename_i hi
    unfold Jp at h
    (repeat' split at h) <;> try (cases h;done)
    rename_i _ e ht _ s hs _ x' hx _ kh vh hh _ km vm hm _ c0 y ha
    cases h
    obtain⟨d1,vL,cV⟩:=c9 V.kF ht;simp only[dk]at cV;subst cV;obtain⟨dU,hy⟩:=cap_ok (kh:=kh) (km:=km) hw vL (NJ hs w) ha hc;have e1:=hf.ev hx (cP.refl _ β);have e2:=hf.ev hh (cP.refl _ β);have e3:=hf.ev hm (cP.refl _ β);simp only[aj]at e2 e3;have hv:(execOp a.eval (⟨dst,.slice ts x none (some hi) (some mx),ty,pos,after,guard⟩:Oper)).run V.P w=Result.ok (.value (aj β y)) w:=by
     refine cU ?_;simp only[zQP,zQ9,e1,e2,e3];exact dU
    exact wpv hv hK ⟨β,fp,hf.put dp (fun β' hβ=>hy β' hβ),hw⟩
  | none =>
  simp only at h;unfold Xj at h
  (repeat' split at h) <;> try (cases h;done)
  rename_i _ e ht _ s hs _ x' hx _ lo' hlo _ hi' hhi _ c0 n0 bs2 ha
  cases h
  obtain⟨hc,hsi⟩:=hc;obtain⟨d1,vL,cV⟩:=c9 V.kF ht;simp only[dk]at cV;subst cV;have hz:(Go.sizeOf e).run V.P w=Result.ok s w:=NJ hs w;obtain⟨b,fp₂,dU,hlen,tS⟩:=re_ok hw vL hz ha hc hsi;have hv:(execOp a.eval (⟨dst,.slice ts x lo hi none,ty,pos,after,guard⟩:Oper)).run V.P w=Result.ok (.value (oV b n0)) w:=by
   refine cU ?_;rw[hf.ev hx (cP.refl _ β),yy (hf.ok β (cP.refl _ _)) hlo,yy (hf.ok β (cP.refl _ _)) hhi];exact dU
  refine wpv hv hK ⟨_,fp₂,(hf.more (by rw[hlen];exact Nat.le_succ _) (iF _ _ _)).put dp (fun β' hβ=>?_),tS⟩;simp only[aj];rw[← hβ σ.b.length (by rw[hlen];exact zQY _),jP]
 case convert ts td x =>
  unfold Yb at h
  (repeat' split at h) <;> try (cases h;done)
  ·rename_i _ hts _ e htd _ hte _ l hx
   cases h
   obtain⟨d1,vL,cV⟩:=c9 V.kF hts;obtain⟨d2,vK,bS⟩:=c9 V.kF htd;obtain⟨d3,hd3,eL⟩:=c9 V.kF hte;simp only[dk]at cV bS eL;subst cV bS eL;have dU:=Lib.run_convert_string_bytes w ts td e ⟨zQW l⟩ vL vK hd3;have hss:(⟨zQW l⟩:ByteArray).size=l.length:=rfl;rw[hss]at dU;have sL:=grownCap_ge w l.length 0 e;have hle:=grownCap_le_maxLen w l.length 0 e hc;have hbc:Lib.bytesCells w e ⟨zQW l⟩=((l.map eb).map (aj β)++List.replicate (grownCap w l.length 0 e - l.length) (Value.int .u8 0)).toArray:=by
    apply zQ8
    simp[Lib.bytesCells,eb,aj,Function.comp_def,hss]
   have wI:=Lib.bytesWorld_at_new w e ⟨zQW l⟩;have MD:Below w.heap.size w (Lib.bytesWorld w e ⟨zQW l⟩):=⟨by simp[Lib.bytesWorld,World.freeze];rfl,rfl,rfl,by rw[Lib.bytesWorld_size];omega,fun k hk=>Lib.bytesWorld_at_old _ _ _ k hk⟩;have hsize:=Lib.bytesWorld_size w e ⟨zQW l⟩;rw[hbc]at wI;generalize Lib.bytesWorld w e ⟨zQW l⟩=w1 at dU wI MD hsize;generalize grownCap w l.length 0 e=cap' at dU wI sL hle;have tS:=hw.more MD (.own (l.map eb) e 1 l.length true) ⟨w.heap.size,0,cap'+1⟩ (·=w.heap.size) (fun β' hβ=>lv (by
    rw[wI];congr 3
    rw[List.map_map,List.map_map];rfl) (by left;simp) QB sL hle QC) (fun k hk=>by subst hk;exact⟨zQK _,by rw[hsize];exact zQY _⟩)
   have e1:=hf.ev hx (cP.refl _ β);simp only[aj]at e1;rw[← e1]at dU;refine wpv (cU dU) hK ⟨_,_,(hf.more QB (iF _ _ _)).put dp (fun β' hβ=>?_),tS⟩;simp only[aj];rw[← hβ σ.b.length QB,jP];simp[oV]
  ·rename_i _ e hts _ htd _ hte _ hx
   cases h
   obtain⟨d1,vL,cV⟩:=c9 V.kF hts;obtain⟨d2,vK,bS⟩:=c9 V.kF htd;obtain⟨d3,hd3,eL⟩:=c9 V.kF hte;simp only[dk]at cV bS eL;subst cV bS eL;have e1:=hf.ev hx (cP.refl _ β);simp only[aj]at e1;have dU:=run_convert_bytes_nil w ts e vL hd3 0 0 td vK;rw[← e1]at dU;exact wpv (cU dU) hK ⟨β,fp,hf.put dp (fun β' hβ=>by simp[aj];rfl),hw⟩
  ·rename_i _ e hts _ htd _ hte _ i n hx _ c0 ee s n' mm' hi
   cases h
   obtain⟨rfl,rfl,br⟩:=hc;obtain⟨d1,vL,cV⟩:=c9 V.kF hts;obtain⟨d2,vK,bS⟩:=c9 V.kF htd;obtain⟨d3,hd3,eL⟩:=c9 V.kF hte;simp only[dk]at cV bS eL;subst cV bS eL;have e1:=hf.ev hx (cP.refl _ β);simp only[aj,oV]at e1;have dU:(convert ts td (a.eval x)).run V.P w=Result.ok (.string ⟨zQW (c0.map vP)⟩) w:=by
    rw[e1];rcases hw.own hi (cP.refl _ β) with⟨h1,rfl,rfl,-⟩|⟨h1,h2,h3,h4,h5,-⟩
    ·rw[if_pos h1]
     exact run_convert_bytes_nil w ts e vL hd3 0 0 td vK
    ·rw[if_neg h1]
     have hl:n'=(c0.map vP).length:=by simpa using h4.symm
     rw[hl];refine run_convert_bytes_back w ts td e _ _ (c0.map vP) vL hd3 vK (fun j hj=>?_);rw[fe];have hj':j<c0.length:=by simpa using hj
     refine h5 j _ ?_;simp only[List.getElem?_map,zQX hj',zQP,List.getElem_map];rw[M0 β (zQI.1 br _ (List.getElem_mem hj'))]
   exact wpv (cU dU) hK ⟨β,fp,hf.put dp (fun β' hβ=>by simp[aj]),hw⟩
 case buildSlice ts n ps =>
  unfold Xa at h
  (repeat' split at h) <;> try (cases h;done)
  rename_i _ e ht _ ti o7 _ l hl _ c0 nT
  cases h
  obtain⟨Mm,sN,kN⟩:=hc;obtain⟨d1,vL,cV⟩:=c9 V.kF ht;simp only[dk]at cV;subst cV;obtain⟨i,z,hi,hz,wJ,O8,Ir⟩:=(V.kF e ti o7).info;have hps:=fun β' hβ=>pz (β':=β') hf hβ hl
  have fY:=rR nT;rw[Mm]at fY;have vc:=fun β'=>Au β' ti.size l 0 c0 nT ((Array.range (n * i.size)).map (z.cells[· % z.cells.size]!)) (by rw[Nat.zero_add,Mm];simp[wJ])
  have dU:∀ β',cP σ.b.length β β'→(Instr.buildSlice ts n (ps.map fun p=>(p.1,a.eval p.2))).run V.P w=Result.ok (.slice (some ⟨w.heap.size,0,none⟩) n n) (w.alloc (.cells (c0.map (aj β')).toArray e)):=fun β' hβ=>by
   have e2:=hps β' hβ;by_cases hn:n=0
   ·subst hn
    have hl0:l=[]:=zQR Mm;subst hl0;have kn:c0=[]:=zQR (by rw[fY];simp);subst kn;have e3:(ps.toList.map fun p=>(p.1,a.eval p.2))=[]:=e2;have e4:Array.range 0=#[]:=rfl;simp[Instr.buildSlice,run_underlying vL,Go.sizeOf,typeInfo,hi,e3,Instr.fill,newRow,e4]
   ·refine run_buildSlice (P:=V.P) w ts e n (ps.map fun p=>(p.1,a.eval p.2)) (c0.map (aj β')).toArray i z vL hi hz (by rw[wJ];omega) (by rw[wJ];exact Nat.ne_of_gt (Nat.mul_pos QA kN)) ?_
    have e3:=vc β';rw[← wJ]at e3;rw[Array.toList_map,e2,e3];congr 1
    apply zQ8
    rw[Nat.zero_add,Mm];simp
  have Bc:∀ β',cP σ.b.length β β'→c0.map (aj β)=c0.map (aj β'):=fun β' hβ=>by
   have h1:=dU β (cP.refl _ _);rw[dU β' hβ]at h1;injection h1 with _ h1
   have h2:=congrArg (fun w':World=>w'.heap[w.heap.size]?) h1;simp only[eK]at h2;have h3:=(Obj.cells.inj (zQ0.inj h2)).1;have h4:=congrArg Array.toList h3;exact h4.symm
  have tS:=hw.more (w':=w.alloc (.cells (c0.map (aj β)).toArray e)) ((Below.refl _ _).alloc (zQK _) _) (.own c0 e ti.size n true) ⟨w.heap.size,0,n+1⟩ (·=w.heap.size) (fun β' hβ=>lv (rest:=[]) (fz:=(0,0)) (by
   rw[eK,Bc β' hβ.gd,zQ2]) (.inr (zQK _)) fY (zQK _) (by unfold maxLen;have:n * 1≤n * ti.size:=Nat.mul_le_mul_left _ kN;omega) (by simpa using fY)) (fun k hk=>by subst hk;exact⟨zQK _,by rw[size_alloc];exact zQY _⟩)
  refine wpv (cU (dU β (cP.refl _ _))) hK ⟨_,_,(hf.more QB (iF _ _ _)).put dp (fun β' hβ=>?_),tS⟩;simp only[aj];rw[← hβ σ.b.length QB,jP];simp[oV]
end
open Go
def rY:List Oper→Nat→List Oper
 | [],_=>[]
 | o::_,0=>[o]
 | _::r,k+1=>rY r k
def jU:List Nat→Nat→Nat
 | [],_=>0
 | x::r,j=>if x=j then 0 else jU r j+1
def permE (p:List Nat)(e:Edge):Edge:=⟨jU p e.on,e.ground⟩
def Kt (p:List Nat):Option (Nat × Bool)→Option (Nat × Bool)
 | none=>none
 | some (g,b)=>some (jU p g,b)
def sF (p:List Nat):Oper→Oper
 | ⟨dst,op,ty,pos,after,guard⟩=>⟨dst,op,ty,pos,after.map (permE p),Kt p guard⟩
def qN (ops:List Oper)(q:List Nat):List Nat→List Oper
 | []=>[]
 | x::r=>(rY ops x).map (sF q)++qN ops q r
def uF (ops:Array Oper):List Nat→Array Oper
 | []=>ops
 | x::r=>(qN ops.toList (x::r) (x::r)).toArray
def I9 (ops:Array Oper)(p:List Nat):Bool:=p.length==ops.size&&p.all (fun i=>decide (i<ops.size))&&(zRa ops.size).all (fun k=>p.contains k&&(decide (p.getD k 0<ops.size)&&jU p (p.getD k 0)==k))
def Gd (ops:Array Oper):List Nat→Prop
 | []=>True
 | x::r=>I9 ops (x::r)=true
theorem Gc {ops:Array Oper}{x:Nat}{r:List Nat}(h:I9 ops (x::r)=true):Gd ops (x::r):=h
theorem yC (l:List Oper)(k:Nat):rY l k=l[k]?.toList:=by
 induction l generalizing k with
 | nil=>simp[rY]
 | cons o r ih=>cases k with
   | zero=>simp[rY]
   | succ k=>simp[rY,ih]
theorem wj (ops:List Oper)(q:List Nat):∀ (p:List Nat),(∀ i∈p,i<ops.length)→(qN ops q p).length=p.length∧∀ k:Nat,(qN ops q p)[k]? = (p[k]?).bind fun i=>(ops[i]?).map (sF q)
 | [],_=>⟨rfl,fun k=>by simp[qN]⟩
 | x::r,h=>by
   obtain⟨h1,h2⟩:=wj ops q r (fun i hi=>h i (List.mem_cons_of_mem _ hi));have hx:x<ops.length:=h x (zRb ..);have e:rY ops x=[ops[x]]:=by rw[yC,zQX hx];rfl
   refine⟨by simp[qN,e,h1],fun k=>?_⟩;cases k with
   | zero=>simp[qN,e,zQX hx]
   | succ k=>simp[qN,e,h2]
theorem lr:∀ (p:List Nat)(j:Nat),(j∈p→p[jU p j]? = some j)∧(j ∉ p→jU p j=p.length)
 | [],j=>by simp[jU]
 | x::r,j=>by
   obtain⟨h1,h2⟩:=lr r j;by_cases h:x=j
   ·simp[jU,h]
   ·have h':¬ j=x:=fun e=>h e.symm
    simp only[jU,if_neg h,List.mem_cons,h',false_or,List.getElem?_cons_succ,zQ7];exact⟨h1,fun hn=>by rw[h2 hn]⟩
theorem Cw (p:List Nat)(o:Oper):(sF p o).dst=o.dst:=by cases o;rfl
theorem Oi {P:Program}{p:List Nat}{o:Oper}{a:Act}{w:World}{K:Act→World→Prop}{Q:Exit→Act→World→Prop}(h:(sF p o).wp P a w K Q):o.wp P a w K Q:=by cases o;exact h
theorem I8 {P:Program}{p:List Nat}{o:Oper}{a:Act}{w:World}(h:(sF p o).asks P a w):o.asks P a w:=by cases o;exact h
structure OrdP (p:List Nat) (n:Nat):Prop where
 len:p.length=n
 lt:∀ i∈p,i<n
 mem:∀ {i:Nat},i<n→i∈p
 onto:∀ k,k<n→∃ i,i<n∧jU p i=k
section
variable {ops:Array Oper} {p:List Nat} (hp:OrdP p ops.size)
def uM (ops:Array Oper)(p:List Nat):Array Oper:=(qN ops.toList p p).toArray
include hp
theorem wy:(uM ops p).size=ops.size:=by
 have:=(wj ops.toList p p (fun i hi=>by simpa using hp.lt i hi)).1
 simp[uM,this,hp.len]
theorem zE {i:Nat}(hi:i<ops.size):(uM ops p)[jU p i]? = (ops[i]?).map (sF p):=by
 have h2:=(wj ops.toList p p (fun i hi=>by simpa using hp.lt i hi)).2 (jU p i);have h3:=(lr p i).1 (hp.mem hi);simp only[uM,List.getElem?_toArray,h2,h3,Option.bind_some];simp
theorem Ju {i:Nat}(hi:i<ops.size):jU p i<ops.size:=by
 have h3:=(lr p i).1 (hp.mem hi);have:=(zQM.1 h3).1
 rw[hp.len]at this;exact this
theorem OH {i:Nat}(hi:¬ i<ops.size):jU p i=ops.size:=by
 rw[(lr p i).2 (fun h=>hi (hp.lt i h)),hp.len]
theorem inv_inj {i k:Nat}(hi:i<ops.size)(hk:k<ops.size)(h:jU p i=jU p k):i=k:=by
 have h1:=(lr p i).1 (hp.mem hi);have h2:=(lr p k).1 (hp.mem hk);rw[h,h2]at h1;exact((zQ0.injEq _ _).mp h1).symm
theorem Nw (tmps:Array Value)(g:Nat):yielded (uM ops p) tmps (jU p g)=yielded ops tmps g:=by
 unfold yielded;have:((uM ops p)[jU p g]?).bind (·.dst)=(ops[g]?).bind (·.dst):=by
  by_cases h:g<ops.size
  ·rw[zE hp h]
   rw[zQV h];simp[Cw]
  ·rw[OH hp h,Array.getElem?_eq_none (by rw[wy hp];exact zQK _),Array.getElem?_eq_none QA]
 rw[this]
theorem wanted' (tmps:Array Value)(o:Oper):Region.wanted (sF p o) (yielded (uM ops p) tmps)=Region.wanted o (yielded ops tmps):=by
 obtain⟨dst,op,ty,pos,after,guard⟩:=o;cases guard with
 | none=>rfl
 | some g =>
   obtain⟨g,b⟩:=g;simp only[sF,Kt,Region.wanted,Nw hp]
def Ig (ops:Array Oper)(p:List Nat)(L L':Array Bool):Prop:=L.size=ops.size∧L'.size=ops.size∧∀ i,i<ops.size→L'.getD (jU p i) false=L.getD i false
omit hp in
theorem K1 {L:Array Bool}{i:Nat}(h:i<L.size):L.getD i true=L.getD i false:=by simp[Array.getD,h]
theorem I6 {md:Region.Mode}{L L':Array Bool}(hs:Ig ops p L L'){i:Nat}(hi:i<ops.size):jU p i∈Region.ready md (uM ops p) L'↔i∈Region.ready md ops L:=by
 obtain⟨s1,s2,s3⟩:=hs;rw[mem_ready,mem_ready,K1 (by rw[s2];exact Ju hp hi),K1 (by rw[s1];exact hi),s3 i hi,zE hp hi];have ho:ops[i]? = some ops[i]:=zQV hi;rw[ho];have sJ:∀ n:Nat,L'.getD (jU p n) false=L.getD n false:=fun n=>by
  by_cases hn:n<ops.size
  ·exact s3 n hn
  ·rw[OH hp hn]
   simp[Array.getD,s1,s2,hn]
 refine and_congr_right fun _=>?_
 generalize ops[i]=o;obtain⟨dst,op,ty,pos,after,guard⟩:=o;simp only[zQP,zQ0.injEq,exists_eq_left',sF,Array.mem_map,forall_exists_index,and_imp,forall_apply_eq_imp_iff₂];refine forall_congr' fun e=>forall_congr' fun he=>?_
 simp only[permE,sJ];rfl
theorem set' {L L':Array Bool}(hs:Ig ops p L L'){i:Nat}(hi:i<ops.size):Ig ops p (L.setIfInBounds i true) (L'.setIfInBounds (jU p i) true):=by
 obtain⟨s1,s2,s3⟩:=hs;refine⟨by simpa using s1,by simpa using s2,fun k hk=>?_⟩;by_cases h:i=k
 ·subst h
  have:=Ju hp hk
  simp[Array.getD,s1,s2,hk,this]
 ·have h':jU p i≠jU p k:=fun e=>h (inv_inj hp hi hk e)
  rw[getD_set_ne false h,getD_set_ne false h'];exact s3 k hk
theorem KB {md:Region.Mode}{L L':Array Bool}(hs:Ig ops p L L'):Region.ready md ops L=[]→Region.ready md (uM ops p) L'=[]:=fun h=>by
 cases h':Region.ready md (uM ops p) L' with
 | nil=>rfl
 | cons k r =>
   have hk:k∈Region.ready md (uM ops p) L':=by rw[h'];exact zRb ..
   have az:k<ops.size:=by
    obtain⟨o,ho,_⟩:=(mem_ready.1 hk).2;have:=(zQL.1 ho).1
    rwa [wy hp]at this
   obtain⟨i,hi,e⟩:=hp.onto k az;rw[← e,I6 hp hs hi,h]at hk;cases hk
theorem Fb {P:Program}{Q:Exit→Act→World→Prop}{md:Region.Mode}:∀ (fuel:Nat)(L L':Array Bool)(a:Act)(w:World),Ig ops p L L'→wpAny P md (uM ops p) Q fuel L' a w→wpAny P md ops Q fuel L a w:=by
 intro fuel;induction fuel with
 | zero =>
   intro L L' a w hs h;refine⟨?_,h.2⟩;cases h':Region.ready md ops L with
   | nil=>rfl
   | cons i r =>
     have hi:i∈Region.ready md ops L:=by rw[h'];exact zRb ..
     have az:i<ops.size:=by
      obtain⟨o,ho,_⟩:=(mem_ready.1 hi).2;exact(zQL.1 ho).1
     rw[← I6 hp hs az,h.1]at hi;cases hi
 | succ fuel ih =>
   intro L L' a w hs h;refine⟨fun h0=>h.1 (KB hp hs h0),fun i hi=>?_⟩;have az:i<ops.size:=by
    obtain⟨o,ho,_⟩:=(mem_ready.1 hi).2;exact(zQL.1 ho).1
   have h1:=h.2 _ ((I6 hp hs az).2 hi);have ho:ops[i]? = some ops[i]:=zQV az;unfold wpOp at h1 ⊢;rw[zE hp az,ho]at h1;rw[ho];simp only[zQP,wanted' hp,Cw]at h1 ⊢;have hK:∀ a w,wpAny P md (uM ops p) Q fuel (L'.setIfInBounds (jU p i) true) a w→wpAny P md ops Q fuel (L.setIfInBounds i true) a w:=fun a w=>ih _ _ a w (set' hp hs az)
   split
   ·rename_i hw
    rw[if_pos hw]at h1;exact h1.imp (fun h=>Oper.wp_mono hK (Oi h)) (fun h=>⟨I8 h.1,h.2⟩)
   ·rename_i hw
    rw[if_neg hw]at h1;exact hK _ _ h1
end
theorem Iz {P:Program}{Q:Exit→Act→World→Prop}{md:Region.Mode}{ops:Array Oper}{a:Act}{w:World}:∀ (p:List Nat),Gd ops p→wpAny P md (uF ops p) Q (uF ops p).size (zRc (uF ops p).size false) a w→wpAny P md ops Q ops.size (zRc ops.size false) a w
 | [],_,h=>h
 | x::r,hb,h=>by
   simp only[Gd,I9,zQG,beq_iff_eq,decide_eq_true_eq,zQI]at hb;obtain⟨⟨h1,h2⟩,h3⟩:=hb;have hp:OrdP (x::r) ops.size:=⟨h1,h2,fun {i} hi=>zQ3.1 (h3 i (zQ5.2 hi)).1,fun k hk=>⟨_,(h3 k (zQ5.2 hk)).2⟩⟩;have hs:=wy hp;have e:uF ops (x::r)=uM ops (x::r):=rfl;rw[e,hs]at h;refine Fb hp _ _ _ _ _ ⟨QB,QB,fun i hi=>?_⟩ h;have:=Ju hp hi
   simp[Array.getD,hi,this]
open Go Go.RowKit Wf
inductive jM where
 | go (c:Prop) (σ:St)
 | call (f:FuncId) (args:List SV) (dst:Option Tmp) (σ:St)
 | bad
def goR (dst:Option Tmp)(σ:St):Option (Prop × SV)→jM→jM
 | some (c,x),_=>.go c ⟨put dst x σ.t,σ.b⟩
 | none,m=>m
def XC (V:Cx)(dst:Option Tmp)(T:TypeId)(σ:St):jM:=match V.Γ T with
 | some ti=>.go True ⟨put dst (.p σ.b.length 0) σ.t,σ.b++[.cells ti.zero T true]⟩
 | none=>.bad
def sBox (dst:Option Tmp)(T:TypeId)(x:Operand)(σ:St):jM:=match ev σ.t x with
 | some x=>.go (Ip x=false) ⟨put dst (.p σ.b.length 0) σ.t,σ.b++[.cells (cells x) T true]⟩
 | none=>.bad
def XU (V:Cx)(dst:Option Tmp)(T:TypeId)(x:Operand)(σ:St):jM:=match ev σ.t x with
 | some (.p i off)=>match ko σ.b i with
   | some (c,_,_)=>match V.Γ T with
     | some ti=>match XM ti.agg off ti.size c with
       | some x=>.go (off+ti.size≤c.length) ⟨put dst x σ.t,σ.b⟩
       | none=>.bad
     | none=>.bad
   | none=>.bad
 | _=>.bad
def XH (V:Cx)(dst:Option Tmp)(T:TypeId)(x y:Operand)(σ:St):jM:=match ev σ.t x with
 | some (.p i off)=>match ev σ.t y with
   | some y=>match ko σ.b i with
     | some (c,_,m)=>match sz V.Γ T with
       | some s=>.go (m=true∧(cells y).all one=true∧(cells y).length=s∧off+s≤c.length) ⟨put dst (.v undef) σ.t,y0 σ.b i (Xs c off (cells y))⟩
       | none=>.bad
     | none=>.bad
   | none=>.bad
 | _=>.bad
def Xr (V:Cx)(dst:Option Tmp)(T:TypeId)(ps:List (Nat × Operand))(σ:St):jM:=match V.Γ T with
 | some ti=>match ti.kind with
   | .struct fs=>match Xl σ.t ps with
     | some ps=>match XZ fs V.Γ ps ti.zero with
       | some c=>.go True ⟨put dst (.agg c) σ.t,σ.b⟩
       | none=>.bad
     | none=>.bad
   | _=>.bad
 | none=>.bad
def Xt:Fn→Bool
 | .func _=>true
 | _=>false
def sNil (dst:Option Tmp)(x:Operand)(σ:St):jM:=match ev σ.t x with
 | some (.p i off)=>.go True ⟨put dst (.p i off) σ.t,σ.b⟩
 | some (.fn f l)=>.go (Xt f=true) ⟨put dst (.fn f l) σ.t,σ.b⟩
 | some (.mv f l)=>.go True ⟨put dst (.mv f l) σ.t,σ.b⟩
 | _=>.bad
def XL (dst:Option Tmp)(f:Operand)(args:List Operand)(σ:St):jM:=match ev σ.t f with
 | some (.fn (.func f) caps)=>match C5 σ.t args with
   | some l=>.call f (l++caps) dst σ
   | none=>.bad
 | some (.mv f first)=>match C5 σ.t args with
   | some l=>.call f (first++l) dst σ
   | none=>.bad
 | _=>.bad
def DG (V:Cx)(dst:Option Tmp)(rc:Operand)(name:String)(args:List Operand)(σ:St):jM:=match ev σ.t rc with
 | some (.ifc T x)=>match V.M T name with
   | some f=>match C5 σ.t args with
     | some l=>.call f (x::l) dst σ
     | none=>.bad
   | none=>.bad
 | _=>.bad
def Yd (V:Cx)(dst:Option Tmp):Op→St→jM
 | .alloc T,σ=>XC V dst T σ
 | .box T x,σ=>sBox dst T x σ
 | .load T x,σ=>XU V dst T x σ
 | .store T x y,σ=>XH V dst T x y σ
 | .build T ps,σ=>Xr V dst T ps.toList σ
 | .nilCheck x,σ=>sNil dst x σ
 | .call ⟨.value f,args,_⟩,σ=>XL dst f args.toList σ
 | .call ⟨.invoke rc name,args,_⟩,σ=>DG V dst rc name args.toList σ
 | _,_=>.bad
def Dl (V:Cx)(dst:Option Tmp)(op:Op)(σ:St):jM:=goR dst σ (pv V.Γ σ.t op) (Yd V dst op σ)
def Nc:Option (Prop × St)→jM→jM
 | some (c,σ),_=>.go c σ
 | none,m=>m
def XR (V:Cx)(dst:Option Tmp)(op:Op)(σ:St):jM:=goR dst σ (pv V.Γ σ.t op) (Nc (Yl V dst op σ) (Yd V dst op σ))
def kJ (V:Cx)(K:St→Prop):jM→Prop
 | .go c σ=>c∧K σ
 | .call f args dst σ=>(∃ r,PC V f args r∧K ⟨put dst r σ.t,σ.b⟩)∨(∃ R,SC V f args σ.b R∧∀ r bs,R r bs→K ⟨put dst r σ.t,bs⟩)
 | .bad=>False
theorem xd {V:Cx}{n:Nat}{dst:Option Tmp}{op:Op}{σ:St}{K:St→Prop}(hf:fits n dst=true)(h:kJ V K (Dl V dst op σ)):vcO V n dst op σ K:=by
 refine⟨hf,?_⟩;unfold Dl at h;split
 ·rename_i c x hp
  rw[hp]at h;exact h
 ·rename_i hp
  rw[hp]at h;simp only[goR]at h;cases op <;> simp only[Yd]at h <;> simp only[vcM]
  case alloc T=>unfold XC at h;(repeat' split at h) <;> simp_all [kJ]
  case box T x=>unfold sBox at h;(repeat' split at h) <;> simp_all [kJ]
  case load T x=>unfold XU at h;(repeat' split at h) <;> simp_all [kJ]
  case store T x y=>unfold XH at h;(repeat' split at h) <;> simp_all [kJ]
  case build T ps=>unfold Xr at h;(repeat' split at h) <;> simp_all [kJ]
  case nilCheck x =>
   unfold sNil at h;split at h
   ·rename_i e;rw[e];exact h.2
   ·rename_i f l e
    rw[e];refine⟨?_,h.2⟩;have:=h.1
    cases f <;> simp[Xt]at this ⊢
   ·rename_i f l e;rw[e];exact h.2
   ·cases h
  case call c =>
   obtain⟨callee,args,ts⟩:=c;cases callee <;> simp only at h ⊢
   case value f=>unfold XL at h;(repeat' split at h) <;> simp_all [kJ]
   case invoke rc name=>unfold DG at h;(repeat' split at h) <;> simp_all [kJ]
   all_goals exact h
  all_goals exact h
theorem qE {V:Cx}{F:Fx V}{dst:Option Tmp}{op:Op}{σ:St}{K:St→Prop}(dp:fits F.n dst=true)(h:kJ V K (XR V dst op σ)){a:Act}{w:World}(hr:Rel F σ a w)(ty:TypeId)(pos:String)(after:Array Edge)(guard:Option (Nat × Bool))(Q:Exit→Act→World→Prop) :
 (⟨dst,op,ty,pos,after,guard⟩:Oper).wp V.P a w (fun a w=>∃ σ,K σ∧Rel F σ a w) Q:=by
 unfold XR at h;cases hp:pv V.Γ σ.t op with
 | some p =>
   rw[hp]at h;exact Cd (xd dp (by unfold Dl;rw[hp];exact h)) hr _ rfl rfl Q
 | none =>
   rw[hp]at h;simp only[goR]at h;cases hn:Yl V dst op σ with
   | some p =>
     rw[hn]at h;exact Ft dp hn h.1 h.2 hr ty pos after guard Q
   | none =>
     rw[hn]at h;exact Cd (xd dp (by unfold Dl;rw[hp];exact h)) hr _ rfl rfl Q
structure mC where
 x:SV
 nb:Option (List aq)
 all:Bool
 rd:List (Nat × Nat × Nat)
 wr:List (Nat × Nat × Nat)
structure Rk where
 s:Bool
 all:Bool
 rd:List (Nat × Nat × Nat)
 wr:List (Nat × Nat × Nat)
inductive mA where
 | val (c:Prop) (r:mC)
 | call (f:FuncId) (args:List SV)
 | bad
def sS (c:Prop)(x:SV):mA:=.val c ⟨x,none,false,[],[]⟩
def MP:Option (Prop × SV)→mA→mA
 | some (c,x),_=>sS c x
 | none,m=>m
def XD (V:Cx)(T:TypeId)(σ:St):mA:=match V.Γ T with
 | some ti=>.val True ⟨.p σ.b.length 0,some (σ.b++[.cells ti.zero T true]),false,[],[(σ.b.length,0,0)]⟩
 | none=>.bad
def P3 (T:TypeId)(x:Operand)(σ:St):mA:=match ev σ.t x with
 | some x=>.val (Ip x=false) ⟨.p σ.b.length 0,some (σ.b++[.cells (cells x) T true]),false,[],[(σ.b.length,0,0)]⟩
 | none=>.bad
def XI (V:Cx)(T:TypeId)(x:Operand)(σ:St):mA:=match ev σ.t x with
 | some (.p i off)=>match ko σ.b i with
   | some (c,_,_)=>match V.Γ T with
     | some ti=>match XM ti.agg off ti.size c with
       | some x=>.val (off+ti.size≤c.length∧0<ti.size) ⟨x,none,false,[(i,off,ti.size)],[]⟩
       | none=>.bad
     | none=>.bad
   | none=>.bad
 | _=>.bad
def XF (V:Cx)(T:TypeId)(x y:Operand)(σ:St):mA:=match ev σ.t x with
 | some (.p i off)=>match ev σ.t y with
   | some y=>match ko σ.b i with
     | some (c,_,m)=>match sz V.Γ T with
       | some s=>.val (m=true∧(cells y).all one=true∧(cells y).length=s∧off+s≤c.length∧0<s) ⟨.v undef,some (y0 σ.b i (Xs c off (cells y))),false,[],[(i,off,s)]⟩
       | none=>.bad
     | none=>.bad
   | none=>.bad
 | _=>.bad
def XB (V:Cx)(T:TypeId)(ps:List (Nat × Operand))(σ:St):mA:=match V.Γ T with
 | some ti=>match ti.kind with
   | .struct fs=>match Xl σ.t ps with
     | some ps=>match XZ fs V.Γ ps ti.zero with
       | some c=>sS True (.agg c)
       | none=>.bad
     | none=>.bad
   | _=>.bad
 | none=>.bad
def P2 (x:Operand)(σ:St):mA:=match ev σ.t x with
 | some (.p i off)=>sS True (.p i off)
 | some (.fn f l)=>sS (Xt f=true) (.fn f l)
 | _=>.bad
def XK (f:Operand)(args:List Operand)(σ:St):mA:=match ev σ.t f with
 | some (.fn (.func f) caps)=>match C5 σ.t args with
   | some l=>.call f (l++caps)
   | none=>.bad
 | _=>.bad
def Xv (V:Cx):Op→St→mA
 | .alloc T,σ=>XD V T σ
 | .box T x,σ=>P3 T x σ
 | .load T x,σ=>XI V T x σ
 | .store T x y,σ=>XF V T x y σ
 | .build T ps,σ=>XB V T ps.toList σ
 | .nilCheck x,σ=>P2 x σ
 | .call ⟨.value f,args,_⟩,σ=>XK f args.toList σ
 | _,_=>.bad
def idxs:List (Option SV)→List (Nat × Nat × Nat)
 | []=>[]
 | some (.o j _)::r=>(j,0,0)::idxs r
 | some (.f j _)::r=>(j,0,0)::idxs r
 | _::r=>idxs r
def Xz (V:Cx):Op→Bool
 | .call ⟨.builtin .append,_,_⟩=>false
 | .makeSlice _ _ _=>false
 | .buildSlice _ _ _=>false
 | .slice _ _ none (some _) (some _)=>true
 | .slice _ _ _ _ _=>false
 | .convert _ _ _=>false
 | _=>true
def E1:Op→List Operand
 | .call ⟨_,args,_⟩=>args.toList
 | .buildSlice _ _ ps=>ps.toList.map (·.2)
 | .makeSlice _ a v=>[a,v]
 | .indexAddr _ a v=>[a,v]
 | .slice _ x _ _ _=>[x]
 | .convert _ _ x=>[x]
 | _=>[]
def dN (V:Cx)(op:Op)(σ:St):Option (Prop × St)→mA→mA
 | some (c,σ'),_=>match σ'.t with
   | (_,x)::_=>if Xz V op then .val c ⟨x,none,false,idxs ((E1 op).map (ev σ.t)),[]⟩
       else .val c ⟨x,some σ'.b,false,[],(σ.b.length,0,0)::idxs ((E1 op).map (ev σ.t))⟩
   | []=>.bad
 | none,m=>m
def XV (V:Cx)(op:Op)(σ:St):mA:=MP (pv V.Γ σ.t op) (dN V op σ (Yl V (some 0) op σ) (Xv V op σ))
def nQ (ops:Array Oper):Nat→Nat→Nat→Bool
 | 0,_,_=>false
 | f+1,i,k=>match ops[i]? with
   | some o=>o.after.any fun e=>Region.binds .any e&&(e.on==k||nQ ops f e.on k)
   | none=>false
def ovl (a b:Nat × Nat × Nat):Bool:=a.1==b.1&&(b.2.2==0||(decide (a.2.1<b.2.1+b.2.2)&&decide (b.2.1<a.2.1+a.2.2)))
def pN (xs ys:List (Nat × Nat × Nat)):Bool:=xs.any fun a=>ys.any fun b=>ovl a b
def xq (ops:Array Oper)(i k:Nat):Bool:=match (ops[k]?).bind (·.dst) with
 | some d=>(match ops[i]? with
   | some o=>(o.looksAt ops).contains d||o.dst==some d
   | none=>false)
 | none=>false
def Br:Rk:=⟨false,false,[],[]⟩
def gm (ops:Array Oper)(k:Nat):Bool:=match ops[k]? with
 | some ⟨some _,.alloc _,_,_,_,none⟩=>true
 | some ⟨some _,.buildSlice _ _ _,_,_,_,none⟩=>true
 | _=>false
def yT (ops:Array Oper)(i k:Nat):Bool:=if k<i then nQ ops ops.size i k else nQ ops ops.size k i
def DU (ops:Array Oper)(rs:List Rk)(i k:Nat):Bool:=!(gm ops k&&decide (k<i))||(zRa k).all fun j=>!(((rs[j]?).getD Br).s)||nQ ops ops.size i j
def zn (ops:Array Oper)(rs:List Rk)(i k:Nat):Bool :=
 if xq ops i k then yT ops i k&&DU ops rs i k
 else if ((rs[i]?).getD Br).s&&((rs[k]?).getD Br).s then gm ops (max i k)||yT ops i k
 else if ((rs[k]?).getD Br).s&&!((rs[i]?).getD Br).rd.isEmpty then(yT ops i k&&DU ops rs i k)||!(((rs[k]?).getD Br).all||pN ((rs[i]?).getD Br).rd ((rs[k]?).getD Br).wr)
 else true
def EP (ops:Array Oper)(rs:List Rk):Bool :=
 (zRa ops.size).all fun i=>(zRa ops.size).all fun k=>k==i||zn ops rs i k
def Qb (ops:Array Oper):Bool :=
 (zRa ops.size).all fun i=>match ops[i]? with
  | some o=>o.after.all fun e=>!Region.binds .any e||decide (e.on<i)
  | none=>true
def Qh (ops:Array Oper)(rs:List Rk):Prop:=(EP ops rs&&Qb ops)=true
inductive OT where
 | leaf
 | one (i:Nat) (t:OT)
 | cI (i:Nat) (t:OT)
 | alt (a b:OT)
def xa (n:Nat)(L:List Nat):Array Bool:=L.foldr (fun i a=>a.setIfInBounds i true) (zRc n false)
def OT.Ap:OT→List Nat
 | .one i _=>[i]
 | .alt a b=>a.Ap++b.Ap
 | _=>[]
def OT.BA (ops:Array Oper):List Nat→OT→Bool
 | L,.leaf=>(Region.ready .any ops (xa ops.size L)).isEmpty
 | L,.one i t=>decide (L.length<ops.size)&&(Region.ready .any ops (xa ops.size L)==[i])&&BA ops (i::L) t
 | L,.cI i t=>decide (L.length<ops.size)&&Region.noSelect ops&&Region.free .any ops (xa ops.size L) i&&(Region.ready .any ops (xa ops.size L)).contains i&&BA ops (i::L) t
 | L,.alt a b=>decide (L.length<ops.size)&&!(Region.ready .any ops (xa ops.size L)).isEmpty&&((Region.ready .any ops (xa ops.size L)).all fun i=>(OT.alt a b).Ap.contains i)&&Nd ops L a&&Nd ops L b
where Nd (ops:Array Oper):List Nat→OT→Bool
 | L,.one i t=>BA ops (i::L) t
 | L,.alt a b=>Nd ops L a&&Nd ops L b
 | _,_=>false
inductive How where
 | ord (p:List Nat)
 | all (t:OT)
inductive Item where
 | kt (ops:Array Oper) (L:List Nat) (t:OT)
 | cut (J:St→Prop)
 | oy (ops:Array Oper) (l:List Oper) (rs:List Rk)
 | code (c:Code)
 | ops (ops:Array Oper) (l:List Oper)
 | EG (id:Nat)
 | EF (I:St→Prop) (μ:St→Nat) (m:Nat)
def XE (id:Nat):List Item→Option (List Item)
 | []=>none
 | .EG id'::k=>if id'=id then some k else XE id k
 | _::k=>XE id k
structure Fin where
 rs:List ResultVar
 K:SV→List aq→Prop
 how:Nat→How
def JZ (V:Cx)(E:Fin)(σ:St):Option (List SV)→Prop
 | some l=>E.K (yR l) σ.b
 | none=>False
def kG:List Oper→Nat→Option Tmp
 | [],_=>none
 | o::_,0=>o.dst
 | _::r,j+1=>kG r j
def Yk (t:List (Nat × SV)):Option Tmp→Option (Nat × Bool)
 | some d=>match lk d t with
   | some (.bool b)=>some (d,b)
   | _=>none
 | none=>none
def nob:Value→Bool
 | .bool _=>false
 | _=>true
theorem L8:nob undef=true:=rfl
def gvU (t:List (Nat × SV)):Option Tmp→Bool
 | some d=>match lk d t with
   | some (.v x)=>nob x
   | _=>false
 | none=>false
def shape:aq→aq
 | .cells _ T m=>.cells [] T m
 | .own _ e s n m=>.own [] e s n m
 | r=>r
def rC:aq→List SV
 | .cells c _ _=>c
 | .own c _ _ _ _=>c
 | _=>[]
def ob (q:Option Nat)(r:aq):aq × Nat × Option SV:=(shape r,(rC r).length,match q with
 | some p=>(rC r)[p]?
 | none=>none)
def inR (x:Nat × Nat × Nat)(q:Option Nat):Prop:=q=none∨∃ p,q=some p∧x.2.1≤p∧p<x.2.1+x.2.2
def NG (x:Nat × Nat × Nat)(j:Nat)(q:Option Nat):Prop:=x.1=j∧(x.2.2=0∨∃ p,q=some p∧x.2.1≤p∧p<x.2.1+x.2.2)
def seen (x:Nat × Nat × Nat)(bi bs:List aq):Prop:=∀ q,inR x q→(bs[x.1]?).map (ob q)=(bi[x.1]?).map (ob q)
def Ih (W:List (Nat × Nat × Nat))(b b0:List aq):Prop:=∀ j q,(∀ y∈W,¬ NG y j q)→(b[j]?).map (ob q)=(b0[j]?).map (ob q)
theorem Ee {W:List (Nat × Nat × Nat)}{b b0:List aq}(h:∀ j,(∀ y∈W,y.1≠j)→b[j]? = b0[j]?)(hW:∀ y∈W,y.2.2=0):Ih W b b0:=fun j q hq=>by
 rw[h j fun y hy e=>hq y hy ⟨e,.inl (hW y hy)⟩]
def XQ (b:Bool)(X Y:Prop):Prop:=(b=true→X)∧(b=false→Y)
theorem Xn (X Y:Prop):XQ true X Y=X:=by simp[XQ]
theorem Xo (X Y:Prop):XQ false X Y=Y:=by simp[XQ]
def XG (b want:Bool)(X Y:Prop):Prop:=(b=want→X)∧(b=!want→Y)
theorem Xg (X Y:Prop):XG true true X Y=X:=by simp[XG]
theorem Xd (X Y:Prop):XG false false X Y=X:=by simp[XG]
theorem Xe (X Y:Prop):XG true false X Y=Y:=by simp[XG]
theorem Xf (X Y:Prop):XG false true X Y=Y:=by simp[XG]
mutual
def eH (V:Cx)(n:Nat)(E:Fin):Nat→List Item→St→Prop
 | 0,_,_=>False
 | _+1,[],σ=>JZ V E σ (XT V σ E.rs)
 | f+1,.code .skip::k,σ=>eH V n E f k σ
 | f+1,.code (.region _ ops false)::k,σ=>eH V n E f (.ops ops ops.toList::k) σ
 | f+1,.code (.region id ops true)::k,σ=>I4 V n E f ops k σ (E.how id)
 | f+1,.code (.seq x y)::k,σ=>eH V n E f (.code x::.code y::k) σ
 | f+1,.code (.cond c x y)::k,σ=>XN V n E f x y k σ (ev σ.t c)
 | f+1,.code (.block id x)::k,σ=>eH V n E f (.code x::.EG id::k) σ
 | f+1,.code (.loop x)::k,σ=>KC V n E f x k σ
 | f+1,.code (.exit id)::k,σ=>XO V n E f σ (XE id k)
 | _+1,.code .ret::_,σ=>JZ V E σ (XT V σ E.rs)
 | _+1,.code _::_,_=>False
 | f+1,.EG _::k,σ=>eH V n E f k σ
 | _+1,.EF I μ m::_,σ=>I σ∧μ σ<m
 | f+1,.ops _ []::k,σ=>eH V n E f k σ
 | f+1,.ops ops (⟨dst,op,_,_,_,none⟩::r)::k,σ=>fits n dst=true∧Yc V n E f ops r k (XR V dst op σ)
 | f+1,.ops ops (⟨dst,op,_,_,_,some (j,want)⟩::r)::k,σ=>fits n dst=true∧XA V n E f ops dst op want r k σ (Yk σ.t (kG ops.toList j)) (gvU σ.t (kG ops.toList j))
 | _+1,.cut J::_,σ=>J σ
 | f+1,.kt _ _ .leaf::k,σ=>eH V n E f k σ
 | f+1,.kt ops L (.one i t)::k,σ=>eH V n E f (.ops ops (rY ops.toList i)::.kt ops (i::L) t::k) σ
 | f+1,.kt ops L (.cI i t)::k,σ=>Ks V n E f ops L i t k σ (rY ops.toList i)
 | f+1,.kt ops L (.alt a b)::k,σ=>eH V n E f (.kt ops L a::k) σ∧eH V n E f (.kt ops L b::k) σ
 | f+1,.oy ops [] rs::k,σ=>Qh ops rs∧eH V n E f k σ
 | f+1,.oy ops (⟨dst,op,_,_,_,none⟩::r) rs::k,σ=>fits n dst=true∧Yg V n E f ops r rs k dst σ (XV V op σ)
 | f+1,.oy ops (⟨dst,op,_,_,_,some (j,want)⟩::r) rs::k,σ=>fits n dst=true∧Xy V n E f ops dst op want r rs k σ (Yk σ.t (kG ops.toList j)) (gvU σ.t (kG ops.toList j))
def I4 (V:Cx)(n:Nat)(E:Fin):Nat→Array Oper→List Item→St→How→Prop
 | f,ops,k,σ,.ord p=>Gd ops p∧eH V n E f (.oy (uF ops p) (uF ops p).toList []::k) σ
 | f,ops,k,σ,.all t=>OT.BA ops [] t=true∧∃ J:St→Prop,eH V n E f (.kt ops [] t::.cut J::k) σ∧∀ σ',J σ'→eH V n E f k σ'
def Ks (V:Cx)(n:Nat)(E:Fin):Nat→Array Oper→List Nat→Nat→OT→List Item→St→List Oper→Prop
 | f,ops,L,i,t,k,σ,[⟨dst,op,_,_,_,none⟩]=>fits n dst=true∧Kr V n E f ops L i t k σ dst (pv V.Γ σ.t op)
 | _,_,_,_,_,_,_,_=>False
def Kr (V:Cx)(n:Nat)(E:Fin):Nat→Array Oper→List Nat→Nat→OT→List Item→St→Option Tmp→Option (Prop × SV)→Prop
 | f,ops,L,i,t,k,σ,dst,some (c,x)=>c∧eH V n E f (.kt ops (i::L) t::k) ⟨put dst x σ.t,σ.b⟩
 | _,_,_,_,_,_,_,_,none=>False
def Yg (V:Cx)(n:Nat)(E:Fin):Nat→Array Oper→List Oper→List Rk→List Item→Option Tmp→St→mA→Prop
 | f,ops,r,rs,k,dst,σ,.val c ⟨x,none,all,rd,wr⟩=>c∧eH V n E f (.oy ops r (rs++[⟨false,all,rd,wr⟩])::k) ⟨put dst x σ.t,σ.b⟩
 | f,ops,r,rs,k,dst,σ,.val c ⟨x,some b,all,rd,wr⟩=>c∧eH V n E f (.oy ops r (rs++[⟨true,all,rd,wr⟩])::k) ⟨put dst x σ.t,b⟩
 | f,ops,r,rs,k,dst,σ,.call g args=>Dc V n E f ops r rs k dst σ g args
 | _,_,_,_,_,_,_,.bad=>False
def Dc (V:Cx)(n:Nat)(E:Fin):Nat→Array Oper→List Oper→List Rk→List Item→Option Tmp→St→FuncId→List SV→Prop
 | f,ops,r,rs,k,dst,σ,g,args=>(∃ x,PC V g args x∧eH V n E f (.oy ops r (rs++[⟨false,false,[],[]⟩])::k) ⟨put dst x σ.t,σ.b⟩)∨(∃ x b,SC V g args σ.b (fun r b'=>r=x∧b'=b)∧eH V n E f (.oy ops r (rs++[⟨true,true,[],[]⟩])::k) ⟨put dst x σ.t,b⟩) ∨
   (∃ x b W,SC V g args σ.b (fun r b'=>r=x∧b'=b)∧Ih W b σ.b∧eH V n E f (.oy ops r (rs++[⟨true,false,[],W⟩])::k) ⟨put dst x σ.t,b⟩)
def Xy (V:Cx)(n:Nat)(E:Fin):Nat→Array Oper→Option Tmp→Op→Bool→List Oper→List Rk→List Item→St→Option (Nat × Bool)→Bool→Prop
 | f,ops,dst,op,want,r,rs,k,σ,some (d,b),_=>fits n (some d)=true∧XG b want (Yg V n E f ops r rs k dst ⟨(d,.bool want)::σ.t,σ.b⟩ (XV V op ⟨(d,.bool want)::σ.t,σ.b⟩)) (eH V n E f (.oy ops r (rs++[⟨false,false,[],[]⟩])::k) ⟨put dst (.v undef) ((d,.bool (!want))::σ.t),σ.b⟩)
 | f,ops,dst,_,_,r,rs,k,σ,none,true=>eH V n E f (.oy ops r (rs++[⟨false,false,[],[]⟩])::k) ⟨put dst (.v undef) σ.t,σ.b⟩
 | _,_,_,_,_,_,_,_,_,none,false=>False
def XN (V:Cx)(n:Nat)(E:Fin):Nat→Code→Code→List Item→St→Option SV→Prop
 | f,x,y,k,σ,some (.bool b)=>XQ b (eH V n E f (.code x::k) σ) (eH V n E f (.code y::k) σ)
 | _,_,_,_,_,_=>False
def KC (V:Cx)(n:Nat)(E:Fin):Nat→Code→List Item→St→Prop
 | f,x,k,σ=>∃ (I:St→Prop) (μ:St→Nat),I σ∧∀ σ',I σ'→eH V n E f (.code x::.EF I μ (μ σ')::k) σ'
def XO (V:Cx)(n:Nat)(E:Fin):Nat→St→Option (List Item)→Prop
 | f,σ,some k=>eH V n E f k σ
 | _,_,none=>False
def Yc (V:Cx)(n:Nat)(E:Fin):Nat→Array Oper→List Oper→List Item→jM→Prop
 | f,ops,r,k,.go c σ=>c∧eH V n E f (.ops ops r::k) σ
 | f,ops,r,k,.call g args dst σ=>Db V n E f ops r k g args dst σ
 | _,_,_,_,.bad=>False
def Db (V:Cx)(n:Nat)(E:Fin):Nat→Array Oper→List Oper→List Item→FuncId→List SV→Option Tmp→St→Prop
 | f,ops,r,k,g,args,dst,σ=>(∃ x,PC V g args x∧eH V n E f (.ops ops r::k) ⟨put dst x σ.t,σ.b⟩)∨(∃ R,SC V g args σ.b R∧∀ x bs,R x bs→eH V n E f (.ops ops r::k) ⟨put dst x σ.t,bs⟩)
def XA (V:Cx)(n:Nat)(E:Fin):Nat→Array Oper→Option Tmp→Op→Bool→List Oper→List Item→St→Option (Nat × Bool)→Bool→Prop
 | f,ops,dst,op,want,r,k,σ,some (d,b),_=>fits n (some d)=true∧XG b want (Yc V n E f ops r k (XR V dst op ⟨(d,.bool want)::σ.t,σ.b⟩)) (eH V n E f (.ops ops r::k) ⟨put dst (.v undef) ((d,.bool (!want))::σ.t),σ.b⟩)
 | f,ops,dst,_,_,r,k,σ,none,true=>eH V n E f (.ops ops r::k) ⟨put dst (.v undef) σ.t,σ.b⟩
 | _,_,_,_,_,_,_,_,none,false=>False
end
open Go Go.RowKit Wf
def dL {S:Type}(u:Nat→S→S)(D:Nat→Bool):Nat→S→S
 | 0,s=>s
 | n+1,s=>if D n then u n (dL u D n s) else dL u D n s
theorem rq {S X:Type}(u:Nat→S→S)(obs:S→X)(hu:∀ k s s',obs s=obs s'→obs (u k s)=obs (u k s'))(D D':Nat→Bool):∀ (n:Nat)(s:S),
 (∀ k,k<n→D k=D' k∨∀ s,obs (u k s)=obs s)→obs (dL u D n s)=obs (dL u D' n s)
 | 0,_,_=>rfl
 | n+1,s,h=>by
   have ih:=rq u obs hu D D' n s (fun k hk=>h k QA);simp only[dL];rcases h n QA with e|e
   ·rw[e]
    split
    ·exact hu _ _ _ ih
    ·exact ih
   ·split <;> split <;> simp only[e,ih]
theorem fold_congr {S:Type}(u:Nat→S→S)(D D':Nat→Bool):∀ (n:Nat)(s:S),(∀ k,k<n→D k=D' k)→dL u D n s=dL u D' n s
 | 0,_,_=>rfl
 | n+1,s,h=>by simp only[dL];rw[h n QA,fold_congr u D D' n s (fun k hk=>h k QA)]
def wb (i:Nat):Nat→Bool:=fun k=>decide (k<i)
def gx (D:Nat→Bool)(i:Nat):Nat→Bool:=fun k=>D k||decide (k=i)
theorem PF {S : Type} (u : Nat → S → S) : ∀ (n i : Nat) (s : S), i ≤ n → dL u (wb i) n s = dL u (wb i) i s := by
  intro n;induction n with
  | zero => intro i s h; have : i = 0 := by omega
            subst this; rfl
  | succ n ih =>
    intro i s h;by_cases e : i = n + 1
    · subst e; rfl
    · simp only [dL]
      rw [if_neg (by simp [wb]; omega)]
      exact ih i s QA
theorem PH {S:Type}(u:Nat→S→S)(D:Nat→Bool):∀ (n:Nat)(s:S),(∀ k,k<n→D k=true)→dL u D n s=dL u (wb n) n s:=by
 intro n s h;exact fold_congr u D (wb n) n s (fun k hk=>by rw[h k hk];simp[wb,hk])
theorem B0 {S:Type}(u:Nat→S→S)(i:Nat)(s:S):dL u (wb (i+1)) (i+1) s=u i (dL u (wb i) i s):=by
 simp only[dL];rw[if_pos (by simp[wb])];congr 1
 exact fold_congr u _ _ i s (fun k hk=>by simp[wb];omega)
theorem PE {S X:Type}(u:Nat→S→S)(obs:S→X)(hu:∀ k s s',obs s=obs s'→obs (u k s)=obs (u k s'))(D:Nat→Bool)(n i:Nat)(s:S)(hi:i≤n)
 (h:∀ k,k<n→(∃ s,obs (u k s)≠obs s)→D k=decide (k<i)):obs (dL u D n s)=obs (dL u (wb i) i s):=by
 rw[← PF u n i s hi];refine rq u obs hu D (wb i) n s (fun k hk=>?_);by_cases e:∃ s,obs (u k s)≠obs s
 ·exact .inl (h k hk e)
 ·exact .inr (fun s=>Classical.byContradiction fun bF=>e ⟨s,bF⟩)
theorem PG {S X : Type} (u : Nat → S → S) (obs : S → X) (hu : ∀ k s s', obs s = obs s' → obs (u k s) = obs (u k s')) (D : Nat → Bool) (n i : Nat) (s : S) (hi : i < n) (hD : D i = false)
    (h : (∃ s, obs (u i s) ≠ obs s) → ∀ k, k < n → (∃ s, obs (u k s) ≠ obs s) → D k = true → k < i)
    : obs (dL u (gx D i) n s) = obs (u i (dL u D n s)) := by
  by_cases e : ∃ s, obs (u i s) ≠ obs s
  · -- nothing behind i shows
    have h1 : obs (dL u (gx D i) n s) = obs (dL u (fun k => gx D i k && decide (k ≤ i)) n s) :=
      rq u obs hu _ _ n s (fun k hk => by
        by_cases ek : ∃ s, obs (u k s) ≠ obs s
        · left
          by_cases kO : k ≤ i
          · simp [kO]
          · have : D k = false := by
              cases hdk : D k
              · rfl
              · have := h e k hk ek hdk; omega
            simp [gx, this]; omega
        · exact .inr (fun s => Classical.byContradiction fun bF => ek ⟨s, bF⟩))
    have h2 : ∀ m, i < m → dL u (fun k => gx D i k && decide (k ≤ i)) m s = u i (dL u D i s) := by
      intro m;induction m with
      | zero => intro hm; omega
      | succ m ih =>
        intro hm;simp only [dL];by_cases O4 : m = i
        · subst O4
          rw [if_pos (by simp [gx])]
          congr 1
          exact fold_congr u _ _ m s (fun k hk => by simp [gx, show k ≠ m by omega, show k ≤ m by omega])
        · rw [if_neg (by simp; omega)]
          exact ih QA
    rw [h1, h2 n hi]
    refine hu _ _ _ ?_;have h3 : obs (dL u D n s) = obs (dL u (fun k => D k && decide (k < i)) n s) :=
      rq u obs hu _ _ n s (fun k hk => by
        by_cases ek : ∃ s, obs (u k s) ≠ obs s
        · left
          cases hdk : D k
          · simp
          · have := h e k hk ek hdk; simp [this]
        · exact .inr (fun s => Classical.byContradiction fun bF => ek ⟨s, bF⟩))
    have h4 : ∀ m, i ≤ m → dL u (fun k => D k && decide (k < i)) m s = dL u D i s := by
      intro m;induction m with
      | zero => intro hm; have : i = 0 := by omega
                subst this; rfl
      | succ m ih =>
        intro hm;by_cases O4 : i = m + 1
        · subst O4
          exact fold_congr u _ _ (m + 1) s (fun k hk => by simp; omega)
        · simp only [dL]
          rw [if_neg (by simp; omega)]
          exact ih QA
    rw [h3, h4 n QA]
  · have e' : ∀ s, obs (u i s) = obs s := fun s => Classical.byContradiction fun bF => e ⟨s, bF⟩
    rw [e']
    refine rq u obs hu _ _ n s (fun k hk => ?_);by_cases kO : k = i
    · subst kO; exact .inr e'
    · left; simp [gx, kO]
theorem Lm {P:Program}{ops:Array Oper}{Q:Exit→Act→World→Prop}{md:Region.Mode}(Inv:(Nat→Bool)→Act→World→Prop)
 (KL:∀ (listed:Array Bool) a w i,listed.size=ops.size→Inv (fun k=>listed.getD k false) a w→i∈Region.ready md ops listed→wpOp P ops Q i (fun a' w'=>Inv (gx (fun k=>listed.getD k false) i) a' w') a w)
 (kE:∀ (listed:Array Bool) a w,listed.size=ops.size→Inv (fun k=>listed.getD k false) a w→Region.ready md ops listed=[]→Q .normal a w) :
 ∀ (fuel:Nat) (listed:Array Bool) a w,listed.size=ops.size→(listed.toList.filter (fun b=>!b)).length≤fuel→Inv (fun k=>listed.getD k false) a w→wpAny P md ops Q fuel listed a w:=by
 have key:∀ (listed:Array Bool) (i:Nat),i∈Region.ready md ops listed→i<listed.size∧listed.getD i false=false:=by
  intro listed i hi;have:=(mem_ready.1 hi).1
  have az:i<listed.size:=by
   rcases zQ6 i listed.size with h|h
   ·exact h
   ·simp[h]at this
  exact⟨az,by simp[az]at this ⊢;exact this⟩
 intro fuel;induction fuel with
 | zero =>
   intro listed a w hs hc hI;have hr:Region.ready md ops listed=[]:=by
    rcases h:Region.ready md ops listed with _|⟨i,r⟩
    ·rfl
    ·have hi:i∈Region.ready md ops listed:=by rw[h];simp
     obtain⟨az,hf⟩:=key listed i hi;have:false∈listed.toList.filter (fun b=>!b):=by
      simp only[List.mem_filter];refine⟨?_,rfl⟩;have:listed[i]=false:=by simpa[az] using hf
      rw[← this];exact zQS.2 (Array.getElem_mem az)
     have:=List.length_pos_of_mem this
     omega
   exact⟨hr,kE listed a w hs hI hr⟩
 | succ fuel ih =>
   intro listed a w hs hc hI;refine⟨fun hr=>kE listed a w hs hI hr,fun i hi=>?_⟩;obtain⟨az,hf⟩:=key listed i hi;refine wpOp_mono (fun a' w' hI'=>ih (listed.setIfInBounds i true) a' w' (by simp[hs]) ?_ ?_) (KL listed a w i hs hI hi)
   ·have hl:listed[i]=false:=by simpa[az] using hf
    have e:listed.toList=listed.toList.take i++false::listed.toList.drop (i+1):=by
     have h1:=(List.take_append_drop i listed.toList).symm;rw[List.drop_eq_getElem_cons (by simpa using az)]at h1;simpa[hl] using h1
    have hlen:(listed.toList.take i).length=i:=by simp;omega
    have e2:(listed.setIfInBounds i true).toList=listed.toList.take i++true::listed.toList.drop (i+1):=by
     rw[Array.toList_setIfInBounds]
     conv=>lhs;rw[e]
     rw[List.set_append_right _ _ QA];simp[hlen]
    rw[e2];rw[e]at hc;simp at hc ⊢
    omega
   ·have e:(fun k=>(listed.setIfInBounds i true).getD k false)=gx (fun k=>listed.getD k false) i:=by
     funext k
     by_cases h:k=i
     ·subst h;simp[gx,az]
     ·simp only[gx]
      rw[zRe,Array.getElem?_setIfInBounds_ne (fun q=>h q.symm),← zRe];simp[h]
    rw[e];exact hI'
open Go Go.RowKit Wf
section
variable {V:Cx} {F:Fx V} {β:Nat→Bt} {fp:Nat→Nat→Prop}
theorem F8 {Γ:TypeId→Option TI}{t t':List (Nat × SV)}{op:Op}(h:∀ x∈op.operands,ev t x=ev t' x):pv Γ t op=pv Γ t' op:=by
 have opt:∀ o:Option Operand,(∀ x,o=some x→ev t x=ev t' x)→tx t o=tx t' o:=fun o ho=>by
  cases o with
  | none=>rfl
  | some x=>simp[tx,ho x rfl]
 have lst:∀ l:List Operand,(∀ x∈l,ev t x=ev t' x)→l.mapM (ev t)=l.mapM (ev t'):=fun l=>by
  induction l with
  | nil=>intro _;rfl
  | cons x r ih=>intro hl;simp only[List.mapM_cons];rw[hl x QB,ih (fun y hy=>hl y (by simp[hy]))]
 cases op <;> simp only[pv]
 case move x=>simp only[XX];rw[h x (by simp[Op.operands])]
 case assign x=>simp only[XX];rw[h x (by simp[Op.operands])]
 case pick c a b=>simp only[Ya];rw[h c (by simp[Op.operands]),h a (by simp[Op.operands]),h b (by simp[Op.operands])]
 case fieldAddr S x f=>simp only[Xb];rw[h x (by simp[Op.operands])]
 case field S x f=>simp only[Xu];rw[h x (by simp[Op.operands])]
 case binOp op T x y yt=>simp only[oBin];rw[h x (by simp[Op.operands]),h y (by simp[Op.operands])]
 case unOp op T x=>simp only[oUn];rw[h x (by simp[Op.operands])]
 case convert S D x=>simp only[Ye];rw[h x (by simp[Op.operands])]
 case slice T x lo hi mx =>
  cases mx with
  | some _=>rfl
  | none =>
    simp only[Xw];rw[h x (by simp[Op.operands]),opt lo (fun y hy=>h y (by simp[Op.operands,hy])),opt hi (fun y hy=>h y (by simp[Op.operands,hy]))]
 case index T x i=>simp only[Xx];rw[h x (by simp[Op.operands]),h i (by simp[Op.operands])]
 case build T ps =>
  have hp:∀ l:List (Nat × Operand),(∀ x∈l,ev t x.2=ev t' x.2)→Xl t l=Xl t' l:=fun l=>by
   induction l with
   | nil=>intro _;rfl
   | cons x r ih=>intro hl;obtain⟨i,o⟩:=x;simp only[Xl];rw[hl (i,o) QB,ih (fun y hy=>hl y (by simp[hy]))]
  simp only[Xk];rw[hp ps.toList (fun x hx=>h x.2 (by simp only[Op.operands];rw[List.mem_toArray];exact zRj hx))]
 case indexAddr T x i=>simp only[XS];rw[h x (by simp[Op.operands]),h i (by simp[Op.operands])]
 case makeInterface T x=>simp only[Eh];rw[h x (by simp[Op.operands])]
 case typeAssert x S A ok =>
  cases ok
  ·rfl
  ·simp only[yB];rw[h x (by simp[Op.operands])]
 case extract x i=>simp only[Xh];rw[h x (by simp[Op.operands])]
 case makeFunc f first caps =>
  simp only[Yh];unfold C5;rw[lst caps.toList (fun x hx=>h x (by simp only[Op.operands];exact zRg.2 (.inr (zQS.1 hx)))),
   lst first.toList (fun x hx=>h x (by simp only[Op.operands];exact zRg.2 (.inl (zQS.1 hx))))]
 case call c =>
  obtain⟨callee,args,ts⟩:=c;cases callee <;> (try simp only)
  rename_i b
  cases b <;> (try simp only)
  simp only[LZ];split
  ·rename_i x hx
   rw[h x (by
    simp only[Op.operands,Call.operands];refine zRg.2 (.inr (zQS.1 ?_));rw[hx];simp)]
  ·rfl
theorem IU (c:List SV)(r:aq):shape (yZ c r)=shape r:=by cases r <;> rfl
theorem JT {bs:List aq}{i:Nat}{c:List SV}{T:TypeId}{m:Bool}(h:ko bs i=some (c,T,m)):∃ r,bs[i]? = some r∧rC r=c∧∀ c' r',shape r'=shape r→rC r'=c'→(∀ bs':List aq,bs'[i]? = some r'→ko bs' i=some (c',T,m)):=by
 obtain⟨r,hr,-,hc⟩:=ov h;refine⟨r,hr,by rcases hc with rfl|⟨s,n,rfl⟩ <;> rfl,fun c' r' hs hcr bs' hb=>?_⟩;unfold ko;rw[hb];rcases hc with rfl|⟨s,n,rfl⟩ <;> cases r' <;> simp[shape]at hs <;> simp[rC]at hcr <;> simp[hs,hcr]
theorem LX {a b:Nat × Nat × Nat}(h:ovl a b=false){q:Option Nat}(hq:inR a q):¬ NG b a.1 q:=by
 rintro⟨h1,h2⟩;have:ovl a b=true:=by
  unfold ovl;simp only[zQG,beq_iff_eq,zQJ,decide_eq_true_eq];refine⟨h1.symm,?_⟩;rcases h2 with h2|⟨p,rfl,h3,h4⟩
  ·exact .inl h2
  ·rcases hq with hq|⟨p',hp,h5,h6⟩
   ·cases hq
   ·cases hp
    exact .inr ⟨QA,QA⟩
 rw[h]at this;cases this
theorem NT {j off n:Nat}{bi bs:List aq}(h:seen (j,off,n) bi bs){c:List SV}{T:TypeId}{m:Bool}(hg:ko bi j=some (c,T,m)) :
 ∃ c',ko bs j=some (c',T,m)∧c'.length=c.length∧∀ p,off≤p→p<off+n→c'[p]? = c[p]? := by
 obtain⟨r,hr,rfl,br⟩:=JT hg;have key:∀ q,inR (j,off,n) q→∃ r',bs[j]? = some r'∧ob q r'=ob q r:=fun q hq=>by
  have:=h q hq
  simp only[hr]at this;cases hbs:bs[j]? with
  | none=>rw[hbs]at this;simp at this
  | some r' =>
    rw[hbs]at this;simp only[zQP,zQ0.injEq]at this;exact⟨r',rfl,this⟩
 obtain⟨r',hr',ho⟩:=key none (.inl rfl);simp only[ob,Prod.mk.injEq,and_true]at ho;refine⟨rC r',br _ r' ho.1 rfl bs hr',ho.2,fun p h1 h2=>?_⟩;obtain⟨r2,KN,p8⟩:=key (some p) (.inr ⟨p,rfl,h1,h2⟩);rw[hr']at KN;cases KN
 simp only[ob,Prod.mk.injEq]at p8;exact p8.2.2
theorem FF {j off k:Nat}{bi bs:List aq}(h:seen (j,off,k) bi bs){c:List SV}{e s n:Nat}{m:Bool}(hg:bi[j]? = some (.own c e s n m)):∃ c',bs[j]? = some (.own c' e s n m):=by
 have:=h none (.inl rfl)
 simp only[hg]at this;cases hbs:bs[j]? with
 | none=>rw[hbs]at this;simp at this
 | some r' =>
   rw[hbs]at this;simp only[zQP,zQ0.injEq,ob,Prod.mk.injEq,and_true]at this;cases r' <;> simp[shape]at this
   rename_i c' _ _ _ _
   obtain⟨⟨rfl,rfl,rfl,rfl⟩,-⟩:=this;exact⟨c',rfl⟩
theorem Ge {agg:Bool}{off n:Nat}{c c':List SV}(hn:0<n)(h:∀ p,off≤p→p<off+n→c'[p]? = c[p]?):XM agg off n c'=XM agg off n c:=by
 unfold XM;cases agg
 ·simp[h off (zQK _) QA]
 ·simp only[if_true]
  congr 2
  apply List.ext_getElem?
  intro q;simp only[List.getElem?_take,List.getElem?_drop];split
  ·exact h (off+q) QA QA
  ·rfl
theorem mapM_congr {t t':List (Nat × SV)}:∀ (l:List Operand),(∀ x∈l,ev t x=ev t' x)→C5 t l=C5 t' l
 | [],_=>rfl
 | x::r,h=>by
   have:=mapM_congr r (fun y hy=>h y (by simp[hy]))
   unfold C5 at this ⊢;simp only[List.mapM_cons];rw[h x QB,this]
theorem j9 {t t':List (Nat × SV)}:∀ (l:List (Nat × Operand)),(∀ x∈l.map (·.2),ev t x=ev t' x)→Xl t l=Xl t' l
 | [],_=>rfl
 | (i,x)::r,h=>by
  simp only[Xl];rw[h x QB,j9 r (fun y hy=>h y (by simp only[List.map_cons,List.mem_cons];exact .inr hy))]
def hdS:List (Nat × SV)→SV
 | (_,x)::_=>x
 | []=>.v undef
theorem Lt {dst:Option Tmp}{op:Op}{t:List (Nat × SV)}{b:List aq}{c:Prop}{σ':St}(hs:Yl V dst op ⟨t,b⟩=some (c,σ')):∃ x,σ'.t=put dst x t:=by
 cases op <;> simp only[Yl,reduceCtorEq]at hs
 case call cl =>
  obtain⟨callee,args,ts⟩:=cl;cases callee <;> (try simp only[reduceCtorEq]at hs)
  rename_i bi
  cases bi <;> (try simp only[reduceCtorEq]at hs)
  case append =>
   unfold Xm at hs
   (repeat' split at hs) <;> try (cases hs;done)
   cases hs
   exact⟨_,rfl⟩
  all_goals
   unfold Xq at hs
   (repeat' split at hs) <;> try (cases hs;done)
   obtain⟨z,hz,e⟩:=zRd.1 hs;cases e
   exact⟨z,rfl⟩
 case slice T x lo hi mx =>
  cases mx with
  | some mx =>
    cases lo <;> cases hi <;> simp only[reduceCtorEq]at hs
    unfold Jp at hs
    (repeat' split at hs) <;> try (cases hs;done)
    cases hs
    exact⟨_,rfl⟩
  | none =>
  simp only at hs;unfold Xj at hs
  (repeat' split at hs) <;> try (cases hs;done)
  cases hs
  exact⟨_,rfl⟩
 case convert S D x =>
  unfold Yb at hs
  (repeat' split at hs) <;> try (cases hs;done)
  all_goals
   cases hs
   exact⟨_,rfl⟩
 all_goals
  first|unfold Yn at hs|unfold Xa at hs|unfold Xc at hs
  (repeat' split at hs) <;> try (cases hs;done)
  cases hs
  exact⟨_,rfl⟩
theorem Lu {op:Op}{t t':List (Nat × SV)}{b:List aq}(h:∀ x∈op.operands,ev t' x=ev t x)(dst:Option Tmp) :
 Yl V dst op ⟨t',b⟩=(Yl V (some 0) op ⟨t,b⟩).map fun p=>(p.1,⟨put dst (hdS p.2.t) t',p.2.b⟩):=by
 have opt:∀ o:Option Operand,(∀ x,o=some x→ev t' x=ev t x)→tx t' o=tx t o:=fun o ho=>by
  cases o with
  | none=>rfl
  | some x=>simp[tx,ho x rfl]
 cases op <;> simp only[Yl,zQ9]
 case call cl =>
  obtain⟨callee,args,ts⟩:=cl;have yo:∀ x∈args.toList,ev t' x=ev t x:=fun x hx=>h x (by
   simp only[Op.operands,Call.operands];exact zRg.2 (.inr (zQS.1 hx)))
  cases callee <;> (try simp only[zQ9])
  rename_i bi
  cases bi <;> (try simp only[zQ9])
  case append =>
   unfold Xm;generalize args.toList=L at yo;generalize ts.toList=TS;match L,yo with
   | [s,x],yo =>
     simp only[yo s QB,yo x QB]
     (repeat' split) <;> rfl
   | [],_=>rfl
   | [_],_=>rfl
   | _::_::_::_,_=>rfl
  all_goals
   unfold Xq;generalize args.toList=L at yo;match L,yo with
   | [s,x],yo =>
     simp only[yo s QB,yo x QB];split
     ·split
      ·rw[Option.map_map];rfl
      ·rfl
     ·rfl
   | [],_=>rfl
   | [_],_=>rfl
   | _::_::_::_,_=>rfl
 case makeSlice T l cc =>
  unfold Yn;simp only[h l (by simp[Op.operands]),h cc (by simp[Op.operands])]
  (repeat' split) <;> rfl
 case buildSlice T n ps =>
  unfold Xa;simp only[j9 (t:=t') (t':=t) ps.toList (fun x hx=>h x (by simp only[Op.operands];rw[List.mem_toArray];exact hx))]
  (repeat' split) <;> rfl
 case indexAddr T x i =>
  unfold Xc;simp only[h x (by simp[Op.operands]),h i (by simp[Op.operands])]
  (repeat' split) <;> rfl
 case slice T x lo hi mx =>
  cases mx with
  | some mx =>
    cases lo <;> cases hi <;> simp only[zQ9]
    rename_i hi
    unfold Jp;simp only[h x (by simp[Op.operands]),h hi (by simp[Op.operands]),h mx (by simp[Op.operands])]
    (repeat' split) <;> rfl
  | none =>
  simp only;unfold Xj;simp only[h x (by simp[Op.operands]),opt lo (fun y hy=>h y (by simp[Op.operands,hy])),opt hi (fun y hy=>h y (by simp[Op.operands,hy]))]
  (repeat' split) <;> rfl
 case convert S D x =>
  unfold Yb;simp only[h x (by simp[Op.operands])]
  (repeat' split) <;> rfl
theorem lM {op:Op}{t t':List (Nat × SV)}{b:List aq}(h:∀ x∈op.operands,ev t' x=ev t x){c:Prop}{σ':St}(hs:Yl V (some 0) op ⟨t,b⟩=some (c,σ')) :
 ∃ x,σ'.t=(0,x)::t∧∀ dst,Yl V dst op ⟨t',b⟩=some (c,⟨put dst x t',σ'.b⟩):=by
 obtain⟨x,hx⟩:=Lt hs;refine⟨x,hx,fun dst=>?_⟩;rw[Lu h dst,hs];simp only[zQP,hx];rfl
theorem OJ {l:List (Option SV)}{j n:Nat}(h:some (SV.o j n)∈l):(j,0,0)∈idxs l:=by
 induction l with
 | nil=>cases h
 | cons x r ih =>
   simp only[List.mem_cons]at h;rcases h with h|h
   ·subst h;simp[idxs]
   ·have:=ih h
    cases x with
    | none=>simpa[idxs] using this
    | some v=>cases v <;> simp[idxs,this]
theorem Mi {l:List (Option SV)}{x:Nat × Nat × Nat}(h:x∈idxs l):x.2.2=0:=by
 induction l with
 | nil=>cases h
 | cons y r ih =>
   cases y with
   | none=>exact ih (by simpa[idxs] using h)
   | some v =>
     cases v
     case o j n =>
      simp only[idxs,List.mem_cons]at h;rcases h with rfl|h
      ·rfl
      ·exact ih h
     case f j n =>
      simp only[idxs,List.mem_cons]at h;rcases h with rfl|h
      ·rfl
      ·exact ih h
     all_goals exact ih (by simpa[idxs] using h)
theorem Jl {op:Op}{t:List (Nat × SV)}{o:Operand}(ho:o∈E1 op){j n:Nat}(he:ev t o=some (.o j n)):(j,0,0)∈idxs ((E1 op).map (ev t)) :=
 OJ (by rw[← he];exact zRj ho)
theorem PY {e s:Nat}{x:SV}{b bs:List aq}{n:Nat}{c:List SV}(h:vq b e s x=some (n,c,bs)){j:Nat}(hj:∀ i m,x=.o i m→i≠j):bs[j]? = b[j]? ∧ bs.length=b.length:=by
 cases x <;> simp only[vq,reduceCtorEq]at h
 case ai=>cases h;exact⟨rfl,rfl⟩
 case o i m =>
  split at h
  ·split at h
   ·cases h
    exact⟨zRf (hj i _ rfl),QB⟩
   ·cases h
  ·cases h
 case f i m =>
  split at h
  ·split at h
   ·cases h
    exact⟨rfl,rfl⟩
   ·cases h
  ·cases h
theorem ks {b:List aq}{X:aq}{j:Nat}(hj:j≠b.length):(b++[X])[j]? = b[j]? := by
 rcases zQ6 j b.length with h|h
 ·rw[zQN h]
 ·rw[zQQ h,zQ1 h,zQ1 QC]
theorem IL {op:Op}{t:List (Nat × SV)}{b:List aq}{c:Prop}{σ':St}(hs:Yl V (some 0) op ⟨t,b⟩=some (c,σ')){j:Nat}(hj:j≠b.length)(hi:∀ x∈idxs ((E1 op).map (ev t)),x.1≠j):σ'.b[j]? = b[j]? := by
 have bF:∀ (o:Operand),o∈E1 op→∀ i m,ev t o=some (.o i m)→i≠j:=fun o ho i m he=>hi _ (Jl ho he)
 cases op <;> simp only[Yl,reduceCtorEq]at hs
 case call cl =>
  obtain⟨callee,args,ts⟩:=cl;have yo:∀ x∈args.toList,x∈E1 (Op.call ⟨callee,args,ts⟩):=fun x hx=>hx
  cases callee <;> (try simp only[reduceCtorEq]at hs)
  rename_i bi
  cases bi <;> (try simp only[reduceCtorEq]at hs)
  case append =>
   unfold Xm at hs;split at hs
   ·rename_i s x hl
    (repeat' split at hs) <;> try (cases hs;done)
    cases hs
    rename_i hd _ _ _ _
    obtain⟨h1,h2⟩:=PY hd (j:=j) (fun i m e=>bF s (yo s (by rw[hl];simp)) i m (by rw[← e];assumption));simp only;rw[ks (by rw[h2];exact hj),h1]
   ·cases hs
  all_goals
   unfold Xq at hs
   (repeat' split at hs) <;> try (cases hs;done)
   obtain⟨z,hz,e⟩:=zRd.1 hs;cases e
   rfl
 case makeSlice T l cc =>
  unfold Yn at hs
  (repeat' split at hs) <;> try (cases hs;done)
  cases hs
  exact ks hj
 case buildSlice T n ps =>
  unfold Xa at hs
  (repeat' split at hs) <;> try (cases hs;done)
  cases hs
  exact ks hj
 case indexAddr T x i =>
  unfold Xc at hs
  (repeat' split at hs) <;> try (cases hs;done)
  cases hs
  rfl
 case slice T x lo hi' mx =>
  cases mx with
  | some mx =>
    cases lo <;> cases hi' <;> simp only[reduceCtorEq]at hs
    unfold Jp at hs
    (repeat' split at hs) <;> try (cases hs;done)
    cases hs
    rfl
  | none =>
  simp only at hs;unfold Xj at hs
  (repeat' split at hs) <;> try (cases hs;done)
  rename_i OY
  cases hs
  simp only;unfold reS at OY;split at OY
  ·rename_i i m he
   have Hj:i≠j:=bF x (by simp[E1]) i m he;split at OY
   ·split at OY
    ·(repeat' split at OY) <;> cases OY
     all_goals first
      | rw[ks (by simpa using hj),zRf Hj]
      | exact ks hj
    ·cases OY
   ·cases OY
  ·cases OY
 case convert S D x =>
  unfold Yb at hs
  (repeat' split at hs) <;> try (cases hs;done)
  all_goals cases hs
  all_goals first|rfl|exact ks hj
theorem Fu {op:Op}(hr:Xz V op=true){t:List (Nat × SV)}{b b':List aq}{c:Prop}{σ':St}(hs:Yl V (some 0) op ⟨t,b⟩=some (c,σ'))(hc:c)
 (oj:∀ x∈idxs ((E1 op).map (ev t)),seen x b b'):∃ c',c'∧Yl V (some 0) op ⟨t,b'⟩=some (c',⟨σ'.t,b'⟩):=by
 cases op <;> simp only[Yl,reduceCtorEq]at hs
 case call cl =>
  obtain⟨callee,args,ts⟩:=cl;cases callee <;> (try simp only[reduceCtorEq]at hs)
  rename_i bi
  cases bi <;> (try simp only[reduceCtorEq]at hs)
  case append=>simp[Xz]at hr
  all_goals
   simp only[Yl];unfold Xq at hs ⊢;split at hs
   ·rename_i s x hl
    simp only;split at hs
    ·rename_i u hu
     split at hs
     ·rename_i v hv
      obtain⟨z,hz,e⟩:=zRd.1 hs;cases e
      exact⟨True,trivial,by simp[hl,hu,hv,hz]⟩
     ·cases hs
    ·cases hs
   ·cases hs
 case indexAddr T x i =>
  simp only[Yl];unfold Xc at hs ⊢;split at hs
  ·rename_i e hk
   split at hs
   ·rename_i s lZ
    split at hs
    ·rename_i u hu
     split at hs
     ·rename_i k kk hi
      split at hs
      ·rename_i c0 y ha
       cases hs
       simp only at hu hi;simp only[hu,hi];unfold Ym at ha;split at ha
       ·rename_i j n
        split at ha
        ·rename_i cc e1 s1 n1 m1 hj
         cases ha
         obtain⟨c'',hb'⟩:=FF (oj (j,0,0) (Jl (o:=x) (by simp[E1]) hu)) hj;simp only at hc;refine⟨_,?_,by simp only[Ym,hb'];rfl⟩;refine⟨hc.1,?_⟩;have h2:=hc.2;simp only[Xc.oN,hj]at h2;simp only[Xc.oN,hb'];exact h2
        ·cases ha
       ·cases ha
      ·cases hs
     ·cases hs
    ·cases hs
   ·cases hs
  ·cases hs
 case slice T x lo hi mx =>
  cases mx with
  | none=>cases lo <;> cases hi <;> simp[Xz]at hr
  | some mx =>
    cases lo with
    | some _=>cases hi <;> simp[Xz]at hr
    | none =>
      cases hi with
      | none=>simp[Xz]at hr
      | some hi =>
        simp only[Yl];simp only at hs;unfold Jp at hs ⊢;split at hs
        ·rename_i e hk
         split at hs
         ·rename_i s lZ
          split at hs
          ·rename_i u hu
           split at hs
           ·rename_i k1 h1 hhi
            split at hs
            ·rename_i k2 h2 hmx
             split at hs
             ·rename_i c0 y ha
              cases hs
              simp only at hu hhi hmx;simp only[hu,hhi,hmx];unfold HX at ha;split at ha
              ·rename_i j n
               split at ha
               ·rename_i cc e1 s1 n1 m1 hj
                cases ha
                obtain⟨c'',hb'⟩:=FF (oj (j,0,0) (Jl (o:=x) (by simp[E1]) hu)) hj;refine⟨_,hc,by simp only[HX,hb']⟩
               ·cases ha
              ·cases ha
               exact⟨_,hc,by simp only[HX]⟩
              ·cases ha
             ·cases hs
            ·cases hs
           ·cases hs
          ·cases hs
         ·cases hs
        ·cases hs
 all_goals simp[Xz]at hr
theorem NO {dst:Option Tmp}{op:Op}{t t':List (Nat × SV)}{b b':List aq}(h:∀ x∈op.operands,ev t' x=ev t x){c:Prop}{r:mC}(hs:XV V op ⟨t,b⟩=.val c r)(hc:c)(hb:r.nb.isSome=true→b'=b)(oj:r.nb=none→∀ x∈r.rd,seen x b b') :
 kJ V (fun σ=>σ=⟨put dst r.x t',r.nb.getD b'⟩) (XR V dst op ⟨t',b'⟩):=by
 unfold XV at hs;unfold XR;rw[F8 (t:=t') (t':=t) h];simp only at hs;cases hp:pv V.Γ t op with
 | some p =>
   rw[hp]at hs;obtain⟨c',x⟩:=p;simp only[MP,sS]at hs;cases hs
   exact⟨hc,rfl⟩
 | none =>
   rw[hp]at hs;simp only[MP,goR]at hs ⊢;cases hn:Yl V (some 0) op ⟨t,b⟩ with
   | some p =>
     obtain⟨c',σ'⟩:=p;rw[hn]at hs;obtain⟨x,hx,-⟩:=lM (t':=t) (fun _ _=>rfl) hn;simp only[dN,hx]at hs;split at hs
     ·rename_i Ep
      cases hs
      obtain⟨c2,mK,e2⟩:=Fu Ep hn hc (oj rfl);obtain⟨x2,Ng,e3⟩:=lM h e2;simp only[hx,List.cons.injEq,Prod.mk.injEq,true_and,and_true]at Ng;rw[e3 dst];simp only[Nc];exact⟨mK,by rw[← Ng];rfl⟩
     ·cases hs
      obtain rfl:=hb rfl;obtain⟨x2,Ng,e3⟩:=lM h hn;simp only[hx,List.cons.injEq,Prod.mk.injEq,true_and,and_true]at Ng;rw[e3 dst];simp only[Nc];exact⟨hc,by rw[← Ng];rfl⟩
   | none =>
     rw[hn]at hs;simp only[dN]at hs;cases op <;> simp only[Xv,reduceCtorEq]at hs
     case alloc T =>
      unfold XD at hs;simp only[Yl,Nc,Yd,XC];split at hs
      ·rename_i ti o7
       cases hs
       obtain rfl:=hb rfl;exact⟨trivial,rfl⟩
      ·cases hs
     case box T x =>
      unfold P3 at hs;simp only[Yl,Nc,Yd,sBox];split at hs
      ·rename_i u hu
       cases hs
       obtain rfl:=hb rfl;simp only at hu;rw[h x (by simp[Op.operands]),hu];exact⟨hc,rfl⟩
      ·cases hs
     case load T x =>
      unfold XI at hs;simp only[Yl,Nc,Yd,XU];rw[h x (by simp[Op.operands])]
      (repeat' split at hs) <;> try (cases hs;done)
      rename_i i off he _ c0 T0 m0 hg _ ti o7 _ y hy
      cases hs
      simp only at he hg;obtain⟨c1,yl,u3,hp1⟩:=NT (oj rfl (i,off,ti.size) QB) hg;rw[he];simp only[yl,o7,Ge hc.2 hp1,hy];exact⟨by rw[u3];exact hc.1,rfl⟩
     case store T x y =>
      unfold XF at hs;simp only[Yl,Nc,Yd,XH];rw[h x (by simp[Op.operands]),h y (by simp[Op.operands])]
      (repeat' split at hs) <;> try (cases hs;done)
      rename_i i off he _ u hu _ c0 T0 m0 hg _ s lZ
      cases hs
      obtain rfl:=hb rfl;simp only at he hg hu;rw[he,hu];simp only[hg,lZ];exact⟨⟨hc.1,hc.2.1,hc.2.2.1,hc.2.2.2.1⟩,rfl⟩
     case build T ps =>
      unfold XB at hs;simp only[Yl,Nc,Yd,Xr];rw[j9 (t:=t') (t':=t) ps.toList (fun x hx=>h x (by simp only[Op.operands];rw[List.mem_toArray];exact hx))]
      (repeat' split at hs) <;> try (cases hs;done)
      rename_i ti o7 _ fs hk _ l hl _ cc Np
      simp only[sS]at hs;cases hs
      simp only at hl;simp only[o7,hk,hl,Np];exact⟨trivial,rfl⟩
     case nilCheck x =>
      unfold P2 at hs;simp only[Yl,Nc,Yd,sNil];rw[h x (by simp[Op.operands])];split at hs
      ·rename_i i off he
       simp only[sS]at hs;cases hs
       simp only at he;rw[he];exact⟨trivial,rfl⟩
      ·rename_i f l he
       simp only[sS]at hs;cases hs
       simp only at he;rw[he];exact⟨hc,rfl⟩
      ·cases hs
     case call cl =>
      obtain⟨callee,args,ts⟩:=cl;cases callee <;> simp only[reduceCtorEq]at hs
      unfold XK at hs
      (repeat' split at hs) <;> cases hs
theorem IM {dst:Option Tmp}{op:Op}{t t':List (Nat × SV)}{b b':List aq}(h:∀ x∈op.operands,ev t' x=ev t x){g:FuncId}{args:List SV}(hs:XV V op ⟨t,b⟩=.call g args):XR V dst op ⟨t',b'⟩=.call g args dst ⟨t',b'⟩:=by
 unfold XV at hs;unfold XR;rw[F8 (t:=t') (t':=t) h];simp only at hs;cases hp:pv V.Γ t op with
 | some p=>rw[hp]at hs;obtain⟨c',x⟩:=p;simp[MP,sS]at hs
 | none =>
   rw[hp]at hs;simp only[MP,goR]at hs ⊢;cases hn:Yl V (some 0) op ⟨t,b⟩ with
   | some p =>
     obtain⟨c',σ'⟩:=p;rw[hn]at hs;obtain⟨x,hx,-⟩:=lM (t':=t) (fun _ _=>rfl) hn;simp only[dN,hx]at hs;split at hs <;> cases hs
   | none =>
     rw[hn]at hs;simp only[dN]at hs;cases op <;> simp only[Xv,reduceCtorEq]at hs
     case alloc T=>unfold XD at hs;(repeat' split at hs) <;> cases hs
     case box T x=>unfold P3 at hs;(repeat' split at hs) <;> cases hs
     case load T x=>unfold XI at hs;(repeat' split at hs) <;> cases hs
     case store T x y=>unfold XF at hs;(repeat' split at hs) <;> cases hs
     case build T ps=>unfold XB at hs;(repeat' split at hs) <;> (try simp only[sS]at hs) <;> cases hs
     case nilCheck x=>unfold P2 at hs;(repeat' split at hs) <;> (try simp only[sS]at hs) <;> cases hs
     case call cl =>
      obtain⟨callee,args,ts⟩:=cl;cases callee <;> simp only[reduceCtorEq]at hs
      rename_i f
      unfold XK at hs;simp only[Yl,Nc,Yd,XL];rw[h f (by simp[Op.operands,Call.operands])];have he:C5 t' args.toList=C5 t args.toList:=mapM_congr args.toList (fun x hx=>h x (by
       simp only[Op.operands,Call.operands];exact zRg.2 (.inr (zQS.1 hx))))
      rw[he];split at hs
      ·rename_i ff caps hf
       split at hs
       ·rename_i l hl
        simp only at hf hl;rw[hf];simp only[hl];cases hs
        rfl
       ·cases hs
      ·cases hs
def UnE (r:mC)(bi:List aq):Prop:=∀ nb,r.nb=some nb→r.all=false→∀ j q,(∀ x∈r.wr,¬ NG x j q)→(nb[j]?).map (ob q)=(bi[j]?).map (ob q)
theorem Fv {op:Op}{t:List (Nat × SV)}{b:List aq}{c:Prop}{r:mC}(hs:XV V op ⟨t,b⟩=.val c r)(hc:c):UnE r b:=by
 intro nb xR br j q hwr;unfold XV at hs;simp only at hs;cases hp:pv V.Γ t op with
 | some p=>rw[hp]at hs;obtain⟨c',x⟩:=p;simp only[MP,sS]at hs;cases hs;cases xR
 | none =>
   rw[hp]at hs;simp only[MP]at hs;cases hn:Yl V (some 0) op ⟨t,b⟩ with
   | some p =>
     obtain⟨c',σ'⟩:=p;rw[hn]at hs;obtain⟨x,hx,-⟩:=lM (t':=t) (fun _ _=>rfl) hn;simp only[dN,hx]at hs;split at hs
     ·cases hs;cases xR
     ·cases hs
      cases xR
      rw[IL hn (j:=j) (fun e=>hwr (b.length,0,0) QB ⟨e.symm,.inl rfl⟩) (fun x hx e=>hwr x (by simp[hx]) ⟨e,.inl ?_⟩)];exact Mi hx
   | none =>
     rw[hn]at hs;simp only[dN]at hs;cases op <;> simp only[Xv,reduceCtorEq]at hs
     case alloc T =>
      unfold XD at hs
      (repeat' split at hs) <;> try (cases hs;done)
      cases hs;cases xR
      rw[ks (fun e=>hwr (b.length,0,0) QB ⟨e.symm,.inl rfl⟩)]
     case box T x =>
      unfold P3 at hs
      (repeat' split at hs) <;> try (cases hs;done)
      cases hs;cases xR
      rw[ks (fun e=>hwr (b.length,0,0) QB ⟨e.symm,.inl rfl⟩)]
     case load T x =>
      unfold XI at hs
      (repeat' split at hs) <;> try (cases hs;done)
      cases hs;cases xR
     case store T x y =>
      unfold XF at hs
      (repeat' split at hs) <;> try (cases hs;done)
      rename_i i off he _ u hu _ c0 T0 m0 hg _ s lZ
      cases hs;cases xR
      obtain⟨-,-,h3,h4,h5⟩:=hc;simp only at hg hwr;obtain⟨r0,KO,-,kn⟩:=ov hg;rw[Dp KO];by_cases oo:i=j
      ·subst oo
       have dJ:i<b.length:=(zQM.1 KO).1;rw[List.getElem?_set_self dJ,KO];have jc:rC r0=c0:=by rcases kn with rfl|⟨s',n',rfl⟩ <;> rfl
       have hcell2:rC (yZ (Xs c0 off (cells u)) r0)=Xs c0 off (cells u):=by rcases kn with rfl|⟨s',n',rfl⟩ <;> rfl
       have hlen:(Xs c0 off (cells u)).length=c0.length:=by simp[Xs];omega
       simp only[zQP,ob,IU,jc,hcell2,hlen];congr 3
       cases q with
       | none=>rfl
       | some p =>
         have hpr:¬ (off≤p∧p<off+s):=fun hh=>hwr (i,off,s) QB ⟨rfl,.inr ⟨p,rfl,hh.1,hh.2⟩⟩
         simp only[Xs];rcases zQ6 p off with az|sL
         ·rw[List.append_assoc,zQN QC,List.getElem?_take,if_pos az]
         ·have hge2:off+s≤p:=QA
          rw[zQQ QC,List.getElem?_drop];congr 1
          simp
          omega
      ·rw[zRf oo]
     case build T ps =>
      unfold XB at hs
      (repeat' split at hs) <;> (try simp only[sS]at hs) <;> cases hs
      cases xR
     case nilCheck x =>
      unfold P2 at hs
      (repeat' split at hs) <;> (try simp only[sS]at hs) <;> cases hs
      all_goals cases xR
     case call cl =>
      obtain⟨callee,args,ts⟩:=cl;cases callee <;> simp only[reduceCtorEq]at hs
      unfold XK at hs
      (repeat' split at hs) <;> cases hs
end
open Go Go.RowKit Wf
section
variable {V:Cx} {F:Fx V}
def cQ:mC:=⟨.v undef,none,false,[],[]⟩
def A7 (F:Fx V)(ops:Array Oper)(i:Nat)(ti:List (Nat × SV))(bi:List aq)(r:mC):Prop :=
 ∀ (Q:Exit→Act→World→Prop) (K:Act→World→Prop) (a:Act) (w:World) (t':List (Nat × SV)) (b':List aq) (o:Oper),ops[i]? = some o →
  (∀ d∈o.looksAt ops,lk d t'=lk d ti)→(r.nb.isSome=true→b'=bi)→(r.nb=none→∀ x∈r.rd,seen x bi b')→Rel F ⟨t',b'⟩ a w →
  (∀ a' w',Rel F ⟨put o.dst r.x t',r.nb.getD b'⟩ a' w'→K a' w')→wpOp V.P ops Q i K a w
def jL (ops:Array Oper)(k:Nat):Option Tmp:=(ops[k]?).bind (·.dst)
def uS (ops:Array Oper)(recs:List mC)(k:Nat)(t:List (Nat × SV)):List (Nat × SV):=put (jL ops k) (recs.getD k cQ).x t
theorem Cs {t t':List (Nat × SV)}{b:List aq}{a:Act}{w:World}(h:Rel F ⟨t,b⟩ a w)(e:∀ d,lk d t'=lk d t):Rel F ⟨t',b⟩ a w:=by
 obtain⟨β,fp,hf,hw⟩:=h;exact⟨β,fp,⟨fun β' hβ=>⟨(hf.ok β' hβ).size,(hf.ok β' hβ).defers,fun d x hd=>(hf.ok β' hβ).get d x (by rw[← e];exact hd)⟩⟩,hw⟩
theorem Oa {σ:St}{a:Act}{w:World}(h:Rel F σ a w):Rel F σ a w.drew:=by
 obtain⟨β,fp,hf,hw⟩:=h;exact⟨β,fp,hf,hw.drew⟩
theorem nJ (d:Nat)(dst:Option Tmp)(x:SV)(t:List (Nat × SV)):lk d (put dst x t)=if dst=some d then some x else lk d t:=by
 cases dst with
 | none=>simp[put]
 | some e =>
   simp only[put,lk,zQ0.injEq];by_cases h:d=e
   ·subst h;simp
   ·rw[if_neg h,if_neg (fun q=>h q.symm)]
theorem la {d:Nat}{dst:Option Tmp}{x:SV}{t t':List (Nat × SV)}(h:lk d t=lk d t'):lk d (put dst x t)=lk d (put dst x t'):=by
 rw[nJ,nJ,h]
theorem iU {ops:Array Oper}{D:Nat→Bool}(fY:∀ i o,ops[i]? = some o→D i=true→∀ e∈o.after,Region.binds .any e=true→D e.on=true) :
 ∀ (f i k:Nat),nQ ops f i k=true→(∀ o,ops[i]? = some o→∀ e∈o.after,Region.binds .any e=true→D e.on=true)→D k=true
 | 0,i,k,h,_=>by simp[nQ]at h
 | f+1,i,k,h,hp=>by
   simp only[nQ]at h;split at h
   ·rename_i o ho
    obtain⟨e,he,h⟩:=Array.any_eq_true'.1 h;simp only[zQG,zQJ,beq_iff_eq]at h;obtain⟨hb,h⟩:=h;have hon:=hp o ho e he hb;rcases h with rfl|h
    ·exact hon
    ·exact iU fY f e.on k h (fun o' ho'=>fY e.on o' ho' hon)
   ·cases h
theorem I2 (m j:Nat):(zRc m false).getD j false=false:=by
 rcases zQ6 j m with h|h <;> simp[h]
def pY (Y:Nat):SV:=.v (.pointer (some ⟨Y,0,none⟩))
def Fx.at (F:Fx V){β:Nat→Bt}{fp:Nat→Nat→Prop}{b:List aq}{w:World}(h:Wd F β fp b w):Fx V :=
 ⟨F.n,w,fun k=>∃ i r,b[i]? = some r∧r.dD=true∧fp i k,h.env,fun k ⟨i,r,hi,hm,hk⟩=>(h.dD i r hi hm k hk).elim (fun h1=>Nat.le_trans (V.K7 _ F.e0) h1) (fun h1=>F.ownG k h1),β,b,fun k=>∃ i r,b[i]? = some r∧fp i k⟩
theorem Wd.here {β:Nat→Bt}{fp:Nat→Nat→Prop}{b:List aq}{w:World}(h:Wd F β fp b w):Wd (F.at h) β fp b w:=⟨tW.refl _ _,h.bx,fun i r hi hm k hk=>.inr ⟨i,r,hi,hm,hk⟩,⟨cP.refl _ _,zQK _⟩,fun i r hi k hk=>.inr ⟨i,r,hi,hk⟩⟩
theorem Wd.join {b b₂:List aq}{w w':World}{β β₂:Nat→Bt}{fp fp₂:Nat→Nat→Prop}(h:Wd F β fp b w)(h2:Wd (F.at h) β₂ fp₂ b₂ w'):Wd F β₂ fp₂ b₂ w':=by
 have lZ:=h2.fr.size;refine⟨⟨h2.fr.os.trans h.fr.os,h2.fr.tape.trans h.fr.tape,h2.fr.output.trans h.fr.output,Nat.le_trans h.fr.size lZ,fun k hk hn=>?_⟩,h2.bx,fun i r hi hm k hk=>?_,?_,fun i r hi k hk=>?_⟩
 ·rw[h2.fr.block k (Nat.lt_of_lt_of_le hk h.fr.size) (fun⟨i,r,hi,hm,hk'⟩=>?_)]
  ·exact h.fr.block k hk hn
  ·rcases h.dD i r hi hm k hk' with h1|h1
   ·omega
   ·exact hn h1
 ·rcases h2.dD i r hi hm k hk with h1|⟨j,r0,hj,JG,kD⟩
  ·exact .inl (Nat.le_trans h.fr.size h1)
  ·exact h.dD j r0 hj JG k kD
 ·exact⟨fun i hi=>(h.A9.H9 i hi).trans (h2.A9.H9 i (Nat.lt_of_lt_of_le hi h.A9.len)),Nat.le_trans h.A9.len h2.A9.len⟩
 ·rcases h2.se i r hi k hk with h1|⟨j,r0,hj,kD⟩
  ·exact .inl (Nat.le_trans h.fr.size h1)
  ·exact h.se j r0 hj k kD
theorem Wd.adopt {β:Nat→Bt}{fp:Nat→Nat→Prop}{w:World}{b:List aq}(h:Wd F β fp b w)(r:aq)(t:Bt)(f:Nat→Prop)
 (hr:∀ β',cP (b.length+1) (qh β b.length t) β'→Holds β' t f w r) (hf:∀ k,f k→F.w0.heap.size≤k∧k<w.heap.size∧∀ i r,b[i]? = some r→¬ fp i k) :
 Wd F (qh β b.length t) (sT fp b.length f) (b++[r]) w:=by
 have old:∀ {i r'},(b++[r])[i]? = some r'→(i<b.length∧b[i]? = some r')∨(i=b.length∧r'=r):=fun {i r'} hi=>by
  rcases zQ6 i b.length with az|sL
  ·rw[zQN az]at hi;exact .inl ⟨az,hi⟩
  ·have hi':i=b.length:=by
    have:=(zQM.1 hi).1
    rw[zQH,zQO]at this;omega
   subst hi';rw[zQQ (zQK _)]at hi;simp at hi
   exact .inr ⟨rfl,hi.symm⟩
 have fo:∀ {i},i<b.length→sT fp b.length f i=fp i:=fun {i} hi=>by funext k;simp[sT,show i≠b.length by omega]
 have fn:sT fp b.length f b.length=f:=by funext k;simp[sT]
 refine⟨h.fr,fun β' hβ=>?_,fun i r' hi hm k hk=>?_,?_,fun i r' hi k hk=>?_⟩
 ·rw[zQH,zQO]at hβ
  have hb':=h.bx β' hβ.gd;have mc:β' b.length=t:=by rw[← hβ b.length QA,jP]
  refine⟨fun i r' hi=>?_,fun i r' hi k hk=>?_,fun i j r1 r2 hi hj bF hm k hk hk'=>?_⟩
  ·rcases old hi with⟨az,hi⟩|⟨rfl,rfl⟩
   ·rw[fo az];exact hb'.holds i r' hi
   ·rw[fn,mc];exact hr β' hβ
  ·rcases old hi with⟨az,hi⟩|⟨rfl,rfl⟩
   ·rw[fo az]at hk;exact hb'.lt i r' hi k hk
   ·rw[fn]at hk;exact(hf k hk).2.1
  ·rcases old hi with⟨az,Iw⟩|⟨ei,e1⟩
   ·rcases old hj with⟨hlt',fU⟩|⟨ej,e2⟩
    ·rw[fo az]at hk;rw[fo hlt']at hk';exact hb'.sep i j r1 r2 Iw fU bF hm k hk hk'
    ·rw[ej]at hk'
     rw[fo az]at hk;rw[fn]at hk'
     exact(hf k hk').2.2 i r1 Iw hk
   ·rcases old hj with⟨hlt',fU⟩|⟨ej,e2⟩
    ·rw[ei]at hk
     rw[fn]at hk;rw[fo hlt']at hk'
     exact(hf k hk).2.2 j r2 fU hk'
    ·exact bF (ei.trans ej.symm)
 ·rcases old hi with⟨az,hi⟩|⟨rfl,rfl⟩
  ·rw[fo az]at hk;exact h.dD i r' hi hm k hk
  ·rw[fn]at hk;exact .inl (hf k hk).1
 ·have hl:=h.A9.len
  exact⟨fun i hi=>(h.A9.H9 i hi).trans (iF β _ _ i QA),by rw[zQH];omega⟩
 ·rcases old hi with⟨az,hi⟩|⟨rfl,rfl⟩
  ·rw[fo az]at hk;exact h.se i r' hi k hk
  ·rw[fn]at hk;exact .inl (hf k hk).1
structure FlD where
 d:Nat→Nat
 z:Nat→List SV
 T:Nat→TypeId
 L:Nat→Nat
 q:Nat→Option (Nat × Nat)
def flR (q:Option (Nat × Nat))(z:List SV)(T:TypeId):aq:=match q with
 | none=>.cells z T true
 | some (s,n)=>.own z T s n true
def flV (q:Option (Nat × Nat))(L:Nat):SV:=match q with
 | none=>.p L 0
 | some (_,n)=>.o L n
def flB (q:Option (Nat × Nat))(Y:Nat):Bt:=match q with
 | none=>⟨Y,0,0⟩
 | some (_,n)=>⟨Y,0,n+1⟩
def MS (q:Option (Nat × Nat))(Y:Nat):SV:=match q with
 | none=>pY Y
 | some (_,n)=>.v (.slice (some ⟨Y,0,none⟩) n n)
def flW (q:Option (Nat × Nat))(z:List SV):Prop:=match q with
 | none=>True
 | some (s,n)=>z.length=n * s∧n≤maxLen
theorem PJ {q:Option (Nat × Nat)}{z:List SV}{T:TypeId}{Y:Nat}{β':Nat→Bt}{w:World}(hq:flW q z)(h:w.heap[Y]? = some (.cells (z.map (aj β')).toArray T)):Holds β' (flB q Y) (·=Y) w (flR q z T):=by
 cases q with
 | none=>exact⟨rfl,⟨[],(0,0),⟨by rw[zQ2];exact h,.inr (zQK _)⟩,rfl⟩,fun k=>Iff.rfl⟩
 | some p =>
   obtain⟨s,n⟩:=p;exact lv (rest:=[]) (fz:=(0,0)) (by rw[zQ2];exact h) (.inr (zQK _)) hq.1 (zQK _) hq.2 (by simpa using hq.1)
theorem fl_conc {q:Option (Nat × Nat)}{Y L:Nat}{β' β:Nat→Bt}(h:β' L=flB q Y):aj β (MS q Y)=aj β' (flV q L):=by
 cases q with
 | none=>simp[aj,pY,MS,flV,h,flB]
 | some p=>obtain⟨s,n⟩:=p;simp[aj,MS,flV,h,flB,oV]
theorem PK {q:Option (Nat × Nat)}{Y:Nat}(β β':Nat→Bt):aj β (MS q Y)=aj β' (MS q Y):=by
 cases q with
 | none=>simp[aj,pY,MS]
 | some p=>obtain⟨s,n⟩:=p;simp[aj,MS]
def A8 (F:Fx V)(G:FlD)(A:Nat→Bool)(t:List (Nat × SV))(b:List aq)(a:Act)(w:World):Prop:=∃ (β:Nat→Bt) (fp:Nat→Nat→Prop) (Y:Nat→Nat) (tt:List (Nat × SV)),
 Fm F β b.length tt a∧Wd F β fp b w ∧
 (∀ k,A k=true→lk (G.d k) tt=some (MS (G.q k) (Y k))∧lk (G.d k) t=some (flV (G.q k) (G.L k))∧F.w0.heap.size≤Y k∧Y k<w.heap.size∧(∀ β',cP b.length β β'→w.heap[Y k]? = some (.cells ((G.z k).map (aj β')).toArray (G.T k)))∧∀ i r,b[i]? = some r→¬ fp i (Y k)) ∧
 (∀ k l,A k=true→A l=true→k≠l→Y k≠Y l)∧∀ e,(∀ k,A k=true→G.d k≠e)→lk e tt=lk e t
theorem A8.none {G:FlD}{A:Nat→Bool}{t:List (Nat × SV)}{b:List aq}{a:Act}{w:World}(h:A8 F G A t b a w)(hA:∀ k,A k=false):Rel F ⟨t,b⟩ a w:=by
 obtain⟨β,fp,Y,tt,hf,hw,-,-,hl⟩:=h;exact Cs ⟨β,fp,hf,hw⟩ (fun d=>(hl d (fun k hk=>by rw[hA k]at hk;cases hk)).symm)
theorem A8.take {G:FlD}{A A':Nat→Bool}{t:List (Nat × SV)}{b:List aq}{a:Act}{w:World}(h:A8 F G A t b a w){c:Nat}(hc:A c=true)(hA:∀ k,A' k=true→A k=true∧k≠c)(hA2:∀ k,A k=true→k≠c→A' k=true)(hL:G.L c=b.length)
 (hz:flW (G.q c) (G.z c)) (hd:∀ k,A k=true→k≠c→G.d k≠G.d c):A8 F G A' t (b++[flR (G.q c) (G.z c) (G.T c)]) a w:=by
 obtain⟨β,fp,Y,tt,hf,hw,hy,hdis,hl⟩:=h;obtain⟨g1,g2,g3,g4,g5,g6⟩:=hy c hc;have gQ:=hw.adopt (flR (G.q c) (G.z c) (G.T c)) (flB (G.q c) (Y c)) (·=Y c) (fun β' hβ=>PJ hz (g5 β' hβ.gd)) (fun k hk=>by subst hk;exact⟨g3,g4,g6⟩);refine⟨_,_,Y,(G.d c,flV (G.q c) b.length)::tt,⟨fun β' hβ=>?_⟩,gQ,fun k hk=>?_,fun k l hk hl' bF=>hdis k l (hA k hk).1 (hA l hl').1 bF,fun e he=>?_⟩
 ·rw[zQH,zQO]at hβ
  have h0:=hf.ok β' hβ.gd;refine⟨h0.size,h0.defers,fun d x hd=>?_⟩;simp only[lk]at hd;split at hd
  ·rename_i e
   subst e;cases hd
   rw[h0.get _ _ g1];exact fl_conc (by rw[← hβ b.length QA,jP])
  ·exact h0.get d x hd
 ·obtain⟨cV,bS⟩:=hA k hk
  obtain⟨q1,q2,q3,q4,q5,q6⟩:=hy k cV;refine⟨?_,q2,q3,q4,fun β' hβ=>q5 β' (by rw[zQH,zQO]at hβ;exact hβ.gd),fun i r hi Ho=>?_⟩
  ·simp only[lk];rw[if_neg (hd k cV bS)];exact q1
  ·rcases zQ6 i b.length with az|sL
   ·rw[zQN az]at hi
    exact q6 i r hi (by simpa[sT,show i≠b.length by omega] using Ho)
   ·have hi':i=b.length:=by
     have:=(zQM.1 hi).1
     rw[zQH,zQO]at this;omega
    subst hi';have:Y k=Y c:=by simpa[sT] using Ho
    exact hdis k c cV hc bS this
 ·simp only[lk]
  split
  ·rename_i e1
   rw[e1,g2,hL]
  ·rename_i e1
   refine hl e (fun k hk=>?_);by_cases hkc:k=c
   ·subst hkc;exact fun q=>e1 q.symm
   ·exact he k (hA2 k hk hkc)
theorem PZ {ops:Array Oper}{recs:List mC}{a0:Act}{w:World}{t0:List (Nat × SV)}{b0:List aq}{Q:Exit→Act→World→Prop}(G:FlD)(T:Nat→List (Nat × SV))(B:Nat→List aq)(hT0:∀ d,lk d (T 0)=lk d t0)(nW:B 0=b0)
 (hT:∀ i,i<ops.size→∀ d,lk d (T (i+1))=lk d (put (jL ops i) (recs.getD i cQ).x (T i)))
 (hB:∀ i,i<ops.size→B (i+1)=(recs.getD i cQ).nb.getD (B i))
 (Mq:∀ i,i<ops.size→∀ F':Fx V,F'.n=F.n→A7 F' ops i (T i) (B i) (recs.getD i cQ)) (OR:∀ i,i<ops.size→UnE (recs.getD i cQ) (B i))
 (nT:∀ k,gm ops k=true→jL ops k=some (G.d k)∧G.d k<F.n∧G.L k=(B k).length∧(∃ W,recs.getD k cQ=⟨flV (G.q k) (B k).length,some (B k++[flR (G.q k) (G.z k) (G.T k)]),false,[],W⟩)∧flW (G.q k) (G.z k)∧∃ o,ops[k]? = some o∧o.guard=none ∧
   ∀ (β:Nat→Bt) (m:Nat) (tt:List (Nat × SV)) (a:Act) (w:World),Fm F β m tt a→(∀ d∈o.looksAt ops,lk d tt=lk d (T k))→∀ β',cP m β β'→(execOp a.eval o).run V.P w=Result.ok (.value (aj nX (MS (G.q k) w.heap.size))) (w.alloc (.cells ((G.z k).map (aj β')).toArray (G.T k))))
 (hlen:recs.length=ops.size) (hc:Qh ops (recs.map fun r=>⟨r.nb.isSome,r.all,r.rd,r.wr⟩)) (hr:Rel F ⟨t0,b0⟩ a0 w)
 (hQ:∀ a w',Rel F ⟨T ops.size,B ops.size⟩ a w'→Q .normal a w'):wpAny V.P .any ops Q ops.size (zRc ops.size false) a0 { w with drawn:=w.drawn+1 }:=by
 simp only[Qh,zQG]at hc;obtain⟨hc,hah⟩:=hc;let n:=ops.size
 let isS:Nat→Prop:=fun k=>(recs.getD k cQ).nb.isSome=true
 have hrk:∀ k,k<n→(((recs.map fun r=>(⟨r.nb.isSome,r.all,r.rd,r.wr⟩:Rk))[k]?).getD Br)=⟨(recs.getD k cQ).nb.isSome,(recs.getD k cQ).all,(recs.getD k cQ).rd,(recs.getD k cQ).wr⟩:=fun k hk=>by
  have hk':k<recs.length:=by rw[hlen];exact hk
  simp[zQT,zQX hk']
 have O2:∀ i k,i<n→k<n→k≠i→zn ops (recs.map fun r=>(⟨r.nb.isSome,r.all,r.rd,r.wr⟩:Rk)) i k=true:=fun i k hi hk bF=>by
  have h1:=zQI.1 (zQI.1 hc i (zQ5.2 hi)) k (zQ5.2 hk);simp only[zQJ,beq_iff_eq]at h1;rcases h1 with h1|h1
  ·exact absurd h1 bF
  ·exact h1
 have O0:∀ i k,k<n→DU ops (recs.map fun r=>(⟨r.nb.isSome,r.all,r.rd,r.wr⟩:Rk)) i k=true→gm ops k=true→k<i→∀ j,j<k→isS j→nQ ops ops.size i j=true:=fun i k hk hp hf kO j hj hs=>by
  unfold DU at hp;rw[hf,decide_eq_true kO]at hp;simp only[Bool.and_self,Bool.not_true,Bool.false_or]at hp;have h1:=zQI.1 hp j (zQ5.2 hj);rw[hrk j QA]at h1;have hs':(recs.getD j cQ).nb.isSome=true:=hs;have h1:(!((recs.getD j cQ).nb.isSome)||nQ ops ops.size i j)=true:=h1;rw[hs',Bool.not_true,Bool.false_or]at h1;exact h1
 -- what must be ordered
 have OU:∀ i k,i<n→k<n→k≠i→xq ops i k=true→yT ops i k=true∧(gm ops k=true→k<i→∀ j,j<k→isS j→nQ ops ops.size i j=true):=fun i k hi hk bF Pk=>by
  have h1:=O2 i k hi hk bF;unfold zn at h1;rw[if_pos Pk,zQG]at h1;exact⟨h1.1,O0 i k hk h1.2⟩
 have hSS:∀ i k,k<i→i<n→isS i→isS k→gm ops i=false→nQ ops ops.size i k=true:=fun i k kO hi hsi Ba hnf=>by
  have h1:=O2 i k hi QA QA;have hmax:max i k=i:=QA;unfold zn at h1;rw[hrk i hi,hrk k QA]at h1;have e1:(recs.getD i cQ).nb.isSome=true:=hsi;have e2:(recs.getD k cQ).nb.isSome=true:=Ba;split at h1
  ·rw[zQG]at h1
   have:=h1.1
   unfold yT at this;rwa [if_pos kO]at this
  ·rw[if_pos (by simp only[e1,e2,Bool.and_self]),hmax,hnf,Bool.false_or]at h1
   unfold yT at h1;rwa [if_pos kO]at h1
 have o8:∀ i k,i<n→k<n→k≠i→¬ isS i→isS k→∀ x∈(recs.getD i cQ).rd,((recs.getD k cQ).all=true∨∃ y∈(recs.getD k cQ).wr,ovl x y=true)→yT ops i k=true∧(gm ops k=true→k<i→∀ j,j<k→isS j→nQ ops ops.size i j=true):=fun i k hi hk bF hnsi hs x hx Pk=>by
  have h1:=O2 i k hi hk bF;unfold zn at h1;rw[hrk i hi,hrk k hk]at h1;have e1:(recs.getD i cQ).nb.isSome=false:=by
   cases h:(recs.getD i cQ).nb.isSome with
   | false=>rfl
   | true=>exact absurd h hnsi
  split at h1
  ·rw[zQG]at h1
   exact⟨h1.1,O0 i k hk h1.2⟩
  ·rw[if_neg (by simp only[e1,Bool.false_and];simp),if_pos (by
    simp only[zQG,Bool.not_eq_true'];refine⟨hs,?_⟩;cases hl:(recs.getD i cQ).rd with
    | nil=>rw[hl]at hx;cases hx
    | cons _ _=>rfl)]at h1
   simp only[zQJ,Bool.not_eq_true',zQG]at h1;rcases h1 with h1|h1
   ·exact⟨h1.1,O0 i k hk h1.2⟩
   ·exfalso
    simp only[Bool.or_eq_false_iff]at h1;rcases Pk with Pk|⟨y,hy,xO⟩
    ·rw[Pk]at h1;cases h1.1
    ·have:pN (recs.getD i cQ).rd (recs.getD k cQ).wr=true:=by
      unfold pN;exact zQU.2 ⟨x,hx,zQU.2 ⟨y,hy,xO⟩⟩
     rw[this]at h1;cases h1.2
 have Hu:∀ k,gm ops k=true→k<n:=fun k hk=>by
  obtain⟨-,-,-,-,-,o,ho,-⟩:=nT k hk;exact(zQL.1 ho).1
 have hflS:∀ k,gm ops k=true→isS k:=fun k hk=>by
  obtain⟨-,-,-,⟨_,OX⟩,-⟩:=nT k hk;show (recs.getD k cQ).nb.isSome=true
  rw[OX];rfl
 -- the run in the text's order
 have hTf:∀ i,i≤n→∀ d,lk d (T i)=lk d (dL (uS ops recs) (wb i) i t0):=fun i=>by
  induction i with
  | zero=>intro _ d;exact hT0 d
  | succ i ih =>
    intro hi d;rw[hT i QA d,B0];exact la (ih QA d)
 have huS:∀ d k (s s':List (Nat × SV)),lk d s=lk d s'→lk d (uS ops recs k s)=lk d (uS ops recs k s'):=fun d k s s' h=>la h
 have hchS:∀ d k,(∃ s,lk d (uS ops recs k s)≠lk d s)→jL ops k=some d:=fun d k ⟨s,hs⟩=>by
  unfold uS at hs;rw[nJ]at hs;by_cases h:jL ops k=some d
  ·exact h
  ·rw[if_neg h]at hs;exact absurd rfl hs
 have hidN:∀ k,¬ isS k→∀ b,(recs.getD k cQ).nb.getD b=b:=fun k hs b=>by
  cases h:(recs.getD k cQ).nb with
  | none=>rfl
  | some x=>exact absurd (by show ((recs.getD k cQ).nb).isSome=true;rw[h];rfl) hs
 let AS:(Nat→Bool)→Nat→Nat→Bool:=fun D c k=>gm ops k&&(D k&&decide (c≤k))
 have hdis:∀ k l,gm ops k=true→gm ops l=true→k≠l→G.d k=G.d l→∀ (D:Nat→Bool),(∀ i o,ops[i]? = some o→D i=true→∀ e∈o.after,Region.binds .any e=true→D e.on=true)→D k=true→D l=true→∀ c,c<n→D c=false→isS c→c≤k→c≤l→False:=fun k l hk hl bF he D fY hDk hDl c Hz Ns tC hck hcl'=>by
  -- the later one comes behind all that is ahead of the earlier one
  have key:∀ k l,gm ops k=true→gm ops l=true→k<l→G.d k=G.d l→D k=true→D l=true→c≤k→False:=fun k l hk hl u9 he hDk hDl hck=>by
   obtain⟨hdk,-⟩:=nT k hk;obtain⟨nr,-,-,-,-,o,ho,-⟩:=nT l hl;have hs:xq ops l k=true:=by
    unfold xq;unfold jL at hdk;rw[hdk,ho];have:o.dst=some (G.d l):=by unfold jL at nr;rw[ho]at nr;exact nr
    simp[this,he]
   obtain⟨-,h2⟩:=OU l k (Hu l hl) (Hu k hk) QA hs;have hck':c≠k:=fun e=>by rw[← e,Ns]at hDk;cases hDk
   have:=iU fY _ l c (h2 hk u9 c QA tC) (fun o' ho'=>fY l o' ho' hDl)
   rw[Ns]at this;cases this
  rcases Nat.lt_or_gt_of_ne bF with h|h
  ·exact key k l hk hl h he hDk hDl hck
  ·exact key l k hl hk h he.symm hDl hDk hcl'
 -- those that are next are counted
 have hadv:∀ (D:Nat→Bool) (a:Act) (w:World) (t:List (Nat × SV)),(∀ i o,ops[i]? = some o→D i=true→∀ e∈o.after,Region.binds .any e=true→D e.on=true)→∀ (m c:Nat),c+m=n→(∀ k,k<c→isS k→D k=true)→(∀ k,c≤k→k<n→isS k→D k=true→gm ops k=true) →
  (∀ k l,AS D c k=true→AS D c l=true→k≠l→G.d k≠G.d l)→A8 F G (AS D c) t (B c) a w→∃ c',c'≤n∧(∀ k,k<c'→isS k→D k=true)∧(c'<n→isS c'∧D c'=false)∧A8 F G (AS D c') t (B c') a w:=fun D a w t fY m=>by
  induction m with
  | zero =>
    intro c Hz fD _ _ hrel;exact⟨c,QA,fD,fun h=>QA,hrel⟩
  | succ m ih =>
    intro c Hz fD Hx hdd hrel;by_cases hs:isS c
    ·cases hD:D c with
     | false=>exact⟨c,QA,fD,fun _=>⟨hs,hD⟩,hrel⟩
     | true =>
       have hf:=Hx c (zQK _) QA hs hD;obtain⟨-,-,hL,⟨_,OX⟩,hW,-⟩:=nT c hf;have hBc:B (c+1)=B c++[flR (G.q c) (G.z c) (G.T c)]:=by rw[hB c QA,OX];rfl
       have hAc:AS D c c=true:=by simp[AS,hf,hD]
       have E7:∀ k,AS D (c+1) k=true→AS D c k=true∧k≠c:=fun k hk=>by
        simp only[AS,zQG,decide_eq_true_eq]at hk ⊢;exact⟨⟨hk.1,hk.2.1,QA⟩,QA⟩
       refine ih (c+1) QA (fun k hk Ba=>?_) (fun k hk=>Hx k QA) (fun k l hk hl=>hdd k l (E7 k hk).1 (E7 l hl).1) ?_
       ·rcases Nat.lt_or_eq_of_le (Nat.lt_succ_iff.1 hk) with h1|rfl
        ·exact fD k h1 Ba
        ·exact hD
       ·rw[hBc]
        refine hrel.take hAc E7 (fun k hk bF=>?_) hL hW (fun k hk bF=>hdd k c hk hAc bF);simp only[AS,zQG,decide_eq_true_eq]at hk ⊢;exact⟨hk.1,hk.2.1,QA⟩
    ·have hBc:B (c+1)=B c:=by rw[hB c QA];exact hidN c hs _
     have JR:AS D (c+1)=AS D c:=by
      funext k
      by_cases hk:gm ops k=true
      ·have bF:k≠c:=fun e=>hs (e ▸ hflS k hk)
       simp only[AS];congr 2
       exact decide_eq_decide.2 ⟨fun h=>QA,fun h=>QA⟩
      ·simp only[AS,Bool.not_eq_true]at hk ⊢
       rw[hk];rfl
     refine ih (c+1) QA (fun k hk Ba=>?_) (fun k hk=>Hx k QA) (by rw[JR];exact hdd) (by rw[hBc,JR];exact hrel);rcases Nat.lt_or_eq_of_le (Nat.lt_succ_iff.1 hk) with h1|rfl
     ·exact fD k h1 Ba
     ·exact absurd Ba hs
 let Inv:(Nat→Bool)→Act→World→Prop:=fun D a w=>(∃ c,c≤n∧(∀ k,k<c→isS k→D k=true)∧(c<n→isS c∧D c=false)∧A8 F G (AS D c) (dL (uS ops recs) D n t0) (B c) a w)∧(∀ i o,ops[i]? = some o→D i=true→∀ e∈o.after,Region.binds .any e=true→D e.on=true)
 refine Lm Inv ?_ ?_ ops.size _ a0 _ QB QB ?_
 ·rintro listed a w i lZ ⟨⟨c,Hz,fD,nN,hrel⟩,fY⟩ hi
  obtain⟨hun1,o,ho,br⟩:=mem_ready.1 hi;have xS:i<n:=(zQL.1 ho).1;have hDi:listed.getD i false=false:=by
   have:i<listed.size:=by rw[lZ];exact xS
   simp[this]at hun1 ⊢;exact hun1
  have hpr:∀ o',ops[i]? = some o'→∀ e∈o'.after,Region.binds .any e=true→listed.getD e.on false=true:=fun o' ho' e he hb=>by
   rw[ho]at ho';cases ho';exact br e he hb
  obtain⟨D,hDD⟩:∃ D:Nat→Bool,D=fun k=>listed.getD k false:=⟨_,rfl⟩
  have hDk:∀ k,listed.getD k false=D k:=fun k=>by rw[hDD]
  rw[← hDD]at hrel fY ⊢;rw[hDk]at hDi;simp only[hDk]at hpr fD nN;have Pj:∀ l o',ops[l]? = some o'→gx D i l=true→∀ e∈o'.after,Region.binds .any e=true→gx D i e.on=true:=by
   intro l o' ho' hl e he hb;simp only[gx,zQJ,decide_eq_true_eq]at hl ⊢;rcases hl with hl|rfl
   ·exact .inl (fY l o' ho' hl e he hb)
   ·exact .inl (hpr o' ho' e he hb)
  have order:∀ k,k<n→k≠i→yT ops i k=true→D k=decide (k<i):=fun k hk bF h1=>by
   unfold yT at h1;split at h1
   ·rename_i az
    rw[decide_eq_true az];exact iU fY _ i k h1 hpr
   ·rename_i az
    rw[decide_eq_false az];cases hD:D k with
    | false=>rfl
    | true =>
      have:=iU fY _ k i h1 (fun o' ho'=>fY k o' ho' hD)
      rw[hDi]at this;cases this
  have Ph:∀ d,(d∈o.looksAt ops∨o.dst=some d)→∀ k,k<n→(∃ s,lk d (uS ops recs k s)≠lk d s)→D k=decide (k<i):=fun d hd k hk hch=>by
   by_cases kO:k=i
   ·subst kO;rw[hDi];simp
   ·refine order k hk kO (OU i k xS hk kO ?_).1
    unfold xq;have:=hchS d k hch
    unfold jL at this;rw[this,ho];simp only[zQJ,zQ3,beq_iff_eq];exact hd
  have O5:∀ d,d∈o.looksAt ops→lk d (dL (uS ops recs) D n t0)=lk d (T i):=fun d hd=>by
   rw[hTf i (Nat.le_of_lt xS) d];exact PE (uS ops recs) (lk d) (huS d) D n i t0 (Nat.le_of_lt xS) (Ph d (.inl hd))
  have e1:∀ d,lk d (dL (uS ops recs) (gx D i) n t0)=lk d (put o.dst (recs.getD i cQ).x (dL (uS ops recs) D n t0)):=fun d=>by
   have hd:jL ops i=o.dst:=by unfold jL;rw[ho];rfl
   have:=PG (uS ops recs) (lk d) (huS d) D n i t0 xS hDi (fun hch k hk hk' hD=>by
    have hdd:=hchS d i hch;rw[hd]at hdd;have:=Ph d (.inr hdd) k hk hk'
    rw[hD]at this;exact of_decide_eq_true this.symm)
   rw[this];unfold uS;rw[hd]
  -- what is done of what changes things
  have hmin:∀ k,c≤k→k<n→isS k→D k=true→gm ops k=true:=fun k hck hk hs hD=>by
   cases hf:gm ops k with
   | true=>rfl
   | false =>
     exfalso
     obtain⟨tC,Ns⟩:=nN QA;have bF:c≠k:=fun e=>by rw[← e,Ns]at hD;cases hD
     have:=iU fY _ k c (hSS k c QA hk hs tC hf) (fun o' ho'=>fY k o' ho' hD)
     rw[Ns]at this;cases this
  have hA:∀ k,AS D c k=true→gm ops k=true∧D k=true∧c≤k:=fun k hk=>by
   simp only[AS,zQG,decide_eq_true_eq]at hk;exact hk
  have hnear:∀ k,AS D c k=true→(gm ops k=true→k<i→∀ j,j<k→isS j→nQ ops ops.size i j=true)→D k=decide (k<i)→False:=fun k hk h2 h3=>by
   obtain⟨hf,hD,hck⟩:=hA k hk;have Iv:=Hu k hf;obtain⟨tC,Ns⟩:=nN QA;have bF:c≠k:=fun e=>by rw[← e,Ns]at hD;cases hD
   rw[hD]at h3;have kO:=of_decide_eq_true h3.symm;have:=iU fY _ i c (h2 hf kO c QA tC) hpr
   rw[Ns]at this;cases this
  have wN:∀ k,AS D c k=true→G.d k ∉ o.looksAt ops∧o.dst≠some (G.d k):=fun k hk=>by
   obtain⟨hf,hD,hck⟩:=hA k hk;have Iv:=Hu k hf;have kO:k≠i:=fun e=>by rw[e,hDi]at hD;cases hD
   have tE:¬ xq ops i k=true:=fun hs=>by
    obtain⟨h1,h2⟩:=OU i k xS Iv kO hs;exact hnear k hk h2 (order k Iv kO h1)
   have hdk:=(nT k hf).1;unfold jL at hdk;unfold xq at tE;rw[hdk,ho]at tE;simp only[zQJ,zQ3,beq_iff_eq,not_or]at tE;exact tE
  have hddD:∀ k l,AS D c k=true→AS D c l=true→k≠l→G.d k≠G.d l:=fun k l hk hl bF he=>by
   obtain⟨hf,hD,hck⟩:=hA k hk;obtain⟨hf',hD',hck'⟩:=hA l hl;have Iv:=Hu k hf;obtain⟨tC,Ns⟩:=nN QA;exact hdis k l hf hf' bF he D fY hD hD' c QA Ns tC hck hck'
  -- an operation that is no such cell
  have O1:gm ops i=false→((recs.getD i cQ).nb.isSome=true→B c=B i)→((recs.getD i cQ).nb=none→∀ x∈(recs.getD i cQ).rd,seen x (B i) (B c))→∀ c',(recs.getD i cQ).nb.getD (B c)=B c'→(∀ k,AS (gx D i) c' k=AS D c k) →
   wpOp V.P ops Q i (fun a' w'=>A8 F G (AS (gx D i) c') (dL (uS ops recs) (gx D i) n t0) (B c') a' w') a w:=fun hnf hb oj c' hc' JR=>by
   obtain⟨β,fp,Y,tt,hf,hw,hy,hd,sJ⟩:=hrel;refine Mq i xS (F.at hw) rfl Q _ a w tt (B c) o ho (fun d hd'=>(sJ d (fun k hk e=>(wN k hk).1 (by rw[e];exact hd'))).trans (O5 d hd')) hb oj ⟨β,fp,⟨hf.ok⟩,hw.here⟩ ?_;rintro a' w' ⟨β₂,fp₂,qk,gQ⟩;have lZ:w.heap.size≤w'.heap.size:=gQ.fr.size;rw[show (⟨put o.dst (recs.getD i cQ).x tt,(recs.getD i cQ).nb.getD (B c)⟩:St)=⟨put o.dst (recs.getD i cQ).x tt,B c'⟩ by rw[hc']]at qk gQ;refine⟨β₂,fp₂,Y,put o.dst (recs.getD i cQ).x tt,⟨qk.ok⟩,hw.join gQ,fun k hk=>?_,fun k l hk hl=>hd k l (by rw[← JR];exact hk) (by rw[← JR];exact hl),fun e he=>?_⟩
   ·rw[JR]at hk
    obtain⟨g1,g2,g3,g4,g5,g6⟩:=hy k hk;have bF:=(wN k hk).2;refine⟨by rw[nJ,if_neg bF];exact g1,by rw[e1,nJ,if_neg bF];exact g2,g3,Nat.lt_of_lt_of_le g4 lZ,fun β' hβ=>(gQ.fr.block _ g4 (fun⟨j,r,hj,_,hk⟩=>g6 j r hj hk)).trans (g5 β' (fun i hi=>(gQ.A9.H9 i hi).trans (hβ i (Nat.lt_of_lt_of_le hi gQ.A9.len)))),fun j r hj hk=>?_⟩;rcases gQ.se j r hj _ hk with h1|⟨j',r',hj',hk'⟩
    ·have:w.heap.size≤Y k:=h1
     omega
    ·exact g6 j' r' hj' hk'
   ·rw[e1,nJ,nJ]
    split
    ·rfl
    ·exact sJ e (fun k hk=>he k (by rw[JR];exact hk))
  have xV:∀ c' k,k≠i→AS (gx D i) c' k=AS D c' k:=fun c' k hk=>by simp[AS,gx,hk]
  by_cases JK:gm ops i=true
  ·
   have hci:c≤i:=by
    apply Nat.le_of_not_lt
    intro az;have:=fD i az (hflS i JK)
    rw[hDi]at this;cases this
   obtain⟨hdi,hdn,hLi,⟨_,OX⟩,hW,o',ho',hg,rf⟩:=nT i JK;rw[ho]at ho';cases ho'
   have CQ:o.dst=some (G.d i):=by unfold jL at hdi;rw[ho]at hdi;exact hdi
   have tG:∀ a' w',A8 F G (AS (gx D i) c) (dL (uS ops recs) (gx D i) n t0) (B c) a' w'→Inv (gx D i) a' w':=fun a' w' hr'=>by
    refine⟨hadv (gx D i) a' w' _ Pj (n - c) c QA (fun k hk hs=>by simp[gx,fD k hk hs]) (fun k hk Iv hs hD=>?_) (fun k l hk hl bF he=>?_) hr',Pj⟩
    ·by_cases kO:k=i
     ·rw[kO];exact JK
     ·exact hmin k hk Iv hs (by simpa[gx,kO] using hD)
    ·by_cases kO:k=i
     ·subst kO
      have hl':AS D c l=true:=by rw[← xV c l (fun e=>bF e.symm)];exact hl
      exact(wN l hl').2 (by rw[CQ,he])
     ·by_cases r7:l=i
      ·subst r7
       have hk':AS D c k=true:=by rw[← xV c k kO];exact hk
       exact(wN k hk').2 (by rw[CQ,he])
      ·exact hddD k l (by rw[← xV c k kO];exact hk) (by rw[← xV c l r7];exact hl) bF he
   refine wpOp_mono (fun a' w' h=>tG a' w' h) ?_;obtain⟨β,fp,Y,tt,hf,hw,hy,hd,sJ⟩:=hrel;have p8:=ho;unfold wpOp;rw[ho];simp only;rw[if_pos (by simp[Region.wanted,hg])];left
   have hex:=rf β _ tt a w hf (fun d hd'=>(sJ d (fun k hk e=>(wN k hk).1 (by rw[e];exact hd'))).trans (O5 d hd'));have dU:=hex β (cP.refl _ _);have hall':∀ β',cP (B c).length β β'→(G.z i).map (aj β)=(G.z i).map (aj β'):=fun β' hβ=>by
    have h1:=hex β' hβ;rw[dU]at h1;injection h1 with _ h1
    have h2:=congrArg (fun w':World=>w'.heap[w.heap.size]?) h1;simp only[eK]at h2;have h3:=(Obj.cells.inj (zQ0.inj h2)).1;exact congrArg Array.toList h3
   have MD:Below w.heap.size w (w.alloc (.cells ((G.z i).map (aj β)).toArray (G.T i))):=(Below.refl _ _).alloc (zQK _) _;have wI:=eK w (.cells ((G.z i).map (aj β)).toArray (G.T i));have lZ:(w.alloc (.cells ((G.z i).map (aj β)).toArray (G.T i))).heap.size=w.heap.size+1:=size_alloc _ _;refine wp_of_value dU ?_;rw[CQ];generalize w.alloc (.cells ((G.z i).map (aj β)).toArray (G.T i))=w2 at MD wI lZ;refine⟨β,fp,fun k=>if k=i then w.heap.size else Y k,(G.d i,MS (G.q i) w.heap.size)::tt,⟨fun β' hβ=>by rw[PK nX β'];exact(hf.ok β' hβ).put hdn (MS (G.q i) w.heap.size)⟩,hw.below MD,fun k hk=>?_,fun k l hk hl bF=>?_,fun e he=>?_⟩
   ·by_cases kO:k=i
    ·subst kO
     simp only[if_true];refine⟨by simp[lk],?_,hw.fr.size,QA,fun β' hβ=>by rw[← hall' β' hβ];exact wI,fun j r hj hk=>?_⟩
     ·rw[e1,nJ,if_pos CQ,OX,hLi]
     ·have:=(hw.bx β (cP.refl _ _)).lt j r hj _ hk
      omega
    ·have hk':AS D c k=true:=by rw[← xV c k kO];exact hk
     obtain⟨g1,g2,g3,g4,g5,g6⟩:=hy k hk';have bF:=(wN k hk').2;simp only[if_neg kO];refine⟨?_,?_,g3,QA,fun β' hβ=>(MD.block _ g4).trans (g5 β' hβ),g6⟩
     ·simp only[lk]
      rw[if_neg (fun e=>bF (by rw[CQ,e]))];exact g1
     ·rw[e1,nJ,if_neg bF];exact g2
   ·have D1:∀ k,AS (gx D i) c k=true→k≠i→AS D c k=true:=fun k h1 h2=>by rw[← xV c k h2];exact h1
    by_cases k1:k=i
    ·have k2:l≠i:=fun e=>bF (k1.trans e.symm)
     simp only[if_pos k1,if_neg k2];have:=(hy l (D1 l hl k2)).2.2.2.1
     omega
    ·by_cases k2:l=i
     ·simp only[if_neg k1,if_pos k2]
      have:=(hy k (D1 k hk k1)).2.2.2.1
      omega
     ·simp only[if_neg k1,if_neg k2]
      exact hd k l (D1 k hk k1) (D1 l hl k2) bF
   ·have bF:G.d i≠e:=he i (by simp[AS,gx,JK,hci])
    have h1:lk e ((G.d i,MS (G.q i) w.heap.size)::tt)=lk e tt:=by simp only[lk];rw[if_neg (fun q=>bF q.symm)]
    rw[h1,sJ e (fun k hk=>he k (by
     obtain⟨-,hD,-⟩:=hA k hk;rw[xV c k (fun q=>by rw[q,hDi]at hD;cases hD)];exact hk)),e1,nJ,if_neg (fun q=>bF (zQ0.inj (CQ.symm.trans q)))]
  ·have JK:gm ops i=false:=by simpa using JK
   by_cases hs:isS i
   ·
    have hci:c=i:=by
     apply Nat.le_antisymm
     ·apply Nat.le_of_not_lt
      intro az;have:=fD i az hs
      rw[hDi]at this;cases this
     ·apply Nat.le_of_not_lt
      intro az;obtain⟨tC,Ns⟩:=nN QA;have:=iU fY _ i c (hSS i c az xS hs tC JK) hpr
      rw[Ns]at this;cases this
    subst hci;have JR:∀ k,AS (gx D c) (c+1) k=AS D c k:=fun k=>by
     by_cases hkc:k=c
     ·subst hkc;simp[AS,JK]
     ·simp only[AS,gx,hkc,decide_false,Bool.or_false]
      congr 2
      exact decide_eq_decide.2 ⟨fun h=>QA,fun h=>QA⟩
    refine wpOp_mono ?_ (O1 JK (fun _=>rfl) (fun xR=>by have:(recs.getD c cQ).nb.isSome=true:=hs;rw[xR]at this;cases this) (c+1) (hB c xS).symm JR);intro a' w' hr';refine⟨hadv (gx D c) a' w' _ Pj (n - (c+1)) (c+1) QA (fun k hk Ba=>?_) (fun k hk Iv Ba hD=>hmin k QA Iv Ba (by simpa[gx,show k≠c by omega] using hD)) (fun k l hk hl=>hddD k l (by rw[← JR];exact hk) (by rw[← JR];exact hl)) hr',Pj⟩;rcases Nat.lt_or_eq_of_le (Nat.lt_succ_iff.1 hk) with h1|rfl
    ·simp[gx,fD k h1 Ba]
    ·simp[gx]
   ·
    have oj:∀ x∈(recs.getD i cQ).rd,seen x (B i) (B c):=fun x hx q hq=>by
     have step:∀ k,k<n→(k<i∧c≤k∨i<k∧k<c)→((B (k+1))[x.1]?).map (ob q)=((B k)[x.1]?).map (ob q):=fun k hk hb=>by
      rw[hB k hk];cases xR:(recs.getD k cQ).nb with
      | none=>rfl
      | some nb =>
        have Ba:isS k:=by show ((recs.getD k cQ).nb).isSome=true;rw[xR];rfl
        have bF:k≠i:=QA;have tE:¬ ((recs.getD k cQ).all=true∨∃ y∈(recs.getD k cQ).wr,ovl x y=true):=fun Pk=>by
         obtain⟨h1,h2⟩:=o8 i k xS hk bF hs Ba x hx Pk;have h3:=order k hk bF h1;rcases hb with⟨kO,hck⟩|⟨hik,hkc⟩
         ·have hD:D k=true:=by rw[h3];exact decide_eq_true kO
          exact hnear k (by simp only[AS,hmin k hck hk Ba hD,hD,decide_eq_true hck,Bool.and_self]) h2 h3
         ·have:=fD k hkc Ba
          rw[h3,QG]at this;cases this
        simp only[not_or,not_exists,not_and,Bool.not_eq_true]at tE;exact OR k hk nb xR tE.1 x.1 q (fun y hy=>LX (tE.2 y hy) hq)
     have walk:∀ (m p:Nat),p+m≤n→(∀ k,p≤k→k<p+m→((B (k+1))[x.1]?).map (ob q)=((B k)[x.1]?).map (ob q))→((B (p+m))[x.1]?).map (ob q)=((B p)[x.1]?).map (ob q):=fun m p=>by
      induction m with
      | zero=>intro _ _;rfl
      | succ m ih =>
        intro h1 h2;have:=h2 (p+m) QA QA
        rw[show p+(m+1)=p+m+1 by omega,this];exact ih QA (fun k h3 h4=>h2 k h3 QA)
     rcases zQ6 c i with az|sL
     ·have:=walk (i - c) c QA (fun k h3 h4=>step k QA (.inl ⟨QA,h3⟩))
      rw[show c+(i - c)=i by omega]at this;exact this.symm
     ·have Nn:((B (i+1))[x.1]?).map (ob q)=((B i)[x.1]?).map (ob q):=by
       rw[hB i xS,hidN i hs (B i)]
      have:=walk (c - i) i QA (fun k h3 h4=>by
       rcases Nat.lt_or_eq_of_le h3 with h5|rfl
       ·exact step k QA (.inr ⟨h5,QA⟩)
       ·exact Nn)
      rw[show i+(c - i)=c by omega]at this;exact this
    have JR:∀ k,AS (gx D i) c k=AS D c k:=fun k=>by
     by_cases kO:k=i
     ·subst kO;simp[AS,JK]
     ·exact xV c k kO
    refine wpOp_mono ?_ (O1 JK (fun h=>absurd h hs) (fun _=>oj) c (hidN i hs _) JR);intro a' w' hr';refine⟨⟨c,Hz,fun k hk Ba=>by simp[gx,fD k hk Ba],fun az=>⟨(nN az).1,?_⟩,hr'⟩,Pj⟩;have bF:c≠i:=fun e=>hs (e ▸ (nN az).1)
    simp[gx,bF,(nN az).2]
 ·rintro listed a w lZ ⟨⟨c,Hz,fD,nN,hrel⟩,fY⟩ hr
  have br:∀ k,k<n→listed.getD k false=true:=fun k=>by
   induction k using Nat.strongRecOn with
   | _ k ih =>
     intro hk;cases hl:listed.getD k false with
     | true=>rfl
     | false =>
       exfalso
       obtain⟨o,ho⟩:∃ o,ops[k]? = some o:=⟨ops[k]'hk,by simp[hk]⟩;have hks:k<listed.size:=by rw[lZ];exact hk
       have:k∈Region.ready .any ops listed:=by
        refine mem_ready.2 ⟨?_,o,ho,fun e he hb=>?_⟩
        ·simp[hks]at hl ⊢;exact hl
        ·have h1:=zQI.1 hah k (zQ5.2 hk)
         rw[ho]at h1;have h2:=Array.all_eq_true'.1 h1 e he;simp only[hb,Bool.not_true,Bool.false_or,decide_eq_true_eq]at h2;exact ih e.on h2 QA
       rw[hr]at this;cases this
  have hce:c=n:=by
   apply Nat.le_antisymm Hz
   apply Nat.le_of_not_lt
   intro az;have h1:=(nN az).2;have h2:=br c az;simp only at h1;rw[h2]at h1;cases h1
  subst hce;have KM:=hrel.none (fun k=>by
   cases hf:gm ops k with
   | false=>simp only[AS,hf,Bool.false_and]
   | true =>
     have:=Hu k hf
     show (gm ops k&&(listed.getD k false&&decide (ops.size≤k)))=false
     rw[decide_eq_false (show ¬ ops.size≤k from Nat.not_le.2 this),Bool.and_false,Bool.and_false])
  have e1:=PH (uS ops recs) (fun k=>listed.getD k false) ops.size t0 br;have KM:Rel F ⟨dL (uS ops recs) (fun k=>listed.getD k false) ops.size t0,B ops.size⟩ a w:=KM;rw[e1]at KM;exact hQ a w (Cs KM (fun d=>hTf ops.size (zQK _) d))
 ·have e3:(fun k=>(zRc ops.size false).getD k false)=fun _=>false:=funext fun k=>I2 _ _
  show Inv _ a0 _
  rw[e3];have e:∀ {S:Type} (u:Nat→S→S) (m:Nat) (s:S),dL u (fun _=>false) m s=s:=fun u m s=>by
   induction m with
   | zero=>rfl
   | succ m ih=>simp only[dL];rw[if_neg QB,ih]
  obtain⟨β,fp,hf,hw⟩:=hr;refine⟨?_,fun i o _ h=>by cases h⟩;have h0:A8 F G (AS (fun _=>false) 0) t0 (B 0) a0 w.drew:=by
   rw[nW];refine⟨β,fp,fun _=>0,t0,hf,hw.drew,fun k hk=>?_,fun k l hk=>?_,fun _ _=>rfl⟩ <;> simp[AS]at hk
  have:=hadv (fun _=>false) a0 w.drew t0 (fun i o _ h=>by cases h) n 0 QA (fun k hk=>QA) (fun k _ _ _ h=>by cases h) (fun k l hk=>by simp[AS]at hk) h0
  obtain⟨c,h1,h2,h3,h4⟩:=this;exact⟨c,h1,h2,h3,by rw[e];exact h4⟩
end
open Go Go.RowKit Wf
section
variable {V:Cx} {F:Fx V}
theorem zT {ops:Array Oper}{o:Oper}{t t':List (Nat × SV)}(h:∀ d∈o.looksAt ops,lk d t'=lk d t):∀ x∈o.op.operands,ev t' x=ev t x:=fun x hx=>by
 cases x with
 | tmp d =>
   simp only[ev];refine h d ?_;unfold Oper.looksAt;simp only[List.mem_append,List.mem_filterMap];exact .inl ⟨.tmp d,zQS.2 hx,rfl⟩
 | const _=>rfl
 | global _=>rfl
 | func _=>rfl
theorem yJ:∀ (l:List Oper)(j:Nat),kG l j=(l[j]?).bind (·.dst)
 | [],j=>by simp[kG]
 | o::r,0=>by simp[kG]
 | o::r,j+1=>by simp[kG,yJ r j]
theorem HG {ops:Array Oper}{σt:List (Nat × SV)}{β:Nat→Bt}{a:Act}(hf:mD β F.n σt a){j d:Nat}{b:Bool}(h:Yk σt (kG ops.toList j)=some (d,b)) :
 yielded ops a.tmps j=some b∧a.tmps.getD d undef=.bool b:=by
 refine gval_ok hf ?_;unfold Yk at h;split at h
 ·rename_i d' hd
  rw[yJ]at hd;unfold gval;rw[List.getElem?_map];cases ho:ops.toList[j]? with
  | none=>rw[ho]at hd;simp at hd
  | some o =>
    rw[ho]at hd;simp at hd
    simp only[zQP,hd];exact h
 ·cases h
theorem PA {ops:List Oper}{t:List (Nat × SV)}{j:Nat}(h:gvU t (kG ops j)=true):∃ d x,kG ops j=some d∧lk d t=some (.v x)∧nob x=true:=by
 unfold gvU at h;split at h
 ·rename_i d hd
  split at h
  ·rename_i x hx
   exact⟨d,x,hd,hx,h⟩
  ·cases h
 ·cases h
theorem Pz {ops:Array Oper}{σt:List (Nat × SV)}{β:Nat→Bt}{a:Act}(hf:mD β F.n σt a){j d:Nat}{x:Value}(hd:kG ops.toList j=some d)(hx:lk d σt=some (.v x))(hn:nob x=true):yielded ops a.tmps j=none:=by
 have hg:=hf.get _ _ hx;simp only[aj]at hg;rw[yJ]at hd;have hd':(ops[j]?).bind (·.dst)=some d:=by simpa using hd
 unfold yielded;rw[hd'];simp only[Option.bind_some];cases ht:a.tmps[d]? with
 | none=>rfl
 | some y =>
   have:y=x:=by rw[← hg];simp[zRe,ht]
   subst this;cases y <;> simp[nob]at hn ⊢
theorem MO {ops:List Oper}{t t':List (Nat × SV)}{j d:Nat}{b:Bool}(h:Yk t (kG ops j)=some (d,b))(hl:lk d t'=lk d t):Yk t' (kG ops j)=some (d,b):=by
 unfold Yk at h ⊢;split at h
 ·rename_i d' hd
  split at h
  ·rename_i b' hb
   cases h
   rw[hl,hb]
  ·cases h
 ·cases h
theorem gval_lk {ops:List Oper}{t:List (Nat × SV)}{j d:Nat}{b:Bool}(h:Yk t (kG ops j)=some (d,b)):lk d t=some (.bool b)∧kG ops j=some d:=by
 unfold Yk at h;split at h
 ·rename_i d' hd
  split at h
  ·rename_i b' hb
   cases h
   exact⟨hb,hd⟩
  ·cases h
 ·cases h
theorem xW {ops:Array Oper}{o:Oper}{j d:Nat}{want:Bool}(hg:o.guard=some (j,want))(hd:kG ops.toList j=some d):d∈o.looksAt ops:=by
 unfold Oper.looksAt;rw[hg];simp only[List.mem_append];right
 rw[yJ]at hd;have:(ops[j]?).bind (·.dst)=some d:=by simpa using hd
 rw[this];simp
theorem GB {t:List (Nat × SV)}{d:Nat}{b:Bool}(h:lk d t=some (.bool b)):∀ e,lk e ((d,.bool b)::t)=lk e t:=fun e=>by
 simp only[lk];split
 ·rename_i he;subst he;exact h.symm
 ·rfl
theorem Fe {ops:Array Oper}{o:Oper}(h:o.guard=none)(a:Act):Region.wanted o (yielded ops a.tmps)=true:=by simp[Region.wanted,h]
theorem KA {ops:Array Oper}{i:Nat}{t tt:List (Nat × SV)}{b:List aq}{o:Oper}{c:Prop}{r:mC}(ho:ops[i]? = some o)(dp:fits F.n o.dst=true)(hs:XV V o.op ⟨tt,b⟩=.val c r)(hc:c)(Ab:∀ e,lk e tt=lk e t)
 (hw:∀ (ta:List (Nat × SV)) (ba:List aq) (a:Act) (w:World),Rel F ⟨ta,ba⟩ a w→(∀ d∈o.looksAt ops,lk d ta=lk d t)→Region.wanted o (yielded ops a.tmps)=true):A7 F ops i t b r:=by
 intro Q K a w t' b' o' ho' hl hb oj hr hK;rw[ho]at ho';cases ho'
 unfold wpOp;rw[ho];simp only;rw[if_pos (hw t' b' a w hr hl)];left
 refine Oper.wp_mono (fun a w ⟨σ,hσ,hrel⟩=>?_) (qE (F:=F) dp (NO (dst:=o.dst) (t':=t') (b':=b') (zT (ops:=ops) (t:=tt) (fun d hd=>(hl d hd).trans (Ab d).symm)) hs hc hb oj) hr o.type o.pos o.after o.guard _);subst hσ;exact hK a w hrel
theorem zF {ops:Array Oper}{i:Nat}{t tt:List (Nat × SV)}{b:List aq}{o:Oper}{g:FuncId}{args:List SV}{r:mC}(ho:ops[i]? = some o)(dp:fits F.n o.dst=true)(hs:XV V o.op ⟨tt,b⟩=.call g args)(Ab:∀ e,lk e tt=lk e t)
 (KO:(∃ x,PC V g args x∧r=⟨x,none,false,[],[]⟩)∨(∃ x nb al W,SC V g args b (fun r' b'=>r'=x∧b'=nb)∧r=⟨x,some nb,al,[],W⟩))
 (hw:∀ (ta:List (Nat × SV)) (ba:List aq) (a:Act) (w:World),Rel F ⟨ta,ba⟩ a w→(∀ d∈o.looksAt ops,lk d ta=lk d t)→Region.wanted o (yielded ops a.tmps)=true):A7 F ops i t b r:=by
 intro Q K a w t' b' o' ho' hl hb oj hr hK;rw[ho]at ho';cases ho'
 unfold wpOp;rw[ho];simp only;rw[if_pos (hw t' b' a w hr hl)];left
 have hcall:=IM (dst:=o.dst) (t':=t') (b':=b') (zT (ops:=ops) (t:=tt) (fun d hd=>(hl d hd).trans (Ab d).symm)) hs;have hh:kJ V (fun σ=>σ=⟨put o.dst r.x t',r.nb.getD b'⟩) (XR V o.dst o.op ⟨t',b'⟩):=by
  rw[hcall];rcases KO with⟨x,hpc,rfl⟩|⟨x,nb,al,W,tC,rfl⟩
  ·exact .inl ⟨x,hpc,rfl⟩
  ·obtain rfl:=hb rfl
   exact .inr ⟨_,tC,fun r' bs ⟨h1,h2⟩=>by subst h1 h2;rfl⟩
 refine Oper.wp_mono (fun a w ⟨σ,hσ,hrel⟩=>?_) (qE (F:=F) dp hh hr o.type o.pos o.after o.guard _);subst hσ;exact hK a w hrel
theorem Gv {ops:Array Oper}{i:Nat}{t:List (Nat × SV)}{b:List aq}{o:Oper}(ho:ops[i]? = some o)(dp:fits F.n o.dst=true)
 (hw:∀ (ta:List (Nat × SV)) (ba:List aq) (a:Act) (w:World),Rel F ⟨ta,ba⟩ a w→(∀ d∈o.looksAt ops,lk d ta=lk d t)→Region.wanted o (yielded ops a.tmps)=false):A7 F ops i t b ⟨.v undef,none,false,[],[]⟩:=by
 intro Q K a w t' b' o' ho' hl hb oj hr hK;rw[ho]at ho';cases ho'
 unfold wpOp;rw[ho];simp only;rw[if_neg (by rw[hw t' b' a w hr hl];simp)];obtain⟨β,fp,hf,tS⟩:=hr;exact hK _ w ⟨β,fp,hf.put dp (fun _ _=>rfl),tS⟩
theorem Dg (r:mC)(h:r.nb=none)(b:List aq):UnE r b:=fun nb xR=>by rw[h]at xR;cases xR
def Ik (F:Fx V)(ops:Array Oper)(r:mC)(t:List (Nat × SV))(b:List aq)(i d:Nat)(z:List SV)(T:TypeId)(q:Option (Nat × Nat)):Prop :=
 jL ops i=some d∧d<F.n∧(∃ W,r=⟨flV q b.length,some (b++[flR q z T]),false,[],W⟩)∧flW q z∧∃ o,ops[i]? = some o∧o.guard=none ∧
  ∀ (β:Nat→Bt) (m:Nat) (tt:List (Nat × SV)) (a:Act) (w:World),Fm F β m tt a→(∀ d∈o.looksAt ops,lk d tt=lk d t)→∀ β',cP m β β'→(execOp a.eval o).run V.P w=Result.ok (.value (aj nX (MS q w.heap.size))) (w.alloc (.cells (z.map (aj β')).toArray T))
theorem Fy {T:TypeId}{σ:St}{c:Prop}{r:mC}(h:XV V (.alloc T) σ=.val c r):∃ ti,V.Γ T=some ti∧r=⟨.p σ.b.length 0,some (σ.b++[.cells ti.zero T true]),false,[],[(σ.b.length,0,0)]⟩:=by
 unfold XV at h;simp only[pv,Yl,MP,dN,Xv,XD]at h;split at h
 ·rename_i ti o7
  cases h
  exact⟨ti,o7,rfl⟩
 ·cases h
theorem vT {T:TypeId}{σ:St}{g:FuncId}{args:List SV}(h:XV V (.alloc T) σ=.call g args):False:=by
 unfold XV at h;simp only[pv,Yl,MP,dN,Xv,XD]at h;split at h <;> cases h
theorem M5 {ts e:TypeId}{n:Nat}{ps:Array (Nat × Operand)}{t:List (Nat × SV)}{l:List (Nat × SV)}{c0:List SV}{ti:TI}(ht:kd V.Γ ts=some (.slice e))(o7:V.Γ e=some ti)(hl:Xl t ps.toList=some l)(nT:Yi ti.size 0 l=some c0)(Mm:l.length=n)(sN:n * ti.size≤16777216)(kN:0<ti.size)
 {β:Nat→Bt} {m:Nat} {a:Act} (hf:Fm F β m t a) (w:World) (β':Nat→Bt) (hβ:cP m β β'):(Instr.buildSlice ts n (ps.map fun p=>(p.1,a.eval p.2))).run V.P w=Result.ok (.slice (some ⟨w.heap.size,0,none⟩) n n) (w.alloc (.cells (c0.map (aj β')).toArray e)):=by
 obtain⟨d1,vL,cV⟩:=c9 V.kF ht;simp only[dk]at cV;subst cV;obtain⟨i,z,hi,hz,wJ,O8,Ir⟩:=(V.kF e ti o7).info;have e2:=pz (β':=β') hf hβ hl;have fY:=rR nT;rw[Mm]at fY;have vc:=Au β' ti.size l 0 c0 nT ((Array.range (n * i.size)).map (z.cells[· % z.cells.size]!)) (by rw[Nat.zero_add,Mm];simp[wJ]);by_cases hn:n=0
 ·subst hn
  have hl0:l=[]:=zQR Mm;subst hl0;have kn:c0=[]:=zQR (by rw[fY];simp);subst kn;have e3:(ps.toList.map fun p=>(p.1,a.eval p.2))=[]:=e2;have e4:Array.range 0=#[]:=rfl;simp[Instr.buildSlice,run_underlying vL,Go.sizeOf,typeInfo,hi,e3,Instr.fill,newRow,e4]
 ·refine run_buildSlice (P:=V.P) w ts e n (ps.map fun p=>(p.1,a.eval p.2)) (c0.map (aj β')).toArray i z vL hi hz (by rw[wJ];omega) (by rw[wJ];exact Nat.ne_of_gt (Nat.mul_pos QA kN)) ?_
  have e3:=vc;rw[← wJ]at e3;rw[Array.toList_map,e2,e3];congr 1
  apply zQ8
  rw[Nat.zero_add,Mm];simp
theorem Fw {ts:TypeId}{n:Nat}{ps:Array (Nat × Operand)}{σ:St}{c:Prop}{r:mC}(h:XV V (.buildSlice ts n ps) σ=.val c r)(hc:c):∃ e ti l c0,kd V.Γ ts=some (.slice e)∧V.Γ e=some ti∧Xl σ.t ps.toList=some l∧Yi ti.size 0 l=some c0∧l.length=n∧n * ti.size≤16777216∧0<ti.size∧∃ W,r=⟨.o σ.b.length n,some (σ.b++[.own c0 e ti.size n true]),false,[],W⟩:=by
 unfold XV at h;simp only[pv,MP,Yl,Xv]at h;cases hx:Xa V (some 0) ts n ps.toList σ with
 | none=>rw[hx]at h;simp only[dN]at h;cases h
 | some y =>
   rw[hx]at h;obtain⟨c',σ'⟩:=y;unfold Xa at hx
   (repeat' split at hx) <;> try (cases hx;done)
   rename_i _ e ht _ ti o7 _ l hl _ c0 nT
   cases hx
   simp only[dN,put,Xz,Bool.false_eq_true,if_false]at h;cases h
   exact⟨e,ti,l,c0,ht,o7,hl,nT,hc.1,hc.2.1,hc.2.2,_,rfl⟩
theorem vS {ts:TypeId}{n:Nat}{ps:Array (Nat × Operand)}{σ:St}{g:FuncId}{args:List SV}(h:XV V (.buildSlice ts n ps) σ=.call g args):False:=by
 unfold XV at h;simp only[pv,MP,Yl,Xv]at h;cases hx:Xa V (some 0) ts n ps.toList σ with
 | none=>rw[hx]at h;simp only[dN]at h;cases h
 | some y =>
   rw[hx]at h;obtain⟨c',σ'⟩:=y;simp only[dN]at h;split at h
   ·split at h <;> cases h
   ·cases h
structure Ii (F:Fx V) (ops:Array Oper) (t0:List (Nat × SV)) (b0:List aq) (recs:List mC) (T:Nat→List (Nat × SV)) (B:Nat→List aq) (σ:St):Prop where
 t0:∀ d,lk d (T 0)=lk d t0
 b0:B 0=b0
 t:∀ i,i<recs.length→∀ d,lk d (T (i+1))=lk d (put (jL ops i) (recs.getD i cQ).x (T i))
 b:∀ i,i<recs.length→B (i+1)=(recs.getD i cQ).nb.getD (B i)
 op:∀ i,i<recs.length→∀ F':Fx V,F'.n=F.n→A7 F' ops i (T i) (B i) (recs.getD i cQ)
 un:∀ i,i<recs.length→UnE (recs.getD i cQ) (B i)
 te:T recs.length=σ.t
 be:B recs.length=σ.b
 fl:∀ i,i<recs.length→gm ops i=true→∃ d z Ta q,Ik F ops (recs.getD i cQ) (T i) (B i) i d z Ta q
theorem Ii.step {ops:Array Oper}{t0:List (Nat × SV)}{b0:List aq}{recs:List mC}{T:Nat→List (Nat × SV)}{B:Nat→List aq}{σ:St}(h:Ii F ops t0 b0 recs T B σ){o:Oper}(ho:ops[recs.length]? = some o)(r:mC)(tt:List (Nat × SV))
 (Ab:∀ d,lk d tt=lk d (put o.dst r.x σ.t)) (Mq:∀ F':Fx V,F'.n=F.n→A7 F' ops recs.length σ.t σ.b r) (OR:UnE r σ.b) (nT:gm ops recs.length=true→∃ d z Ta q,Ik F ops r σ.t σ.b recs.length d z Ta q) :
 Ii F ops t0 b0 (recs++[r]) (fun i=>if i=recs.length+1 then tt else T i) (fun i=>if i=recs.length+1 then r.nb.getD σ.b else B i) ⟨tt,r.nb.getD σ.b⟩:=by
 have mc:(recs++[r]).getD recs.length cQ=r:=by simp[zQT]
 have G7:∀ i,i<recs.length→(recs++[r]).getD i cQ=recs.getD i cQ:=fun i hi=>by simp[zQT,zQN hi]
 have hd:jL ops recs.length=o.dst:=by unfold jL;rw[ho];rfl
 refine⟨?_,?_,fun i hi=>?_,fun i hi=>?_,fun i hi=>?_,fun i hi=>?_,?_,?_,fun i hi hf=>?_⟩
 ·simp only[if_neg (show (0:Nat)≠recs.length+1 by omega)];exact h.t0
 ·simp only[if_neg (show (0:Nat)≠recs.length+1 by omega)];exact h.b0
 all_goals try (rw[zQH,zQO]at hi)
 ·intro d
  simp only[if_neg (show i≠recs.length+1 by omega)];by_cases he:i=recs.length
  ·subst he
   simp only[if_true];rw[mc,hd,h.te];exact Ab d
  ·rw[if_neg QA,G7 i QA]
   exact h.t i QA d
 ·simp only[if_neg (show i≠recs.length+1 by omega)]
  by_cases he:i=recs.length
  ·subst he
   simp only[if_true];rw[mc,h.be]
  ·rw[if_neg QA,G7 i QA]
   exact h.b i QA
 ·simp only[if_neg (show i≠recs.length+1 by omega)]
  by_cases he:i=recs.length
  ·subst he
   rw[mc,h.te,h.be];exact Mq
  ·rw[G7 i QA]
   exact h.op i QA
 ·simp only[if_neg (show i≠recs.length+1 by omega)]
  by_cases he:i=recs.length
  ·subst he
   rw[mc,h.be];exact OR
  ·rw[G7 i QA]
   exact h.un i QA
 ·simp
 ·simp
 ·simp only[if_neg (show i≠recs.length+1 by omega)]
  by_cases he:i=recs.length
  ·subst he
   rw[mc,h.te,h.be];exact nT hf
  ·rw[G7 i QA]
   exact h.fl i QA hf
def I1 (r:mC):Rk:=⟨r.nb.isSome,r.all,r.rd,r.wr⟩
theorem OC {ops:Array Oper}{t0:List (Nat × SV)}{b0:List aq}{E:Fin}{k:List Item}:∀ (f:Nat)(l pre:List Oper)(recs:List mC)(T:Nat→List (Nat × SV))(B:Nat→List aq)(σ:St),ops.toList=pre++l→recs.length=pre.length →
 Ii F ops t0 b0 recs T B σ→eH V F.n E f (.oy ops l (recs.map I1)::k) σ →
 ∃ f' recs' T' B' σ',f'<f∧recs'.length=ops.size∧Ii F ops t0 b0 recs' T' B' σ'∧Qh ops (recs'.map I1)∧eH V F.n E f' k σ':=by
 intro f;induction f with
 | zero=>intro l pre recs T B σ _ _ _ h;cases l <;> simp[eH]at h
 | succ f ih =>
   intro l pre recs T B σ dj hlen hlex h;match l with
   | [] =>
     simp only[eH]at h;refine⟨f,recs,T,B,σ,zQY _,?_,hlex,h.1,h.2⟩;have:=congrArg List.length dj
     simp at this
     omega
   | o::r =>
     have ho:ops[recs.length]? = some o:=by
      have:ops.toList[recs.length]? = some o:=by rw[dj,hlen];simp
      simpa using this
     have next:∀ (rc:mC) (tt:List (Nat × SV)),(∀ d,lk d (put o.dst rc.x tt)=lk d (put o.dst rc.x σ.t))→(∀ F':Fx V,F'.n=F.n→A7 F' ops recs.length σ.t σ.b rc)→UnE rc σ.b→(gm ops recs.length=true→∃ d z Ta q,Ik F ops rc σ.t σ.b recs.length d z Ta q) →
      eH V F.n E f (.oy ops r (recs.map I1++[I1 rc])::k) ⟨Vc.put o.dst rc.x tt,rc.nb.getD σ.b⟩ →
      ∃ f' recs' T' B' σ',f'<f+1∧recs'.length=ops.size∧Ii F ops t0 b0 recs' T' B' σ'∧Qh ops (recs'.map I1)∧eH V F.n E f' k σ':=fun rc tt Ab Mq OR hflr hv=>by
      obtain⟨f',recs',T',B',σ',h1,h2,h3,h4,h5⟩:=ih r (pre++[o]) (recs++[rc]) _ _ _ (by rw[dj];simp) (by simp[hlen]) (hlex.step ho rc (Vc.put o.dst rc.x tt) Ab Mq OR hflr) (by simpa using hv);exact⟨f',recs',T',B',σ',QA,h2,h3,h4,h5⟩
     have Hx:gm ops recs.length=true→o.guard=none∧∃ d,o.dst=some d∧((∃ Ta,o.op=.alloc Ta)∨∃ ts n ps,o.op=.buildSlice ts n ps):=fun h=>by
      unfold gm at h;rw[ho]at h;split at h
      ·rename_i e;cases e;exact⟨rfl,_,rfl,.inl ⟨_,rfl⟩⟩
      ·rename_i e;cases e;exact⟨rfl,_,rfl,.inr ⟨_,_,_,rfl⟩⟩
      ·cases h
     have hdat:jL ops recs.length=o.dst:=by unfold jL;rw[ho];rfl
     obtain⟨dst,op,ty,pos,after,guard⟩:=o;simp only at Hx hdat
     -- one operation, wanted
     have go:∀ (tt:List (Nat × SV)),(∀ e,lk e tt=lk e σ.t)→(∀ F':Fx V,F'.n=F.n→∀ (ta:List (Nat × SV)) (ba:List aq) (a:Act) (w:World),Rel F' ⟨ta,ba⟩ a w→(∀ d∈(⟨dst,op,ty,pos,after,guard⟩:Oper).looksAt ops,lk d ta=lk d σ.t)→Region.wanted ⟨dst,op,ty,pos,after,guard⟩ (yielded ops a.tmps)=true) →
      fits F.n dst=true→Yg V F.n E f ops r (recs.map I1) k dst ⟨tt,σ.b⟩ (XV V op ⟨tt,σ.b⟩) →
      ∃ f' recs' T' B' σ',f'<f+1∧recs'.length=ops.size∧Ii F ops t0 b0 recs' T' B' σ'∧Qh ops (recs'.map I1)∧eH V F.n E f' k σ':=fun tt Ab G3 dp E6=>by
      have OZ:∀ x d,lk d (put dst x tt)=lk d (put dst x σ.t):=fun x d=>la (Ab d)
      have hfit':∀ F':Fx V,F'.n=F.n→fits F'.n dst=true:=fun F' e=>by rw[e];exact dp
      have BI:∀ {c:Prop} {rc:mC},XV V op ⟨tt,σ.b⟩=.val c rc→c→gm ops recs.length=true→∃ d z Ta q,Ik F ops rc σ.t σ.b recs.length d z Ta q:=fun {c rc} hs hc hf=>by
       obtain⟨hg,d,hd,⟨Ta,Mq⟩|⟨ts,n,ps,Mq⟩⟩:=Hx hf
       ·subst Mq
        obtain⟨ti,o7,hrc⟩:=Fy hs;refine⟨d,ti.zero,Ta,none,hdat.trans hd,?_,⟨_,hrc⟩,trivial,_,ho,hg,fun β m tt' a w hfm sJ β' hβ=>?_⟩
        ·rw[hd]at dp
         simpa[fits] using dp
        ·rw[(V.kF Ta ti o7).flat β']
         exact cU (Cp (V:=V) Ta ti o7 w)
       ·subst Mq
        obtain⟨e,ti,l,c0,h1,h2,h3,h4,h5,h6,h7,W,hrc⟩:=Fw hs hc;have fY:=rR h4;refine⟨d,c0,e,some (ti.size,n),hdat.trans hd,?_,⟨W,hrc⟩,⟨by rw[fY,h5],?_⟩,_,ho,hg,fun β m tt' a w hfm sJ β' hβ=>?_⟩
        ·rw[hd]at dp
         simpa[fits] using dp
        ·unfold maxLen
         have:n * 1≤n * ti.size:=Nat.mul_le_mul_left _ h7
         omega
        ·have hev:=zT (ops:=ops) (o:=⟨dst,.buildSlice ts n ps,ty,pos,after,guard⟩) (t:=tt) (t':=tt') (fun d hd=>(sJ d hd).trans (Ab d).symm)
         have h3':Xl tt' ps.toList=some l:=by
          rw[j9 (t:=tt') (t':=tt) ps.toList (fun x hx=>hev x (by simp only[Op.operands];rw[List.mem_toArray];exact hx))];exact h3
         exact cU (M5 (F:=F) h1 h2 h3' h4 h5 h6 h7 hfm w β' hβ)
      have hnc:∀ {g:FuncId} {args:List SV} {rc:mC},XV V op ⟨tt,σ.b⟩=.call g args→gm ops recs.length=true→∃ d z Ta q,Ik F ops rc σ.t σ.b recs.length d z Ta q:=fun {g args rc} hs hf=>by
       obtain⟨-,d,-,⟨Ta,Mq⟩|⟨ts,n,ps,Mq⟩⟩:=Hx hf
       ·rw[Mq]at hs
        exact(vT hs).elim
       ·rw[Mq]at hs
        exact(vS hs).elim
      cases BK:XV V op ⟨tt,σ.b⟩ with
      | val c rc =>
        rw[BK]at E6;obtain⟨x,nb,al,rd,wr⟩:=rc;cases nb with
        | none =>
          simp only[Yg]at E6;exact next ⟨x,none,al,rd,wr⟩ tt (OZ x) (fun F' e=>KA ho (hfit' F' e) BK E6.1 Ab (G3 F' e)) (Fv BK E6.1) (BI BK E6.1) E6.2
        | some nb =>
          simp only[Yg]at E6;exact next ⟨x,some nb,al,rd,wr⟩ tt (OZ x) (fun F' e=>KA ho (hfit' F' e) BK E6.1 Ab (G3 F' e)) (Fv BK E6.1) (BI BK E6.1) E6.2
      | call g args =>
        rw[BK]at E6;simp only[Yg,Dc]at E6;rcases E6 with⟨x,hpc,hv⟩|⟨x,nb,tC,hv⟩|⟨x,nb,W,tC,hout,hv⟩
        ·exact next ⟨x,none,false,[],[]⟩ tt (OZ x) (fun F' e=>zF ho (hfit' F' e) BK Ab (.inl ⟨x,hpc,rfl⟩) (G3 F' e)) (Dg _ rfl _) (hnc BK) hv
        ·exact next ⟨x,some nb,true,[],[]⟩ tt (OZ x) (fun F' e=>zF ho (hfit' F' e) BK Ab (.inr ⟨x,nb,true,[],tC,rfl⟩) (G3 F' e)) (fun _ _ h=>by cases h) (hnc BK) hv
        ·exact next ⟨x,some nb,false,[],W⟩ tt (OZ x) (fun F' e=>zF ho (hfit' F' e) BK Ab (.inr ⟨x,nb,false,W,tC,rfl⟩) (G3 F' e)) (fun _ h _ j q hq=>by cases h;exact hout j q hq) (hnc BK) hv
      | bad=>rw[BK]at E6;simp[Yg]at E6
     cases guard with
     | none =>
       simp only[eH]at h;exact go σ.t (fun _=>rfl) (fun F' _ ta _ a _ _ _=>Fe rfl a) h.1 h.2
     | some q =>
       obtain⟨j,want⟩:=q;simp only[eH]at h;obtain⟨dp,h⟩:=h;have hfit':∀ F':Fx V,F'.n=F.n→fits F'.n dst=true:=fun F' e=>by rw[e];exact dp
       have hng:∀ {rc:mC},gm ops recs.length=true→∃ d z Ta q,Ik F ops rc σ.t σ.b recs.length d z Ta q:=fun hf=>by
        have:=(Hx hf).1
        cases this
       cases hg:Yk σ.t (kG ops.toList j) with
       | none =>
         cases hu:gvU σ.t (kG ops.toList j) with
         | false=>rw[hg,hu]at h;simp[Xy]at h
         | true =>
           rw[hg,hu]at h;simp only[Xy,XG]at h;obtain⟨d,x,hgd,sJ,tE⟩:=PA hu;refine next ⟨.v undef,none,false,[],[]⟩ σ.t (fun _=>rfl) (fun F' e=>Gv ho (hfit' F' e) (fun ta ba a w hr hl=>by
            obtain⟨β,fp,hf,-⟩:=hr;have hy:=Pz (hf.ok β (cP.refl _ _)) hgd (by rw[hl d (xW rfl hgd)];exact sJ) tE;simp[Region.wanted,hy])) (Dg _ rfl _) hng h
       | some q =>
         obtain⟨d,b⟩:=q;rw[hg]at h;simp only[Xy,XG]at h;obtain⟨hd,h1,h2⟩:=h;obtain⟨sJ,hgd⟩:=gval_lk hg;have ON:∀ F':Fx V,F'.n=F.n→∀ (ta:List (Nat × SV)) (ba:List aq) (a:Act) (w:World),Rel F' ⟨ta,ba⟩ a w→(∀ e∈(⟨dst,op,ty,pos,after,some (j,want)⟩:Oper).looksAt ops,lk e ta=lk e σ.t)→yielded ops a.tmps j=some b:=fun F' _ ta ba a w hr hl=>by
          obtain⟨β,fp,hf,-⟩:=hr;exact(HG (hf.ok β (cP.refl _ _)) (MO hg (hl d (xW rfl hgd)))).1
         by_cases hb:b=want
         ·subst hb
          exact go ((d,.bool b)::σ.t) (GB sJ) (fun F' e ta ba a w hr hl=>by simp[Region.wanted,ON F' e ta ba a w hr hl]) dp (h1 rfl)
         ·have hb':b=!want:=by cases b <;> cases want <;> simp at hb ⊢
          have hv:=h2 hb';rw[← hb']at hv;exact next ⟨.v undef,none,false,[],[]⟩ ((d,.bool b)::σ.t) (fun e=>la (GB sJ e)) (fun F' e=>Gv ho (hfit' F' e) (fun ta ba a w hr hl=>by simp[Region.wanted,ON F' e ta ba a w hr hl,hb])) (Dg _ rfl _) hng hv
end
open Go Go.RowKit Wf
section
variable {V:Cx} {F:Fx V}
theorem wp_then {P:Program}{o:Oper}{a:Act}{w:World}{N K:Act→World→Prop}{Q:Exit→Act→World→Prop}(hk:∀ a w,N a w→K a w)(h:o.wp P a w (fun a w=>Exit.then N Q .normal a w) (Exit.then N Q)):o.wp P a w K Q:=by
 refine Oper.wp_mono hk ?_;unfold Oper.wp at *;generalize (execOp a.eval o).run P w=r at *;cases r with
 | ok n w' =>
   cases n <;> simp only[Oper.upon]at h ⊢ <;> exact h
 | halt x w'=>cases x <;> simp only[Oper.upon]at h ⊢ <;> exact h
theorem Me {N:Act→World→Prop}{Q:Exit→Act→World→Prop}(h:LetsOut (Exit.then N Q)):LetsOut Q:=h
def aoV (P:Program)(ops:Array Oper)(L:List Nat)(t:OT)(Q:Exit→Act→World→Prop)(a:Act)(w:World):Prop :=
 (OT.BA ops L t=true→wpAny P .any ops Q (ops.size - L.length) (xa ops.size L) a w) ∧
 (OT.BA.Nd ops L t=true→L.length<ops.size→∀ i∈t.Ap,wpOp P ops Q i (wpAny P .any ops Q (ops.size - (L.length+1)) (xa ops.size (i::L))) a w)
def tV (F:Fx V)(Qf:Exit→Act→World→Prop):List Item→Exit→Act→World→Prop
 | []=>Qf
 | .code c::k=>Exit.then (c.wp V.P (tV F Qf k)) (tV F Qf k)
 | .ops ops l::k=>Exit.then (wpList V.P ops (tV F Qf k) l) (tV F Qf k)
 | .oy _ _ _::k=>Exit.then (fun _ _=>True) (tV F Qf k)
 | .kt ops L t::k=>Exit.then (fun a w=>OT.BA ops L t=true∨OT.BA.Nd ops L t=true→aoV V.P ops L t (tV F Qf k) a w) (tV F Qf k)
 | .cut J::k=>Exit.then (fun a w=>∃ σ,J σ∧Rel F σ a w) (tV F Qf k)
 | .EG id::k=>Exit.inBlock id (tV F Qf k)
 | .EF I μ m::k=>Exit.then (fun a w=>∃ σ,I σ∧μ σ<m∧Rel F σ a w) (tV F Qf k)
theorem kv {Qf:Exit→Act→World→Prop}{id:Nat}{a:Act}{w:World}:∀ {k k':List Item},XE id k=some k'→tV F Qf k' .normal a w→tV F Qf k (.exit id) a w
 | [],k',h,_=>by simp[XE]at h
 | .code c::k,k',h,hq=>by simp only[XE]at h;exact kv (k:=k) h hq
 | .ops ops l::k,k',h,hq=>by simp only[XE]at h;exact kv (k:=k) h hq
 | .EF _ _ _::k,k',h,hq=>by simp only[XE]at h;exact kv (k:=k) h hq
 | .oy _ _ _::k,k',h,hq=>by simp only[XE]at h;exact kv (k:=k) h hq
 | .kt _ _ _::k,k',h,hq=>by simp only[XE]at h;exact kv (k:=k) h hq
 | .cut _::k,k',h,hq=>by simp only[XE]at h;exact kv (k:=k) h hq
 | .EG id'::k,k',h,hq=>by
   simp only[XE]at h;show Exit.inBlock id' (tV F Qf k) (.exit id) a w
   split at h
   ·rename_i e
    cases h
    simp only[Exit.inBlock,if_pos e.symm];exact hq
   ·rename_i e
    simp only[Exit.inBlock,if_neg (fun q=>e (Eq.symm q))];exact kv (k:=k) h hq
theorem nA {Qf:Exit→Act→World→Prop}{a:Act}{w:World}(hq:Qf .ret a w):∀ (k:List Item),tV F Qf k .ret a w
 | []=>hq
 | .code c::k=>nA hq k
 | .ops ops l::k=>nA hq k
 | .EF _ _ _::k=>nA hq k
 | .oy _ _ _::k=>nA hq k
 | .kt _ _ _::k=>nA hq k
 | .cut _::k=>nA hq k
 | .EG id'::k=>nA hq k
theorem jf {Qf:Exit→Act→World→Prop}{c:List PanicEntry}{a:Act}{w:World}:∀ (k:List Item),tV F Qf k (.panic c) a w→Qf (.panic c) a w
 | [],h=>h
 | .code _::k,h=>jf k h
 | .ops _ _::k,h=>jf k h
 | .oy _ _ _::k,h=>jf k h
 | .kt _ _ _::k,h=>jf k h
 | .cut _::k,h=>jf k h
 | .EG _::k,h=>jf k h
 | .EF _ _ _::k,h=>jf k h
theorem BM {E:Fin}{n f:Nat}{ops:Array Oper}{r:List Oper}{k:List Item}{s:jM}(h:Yc V n E f ops r k s):kJ V (fun σ=>eH V n E f (.ops ops r::k) σ) s:=by
 cases s <;> simp only[Yc]at h
 ·exact h
 ·unfold Db at h;exact h
theorem Ln {E:Fin}{Qf:Exit→Act→World→Prop}(hn:∀ σ a w,JZ V E σ (XT V σ E.rs)→Rel F σ a w→Qf .normal a w)(hret:∀ σ a w,JZ V E σ (XT V σ E.rs)→Rel F σ a w→Qf .ret a w)(hpan:∀ c a w,¬ Qf (.panic c) a w) :
 ∀ (f:Nat) (items:List Item) (σ:St),eH V F.n E f items σ→∀ a w,Rel F σ a w→tV F Qf items .normal a w:=by
 intro f;induction f using Nat.strongRecOn with
 | _ f0 ihs =>
 cases f0 with
 | zero=>intro items σ h;cases items <;> simp[eH]at h
 | succ f =>
   have ih:∀ (items:List Item) (σ:St),eH V F.n E f items σ→∀ a w,Rel F σ a w→tV F Qf items .normal a w:=ihs f (zQY _);have step:∀ (ops:Array Oper) (o:Oper) (r:List Oper) (k:List Item) (σ:St) (a:Act) (w:World),fits F.n o.dst=true→Yc V F.n E f ops r k (XR V o.dst o.op σ)→Rel F σ a w →
    o.wp V.P a w (wpList V.P ops (tV F Qf k) r) (tV F Qf k):=fun ops o r k σ a w dp h hr=>by
    refine Oper.wp_mono (fun a w ⟨σ',h1,h2⟩=>?_) (qE (F:=F) dp (BM h) hr o.type o.pos o.after o.guard _);exact ih (.ops ops r::k) σ' h1 a w h2
   intro items σ h a w hr;match items with
   | []=>simp only[eH]at h;exact hn σ a w h hr
   | .EG id::k=>simp only[eH]at h;exact ih k σ h a w hr
   | .EF I μ m::k=>simp only[eH]at h;exact⟨σ,h.1,h.2,hr⟩
   | .oy ops l rs::k=>exact trivial
   | .cut J::k=>simp only[eH]at h;exact⟨σ,h,hr⟩
   | .kt ops L .leaf::k =>
     simp only[eH]at h;refine fun _=>⟨fun cn=>?_,fun cn=>by simp[OT.BA.Nd]at cn⟩
     simp only[OT.BA,List.isEmpty_iff]at cn;have hq:tV F Qf k .normal a w:=ih k σ h a w hr;cases hf:ops.size - L.length with
     | zero=>exact⟨cn,hq⟩
     | succ m=>exact⟨fun _=>hq,fun i hi=>by rw[cn]at hi;cases hi⟩
   | .kt ops L (.one i t)::k =>
     simp only[eH]at h;have ld:OT.BA ops (i::L) t=true→i<ops.size→wpOp V.P ops (tV F Qf k) i (wpAny V.P .any ops (tV F Qf k) (ops.size - (L.length+1)) (xa ops.size (i::L))) a w:=fun cn hi=>by
      have h1:wpList V.P ops (tV F Qf (.kt ops (i::L) t::k)) (rY ops.toList i) a w:=ih _ σ h a w hr;have ho:ops[i]? = some ops[i]:=zQV hi;have hn:rY ops.toList i=[ops[i]]:=by rw[yC];simp[ho]
      rw[hn]at h1;have hk:∀ a w,tV F Qf (.kt ops (i::L) t::k) .normal a w→wpAny V.P .any ops (tV F Qf k) (ops.size - (L.length+1)) (xa ops.size (i::L)) a w:=fun a w hq=>(hq (.inl cn)).1 cn
      unfold wpOp;rw[ho];simp only[wpList]at h1 ⊢;split
      ·rename_i hw
       rw[if_pos hw]at h1;rcases h1 with h1|⟨h1,h2⟩
       ·refine .inl ?_
        exact wp_then hk h1
       ·exact .inr ⟨h1,Me h2⟩
      ·rename_i hw
       rw[if_neg hw]at h1;exact hk _ _ h1
     refine fun _=>⟨fun cn=>?_,fun cn hL j hj=>?_⟩
     ·simp only[OT.BA,zQG,decide_eq_true_eq,beq_iff_eq]at cn
      obtain⟨⟨hL,Ep⟩,cn⟩:=cn;obtain⟨m,hm⟩:∃ m,ops.size - L.length=m+1:=⟨ops.size - L.length - 1,QA⟩;have hm':ops.size - (L.length+1)=m:=QA;rw[hm' ]at ld;rw[hm];refine⟨fun h0=>by rw[h0]at Ep;simp at Ep,fun j hj=>?_⟩;have hi:i<ops.size:=by
       have h1:i∈Region.ready .any ops (xa ops.size L):=by rw[Ep];exact List.mem_singleton.2 rfl
       obtain⟨o,ho,_⟩:=(mem_ready.1 h1).2;exact(zQL.1 ho).1
      rw[Ep,List.mem_singleton]at hj;subst hj;exact ld cn hi
     ·simp only[OT.Ap,List.mem_singleton]at hj
      subst hj;simp only[OT.BA.Nd]at cn;by_cases hi:j<ops.size
      ·exact ld cn hi
      ·unfold wpOp
       rw[Array.getElem?_eq_none QA];have h1:wpList V.P ops (tV F Qf (.kt ops (j::L) t::k)) (rY ops.toList j) a w:=ih _ σ h a w hr;rw[yC,show ops.toList[j]? = none from by simp;omega]at h1;exact(h1 (.inl cn)).1 cn
   | .kt ops L (.alt x y)::k =>
     simp only[eH]at h;have hx:OT.BA.Nd ops L x=true→_:=fun cn=>(ih (.kt ops L x::k) σ h.1 a w hr (.inr cn)).2 cn
     have hy:OT.BA.Nd ops L y=true→_:=fun cn=>(ih (.kt ops L y::k) σ h.2 a w hr (.inr cn)).2 cn
     refine fun _=>⟨fun cn=>?_,fun cn hL j hj=>?_⟩
     ·simp only[OT.BA,zQG,decide_eq_true_eq,Bool.not_eq_true',zQI]at cn
      obtain⟨⟨⟨⟨hL,bF⟩,br⟩,h1⟩,h2⟩:=cn;obtain⟨m,hm⟩:∃ m,ops.size - L.length=m+1:=⟨ops.size - L.length - 1,QA⟩;have hm':ops.size - (L.length+1)=m:=QA;rw[hm']at hx hy;rw[hm];refine⟨fun h0=>by rw[h0]at bF;simp at bF,fun j hj=>?_⟩;have o8:=zQ3.1 (br j hj);have eU:(xa ops.size L).setIfInBounds j true=xa ops.size (j::L):=rfl;rw[eU];simp only[OT.Ap,List.mem_append]at o8;rcases o8 with hm|hm
      ·exact hx h1 hL j hm
      ·exact hy h2 hL j hm
     ·simp only[OT.BA.Nd,zQG]at cn
      simp only[OT.Ap,List.mem_append]at hj;rcases hj with hj|hj
      ·exact hx cn.1 hL j hj
      ·exact hy cn.2 hL j hj
   | .kt ops L (.cI i t)::k =>
     simp only[eH]at h;refine fun _=>⟨fun cn=>?_,fun cn=>by simp[OT.BA.Nd]at cn⟩
     simp only[OT.BA,zQG,decide_eq_true_eq]at cn;obtain⟨⟨⟨⟨hL,Nj⟩,nM⟩,Ep⟩,cn⟩:=cn;obtain⟨m,hm⟩:∃ m,ops.size - L.length=m+1:=⟨ops.size - L.length - 1,QA⟩;have hi:i<ops.size:=by
      obtain⟨o,ho,_⟩:=(mem_ready.1 (zQ3.1 Ep)).2;exact(zQL.1 ho).1
     have ho:ops[i]? = some ops[i]:=zQV hi;have hn:rY ops.toList i=[ops[i]]:=by rw[yC];simp[ho]
     rw[hn]at h;generalize hoi:ops[i]=oi at h ho;obtain⟨dst,op,ty,pos,after,guard⟩:=oi;cases guard with
     | some g=>simp[Ks]at h
     | none =>
     simp only[Ks]at h;obtain⟨dp,h⟩:=h;cases hp:pv V.Γ σ.t op with
     | none=>rw[hp]at h;simp[Kr]at h
     | some p =>
     obtain⟨c,x⟩:=p;rw[hp]at h;simp only[Kr]at h;obtain⟨hc,h⟩:=h;obtain⟨β,fp,hf,hw⟩:=hr;have hy:Yields V.P ops ⟨dst,op,ty,pos,after,none⟩ (aj β x) a:=.inl ⟨by simp[Region.wanted],fun w=>Cu (o:=⟨dst,op,ty,pos,after,none⟩) V.kF (hf.ok β (cP.refl _ _)) hp hc w⟩;rw[hm];refine wpAny_take ho Nj nM Ep (fun c a w hq=>absurd (jf k hq) (hpan c _ w)) hy ?_;have hrel:Rel F ⟨put dst x σ.t,σ.b⟩ (a.put dst (aj β x)) w:=⟨β,fp,hf.put dp (fun β' hβ=>?_),hw⟩
     ·have h1:=(ih (.kt ops (i::L) t::k) _ h _ w hrel (.inl cn)).1 cn
      have hm':ops.size - (L.length+1)=m:=QA;rw[zQ7,hm']at h1;exact h1
     ·have h1:=Cu (o:=⟨dst,op,ty,pos,after,none⟩) V.kF (hf.ok β (cP.refl _ _)) hp hc w
      have h2:=Cu (o:=⟨dst,op,ty,pos,after,none⟩) V.kF (hf.ok β' hβ) hp hc w;rw[h1]at h2;injection h2 with h2
      injection h2
   | .ops ops []::k=>simp only[eH]at h;exact ih k σ h a w hr
   | .ops ops (⟨dst,op,ty,pos,after,none⟩::r)::k =>
     simp only[eH]at h;show wpList V.P ops (tV F Qf k) (⟨dst,op,ty,pos,after,none⟩::r) a w
     unfold wpList;rw[if_pos (by simp[Region.wanted])];exact .inl (step ops ⟨dst,op,ty,pos,after,none⟩ r k σ a w h.1 h.2 hr)
   | .ops ops (⟨dst,op,ty,pos,after,some (j,want)⟩::r)::k =>
     simp only[eH]at h;obtain⟨dp,h⟩:=h;show wpList V.P ops (tV F Qf k) (⟨dst,op,ty,pos,after,some (j,want)⟩::r) a w
     cases hg:Yk σ.t (kG ops.toList j) with
     | none =>
       cases hu:gvU σ.t (kG ops.toList j) with
       | false=>rw[hg,hu]at h;simp[XA]at h
       | true =>
         rw[hg,hu]at h;simp only[XA,XG]at h;obtain⟨d,x,hgd,sJ,tE⟩:=PA hu;obtain⟨β,fp,hf,hw⟩:=hr;have hy:=Pz (hf.ok β (cP.refl _ _)) hgd sJ tE;unfold wpList;rw[if_neg (by simp[Region.wanted,hy])];exact ih (.ops ops r::k) _ h _ w ⟨β,fp,hf.put dp (fun _ _=>rfl),hw⟩
     | some p =>
       obtain⟨d,b⟩:=p;rw[hg]at h;simp only[XA,XG]at h;obtain⟨hd,h1,h2⟩:=h;obtain⟨β,fp,hf,hw⟩:=hr;obtain⟨hy,hv⟩:=HG (hf.ok β (cP.refl _ _)) hg;unfold wpList;by_cases hb:b=want
       ·subst hb
        rw[if_pos (by simp[Region.wanted,hy])];exact .inl (step ops ⟨dst,op,ty,pos,after,some (j,b)⟩ r k _ a w dp (h1 rfl) ⟨β,fp,hf.relit (fun _ _=>hv),hw⟩)
       ·have hb':b=!want:=by cases b <;> cases want <;> simp at hb ⊢
        rw[if_neg (by simp[Region.wanted,hy,hb])];exact ih (.ops ops r::k) _ (h2 hb') _ w ⟨β,fp,(hf.relit (x:=.bool (!want)) (fun _ _=>by rw[← hb'];exact hv)).put dp (fun _ _=>rfl),hw⟩
   | .code c::k =>
     show c.wp V.P (tV F Qf k) a w
     cases c with
     | skip=>simp only[eH]at h;exact wp_skip (ih k σ h a w hr)
     | region id ops draw =>
       cases draw
       ·simp only[eH]at h
        exact wp_region_list (ih (.ops ops ops.toList::k) σ h a w hr)
       ·simp only[eH]at h
        cases hw:E.how id with
        | all t =>
          rw[hw]at h;simp only[I4]at h;obtain⟨cn,J,h1,h2⟩:=h;refine wp_mono (Q:=tV F Qf (.cut J::k)) (wp_region_any V.mixed ?_) (fun e a' w' hq=>?_)
          ·have h3:=(ih (.kt ops [] t::.cut J::k) σ h1 a { w with drawn:=w.drawn+1 } (Oa hr) (.inl cn)).1 cn
           exact h3
          ·cases e with
           | normal =>
             obtain⟨σ',hj,hr'⟩:=hq;exact ih k σ' (h2 σ' hj) a' w' hr'
           | _=>exact hq
        | ord p =>
        rw[hw]at h;simp only[I4]at h;obtain⟨hpm,h⟩:=h;refine wp_region_any V.mixed (Iz p hpm ?_);generalize uF ops p=ops at h ⊢;cases f with
        | zero=>simp[eH]at h
        | succ f1 =>
        have hlex:Ii F ops σ.t σ.b [] (fun _=>σ.t) (fun _=>σ.b) σ:=⟨fun _=>rfl,rfl,fun i hi=>by simp at hi,fun i hi=>by simp at hi,fun i hi=>by simp at hi,fun i hi=>by simp at hi,rfl,rfl,fun i hi=>by simp at hi⟩;obtain⟨f',recs,T,B,σ',az,hlen,hl,cn,hv⟩:=OC (f1+1) ops.toList [] [] _ _ σ QB rfl hlex h;classical
        have hch:∃ G:FlD,∀ k,gm ops k=true→Ik F ops (recs.getD k cQ) (T k) (B k) k (G.d k) (G.z k) (G.T k) (G.q k)∧G.L k=(B k).length:=by
         have h1:∀ k,∃ p:Nat × List SV × TypeId × Option (Nat × Nat),gm ops k=true→Ik F ops (recs.getD k cQ) (T k) (B k) k p.1 p.2.1 p.2.2.1 p.2.2.2:=fun k=>by
          by_cases hk:gm ops k=true
          ·have az:k<recs.length:=by
            unfold gm at hk;split at hk
            ·rename_i e
             rw[hlen];exact(zQL.1 e).1
            ·rename_i e
             rw[hlen];exact(zQL.1 e).1
            ·cases hk
           obtain⟨d,z,Ta,q,h⟩:=hl.fl k az hk;exact⟨(d,z,Ta,q),fun _=>h⟩
          ·exact⟨(0,[],0,none),fun h=>absurd h hk⟩
         exact⟨⟨fun k=>(Classical.choose (h1 k)).1,fun k=>(Classical.choose (h1 k)).2.1,fun k=>(Classical.choose (h1 k)).2.2.1,fun k=>(B k).length,fun k=>(Classical.choose (h1 k)).2.2.2⟩,fun k hk=>⟨Classical.choose_spec (h1 k) hk,rfl⟩⟩
        obtain⟨G,hG⟩:=hch;refine PZ (recs:=recs) G T B hl.t0 hl.b0 (fun i hi=>hl.t i QA) (fun i hi=>hl.b i QA) (fun i hi=>hl.op i QA) (fun i hi=>hl.un i QA) (fun k hk=>by obtain⟨⟨g1,g2,g3,g4⟩,g5⟩:=hG k hk;exact⟨g1,g2,g5,g3,g4⟩) hlen cn hr (fun a' w' hrel=>?_);rw[← hlen,hl.te,hl.be]at hrel;exact ihs f' QA k σ' hv a' w' hrel
     | seq x y=>simp only[eH]at h;exact wp_seq (ih (.code x::.code y::k) σ h a w hr)
     | cond c x y =>
       simp only[eH]at h;cases hb:ev σ.t c with
       | none=>rw[hb]at h;simp[XN]at h
       | some v =>
         rw[hb]at h;cases v <;> simp only[XN,XQ]at h
         rename_i b
         obtain⟨β,fp,hf,hw⟩:=hr;exact wp_cond_split (t:=b) ((hf.ev hb (cP.refl _ β)).trans rfl) (fun e=>ih (.code x::k) σ (h.1 e) a w ⟨β,fp,hf,hw⟩) (fun e=>ih (.code y::k) σ (h.2 e) a w ⟨β,fp,hf,hw⟩)
     | block id x=>simp only[eH]at h;exact wp_block (ih (.code x::.EG id::k) σ h a w hr)
     | exit id =>
       simp only[eH]at h;cases hx:XE id k with
       | none=>rw[hx]at h;simp[XO]at h
       | some k' =>
         rw[hx]at h;simp only[XO]at h;exact wp_exit (kv hx (ih k' σ h a w hr))
     | ret=>simp only[eH]at h;exact wp_ret (nA (hret σ a w h hr) k)
     | loop x =>
       simp only[eH,KC]at h;obtain⟨I,μ,h0,hround⟩:=h;classical
       let S:Act→World→Nat→Prop:=fun a w n=>∃ σ,μ σ=n∧I σ∧Rel F σ a w
       let m:Act→World→Nat:=fun a w=>if h:∃ n,S a w n then Classical.choose (least h) else 0
       refine wp_loop (fun a w=>∃ n,S a w n) m ⟨μ σ,σ,rfl,h0,hr⟩ (fun a w hI=>?_);have hm:m a w=Classical.choose (least hI):=dif_pos hI;obtain⟨σ',hμ,hI',hr'⟩:=(Classical.choose_spec (least hI)).1;refine wp_mono (ih (.code x::.EF I μ (μ σ')::k) σ' (hround σ' hI') a w hr') ?_;intro e a2 w2 h2;cases e with
       | normal =>
         obtain⟨σ2,h3,h4,KN⟩:=h2;have hS:∃ n,S a2 w2 n:=⟨μ σ2,σ2,rfl,h3,KN⟩;refine⟨hS,?_⟩;have CS:m a2 w2=Classical.choose (least hS):=dif_pos hS;have:=(Classical.choose_spec (least hS)).2 _ ⟨σ2,rfl,h3,KN⟩
         rw[hm,CS];omega
       | _=>exact h2
     | _=>simp[eH]at h
theorem tg (how:Nat→How){f:FuncId}{fn:Func}{c:Code}{args:List SV}{bs:List aq}{R:SV→List aq→Prop}{n:Nat}{rs:Array ResultVar}(fuel:Nat)(hf:V.P.funcs[f]? = some fn)(hb:fn.body=some c)(hn:fn.ntmps=n)(hr:fn.results=rs)(tH:Enters V f)
 (hlen:args.length≤n) (tC:∀ β β',cP bs.length β β'→aZ β args=aZ β' args) (h:eH V n ⟨rs.toList,R,how⟩ fuel [.code c] ⟨Yj 0 args,bs⟩):SC V f args bs R:=by
 refine sc_core hf hb hn hr tH hlen tC (fun F hF a w hrel=>?_);subst hF;refine Ln (Qf:=Qof F (kret V rs.toList R)) (fun σ a w h hr=>⟨σ,?_,hr⟩) (fun σ a w h hr=>⟨σ,?_,hr⟩) (fun c a w ⟨_,h,_⟩=>h) fuel [.code c] ⟨Yj 0 args,bs⟩ h a w hrel;all_goals
  simp only at h;cases hl:XT V σ rs.toList with
  | none=>rw[hl]at h;simp[JZ]at h
  | some l=>rw[hl]at h;simp only[kret,hl];exact h
theorem bp {f:FuncId}{fn:Func}{c:Code}{args:List SV}{bs:List aq}{R:SV→List aq→Prop}{n:Nat}{rs:Array ResultVar}(fuel:Nat)(hf:V.P.funcs[f]? = some fn)(hb:fn.body=some c)(hn:fn.ntmps=n)(hr:fn.results=rs)(tH:Enters V f)
 (hlen:args.length≤n) (tC:∀ β β',cP bs.length β β'→aZ β args=aZ β' args) (h:eH V n ⟨rs.toList,R,fun _=>.ord []⟩ fuel [.code c] ⟨Yj 0 args,bs⟩):SC V f args bs R :=
 tg (fun _=>.ord []) fuel hf hb hn hr tH hlen tC h
theorem aU {f:FuncId}{fn:Func}{c:Code}{args:List SV}{r:SV}{n:Nat}{rs:Array ResultVar}(fuel:Nat)(hf:V.P.funcs[f]? = some fn)(hb:fn.body=some c)(hn:fn.ntmps=n)(hr:fn.results=rs)(tH:Enters V f)
 (hlen:args.length≤n) (fa:flat.ah args=true) (fr:flat r=true) (h:eH V n ⟨rs.toList,fun r' _=>r'=r,fun _=>.ord []⟩ fuel [.code c] ⟨Yj 0 args,[]⟩):PC V f args r :=
 Oj fa fr (bp fuel hf hb hn hr tH hlen (fun β β' _=>eX args fa β β') h)
theorem aa {E:Fin}{n f:Nat}{ops:Array Oper}{r:List Oper}{k:List Item}{g:FuncId}{args:List SV}{dst:Option Tmp}{σ:St}{x:SV}(h:PC V g args x)(h2:eH V n E f (.ops ops r::k) ⟨put dst x σ.t,σ.b⟩):Db V n E f ops r k g args dst σ:=by
 unfold Db;exact .inl ⟨x,h,h2⟩
theorem ae {E:Fin}{n f:Nat}{ops:Array Oper}{r:List Oper}{k:List Item}{g:FuncId}{args:List SV}{dst:Option Tmp}{σ:St}{R:SV→List aq→Prop}(h:SC V g args σ.b R)(h2:∀ x bs,R x bs→eH V n E f (.ops ops r::k) ⟨put dst x σ.t,bs⟩):Db V n E f ops r k g args dst σ:=by
 unfold Db;exact .inr ⟨R,h,h2⟩
theorem aW {E:Fin}{n f:Nat}{ops:Array Oper}{r:List Oper}{rs:List Rk}{k:List Item}{g:FuncId}{args:List SV}{dst:Option Tmp}{σ:St}{x:SV}(h:PC V g args x)(h2:eH V n E f (.oy ops r (rs++[⟨false,false,[],[]⟩])::k) ⟨put dst x σ.t,σ.b⟩):Dc V n E f ops r rs k dst σ g args:=by
 unfold Dc;exact .inl ⟨x,h,h2⟩
theorem bE {E:Fin}{n f:Nat}{ops:Array Oper}{r:List Oper}{rs:List Rk}{k:List Item}{g:FuncId}{args:List SV}{dst:Option Tmp}{σ:St}{x:SV}{b:List aq}(W:List (Nat × Nat × Nat))(h:SC V g args σ.b (fun r' b'=>r'=x∧b'=b))(ho:Ih W b σ.b)
 (h2:eH V n E f (.oy ops r (rs++[⟨true,false,[],W⟩])::k) ⟨put dst x σ.t,b⟩):Dc V n E f ops r rs k dst σ g args:=by
 unfold Dc;exact .inr (.inr ⟨x,b,W,h,ho,h2⟩)
theorem uD {E:Fin}{n f:Nat}{ops:Array Oper}{k:List Item}{σ:St}{t:OT}(J:St→Prop)(cn:OT.BA ops [] t=true)(h:eH V n E f (.kt ops [] t::.cut J::k) σ)(h2:∀ σ',J σ'→eH V n E f k σ'):I4 V n E f ops k σ (.all t):=by
 simp only[I4];exact⟨cn,J,h,h2⟩
theorem ax {E:Fin}{n f:Nat}{x:Code}{k:List Item}{σ:St}(I:St→Prop)(μ:St→Nat)(h0:I σ)(h:∀ σ',I σ'→eH V n E f (.code x::.EF I μ (μ σ')::k) σ'):KC V n E f x k σ:=by
 unfold KC;exact⟨I,μ,h0,h⟩
def dW (f:Nat→Nat)(l:List (Nat × Nat × Nat)):List (Nat × Nat × Nat):=l.map fun x=>(f x.1,x.2.1,x.2.2)
def cz (f:Nat→Nat)(r:Rk):Rk:=⟨r.s,r.all,dW f r.rd,dW f r.wr⟩
theorem Kb (f:Nat→Nat)(xs ys:List (Nat × Nat × Nat))(h:pN xs ys=true):pN (dW f xs) (dW f ys)=true:=by
 unfold pN at h ⊢;obtain⟨a,ha,h⟩:=zQU.1 h;obtain⟨b,hb,h⟩:=zQU.1 h;refine zQU.2 ⟨_,zRj ha,zQU.2 ⟨_,zRj hb,?_⟩⟩;unfold ovl at h ⊢;simp only[zQG,beq_iff_eq]at h ⊢;exact⟨by rw[h.1],h.2⟩
theorem bt (f:Nat→Nat){ops:Array Oper}{rs:List Rk}(h:Qh ops (rs.map (cz f))):Qh ops rs:=by
 simp only[Qh,zQG]at h ⊢;refine⟨?_,h.2⟩;have h1:=h.1;unfold EP at h1 ⊢;refine zQI.2 (fun i hi=>zQI.2 (fun k hk=>?_));have h2:=zQI.1 (zQI.1 h1 i hi) k hk;simp only[zQJ]at h2 ⊢;refine h2.imp_right (fun h2=>?_);have hg:∀ j,((rs.map (cz f))[j]?).getD Br=cz f ((rs[j]?).getD Br):=fun j=>by
  rw[List.getElem?_map];cases rs[j]? <;> rfl
 have hp:DU ops (rs.map (cz f)) i k=DU ops rs i k:=by unfold DU;simp only[hg];rfl
 unfold zn at h2 ⊢;simp only[hg,hp]at h2;generalize (rs[i]?).getD Br=ri at h2 ⊢;generalize (rs[k]?).getD Br=rk at h2 ⊢;have hs:∀ r,(cz f r).s=r.s:=fun _=>rfl
 have ha:∀ r,(cz f r).all=r.all:=fun _=>rfl
 have he:(cz f ri).rd.isEmpty=ri.rd.isEmpty:=by
  show (ri.rd.map _).isEmpty=_
  cases ri.rd <;> rfl
 rw[hs,hs,ha,he]at h2;split
 ·rename_i hc
  rw[if_pos hc]at h2;exact h2
 ·rename_i hc
  rw[if_neg hc]at h2;split
  ·rename_i HB
   rw[if_pos HB]at h2;exact h2
  ·rename_i HB
   rw[if_neg HB]at h2;split
   ·rename_i mK
    rw[if_pos mK]at h2;simp only[zQJ,Bool.not_eq_true',Bool.or_eq_false_iff]at h2 ⊢;refine h2.imp_right (fun h2=>⟨h2.1,?_⟩);cases ho:pN ri.rd rk.wr with
    | false=>rfl
    | true =>
      have:=Kb f _ _ ho
      rw[show pN (dW f ri.rd) (dW f rk.wr)=false from h2.2]at this;cases this
   ·rfl
end
def qX (ms:List Nat):List (Nat × Bool)→Nat
 | []=>0
 | (e,true)::r=>qX ms r ||| (1 <<< e) ||| ms.getD e 0
 | (_,false)::r=>qX ms r
def PD {β:Type}(m:Nat)(f:Nat→β):β:=match m with
 | 0=>f 0
 | k+1=>f (k+1)
theorem MQ {β:Type}(m:Nat)(f:Nat→β):PD m f=f m:=by cases m <;> rfl
def edges (o:Oper):List (Nat × Bool):=o.after.toList.map fun e=>(e.on,Region.binds .any e)
def AF:List Oper→List Nat→List Nat
 | [],ms=>ms
 | o::r,ms=>PD (qX ms (edges o)) fun m=>AF r (ms++[m])
def Ez (D:List Nat)(i k:Nat):Bool:=(D.getD i 0).testBit k
def NH (D:List Nat)(i k:Nat):Bool:=if k<i then Ez D i k else Ez D k i
def preF (ops:Array Oper)(rs:List Rk)(D:List Nat)(i k:Nat):Bool:=!(gm ops k&&decide (k<i))||(zRa k).all fun j=>!(((rs[j]?).getD Br).s)||Ez D i j
def pairF (ops:Array Oper)(rs:List Rk)(D:List Nat)(i k:Nat):Bool :=
 if xq ops i k then NH D i k&&preF ops rs D i k
 else if ((rs[i]?).getD Br).s&&((rs[k]?).getD Br).s then gm ops (max i k)||NH D i k
 else if ((rs[k]?).getD Br).s&&!((rs[i]?).getD Br).rd.isEmpty then(NH D i k&&preF ops rs D i k)||!(((rs[k]?).getD Br).all||pN ((rs[i]?).getD Br).rd ((rs[k]?).getD Br).wr)
 else true
def okF (ops:Array Oper)(rs:List Rk):Bool :=
 ((zRa ops.size).all fun i=>(zRa ops.size).all fun k=>k==i||pairF ops rs (AF ops.toList []) i k)&&Qb ops
theorem AE {ops:Array Oper}:∀ (f g i k:Nat),f≤g→nQ ops f i k=true→nQ ops g i k=true
 | 0,_,_,_,_,h=>by simp[nQ]at h
 | f+1,0,_,_,h,_=>QA
 | f+1,g+1,i,k,hfg,h=>by
   rw[nQ]at h ⊢;split at h
   ·rename_i o ho
    rw[← Array.any_toList,zQU]at h ⊢;obtain⟨e,he,h⟩:=h;refine⟨e,he,?_⟩;simp only[zQG,zQJ]at h ⊢;refine⟨h.1,h.2.imp id (AE f g e.on k QA)⟩
   ·cases h
theorem tA (ms:List Nat)(k:Nat):∀ l:List (Nat × Bool),(qX ms l).testBit k=true→∃ e,(e,true)∈l∧(e=k∨(ms.getD e 0).testBit k=true)
 | [],h=>by simp[qX]at h
 | (e,true)::r,h=>by
  rw[qX,Nat.testBit_or,Nat.testBit_or,zQJ,zQJ]at h;rcases h with(h|h) | h
  ·obtain⟨e',h1,h2⟩:=tA ms k r h
   exact⟨e',List.mem_cons_of_mem _ h1,h2⟩
  ·refine⟨e,zRb,.inl ?_⟩
   rw[Nat.one_shiftLeft,Nat.testBit_two_pow]at h;simpa using h
  ·exact⟨e,zRb,.inr h⟩
 | (_,false)::r,h=>by
  rw[qX]at h;obtain⟨e',h1,h2⟩:=tA ms k r h;exact⟨e',List.mem_cons_of_mem _ h1,h2⟩
theorem HS {ops:Array Oper}:∀ (r:List Oper)(ms:List Nat),ops.toList.drop ms.length=r→(∀ i k,(ms.getD i 0).testBit k=true→i<ms.length∧nQ ops (i+1) i k=true) →
 ∀ i k,((AF r ms).getD i 0).testBit k=true→nQ ops (i+1) i k=true
 | [],ms,_,h,i,k,hb=>(h i k hb).2
 | o::r,ms,hd,h,i,k,hb=>by
   rw[AF,MQ]at hb;have az:ms.length<ops.toList.length:=by
    apply Nat.lt_of_not_le
    intro hle;rw[List.drop_eq_nil_of_le hle]at hd;cases hd
   have ho:ops[ms.length]? = some o:=by
    rw[← Array.getElem?_toList,zQX az];rw[List.drop_eq_getElem_cons az]at hd;rw[(List.cons.inj hd).1]
   refine HS r (ms++[qX ms (edges o)]) ?_ ?_ i k hb
   ·rw[zQH,zQO]
    rw[List.drop_eq_getElem_cons az]at hd;exact(List.cons.inj hd).2
   ·intro i k hb
    rw[zQT]at hb;rcases Nat.lt_trichotomy i ms.length with hi|hi|hi
    ·rw[zQN hi,← zQT]at hb
     exact⟨QC,(h i k hb).2⟩
    ·subst hi
     rw[zQQ (zQK _),Nat.sub_self]at hb;simp only[List.getElem?_cons_zero,Option.getD_some]at hb;refine⟨QB,?_⟩;obtain⟨e,h1,h2⟩:=tA ms k _ hb;obtain⟨d,vL,vK⟩:=List.mem_map.1 h1;rw[nQ,ho];simp only;rw[← Array.any_toList];refine zQU.2 ⟨d,vL,?_⟩;simp only[Prod.mk.injEq]at vK;rw[vK.2,vK.1,Bool.true_and,zQJ];rcases h2 with rfl|h2
     ·left;simp
     ·right
      have:=h e k h2
      exact AE (e+1) _ e k QA this.2
    ·rw[zQ1 QC]at hb
     simp at hb
theorem ao {ops:Array Oper}{rs:List Rk}(h:okF ops rs=true):Qh ops rs:=by
 unfold okF at h;rw[zQG]at h;obtain⟨h,ha⟩:=h;unfold Qh EP;rw[zQG];refine⟨zQI.2 fun i hi=>zQI.2 fun k hk=>?_,ha⟩;have h1:=zQI.1 (zQI.1 h i hi) k hk;rw[zQJ]at h1 ⊢;refine h1.imp id fun h1=>?_
 have hdep:∀ i k,i∈zRa ops.size→Ez (AF ops.toList []) i k=true→nQ ops ops.size i k=true:=fun i k hi hb =>
  AE (i+1) _ i k (by have:=zQ5.1 hi;omega) (HS ops.toList [] QB (fun i k hb=>by simp at hb) i k hb)
 have htie:NH (AF ops.toList []) i k=true→yT ops i k=true:=fun h=>by
  unfold NH at h;unfold yT;split
  ·rename_i kO;rw[if_pos kO]at h;exact hdep i k hi h
  ·rename_i kO;rw[if_neg kO]at h;exact hdep k i hk h
 have fD:preF ops rs (AF ops.toList []) i k=true→DU ops rs i k=true:=fun h=>by
  unfold preF at h;unfold DU;rw[zQJ]at h ⊢;refine h.imp id (fun h=>zQI.2 fun j hj=>?_);have:=zQI.1 h j hj
  rw[zQJ]at this ⊢;exact this.imp id (fun h=>hdep i j hi h)
 unfold pairF at h1;unfold zn;split
 ·rename_i hc
  rw[if_pos hc,zQG]at h1;rw[zQG];exact⟨htie h1.1,fD h1.2⟩
 ·rename_i hc
  rw[if_neg hc]at h1;split
  ·rename_i HB
   rw[if_pos HB,zQJ]at h1;rw[zQJ];exact h1.imp id htie
  ·rename_i HB
   rw[if_neg HB]at h1;split
   ·rename_i mK
    rw[if_pos mK]at h1;rw[zQJ]at h1 ⊢;refine h1.imp (fun h1=>?_) id;rw[zQG]at h1 ⊢;exact⟨htie h1.1,fD h1.2⟩
   ·rfl
def bI:=zQF (zQF (zQF (zQF (zQF (@L8) (zQF (@Option.getD_some.{0}) (@Option.getD_none.{0}))) (zQF (@List.getElem?_cons_zero.{0}) (zQF (@List.getElem?_cons_succ.{0}) (@zQ7.{0})))) (zQF (zQF (@List.length_nil.{0}) (zQF (@List.cons_append.{0}) (@List.nil_append.{0}))) (zQF (@zQ2.{0}) (zQF (@List.map_cons.{0,0}) (@List.map_nil.{0,0}))))) (zQF (zQF (zQF (@List.take_succ_cons.{0}) (zQF (@List.take_zero.{0}) (@List.drop_succ_cons.{0}))) (zQF (@List.drop_zero.{0}) (zQF (@List.set_cons_zero.{0}) (@List.set_cons_succ.{0})))) (zQF (zQF (@List.all_cons.{0}) (zQF (@List.all_nil.{0}) (@List.mapIdx_cons.{0,0}))) (zQF (zQF (@List.mapIdx_nil.{0,0}) (@List.getD_cons_zero.{0})) (zQF (@List.getD_cons_succ.{0}) (@zQP.{0,0})))))) (zQF (zQF (zQF (zQF (@zQ9.{0,0}) (zQF (@zQ0.injEq.{0}) (@Nat.zero_add))) (zQF (@Nat.add_zero) (zQF (@decide_true) (@decide_false)))) (zQF (zQF (@Bool.and_true) (zQF (@Bool.true_and) (@Bool.and_false))) (zQF (zQF (@Bool.false_and) (@true_and)) (zQF (@and_true) (@false_and))))) (zQF (zQF (zQF (@and_false) (zQF (@if_true.{1}) (@if_false.{1}))) (zQF (@List.toList_toArray.{0}) (zQF (@Bool.not_true) (@Bool.not_false)))) (zQF (zQF (@Bool.false_eq_true) (zQF (@false_implies) (@Int.toNat_natCast))) (zQF (zQF (@Wf.IH) (@Wf.IJ)) (zQF (@Wf.II) (@List.take_length.{0}))))))
def bJ:=zQF (zQF (zQF (zQF (@eH.eq_21) (@eH.eq_22)) (zQF (@eH.eq_23) (@eH.eq_24))) (zQF (zQF (@eH.eq_25) (@I4.eq_1)) (zQF (@Ks.eq_1) (@Kr.eq_1)))) (zQF (zQF (zQF (zQF (@uF.eq_1) (zQF (@uF.eq_2) (@Gd.eq_1))) (zQF (@qN.eq_1) (zQF (@qN.eq_2) (@rY.eq_1)))) (zQF (zQF (@rY.eq_2) (zQF (@rY.eq_3) (@sF.eq_1))) (zQF (zQF (@Kt.eq_1) (@Kt.eq_2)) (zQF (@jU.eq_1) (@jU.eq_2))))) (zQF (zQF (zQF (zQF (zQF (zQF (zQF (zQF (@eH.eq_1) (@eH.eq_2)) (zQF (@eH.eq_3) (@eH.eq_4))) (zQF (zQF (@eH.eq_5) (@eH.eq_6)) (zQF (@eH.eq_7) (zQF (@eH.eq_8) (@eH.eq_9))))) (zQF (zQF (zQF (@eH.eq_10) (@eH.eq_11)) (zQF (@eH.eq_12) (@eH.eq_13))) (zQF (zQF (@eH.eq_14) (@eH.eq_15)) (zQF (@eH.eq_16) (zQF (@eH.eq_17) (@eH.eq_18)))))) (zQF (zQF (zQF (zQF (@eH.eq_19) (@eH.eq_20)) (zQF (@XQ.eq_1) (@XG.eq_1))) (zQF (zQF (@gvU.eq_1) (@gvU.eq_2)) (zQF (@yZ.eq_1) (zQF (@yZ.eq_2) (@yZ.eq_3))))) (zQF (zQF (zQF (@Nc.eq_1) (@Nc.eq_2)) (zQF (@Yl.eq_1) (zQF (@Yl.eq_2) (@Yl.eq_3)))) (zQF (zQF (@Yl.eq_4) (@Yl.eq_5)) (zQF (@Yl.eq_6) (zQF (@Yl.eq_7) (@Yl.eq_8))))))) (zQF (zQF (zQF (zQF (zQF (zQF @Yl.eq_9 (zQF @Yl.eq_10 (zQF @Jp.eq_1 (zQF @HX.eq_1 @HX.eq_2)))) (@Xm.eq_1)) (zQF (@Xm.eq_2) (@Xm.eq_3))) (zQF (zQF (@Yn.eq_1) (@Yi.eq_1)) (zQF (@Yi.eq_2) (zQF (@Xa.eq_1) (@Ym.eq_1))))) (zQF (zQF (zQF (@Ym.eq_2) (@Xc.eq_1)) (zQF (@Xc.oN.eq_1) (zQF (@Xc.oN.eq_2) (@reS.eq_1)))) (zQF (zQF (@reS.eq_2) (@Xj.eq_1)) (zQF (@Yb.eq_1) (zQF (@mmS.eq_1) (@mmS.eq_2)))))) (zQF (zQF (zQF (zQF (@Xq.eq_1) (@Xq.eq_2)) (zQF (@vq.eq_1) (@vq.eq_2))) (zQF (zQF (zQF @vq.eq_3 (zQF @HY.eq_1 @HY.eq_2)) (@rV.eq_1)) (zQF (@rV.eq_2) (zQF (@rV.eq_3) (@rV.eq_4))))) (zQF (zQF (zQF (@XP.eq_1) (@XP.eq_2)) (zQF (@XP.eq_3) (zQF (@XN.eq_1) (@XN.eq_2)))) (zQF (zQF (@XO.eq_1) (@XO.eq_2)) (zQF (@Yc.eq_1) (zQF (@Yc.eq_2) (@Yc.eq_3)))))))) (zQF (zQF (zQF (zQF (zQF (zQF (@XA.eq_1) (@XA.eq_2)) (zQF (@XA.eq_3) (@Yg.eq_1))) (zQF (zQF (@Yg.eq_2) (@Yg.eq_3)) (zQF (@Yg.eq_4) (zQF (@Xy.eq_1) (@Xy.eq_2))))) (zQF (zQF (zQF (@Xy.eq_3) (@XE.eq_1)) (zQF (@XE.eq_2) (zQF (@XE.eq_3) (@JZ.eq_1)))) (zQF (zQF (@JZ.eq_2) (@kG.eq_1)) (zQF (@kG.eq_2) (zQF (@kG.eq_3) (@Yk.eq_1)))))) (zQF (zQF (zQF (zQF (@Yk.eq_2) (@XR.eq_1)) (zQF (@Yd.eq_1) (@Yd.eq_2))) (zQF (zQF (@Yd.eq_3) (@Yd.eq_4)) (zQF (@Yd.eq_5) (zQF (@Yd.eq_6) (@Yd.eq_7))))) (zQF (zQF (zQF (zQF (@Yd.eq_8) (zQF (@Yd.eq_9) (zQF (@DG.eq_1) (zQF (@Eh.eq_1) (zQF (@yB.eq_1) (zQF (@wg.eq_1) (@wg.eq_2))))))) (@goR.eq_1)) (zQF (@goR.eq_2) (zQF (@XC.eq_1) (@sBox.eq_1)))) (zQF (zQF (@XU.eq_1) (@XH.eq_1)) (zQF (@Xr.eq_1) (zQF (@sNil.eq_1) (@XL.eq_1))))))) (zQF (zQF (zQF (zQF (zQF (@Xt.eq_1) (@Xt.eq_2)) (zQF (@XV.eq_1) (@Xv.eq_1))) (zQF (zQF (@Xv.eq_2) (@Xv.eq_3)) (zQF (@Xv.eq_4) (zQF (@Xv.eq_5) (@Xv.eq_6))))) (zQF (zQF (zQF (@Xv.eq_7) (@Xv.eq_8)) (zQF (@MP.eq_1) (zQF (@MP.eq_2) (@sS.eq_1)))) (zQF (zQF (@XI.eq_1) (@XF.eq_1)) (zQF (@XB.eq_1) (zQF (@P2.eq_1) (@XK.eq_1)))))) (zQF (zQF (zQF (zQF (@XD.eq_1) (@P3.eq_1)) (zQF (@dN.eq_1) (@dN.eq_2))) (zQF (zQF (@Xz.eq_1) (@Xz.eq_2)) (zQF (@Xz.eq_3) (zQF (@Xz.eq_4) (@Xz.eq_5))))) (zQF (zQF (zQF (zQF (@Xz.eq_6) (@Xz.eq_7)) (@E1.eq_1)) (zQF (@E1.eq_2) (zQF (@E1.eq_3) (@E1.eq_4)))) (zQF (zQF (@E1.eq_5) (@E1.eq_6)) (zQF (@E1.eq_7) (zQF (@idxs.eq_1) (@idxs.eq_2))))))))) (zQF (zQF (zQF (zQF (zQF (zQF (zQF (zQF (@idxs.eq_3) (@idxs.eq_4)) (@pv.eq_1)) (zQF (@pv.eq_2) (@pv.eq_3))) (zQF (zQF (@pv.eq_4) (@pv.eq_5)) (zQF (@pv.eq_6) (zQF (@pv.eq_7) (@pv.eq_8))))) (zQF (zQF (zQF (@pv.eq_9) (@pv.eq_10)) (zQF (@pv.eq_11) (zQF (@pv.eq_12) (@pv.eq_13)))) (zQF (zQF (@pv.eq_14) (@pv.eq_15)) (zQF (zQF (@pv.eq_16) (zQF (@pv.eq_17) (@pv.eq_18))) (zQF (@XX.eq_1) (@Ya.eq_1)))))) (zQF (zQF (zQF (zQF (@XJ.eq_1) (@XJ.eq_2)) (zQF (@XJ.eq_3) (@XJ.eq_4))) (zQF (zQF (@Xb.eq_1) (@Xu.eq_1)) (zQF (@oBin.eq_1) (zQF (@oUn.eq_1) (@oUn.eq_2))))) (zQF (zQF (zQF (@Ye.eq_1) (@XW.eq_1)) (zQF (@XW.eq_2) (zQF (@XW.eq_3) (@Xw.eq_1)))) (zQF (zQF (@Xx.eq_1) (@Xh.eq_1)) (zQF (@Xk.eq_1) (zQF (@XY.eq_1) (@XY.eq_2))))))) (zQF (zQF (zQF (zQF (zQF (@XS.eq_1) (@LZ.eq_1)) (zQF (@LZ.eq_2) (@LZ.eq_3))) (zQF (zQF (@zV.eq_1) (@zV.eq_2)) (zQF (@zV.eq_3) (zQF (@zV.eq_4) (@Yh.eq_1))))) (zQF (zQF (zQF (@Yh.eq_2) (@Yh.eq_3)) (zQF (@Yh.eq_4) (zQF (@ev.eq_1) (@ev.eq_2)))) (zQF (zQF (@ev.eq_3) (@ev.eq_4)) (zQF (@lk.eq_1) (zQF (@lk.eq_2) (@put.eq_1)))))) (zQF (zQF (zQF (zQF (@put.eq_2) (@fits.eq_1)) (zQF (@fits.eq_2) (@kd.eq_1))) (zQF (zQF (@sz.eq_1) (@bin.eq_1)) (zQF (@bin.eq_2) (zQF (@bin.eq_3) (@pJ.eq_1))))) (zQF (zQF (zQF (@pJ.eq_2) (@pJ.eq_3)) (zQF (@pJ.eq_4) (zQF (@pJ.eq_5) (@pJ.eq_6)))) (zQF (zQF (@pJ.eq_7) (@pJ.eq_8)) (zQF (@pJ.eq_9) (zQF (@pJ.eq_10) (@pJ.eq_11)))))))) (zQF (zQF (zQF (zQF (zQF (zQF (@pJ.eq_12) (@pJ.eq_13)) (zQF (@pJ.eq_14) (@pJ.eq_15))) (zQF (zQF (@pJ.eq_16) (@pJ.eq_17)) (zQF (@Cb.eq_1) (zQF (@Cb.eq_2) (@Cb.eq_3))))) (zQF (zQF (zQF (@Cb.eq_4) (@Cb.eq_5)) (zQF (@Cb.eq_6) (zQF (@Cb.eq_7) (@Cb.eq_8)))) (zQF (zQF (@E2.eq_1) (@ar.eq_1)) (zQF (@ar.eq_2) (zQF (@JY.eq_1) (@JY.eq_2)))))) (zQF (zQF (zQF (zQF (@JY.eq_3) (@JY.eq_4)) (zQF (@JY.eq_5) (@JY.eq_6))) (zQF (zQF (@JY.eq_7) (@JY.eq_8)) (zQF (@eqS.eq_1) (zQF (@eqS.eq_2) (@HK.eq_1))))) (zQF (zQF (zQF (@HK.eq_2) (@HK.eq_3)) (zQF (@HK.eq_4) (zQF (@HK.eq_5) (@HK.eqF.eq_1)))) (zQF (zQF (@HK.eqF.eq_2) (@Jo.eq_1)) (zQF (@Jo.eq_2) (zQF (@Jo.eq_3) (@AW.eq_1))))))) (zQF (zQF (zQF (zQF (zQF (@AW.eq_2) (@AW.eq_3)) (zQF (@AW.eq_4) (@AW.eq_5))) (zQF (zQF (@tx.eq_1) (@tx.eq_2)) (zQF (@XM.eq_1) (zQF (@cells.eq_1) (@cells.eq_2))))) (zQF (zQF (zQF (@Ip.eq_1) (@Ip.eq_2)) (zQF (@one.eq_1) (zQF (@one.eq_2) (@one.eq_3)))) (zQF (zQF (@one.eq_4) (@Xs.eq_1)) (zQF (@ko.eq_1) (zQF (@y0.eq_1) (@XZ.eq_1)))))) (zQF (zQF (zQF (zQF (@XZ.eq_2) (@Yf.eq_1)) (zQF (@Yf.eq_2) (@Xl.eq_1))) (zQF (zQF (@Xl.eq_2) (@XT.eq_1)) (zQF (@XT.eq_2) (zQF (@LK.eq_1) (@LK.eq_2))))) (zQF (zQF (zQF (@yR.eq_1) (@yR.eq_2)) (zQF (@ofV.eq_1) (zQF (@ofV.eq_2) (@ofV.eq_3)))) (zQF (zQF (@ofV.eq_4) (@ofV.eq_5)) (zQF (@ofV.eq_6) (zQF (@Yj.eq_1) (@Yj.eq_2)))))))))))
theorem gK {P Q H : Prop} (hs : H) (h : Q) (e : H → P = Q := by intro hs; simp only[bJ,↓Xn,↓Xo,↓Xg,↓Xd,↓Xe,↓Xf,Tryz.VΓ,Tryz.Γs,Xp,Xi,Nat.reduceAdd,Nat.reduceSub,Nat.reduceLT,Nat.reduceLeDiff,reduceIte,reduceCtorEq,Nat.reduceEqDiff,implies_true,forall_const,bI,beq_self_eq_true,bne_self_eq_false,Int.reduceBEq,Int.reduceBNe,Int.reduceLT,Int.reduceLE,hs] <;> rfl) : P := (e hs).symm ▸ h
theorem ly {P Q : Prop} (h : Q) (e : P = Q := by simp only[bJ,↓Xn,↓Xo,↓Xg,↓Xd,↓Xe,↓Xf,Tryz.VΓ,Tryz.Γs,Xp,Xi,Nat.reduceAdd,Nat.reduceSub,Nat.reduceLT,Nat.reduceLeDiff,reduceIte,reduceCtorEq,Nat.reduceEqDiff,implies_true,forall_const,bI,beq_self_eq_true,bne_self_eq_false,Int.reduceBEq,Int.reduceBNe,Int.reduceLT,Int.reduceLE] <;> rfl) : P := e.symm ▸ h
theorem gN {P Q H : Prop} (hs : H) (h : Q) (e : H → P = Q := by intro hs; simp only[bJ,↓Xn,↓Xo,↓Xg,↓Xd,↓Xe,↓Xf,Tryz.VΓ,Tryz.Γs,Xp,Xi,Nat.reduceAdd,Nat.reduceSub,Nat.reduceLT,Nat.reduceLeDiff,reduceIte,reduceCtorEq,Nat.reduceEqDiff,implies_true,forall_const,bI,hs] <;> rfl) : P := (e hs).symm ▸ h
theorem bw {P Q : Prop} (h : Q) (e : P = Q := by simp only[bJ,↓Xn,↓Xo,↓Xg,↓Xd,↓Xe,↓Xf,Tryz.VΓ,Tryz.Γs,Xp,Xi,Nat.reduceAdd,Nat.reduceSub,Nat.reduceLT,Nat.reduceLeDiff,reduceIte,reduceCtorEq,Nat.reduceEqDiff,implies_true,forall_const,bI] <;> rfl) : P := e.symm ▸ h
end Vc
namespace Go.Proofs.YtnmlimehgifadaaGreatDoor
open Go Vc Go.RowKit Wf
open Go.ChangeShapes Go.WideShapes Go.ChangeAt
open Go.WideMaps Go.WideElems
open Go.ChangeMaps (setBlock shut_map_nil open_string shut_string keptBut_setBlock frozen?_setBlock heap_setBlock_same)
theorem env_of {W:World}(h:W.ShapedOpen Tryz.prog):Env W :=
 Go.Proofs.cell_of_shapedOpen_int (zero:=#[.int .i64 0]) (t:=3) h (of_decide_eq_true QE) QE rfl QE QE underlying3
theorem own:ownKnob Tryz.prog.godebug=none:=by kernel_rfl
theorem laidOut:laidOutB Tryz.prog=true:=by kernel_rfl
section
variable {H:Type} {enc:TypeId × Value→H} {W W':World}
theorem sm {P:Program}(hl:laidOutB P=true){B:Nat}:∀ {ts:List TypeId}{vs:List Value}{ds:List (DataW H)}{ps:List MemPlace},ts.all (fun t=>P.readableRec t&&decide (t<P.types.size))=true →
 DataW.TrodAll enc P W 0 (fun _=>true) true ts vs ds ps→(∀ p∈ps,W.sameAt W' p)→(∀ p∈ps,p.block<B)→DataW.TrodAll enc P W' 0 (fun b=>decide (b<B)) true ts vs ds ps
 | [],[],[],ps,_,h,_,_=>h
 | t::ts,v::vs,d::ds,ps,hr,h,hs,hb=>by
   obtain⟨p,q,h1,h2,rfl⟩:=h;simp only[List.all_cons,zQG,decide_eq_true_eq]at hr;exact⟨p,q,Trod_stays hl hr.1.1 hr.1.2 h1 (fun x hx=>hs x (zRh _ hx)) (fun x hx=>by simpa using hb x (zRh _ hx)),sm hl hr.2 h2 (fun x hx=>hs x (List.mem_append_right _ hx)) (fun x hx=>hb x (List.mem_append_right _ hx)),rfl⟩
 | [],_::_,_,_,_,h,_,_=>by cases h
 | [],[],_::_,_,_,h,_,_=>by cases h
 | _::_,[],_,_,_,h,_,_=>by cases h
 | _::_,_::_,[],_,_,h,_,_=>by cases h
theorem OD {P:Program}{fn:Func}{s:ChangeSpec}{args:Array Value}{ds gs:List (DataW H)}{before:List MemPlace}{tb:TypeId}(hl:laidOutB P=true)
 (hpar:fn.params.toList.all (fun t=>P.readableRec t&&decide (t<P.types.size))=true) (hv:s.vars=[]) (hr:fn.resultTypes=#[tb]) (htb:P.underlying tb=some .bool)
 (hgs:gs=[]) (om:(s.fn H ds).results=[.lit (.bool true)]) (qb:(s.fn H ds).args=ds) (hvs:(s.fn H ds).vars=[])
 (hW:DataW.Whole enc P fn.params.toList s.vars false W args.toList ds gs before) (bel:Below W.heap.size W W'):s.post enc P fn false true false false W args (.bool true) W':=by
 have az:=hW.lt;have hW':=hW;obtain⟨p,q,hA,hV,hb,-,-⟩:=hW;subst hgs;rw[hv]at hV;obtain⟨-,rfl⟩:=trodVars_none hV;subst hb;refine⟨ds,[],_,[],p,[],hW',?_,?_,?_,bel.frame _,fun h=>by cases h⟩
 ·rw[zQ2,om,hr]
  exact trodAll_mk1 (shut_bool htb _)
 ·rw[zQ2,qb]
  exact sm hl hpar hA (fun x hx=>bel.same (az x (zRh _ hx))) (fun x hx=>az x (zRh _ hx))
 ·rw[zQ2,hvs,hv]
  rfl
end
def flatD:Nat→DataW Unit→List Value
 | _,.lit (.int k i)=>[.int k i]
 | n+1,.agg ps=>ps.flatMap (flatD n)
 | _,_=>[]
def setCells (d:DataW Unit):Obj→Obj
 | .cells _ t fr=>.cells (flatD 8 d).toArray t fr
 | o=>o
noncomputable def CK (os:Os):World :=
 { World.holding Tryz.prog os ⟨#[],#[],[]⟩ with heap:=((World.holding Tryz.prog os ⟨#[],#[],[]⟩).heap.modify 1 (setCells Go.Pinned.utf8First)).modify 2 (setCells Rows.laid_unicode_utf8_acceptRanges) }
set_option maxRecDepth 100000 in
theorem OG (os : Os) (args : Array Value) : laidMet Tryz.prog [("unicode/utf8.acceptRanges", Rows.laid_unicode_utf8_acceptRanges), ("unicode/utf8.first", Rows.laid_unicode_utf8_first)] ((CK os).forCall (fun _ _ => 0) ⟨#[], args, []⟩).memory :=
 laidMet_of_run3 8 QE QE QE
open Go in
theorem Oh:false=Tryz.pinned.checked.prog.looks []:=by kernel_rfl
open Go Go.RowKit
set_option maxRecDepth 100000
theorem pf_maps:mapsRowed Tryz.pinned.checked.prog=true:=by kernel_rfl
theorem pf_stops:(Tryz.pinned.checked.prog.stops==[])=true:=by kernel_rfl
theorem pf_knobs:(Tryz.pinned.checked.prog.stopKnobs==[])=true:=by kernel_rfl
theorem pf_keys:(Rows.worldApartRow.plainKeys==Tryz.pinned.checked.prog.plainKeys)=true:=by kernel_rfl
theorem pf_heard:Tryz.pinned.checked.prog.stopsHeard=true:=by kernel_rfl
theorem pf_may:Tryz.pinned.checked.prog.mayEnter=true:=by kernel_rfl
theorem pf_lifts:(Rows.worldApartRow.lifted==Tryz.pinned.checked.prog.liftsFinal)=true:=by kernel_rfl
theorem pf_make:(Tryz.pinned.checked.prog.make==some Rows.worldApartRow.make)=true:=by kernel_rfl
theorem and4 {a b c d:Bool}(h:(a&&b&&c&&d)=true):(a=true∧b=true)∧c=true∧d=true:=by
 simp only[zQG]at h;exact⟨⟨h.1.1.1,h.1.1.2⟩,h.1.2,h.2⟩
end Go.Proofs.YtnmlimehgifadaaGreatDoor
