/- Texts of this claim, laid together: Base, Vc. -/
import Derived.WalkKit
import Derived.WalkSpells
import Derived.WalkLawsBesides
import Derived.Lib.IndexAny
import Derived.Lib.Bytealg
import Derived.Lib.Strings
import Derived.Laws.StructEq
import Derived.Laws.CopyRow
open Option renaming some → zgk, map_eq_some_iff → zJk
open Bool renaming false_eq_true → zwc
open List renaming getElem?_eq_some_iff → zJh, toArray → zJi, length_append → zJn, getElem?_map → zJo, length_singleton → zJq, length_cons → zJs, getElem?_append_right → zJt, length_map → zJu, length_set → zJv
open Prod renaming mk → zJj
open Nat renaming le_trans → zJl, lt_of_lt_of_le → zJm, le_refl → zJp
open Array renaming getD_eq_getD_getElem? → zJr
set_option linter.all false
set_option maxHeartbeats 16000000
set_option maxRecDepth 20000
namespace Wf
open Go Go.RowKit
abbrev Bytes:=List UInt8
theorem fH (l:List UInt8)(a b:Nat):(⟨zJi l⟩:ByteArray).extract a b=⟨zJi ((l.take b).drop a)⟩:=by
 apply ByteArray.ext
 simp[ByteArray.data_extract,List.drop_take]
theorem eP (l l':List UInt8):(⟨zJi l⟩:ByteArray)++⟨zJi l'⟩=⟨zJi (l++l')⟩:=by
 apply ByteArray.ext
 simp
theorem get_list (l:List UInt8)(k:Nat)(h:k<(⟨zJi l⟩:ByteArray).size):(⟨zJi l⟩:ByteArray)[k]'h=l[k]'h:=rfl
theorem dy {p:UInt8→Bool}(h:(List.range 256).all (fun n=>p n.toUInt8)=true):∀ c,p c=true:=by
 intro c
 rw[List.all_eq_true]at h
 have:=h c.toNat (by simpa using c.toNat_lt)
 simpa using this
theorem C9 (c:UInt8):(c.toNat / 32 % 2=0→bits BinOp.or IntKind.u8 (c.toNat:Int) 32=c.toNat+32)∧(c.toNat / 32 % 2=1→bits BinOp.or IntKind.u8 (c.toNat:Int) 32=c.toNat):=by
 have h:=dy (p:=fun c=>decide ((c.toNat / 32 % 2=0→bits BinOp.or IntKind.u8 (c.toNat:Int) 32=c.toNat+32)∧(c.toNat / 32 % 2=1→bits BinOp.or IntKind.u8 (c.toNat:Int) 32=c.toNat))) (by decide +kernel) c
 exact of_decide_eq_true h
theorem aZ {a b:Bool}(h:a=b):Ending.returned (.bool a)=Ending.returned (.bool b):=by rw[h]
theorem tl {k:IntKind}{a b:Int}(h:a=b):Ending.returned (.int k a)=Ending.returned (.int k b):=by rw[h]
theorem lJ {a b:List UInt8}(h:a=b):Ending.returned (.string ⟨zJi a⟩)=Ending.returned (.string ⟨zJi b⟩):=by rw[h]
def iR:Value→Nat | .string b=>b.size|_=>0
theorem sLen_mk (l:Bytes):iR (.string ⟨zJi l⟩)=l.length:=rfl
def has (t:Bytes)(c:UInt8):Bool:=t.contains c
theorem zP {a b:UInt8}(h:a≠b):((a.toNat:Int)==(b.toNat:Int))=false:=by
 rw[beq_eq_false_iff_ne];intro e;exact h (UInt8.toNat_inj.1 (by omega))
theorem u8_eq {a b:UInt8}(h:a=b):((a.toNat:Int)==(b.toNat:Int))=true:=by rw[h];simp
def isDigit (c:UInt8):Bool:=decide (48≤c.toNat∧c.toNat≤57)
def isAlpha (c:UInt8):Bool:=decide ((65≤c.toNat∧c.toNat≤90)∨(97≤c.toNat∧c.toNat≤122))
def bt (c:UInt8):Bool:=decide ((48≤c.toNat∧c.toNat≤57)∨(65≤c.toNat∧c.toNat≤70)∨(97≤c.toNat∧c.toNat≤102))
def cw (c:UInt8):Nat:=if c.toNat≤57 then c.toNat - 48 else if c.toNat≤70 then c.toNat - 55 else c.toNat - 87
theorem kX {c:UInt8}(h:bt c=true):cw c≤15:=by
 simp[bt]at h;unfold cw;split <;> (try split) <;> omega
def dh (b m:Nat):Nat→Bytes→Nat × Int
 | n,[]=>(n,0)
 | n,c::r=>if m<n * b+cw c then(0,4) else dh b m (n * b+cw c) r
def bK (cls:UInt8→Bool)(b m:Nat)(s:Bytes):Nat × Int :=
 if s.isEmpty then(0,3) else if s.all cls then dh b m 0 s else(0,1)
theorem drop_cons {α:Type}(s:List α)(k:Nat)(h:k<s.length):s.drop k=s[k]::s.drop (k+1):=List.drop_eq_getElem_cons h
theorem aO {α:Type}{p:α→Bool}{s:List α}{k:Nat}(h:k<s.length)(ha:(s.take k).all p=true)(hp:p s[k]=true):(s.take (k+1)).all p=true:=by
 rw[List.take_succ_eq_append_getElem h,List.all_append,ha];simpa using hp
theorem cU {α:Type}{p:α→Bool}{s:List α}{k:Nat}(h:k<s.length)(hp:p s[k]=false):s.all p=false:=by
 rw[List.all_eq_false];exact⟨s[k],List.getElem_mem h,by simp[hp]⟩
theorem zq {α:Type}{p:α→Bool}{s:List α}(ha:s.all p=true){k:Nat}(h:k<s.length):p s[k]=true:=by
 rw[List.all_eq_true]at ha;exact ha _ (List.getElem_mem h)
theorem pU {cls:UInt8→Bool}{b m a j:Nat}{s:Bytes}(bp:s.isEmpty=false)(aP:s.all cls=true)(heq:dh b m a (s.drop j)=dh b m 0 s)(hj:j<s.length)(h:m<a * b+cw s[j]):(0,4)=bK cls b m s:=by
 rw[drop_cons s j hj,dh,if_pos h]at heq
 simp[bK,bp,aP,← heq]
theorem ow {b m a j:Nat}{s:Bytes}(heq:dh b m a (s.drop j)=dh b m 0 s)(hj:j<s.length)(h:¬ m<a * b+cw s[j]):dh b m (a * b+cw s[j]) (s.drop (j+1))=dh b m 0 s:=by
 rw[drop_cons s j hj,dh,if_neg h]at heq
 exact heq
theorem ox {cls:UInt8→Bool}{b m a j:Nat}{s:Bytes}(bp:s.isEmpty=false)(aP:s.all cls=true)(heq:dh b m a (s.drop j)=dh b m 0 s)(hj:¬ j<s.length):(a,0)=bK cls b m s:=by
 rw[List.drop_of_length_le (by omega),dh]at heq
 simp[bK,bp,aP,← heq]
theorem Hg (b m:Nat)(s:Bytes):∀ n,n≤m→(dh b m n s).1≤m:=by
 induction s with
 | nil=>intro n h;exact h
 | cons c r ih =>
   intro n h
   rw[dh]
   split
   ·exact Nat.zero_le _
   ·exact ih _ (by omega)
theorem AW (cls:UInt8→Bool)(b m:Nat)(s:Bytes):(bK cls b m s).1≤m:=by
 unfold bK
 split
 ·exact Nat.zero_le _
 ·split
  ·exact Hg b m s 0 (Nat.zero_le _)
  ·exact Nat.zero_le _
theorem mV {a b:Nat}{c d:Int}(h:(a,c)=(b,d)):Ending.returned (.tuple #[.int .u64 a,.int .i64 c])=Ending.returned (.tuple #[.int .u64 b,.int .i64 d]):=by
 simp only[zJj.injEq]at h;rw[h.1,h.2]
def pre (p:UInt8→Bool)(l:Bytes):Nat:=(l.takeWhile fun c=>!p c).length
theorem pre_nil (p:UInt8→Bool):pre p []=0:=rfl
theorem cf (p:UInt8→Bool)(c:UInt8)(l:Bytes):pre p (c::l)=if p c then 0 else pre p l+1:=by
 unfold pre;rw[List.takeWhile_cons];cases p c <;> simp
theorem cq (p:UInt8→Bool)(l:Bytes):pre p l≤l.length:=by
 unfold pre;exact List.Sublist.length_le (List.takeWhile_sublist _)
theorem gH {p:UInt8→Bool}{l:Bytes}{k:Nat}(h:k<pre p l)(hk:k<l.length):p l[k]=false:=by
 induction l generalizing k with
 | nil=>simp at hk
 | cons c l ih =>
   rw[cf]at h
   cases hc:p c
   ·rw[hc]at h
    cases k with
    | zero=>simpa using hc
    | succ k=>simp only[List.getElem_cons_succ];exact ih (by simpa using h) (by simpa using hk)
   ·rw[hc]at h;simp at h
theorem ga {p:UInt8→Bool}{l:Bytes}(h:pre p l<l.length):p l[pre p l]=true:=by
 induction l with
 | nil=>simp at h
 | cons c l ih =>
   cases hc:p c
   ·have e:pre p (c::l)=pre p l+1:=by rw[cf,hc];rfl
    have h':pre p l<l.length:=by rw[e]at h;simpa using h
    have:=ih h'
    simp only[e,List.getElem_cons_succ]
    exact this
   ·have e:pre p (c::l)=0:=by rw[cf,hc];rfl
    simp only[e,List.getElem_cons_zero]
    exact hc
theorem cY (l:Bytes)(c:UInt8):Lib.indexByte l c=if pre (·==c) l<l.length then(pre (·==c) l:Int) else -1:=by
 induction l with
 | nil=>simp[Lib.indexByte,pre_nil]
 | cons b l ih =>
   rw[Lib.indexByte,cf,ih]
   cases hb:b==c
   ·simp only[zwc,if_false,zJs]
    by_cases h:pre (·==c) l<l.length
    ·simp only[if_pos h,if_pos (show pre (·==c) l+1<l.length+1 by omega)]
     rw[if_neg (by simp <;> omega)];omega
    ·simp only[if_neg h,if_neg (show ¬ pre (·==c) l+1<l.length+1 by omega)]
     simp
   ·simp
theorem lP (l set:Bytes):Lib.indexAny l set=if pre (set.contains ·) l<l.length then(pre (set.contains ·) l:Int) else -1:=by
 induction l with
 | nil=>simp[Lib.indexAny,pre_nil]
 | cons b l ih =>
   rw[Lib.indexAny,cf,ih]
   cases hb:set.contains b
   ·simp only[zwc,if_false,zJs]
    by_cases h:pre (set.contains ·) l<l.length
    ·simp only[if_pos h,if_pos (show pre (set.contains ·) l+1<l.length+1 by omega)]
     rw[if_neg (by simp <;> omega)];omega
    ·simp only[if_neg h,if_neg (show ¬ pre (set.contains ·) l+1<l.length+1 by omega)]
     simp
   ·simp
theorem u64_in {n:Int}(h0:0≤n)(h1:n≤9223372036854775807):IntKind.u64.wrap n=n:=by
 simp only[IntKind.wrap,IntKind.signed,IntKind.bits]
 simp
 omega
theorem Gz (x:Int)(h0:-9223372036854775808≤x)(h1:x≤9223372036854775807):(0≤x→IntKind.u64.wrap x=x)∧(x<0→IntKind.u64.wrap x=x+18446744073709551616):=by
 simp only[IntKind.wrap,IntKind.signed,IntKind.bits]
 simp
 omega
theorem cz (w:World)(o:Obj):(w.alloc o).heap[w.heap.size]? = some o:=by
 show (w.heap.push o)[w.heap.size]? = _
 simp
theorem Ik (w:World)(o:Obj){k:Nat}(h:k<w.heap.size):(w.alloc o).heap[k]? = w.heap[k]? := Below.heap_alloc w o k h
theorem size_alloc (w:World)(o:Obj):(w.alloc o).heap.size=w.heap.size+1:=by simp
def cn (c:UInt8):UInt8:=if 65≤c.toNat∧c.toNat≤90 then c+32 else c
def lower (s:Bytes):Bytes:=s.map cn
theorem uu {c:UInt8}(h1:65≤c.toNat)(h2:c.toNat≤90):((cn c).toNat:Int)=c.toNat+32:=by
 unfold cn
 rw[if_pos ⟨h1,h2⟩,UInt8.toNat_add]
 simp
 omega
theorem xu {c:UInt8}(h:¬ (65≤c.toNat∧c.toNat≤90)):cn c=c:=if_neg h
def gL (k:Nat)(s:Bytes):Bytes:=(s.take k).map cn++s.drop k
theorem jf (k:Nat)(s:Bytes):(gL k s).length=s.length:=by unfold gL;simp;omega
theorem DL {s:Bytes}{k:Nat}(h:k<s.length):∃ a b:Bytes,s=a++s[k]::b∧a.length=k :=
 ⟨s.take k,s.drop (k+1),by rw[← drop_cons s k h,List.take_append_drop],by simp;omega⟩
theorem rv {a b:Bytes}{x:UInt8}:gL a.length (a++x::b)=a.map cn++x::b:=by
 unfold gL;rw[List.take_left,List.drop_left]
theorem ux {a b:Bytes}{x:UInt8}:gL (a.length+1) (a++x::b)=a.map cn++cn x::b:=by
 have e:a++x::b=(a++[x])++b:=by simp
 have l:a.length+1=(a++[x]).length:=by simp
 unfold gL;rw[e,l,List.take_left,List.drop_left];simp
theorem xx {k:Nat}{s:Bytes}(h:k<s.length)(h':k<(gL k s).length):(gL k s)[k]=s[k]:=by
 obtain⟨a,b,hs,rfl⟩:=DL h
 generalize s[a.length]=x at hs ⊢
 subst hs
 have:(gL a.length (a++x::b))[a.length]? = some x:=by rw[rv,zJt (by simp)];simp
 rw[List.getElem?_eq_getElem h']at this
 exact zgk.inj this
theorem xw {k:Nat}{s:Bytes}(h:k<s.length):(gL k s).set k (cn s[k])=gL (k+1) s:=by
 obtain⟨a,b,hs,rfl⟩:=DL h
 generalize s[a.length]=x at hs ⊢
 subst hs
 rw[rv,ux,List.set_append_right _ _ (by simp)]
 simp
theorem uw {k:Nat}{s:Bytes}(h:k<s.length)(hn:cn s[k]=s[k]):gL k s=gL (k+1) s:=by
 obtain⟨a,b,hs,rfl⟩:=DL h
 generalize s[a.length]=x at hs hn
 subst hs
 rw[rv,ux,hn]
theorem xy (s:Bytes):gL s.length s=lower s:=by unfold gL lower;simp
theorem uv (s:Bytes):gL 0 s=s:=by unfold gL;simp
def cg (s:Bytes):Bool:=!s.isEmpty&&s.all isDigit
def aV (m:Nat)(s:Bytes):Nat × Int:=if cg s=true∧1<s.length∧s.head? = some 48 then(0,6) else bK isDigit 10 m s
theorem kL (m:Nat)(s:Bytes):((bK isDigit 10 m s).2=0∨(bK isDigit 10 m s).2=4)↔cg s=true:=by
 have key:∀ (l:Bytes) n,(dh 10 m n l).2=0∨(dh 10 m n l).2=4:=by
  intro l
  induction l with
  | nil=>intro n;exact .inl rfl
  | cons c l ih =>
    intro n
    rw[dh]
    split
    ·exact .inr rfl
    ·exact ih _
 unfold bK cg
 cases h1:s.isEmpty
 ·cases h2:s.all isDigit
  ·simp
  ·simp only[zwc,if_false,if_true]
   simp[key]
 ·simp
theorem la {α:Type}{s:List α}(h:0<s.length):s.head? = some s[0]:=by
 cases s with
 | nil=>simp at h
 | cons a l=>rfl
theorem lM (m:Nat)(s:Bytes):(aV m s).1≤m:=by
 unfold aV
 split
 ·exact Nat.zero_le _
 ·exact AW _ _ _ _
def sE (d:Nat):UInt8:=(48+d).toUInt8
def cJ (n:Nat):Bytes:=if _h:n<10 then [sE n] else cJ (n / 10)++[sE (n % 10)]
termination_by n
decreasing_by omega
theorem gg {n:Nat}(h:n<10):cJ n=[sE n]:=by rw[cJ,dif_pos h]
theorem lq {n:Nat}(h:¬ n<10):cJ n=cJ (n / 10)++[sE (n % 10)]:=by rw[cJ,dif_neg h]
theorem bo {w a b:World}(h:Below w.heap.size w a)(k:Below a.heap.size a b):Below w.heap.size w b:=h.trans (k.mono h.size)
theorem dJ:∀ (m n:Nat),n<10 ^ (m+1)→(cJ n).length≤m+1:=by
 intro m
 induction m with
 | zero=>intro n h;rw[gg (by simpa using h)];simp
 | succ m ih =>
   intro n h
   by_cases hn:n<10
   ·rw[gg hn];simp
   ·rw[lq hn]
    have:=ih (n / 10) (by rw[Nat.pow_succ]at h;omega)
    simp;omega
theorem vp (n:Nat):0<(cJ n).length:=by
 by_cases hn:n<10
 ·rw[gg hn];simp
 ·rw[lq hn];simp
theorem mw {n:Nat}(h:¬ n<10):(cJ n).length=(cJ (n / 10)).length+1:=by rw[lq h];simp
theorem snoc_of {l:Bytes}{a:Nat}(h:l.length=a+1):∃ (y:Bytes) (z:UInt8),l=y++[z]∧y.length=a:=by
 refine⟨l.dropLast,l.getLast (by intro e;simp[e]at h),(List.dropLast_concat_getLast _).symm,by simp[h]⟩
theorem DY (y:Bytes)(z d:UInt8)(l:Bytes):(y++z::l).set y.length d=y++d::l:=by
 rw[List.set_append_right _ _ (by simp)];simp
theorem nG {n:Nat}(h:n<10):((sE n).toNat:Int)=48+n:=by
 unfold sE;simp;omega
theorem Cz (n:Nat):((n:Int)+1).toNat=n+1:=by omega
theorem CB (n:Nat):((n:Int)+2).toNat=n+2:=by omega
theorem CA (n:Nat):((n:Int)+3).toNat=n+3:=by omega
end Wf
namespace Vc
open Go Go.RowKit Wf
inductive SV where
 | bool (b:Bool)
 | int (k:IntKind) (n:Int)
 | str (l:List UInt8)
 | p (i off:Nat)
 | o (i n:Nat)
 | f (i n:Nat)
 | aI
 | agg (l:List SV)
 | eR (l:List SV)
 | fn (f:Fn) (caps:List SV)
 | mv (f:FuncId) (first:List SV)
 | Ek (t:TypeId) (x:SV)
 | v (x:Value)
structure Bt where
 cK:Nat
 off:Nat
 cap:Nat
def kH:Nat→Bt:=fun _=>⟨0,0,0⟩
def dcP:Nat→Nat × Nat
 | 0=>(0,0)
 | n+1=>match dcP n with
   | (0,b)=>(b+1,0)
   | (a+1,b)=>(a,b+1)
theorem zj:∀ (b a:Nat),(∃ n,dcP n=(a+b,0))→∃ n,dcP n=(a,b)
 | 0,_,h=>h
 | b+1,a,h=>by
   obtain⟨n,hn⟩:=zj b (a+1) (by rw[Nat.add_right_comm];exact h)
   exact⟨n+1,by rw[dcP,hn]⟩
theorem EO:∀ s:Nat,∃ n,dcP n=(s,0)
 | 0=>⟨0,rfl⟩
 | s+1=>by
   obtain⟨n,hn⟩:=zj s 0 (by rw[Nat.zero_add];exact EO s)
   exact⟨n+1,by rw[dcP,hn]⟩
theorem EP (a b:Nat):∃ n,dcP n=(a,b):=zj b a (EO _)
def mA (b:Bt):Option Addr:=if b.cK=0 then none else some ⟨b.cK - 1,(dcP b.off).1,if (dcP b.off).2=0 then none else some ((dcP b.off).2 - 1)⟩
theorem Hi (a:Addr):∃ b:Bt,b.cap=0∧mA b=some a:=by
 obtain⟨k,o,s⟩:=a
 cases s with
 | none =>
   obtain⟨n,hn⟩:=EP o 0
   exact⟨⟨k+1,n,0⟩,rfl,by simp[mA,hn]⟩
 | some x =>
   obtain⟨n,hn⟩:=EP o (x+1)
   exact⟨⟨k+1,n,0⟩,rfl,by simp[mA,hn]⟩
def oV (b:Bt)(n:Nat):Value:=if b.cap=0 then .slice (mA b) n 0 else .slice (some ⟨b.cK,b.off,none⟩) n (b.cap - 1)
def fV (b:Bt)(n:Nat):Value:=if b.cap=0 then .slice (mA b) n 0 else .slice (some ⟨b.cK,b.off,none⟩) n n
mutual
def ah (β:Nat→Bt):SV→Value
 | .bool b=>.bool b
 | .int k n=>.int k n
 | .str l=>.string ⟨zJi l⟩
 | .p i off=>.pointer (some ⟨(β i).cK,(β i).off+off,none⟩)
 | .o i n=>oV (β i) n
 | .f i n=>fV (β i) n
 | .aI=>.slice none 0 0
 | .agg l=>.agg (aJ β l).toArray
 | .eR l=>.tuple (aJ β l).toArray
 | .fn f l=>.func f #[] (aJ β l).toArray
 | .mv f l=>.func (.func f) (aJ β l).toArray #[]
 | .Ek t x=>.iface t (ah β x)
 | .v x=>x
def aJ (β:Nat→Bt):List SV→List Value
 | []=>[]
 | x::r=>ah β x::aJ β r
end
theorem bV (β:Nat→Bt)(l:List SV):aJ β l=l.map (ah β):=by
 induction l with
 | nil=>rfl
 | cons x r ih=>rw[aJ,ih];rfl
def ofV:Value→SV
 | .bool b=>.bool b
 | .int k n=>.int k n
 | .string b=>.str b.data.toList
 | .slice none 0 0=>.aI
 | .func f ⟨[]⟩ ⟨[]⟩=>.fn f []
 | x=>.v x
theorem I3 (β:Nat→Bt)(x:Value):ah β (ofV x)=x:=by
 unfold ofV
 split <;> simp[ah,aJ]
inductive Kd where
 | int (k:IntKind) | bool | str | slice (e:TypeId) | ptr (e:TypeId) | struct (fs:List (Nat × TypeId)) | arr (n:Nat) (e:TypeId) | other
structure TI where
 size:Nat
 bytes:Nat
 agg:Bool
 zero:List SV
 kind:Kd
 cmp:Bool
def ck:Kd→TypeDesc→Prop
 | .int k,d=>d=.int k
 | .bool,d=>d=.bool
 | .str,d=>d=.string
 | .slice e,d=>d=.slice e
 | .ptr e,d=>d=.pointer e
 | .struct fs,d=>∃ F:Array Field,d=.struct F∧F.toList.map (fun f=>(f.offset,f.type))=fs
 | .arr n e,d=>d=.array n e
 | .other,_=>True
structure Gb (P:Program) (T:TypeId) (t:TI):Prop where
 size:∀ w,(Go.sizeOf T).run P w=Result.ok t.size w
 agg:∀ w,(isAgg T).run P w=Result.ok t.agg w
 zero:∀ w,∃ z:Value,(zeroValue T).run P w=Result.ok z w∧z.cells=(t.zero.map (ah kH)).toArray
 flat:∀ β,t.zero.map (ah β)=t.zero.map (ah kH)
 len:t.zero.length=t.size
 und:∃ d,P.underlying T=some d∧ck t.kind d
 flds:∀ fs,t.kind=.struct fs→∀ f∈fs,∃ n,∀ w,(Go.sizeOf f.2).run P w=Result.ok n w
 cmp : t.cmp = true → P.stoodInHeld T = false ∧ P.eqGuardType P.depth T = false ∧ (P.fieldsOf T).all (fun f => f.name != "_") = true
 info:∃ i z,P.info? T=some i∧i.zero=some z∧i.size=t.size∧i.bytes=t.bytes∧z.cells=(t.zero.map (ah kH)).toArray
def Cl (P:Program)(Γ:TypeId→Option TI):Prop:=∀ T t,Γ T=some t→Gb P T t
def lk (d:Nat):List (Nat × SV)→Option SV
 | []=>none
 | (e,x)::r=>if d=e then some x else lk d r
def ev (t:List (Nat × SV)):Operand→Option SV
 | .tmp d=>lk d t
 | .const v=>some (ofV v)
 | .global g=>some (.v (.pointer (some ⟨g,0,none⟩)))
 | .func f=>some (.fn (.func f) [])
structure jL (β:Nat→Bt) (n:Nat) (t:List (Nat × SV)) (a:Act):Prop where
 size:a.tmps.size=n
 defers:a.defers=[]
 get:∀ d x,lk d t=some x→a.tmps.getD d undef=ah β x
theorem jL.ev {β:Nat→Bt}{n:Nat}{t:List (Nat × SV)}{a:Act}(h:jL β n t a){o:Operand}{x:SV}(e:ev t o=some x):a.eval o=ah β x:=by
 cases o with
 | tmp d=>exact h.get d x e
 | const v=>simp[Vc.ev]at e;subst e;exact(I3 β v).symm
 | global g=>simp[Vc.ev]at e;subst e;rfl
 | func f=>simp[Vc.ev]at e;subst e;simp[Act.eval,ah,aJ]
theorem jL.put {β:Nat→Bt}{n:Nat}{t:List (Nat × SV)}{a:Act}(h:jL β n t a){d:Nat}(hd:d<n)(x:SV):jL β n ((d,x)::t) (a.put (some d) (ah β x)):=by
 refine⟨by simp[Act.put,h.size],h.defers,fun e y hy=>?_⟩
 simp only[lk]at hy
 simp only[Act.put]
 split at hy
 ·rename_i he
  subst he
  cases hy
  simp[h.size,hd]
 ·rename_i he
  rw[zJr,Array.getElem?_setIfInBounds_ne (fun q=>he q.symm),← zJr]
  exact h.get e y hy
def put (dst:Option Tmp)(x:SV)(t:List (Nat × SV)):List (Nat × SV):=match dst with
 | some d=>(d,x)::t
 | none=>t
def fits (n:Nat):Option Tmp→Bool
 | some d=>decide (d<n)
 | none=>true
theorem jL.put' {β:Nat→Bt}{n:Nat}{t:List (Nat × SV)}{a:Act}(h:jL β n t a){dst:Option Tmp}(hd:fits n dst=true)(x:SV):jL β n (Vc.put dst x t) (a.put dst (ah β x)):=by
 cases dst with
 | none=>exact⟨h.size,h.defers,h.get⟩
 | some d=>exact h.put (by simpa[fits] using hd) x
def cells:SV→List SV
 | .agg l=>l
 | x=>[x]
theorem Hf (b:Bt)(n:Nat):(oV b n).cells=#[oV b n]:=by
 unfold oV;by_cases h:b.cap=0 <;> simp[h,Value.cells]
theorem IN (b:Bt)(n:Nat):(fV b n).cells=#[fV b n]:=by
 unfold fV;by_cases h:b.cap=0 <;> simp[h,Value.cells]
theorem DN (β:Nat→Bt)(x:SV)(hx:∀ y,x≠.v y):(ah β x).cells=((cells x).map (ah β)).toArray:=by
 cases x
 case o i n=>simpa[ah,cells] using Hf (β i) n
 case f i n=>simpa[ah,cells] using IN (β i) n
 all_goals simp[ah,cells,Value.cells,bV]
 exact absurd rfl (hx _)
def HH:SV→Bool
 | .v _=>true
 | _=>false
theorem fy (β:Nat→Bt)(x:SV)(hx:HH x=false):(ah β x).cells=((cells x).map (ah β)).toArray :=
 DN β x (by rintro y rfl;cases hx)
def XM (agg:Bool)(off size:Nat)(l:List SV):Option SV :=
 if agg then some (.agg ((l.drop off).take size)) else l[off]?
def intB (k:IntKind)(n:Int):Prop:=match k with
 | .i64=>-9223372036854775808≤n∧n≤9223372036854775807
 | _=>False
def ar (k:IntKind)(n:Int):Prop × SV:=match k with
 | .i64=>(-9223372036854775808≤n∧n≤9223372036854775807,.int .i64 n)
 | k=>(True,.int k (k.wrap n))
theorem EV (k:IntKind)(n:Int)(β:Nat→Bt)(h:(ar k n).1):ah β (ar k n).2=.int k (k.wrap n):=by
 unfold ar at h ⊢
 split
 ·simp only at h
  simp only[ah,IntKind.wrap,IntKind.signed,IntKind.bits]
  simp
  omega
 ·rfl
def shI (op:BinOp)(k:IntKind)(x y:Int):Int:=match op with
 | .shl=>k.wrap (x * 2 ^ (min y.toNat k.bits))
 | _=>x.fdiv (2 ^ (min y.toNat k.bits))
def rN (op:BinOp)(k:IntKind)(x y:Int):Int:=match op with
 | .quo=>k.wrap (x.tdiv y)
 | _=>x.tmod y
def qF (op:BinOp)(k:IntKind)(x y:Int):Int:=match op with
 | .and=>k.wrap (BitVec.ofInt k.bits x &&& BitVec.ofInt k.bits y).toNat
 | .or=>k.wrap (BitVec.ofInt k.bits x ||| BitVec.ofInt k.bits y).toNat
 | .xor=>k.wrap (BitVec.ofInt k.bits x ^^^ BitVec.ofInt k.bits y).toNat
 | _=>k.wrap (BitVec.ofInt k.bits x &&& ~~~BitVec.ofInt k.bits y).toNat
def zy (k k':IntKind)(r:Prop × SV):Option (Prop × SV):=if k=k' then some r else none
def mg (op:BinOp)(k k':IntKind)(a b:Int):Option (Prop × SV):=match op with
 | .shl=>some (0≤b,.int k (shI .shl k a b))
 | .shr=>some (0≤b,.int k (shI .shr k a b))
 | .add=>zy k k' (ar k (a+b))
 | .sub=>zy k k' (ar k (a - b))
 | .mul=>zy k k' (ar k (a * b))
 | .quo=>zy k k' (b≠0,.int k (rN .quo k a b))
 | .rem=>zy k k' (b≠0,.int k (rN .rem k a b))
 | .and=>zy k k' (True,.int k (qF .and k a b))
 | .or=>zy k k' (True,.int k (qF .or k a b))
 | .xor=>zy k k' (True,.int k (qF .xor k a b))
 | .andNot=>zy k k' (True,.int k (qF .andNot k a b))
 | .eql=>zy k k' (True,.bool (a==b))
 | .neq=>zy k k' (True,.bool (a != b))
 | .lss=>zy k k' (True,.bool (decide (a<b)))
 | .leq=>zy k k' (True,.bool (decide (a≤b)))
 | .gtr=>zy k k' (True,.bool (decide (b<a)))
 | .geq=>zy k k' (True,.bool (decide (b≤a)))
def wJ (op:BinOp)(a b:List UInt8):Option (Prop × SV):=match op with
 | .add=>some (a.length+b.length≤9223372036854775807,.str (a++b))
 | .eql=>some (True,.bool (a==b))
 | .neq=>some (True,.bool (a != b))
 | .lss=>some (True,.bool (Op.bytesLess a b))
 | .leq=>some (True,.bool (Op.bytesLess a b||a==b))
 | .gtr=>some (True,.bool (!(Op.bytesLess a b||a==b)))
 | .geq=>some (True,.bool (!Op.bytesLess a b))
 | _=>none
def bin (op:BinOp):SV→SV→Option (Prop × SV)
 | .int k a,.int k' b=>mg op k k' a b
 | .str a,.str b=>wJ op a b
 | _,_=>none
def BS (Γ:TypeId→Option TI)(rc:TypeId→SV→SV→Option Bool)(cmp:Bool):Kd→SV→SV→Option Bool
 | .int _,.int k a,.int k' b=>if k=k' then some (a==b) else none
 | .bool,.bool a,.bool b=>some (a==b)
 | .str,.str a,.str b=>some (a==b)
 | .struct fs,.agg l,.agg l'=>if cmp then eqF Γ rc l l' fs else none
 | _,_,_=>none
where eqF (Γ:TypeId→Option TI) (rc:TypeId→SV→SV→Option Bool) (l l':List SV):List (Nat × TypeId)→Option Bool
 | []=>some true
 | (off,ft)::r=>match Γ ft with
  | some ti=>match XM ti.agg off ti.size l with
    | some x=>match XM ti.agg off ti.size l' with
      | some y=>match rc ft x y with
        | some p=>match eqF Γ rc l l' r with
          | some q=>some (p&&q)
          | none=>none
        | none=>none
      | none=>none
    | none=>none
  | none=>none
def eqS (Γ:TypeId→Option TI):Nat→TypeId→SV→SV→Option Bool
 | 0,_,_,_=>none
 | d+1,T,x,y=>match Γ T with
   | some ti=>BS Γ (eqS Γ d) ti.cmp ti.kind x y
   | none=>none
def Df (op:BinOp)(b:Bool):Option SV:=match op with
 | .eql=>some (.bool b)
 | .neq=>some (.bool (!b))
 | _=>none
def DI (Γ:TypeId→Option TI)(T:TypeId)(xType:Kd)(op:BinOp):SV→SV→Option SV
 | .bool a,.bool b=>match xType with
   | .bool=>match op with
     | .eql=>some (.bool (a==b))
     | .neq=>some (.bool (a != b))
     | _=>none
   | _=>none
 | .agg l,.agg l'=>match eqS Γ 4 T (.agg l) (.agg l') with
   | some b=>Df op b
   | none=>none
 | .aI,.aI=>match xType with
   | .slice _=>Df op true
   | _=>none
 | _,_=>none
def vz (len:Nat)(lo hi:Option SV):Option (Prop × Nat × Nat) :=
 match hi,lo with
 | none,none=>some (True,0,len)
 | none,some (.int _ l)=>some (0≤l∧l≤len,l.toNat,len)
 | some (.int _ h),none=>some (0≤h∧h≤len,0,h.toNat)
 | some (.int _ h),some (.int _ l)=>some (0≤l∧l≤h∧h≤len,l.toNat,h.toNat)
 | _,_=>none
def oO (t:List (Nat × SV)):Option Operand→Option (Option SV)
 | none=>some none
 | some o=>(ev t o).map some
def kd (Γ:TypeId→Option TI)(T:TypeId):Option Kd:=(Γ T).map TI.kind
def sz (Γ:TypeId→Option TI)(T:TypeId):Option Nat:=(Γ T).map TI.size
def XX (t:List (Nat × SV))(x:Operand):Option (Prop × SV):=(ev t x).map fun x=>(True,x)
def XJ:SV→Option SV→Option SV→Option SV
 | .bool c,some (.bool x),some (.bool y)=>some (.bool (if c then x else y))
 | .bool true,some x,_=>some x
 | .bool false,_,some y=>some y
 | _,_,_=>none
def Ya (t:List (Nat × SV))(c a b:Operand):Option (Prop × SV):=match ev t c with
 | some c=>(XJ c (ev t a) (ev t b)).map fun x=>(True,x)
 | none=>none
def Xb (Γ:TypeId→Option TI)(t:List (Nat × SV))(S:TypeId)(x:Operand)(f:Nat):Option (Prop × SV):=match kd Γ S with
 | some (.struct fs)=>match ev t x with
   | some (.p i off)=>match fs[f]? with
     | some (o,ft)=>match sz Γ ft with
       | some (_+1)=>some (True,.p i (off+o))
       | _=>none
     | none=>none
   | _=>none
 | _=>none
def Xu (Γ:TypeId→Option TI)(t:List (Nat × SV))(S:TypeId)(x:Operand)(f:Nat):Option (Prop × SV):=match kd Γ S with
 | some (.struct fs)=>match ev t x with
   | some (.agg l)=>match fs[f]? with
     | some (o,ft)=>match Γ ft with
       | some ti=>(XM ti.agg o ti.size l).map fun x=>(True,x)
       | none=>none
     | none=>none
   | _=>none
 | _=>none
def oBin (Γ:TypeId→Option TI)(t:List (Nat × SV))(op:BinOp)(T:TypeId)(x y:Operand):Option (Prop × SV):=match ev t x with
 | some x=>match ev t y with
   | some y=>match bin op x y with
     | some r=>some r
     | none=>match kd Γ T with
       | some k=>(DI Γ T k op x y).map fun x=>(True,x)
       | none=>none
   | none=>none
 | none=>none
def oUn (t:List (Nat × SV))(op:UnOp)(x:Operand):Option (Prop × SV):=match op with
 | .not=>match ev t x with
   | some (.bool b)=>some (True,.bool (!b))
   | _=>none
 | .neg=>match ev t x with
   | some (.int k n)=>some (ar k (0 - n))
   | _=>none
 | _=>none
def XW:Kd→SV→Option SV
 | .int k,.int _ n=>some (.int k (k.wrap n))
 | .str,.str l=>some (.str l)
 | _,_=>none
def Ye (Γ:TypeId→Option TI)(t:List (Nat × SV))(src dst:TypeId)(x:Operand):Option (Prop × SV):=match kd Γ src with
 | some _=>match kd Γ dst with
   | some k=>match ev t x with
     | some x=>(XW k x).map fun x=>(True,x)
     | none=>none
   | none=>none
 | none=>none
def Xw (Γ:TypeId→Option TI)(t:List (Nat × SV))(T:TypeId)(x:Operand)(lo hi:Option Operand):Option (Prop × SV):=match kd Γ T with
 | some .str=>match ev t x with
   | some (.str l)=>match oO t lo with
     | some lo=>match oO t hi with
       | some hi=>(vz l.length lo hi).map fun r=>(r.1,.str ((l.take r.2.2).drop r.2.1))
       | none=>none
     | none=>none
   | _=>none
 | _=>none
def Xx (Γ:TypeId→Option TI)(t:List (Nat × SV))(T:TypeId)(x i:Operand):Option (Prop × SV):=match kd Γ T with
 | some .str=>match ev t x with
   | some (.str l)=>match ev t i with
     | some (.int _ n)=>some (0≤n∧n<l.length,.int .u8 (l.getD n.toNat 0).toNat)
     | _=>none
   | _=>none
 | _=>none
def Xh (t:List (Nat × SV))(x:Operand)(i:Nat):Option (Prop × SV):=match ev t x with
 | some (.eR l)=>(l[i]?).map fun x=>(True,x)
 | _=>none
def lO:Kd→SV→Option SV
 | .str,.str l=>some (.int .i64 l.length)
 | .slice _,.o _ n=>some (.int .i64 n)
 | .slice _,.aI=>some (.int .i64 0)
 | _,_=>none
def Fw (Γ:TypeId→Option TI)(t:List (Nat × SV))(args:List Operand)(ts:List TypeId):Option (Prop × SV):=match args with
 | [x]=>match ts with
   | [T]=>match kd Γ T with
     | some k=>match ev t x with
       | some x=>(lO k x).map fun x=>(True,x)
       | none=>none
     | none=>none
   | _=>none
 | _=>none
def xQ (t:List (Nat × SV))(l:List Operand):Option (List SV):=l.mapM (ev t)
def Yf:Option SV→Option (List SV)→Option (List SV)
 | some x,some l=>some (x::l)
 | _,_=>none
theorem Xp (t:List (Nat × SV)):xQ t []=some []:=rfl
theorem Xi (t:List (Nat × SV))(o:Operand)(r:List Operand):xQ t (o::r)=Yf (ev t o) (xQ t r):=by
 unfold xQ
 rw[List.mapM_cons]
 cases ev t o with
 | none=>rfl
 | some x=>cases List.mapM (ev t) r <;> rfl
def Yh (t:List (Nat × SV))(f:Fn)(first caps:List Operand):Option (Prop × SV):=match first with
 | []=>match xQ t caps with
   | some l=>some (True,.fn f l)
   | none=>none
 | _::_=>match caps with
   | []=>match f with
     | .func g=>match xQ t first with
       | some l=>some (True,.mv g l)
       | none=>none
     | _=>none
   | _=>none
def rl:Kd→Bool
 | .other=>false
 | _=>true
def yR (Γ:TypeId→Option TI)(t:List (Nat × SV))(T:TypeId)(x:Operand):Option (Prop × SV):=match kd Γ T with
 | some k=>match ev t x with
   | some x=>if rl k then some (True,.Ek T x) else none
   | none=>none
 | none=>none
def tp (Γ:TypeId→Option TI)(t:List (Nat × SV))(A:TypeId)(x:Operand):Option (Prop × SV):=match kd Γ A with
 | some k=>match ev t x with
   | some (.Ek T y)=>if rl k then if T=A then some (True,.eR [y,.bool true]) else none else none
   | _=>none
 | none=>none
def Xs (c:List SV)(off:Nat)(x:List SV):List SV:=c.take off++x++c.drop (off+x.length)
def Xl (t:List (Nat × SV)):List (Nat × Operand)→Option (List (Nat × SV))
 | []=>some []
 | (i,o)::r=>match ev t o with
  | some x=>match Xl t r with
    | some l=>some ((i,x)::l)
    | none=>none
  | none=>none
def XY (s:Nat):List (Nat × SV)→List SV→Option (List SV)
 | [],c=>some c
 | (i,x)::r,c=>if HH x=false∧(cells x).length=s∧i * s+s≤c.length then XY s r (Xs c (i * s) (cells x)) else none
def Xk (Γ:TypeId→Option TI)(t:List (Nat × SV))(T:TypeId)(ps:List (Nat × Operand)):Option (Prop × SV):=match Γ T with
 | some ti=>match ti.kind with
   | .arr _ e=>match sz Γ e with
     | some s=>match Xl t ps with
       | some l=>match XY s l ti.zero with
         | some c=>some (True,.agg c)
         | none=>none
       | none=>none
     | none=>none
   | _=>none
 | none=>none
def XS (Γ:TypeId→Option TI)(t:List (Nat × SV))(T:TypeId)(x i:Operand):Option (Prop × SV):=match kd Γ T with
 | some (.arr n e)=>match sz Γ e with
   | some s=>match ev t x with
     | some (.p b off)=>match ev t i with
       | some (.int _ k)=>some (0<s∧0≤k∧k<n,.p b (off+k.toNat * s))
       | _=>none
     | _=>none
   | none=>none
 | _=>none
def pv (Γ:TypeId→Option TI)(t:List (Nat × SV)):Op→Option (Prop × SV)
 | .move x=>XX t x
 | .assign x=>XX t x
 | .pick c a b=>Ya t c a b
 | .fieldAddr S x f=>Xb Γ t S x f
 | .field S x f=>Xu Γ t S x f
 | .binOp op T x y _=>oBin Γ t op T x y
 | .unOp op _ x=>oUn t op x
 | .convert src dst x=>Ye Γ t src dst x
 | .slice T x lo hi none=>Xw Γ t T x lo hi
 | .index T x i=>Xx Γ t T x i
 | .extract x i=>Xh t x i
 | .call ⟨.builtin .len,args,ts⟩=>Fw Γ t args.toList ts.toList
 | .makeFunc f first caps=>Yh t f first.toList caps.toList
 | .build T ps=>Xk Γ t T ps.toList
 | .indexAddr T x i=>XS Γ t T x i
 | .makeInterface T x=>yR Γ t T x
 | .typeAssert x _ A true=>tp Γ t A x
 | _=>none
section
variable {P:Program} {Γ:TypeId→Option TI}
theorem bY (h:Cl P Γ){T:TypeId}{k:Kd}(e:kd Γ T=some k):∃ d,P.underlying T=some d∧ck k d:=by
 unfold kd at e
 cases ht:Γ T with
 | none=>simp[ht]at e
 | some ti=>simp[ht]at e;subst e;exact(h T ti ht).und
theorem run_underlying {T:TypeId}{d:TypeDesc}(e:P.underlying T=some d)(w:World):(underlying T).run P w=Result.ok d w:=by
 show Sem.run P (match P.underlying T with | some d => pure d | none => stuck "no such type") w = _
 rw[e];rfl
theorem ifK_ok {k k':IntKind}{r:Prop × SV}{c:Prop}{x:SV}(h:zy k k' r=some (c,x)):k'=k∧r=(c,x):=by
 unfold zy at h
 split at h
 ·rename_i e;exact⟨e.symm,by simpa using h⟩
 ·cases h
theorem bin_ok {op:BinOp}{x y r:SV}{c:Prop}{T:TypeId}{β:Nat→Bt}(h:bin op x y=some (c,r))(hc:c)(w:World) :
 (binOp op T (ah β x) (ah β y)).run P w=Result.ok (ah β r) w:=by
 unfold bin at h
 split at h
 ·rename_i k a k' b
  unfold mg at h
  split at h
  case h_1 =>
   obtain⟨rfl,rfl⟩:=zJj.inj (zgk.inj h)
   simp[ah,binOp,Op.shift,shI,go_sem];omega
  case h_2 =>
   obtain⟨rfl,rfl⟩:=zJj.inj (zgk.inj h)
   simp[ah,binOp,Op.shift,shI,go_sem];omega
  all_goals obtain⟨rfl,hq⟩:=ifK_ok h
  case h_3=>have:=EV k' (a+b) β (by rw[hq];exact hc);rw[hq]at this;rw[this];simp[ah,binOp,Op.intArith,go_sem]
  case h_4=>have:=EV k' (a - b) β (by rw[hq];exact hc);rw[hq]at this;rw[this];simp[ah,binOp,Op.intArith,go_sem]
  case h_5=>have:=EV k' (a * b) β (by rw[hq];exact hc);rw[hq]at this;rw[this];simp[ah,binOp,Op.intArith,go_sem]
  case h_6 =>
   obtain⟨rfl,rfl⟩:=zJj.inj hq
   simp[ah,binOp,Op.intDiv,rN,hc,go_sem]
  case h_7 =>
   obtain⟨rfl,rfl⟩:=zJj.inj hq
   simp[ah,binOp,Op.intDiv,rN,hc,go_sem]
  case h_8=>obtain⟨-,rfl⟩:=zJj.inj hq;simp[ah,binOp,Op.intBits,qF,go_sem]
  case h_9=>obtain⟨-,rfl⟩:=zJj.inj hq;simp[ah,binOp,Op.intBits,qF,go_sem]
  case h_10=>obtain⟨-,rfl⟩:=zJj.inj hq;simp[ah,binOp,Op.intBits,qF,go_sem]
  case h_11=>obtain⟨-,rfl⟩:=zJj.inj hq;simp[ah,binOp,Op.intBits,qF,go_sem]
  all_goals
   obtain⟨-,rfl⟩:=zJj.inj hq
   simp[ah,binOp,Op.intCmp,go_sem]
 ·rename_i a b
  unfold wJ at h
  split at h <;> simp only[zgk.injEq,reduceCtorEq]at h
  ·obtain⟨rfl,rfl⟩:=zJj.inj h
   have hle:(a.length:Int)+b.length≤9223372036854775807:=by omega
   simp[ah,binOp,Op.stringOp,go_sem,eP]
   exact hle
  all_goals
   obtain⟨-,rfl⟩:=zJj.inj h
   simp[ah,binOp,Op.stringOp,go_sem,bne]
 ·cases h
theorem bnds_ok {len:Nat}{lo hi:Option SV}{c:Prop}{f u:Nat}{β:Nat→Bt}(h:vz len lo hi=some (c,f,u))(hc:c)(b:Bool)(w:World) :
 (Instr.sliceBounds b len len (lo.map (ah β)) (hi.map (ah β)) none).run P w=Result.ok (f,u,len) w:=by
 unfold vz at h
 split at h <;> simp only[zgk.injEq,zJj.injEq,reduceCtorEq]at h
 all_goals
  obtain⟨rfl,rfl,rfl⟩:=h
  simp[ah,Instr.sliceBounds,Instr.sliceBound,asIntOf,go_sem]
  try omega
 rw[if_pos (by omega),if_pos (by omega)]
theorem tn {t:List (Nat × SV)}{β:Nat→Bt}{n:Nat}{a:Act}(hf:jL β n t a){o:Option Operand}{x:Option SV}(h:oO t o=some x):o.map a.eval=x.map (ah β):=by
 cases o with
 | none=>simp[oO]at h;subst h;rfl
 | some o =>
   simp only[oO,zJk]at h
   obtain⟨y,hy,rfl⟩:=h
   simp[hf.ev hy]
theorem tu {t:List (Nat × SV)}{β:Nat→Bt}{n:Nat}{a:Act}(hf:jL β n t a):∀ {os:List Operand}{l:List SV},os.mapM (ev t)=some l→os.map a.eval=l.map (ah β)
 | [],l,h=>by simp at h;subst h;rfl
 | o::os,l,h=>by
   simp only[List.mapM_cons,Option.bind_eq_bind,Option.bind_eq_some_iff]at h
   obtain⟨x,hx,r,hr,he⟩:=h
   simp at he
   subst he
   simp[hf.ev hx,tu hf hr]
theorem yz (hΓ:Cl P Γ){T:TypeId}{ti:TI}(ht:Γ T=some ti){β:Nat→Bt}{off:Nat}{l:List SV}{x:SV}(h:XM ti.agg off ti.size l=some x)(w:World) :
 (part T (l.map (ah β)).toArray off).run P w=Result.ok (ah β x) w:=by
 have ha:=(hΓ T ti ht).agg w
 have hz:=(hΓ T ti ht).size w
 unfold XM at h
 cases hg:ti.agg
 ·rw[hg]at h ha
  simp only[zwc,if_false]at h
  simp[part,ha,go_sem,h]
 ·rw[hg]at h ha
  simp only[if_true,zgk.injEq]at h
  subst h
  simp[part,ha,hz,go_sem,ah,bV]
theorem FZ {T:TypeId}{F:Array Field}(h:P.underlying T=some (.struct F)):P.fieldsOf T=F:=by
 unfold Program.fieldsOf;rw[h]
theorem IS (hΓ:Cl P Γ){rc:TypeId→SV→SV→Option Bool}{β:Nat→Bt}{m:Nat}(w:World)
 (hrc : ∀ T x y b, rc T x y = some b → (Op.equalIn m T (ah β x) (ah β y)).run P w = Result.ok b w) (l l' : List SV) : ∀ (F : List Field) (b : Bool), (∀ f ∈ F, f.name ≠ "_") → BS.eqF Γ rc l l' (F.map fun f => (f.offset, f.type)) = some b →
   (Op.eqFields m (aJ β l).toArray (aJ β l').toArray F).run P w=Result.ok b w
 | [],b,_,h=>by simp only[List.map_nil,BS.eqF,zgk.injEq]at h;subst h;rfl
 | f::F,b,hn,h=>by
   simp only[List.map_cons,BS.eqF]at h
   split at h
   ·rename_i ti iS
    split at h
    ·rename_i x hx
     split at h
     ·rename_i y hy
      split at h
      ·rename_i p hp
       split at h
       ·rename_i q hq
        simp only[zgk.injEq]at h
        subst h
        have px:=yz (P:=P) hΓ iS (β:=β) hx w
        have py:=yz (P:=P) hΓ iS (β:=β) hy w
        have pe:=hrc _ _ _ _ hp
        have ih:=IS hΓ w hrc l l' F q (fun f hf=>hn f (List.mem_cons_of_mem _ hf)) hq
        rw[← bV]at px py
        simp only[Op.eqFields,if_pos (hn f List.mem_cons_self),Sem.run_bind,px,py,pe,Result.andThen_ok]
        cases p
        ·simp
        ·simpa using ih
       ·cases h
      ·cases h
     ·cases h
    ·cases h
   ·cases h
theorem IQ (hΓ:Cl P Γ){β:Nat→Bt}(w:World):∀ (d:Nat)(T:TypeId)(x y:SV)(b:Bool),eqS Γ d T x y=some b→∀ m,d≤m→(Op.equalIn m T (ah β x) (ah β y)).run P w=Result.ok b w
 | 0,_,_,_,_,h,_,_=>by cases h
 | d+1,T,x,y,b,h,m,hm=>by
   obtain⟨m,rfl⟩:∃ k,m=k+1:=⟨m - 1,by omega⟩
   simp only[eqS]at h
   split at h
   ·rename_i ti iS
    have hT:=hΓ T ti iS
    obtain⟨D,hD,hs⟩:=hT.und
    unfold BS at h
    split at h
    ·rename_i e
     rw[e]at hs
     simp only[ck]at hs
     subst hs
     split at h
     ·rename_i hk;subst hk
      simp only[zgk.injEq]at h;subst h
      simp only[ah]
      exact run_equalIn_int w m T _ _ _ _ hD
     ·cases h
    ·rename_i e
     rw[e]at hs
     simp only[ck]at hs
     subst hs
     simp only[zgk.injEq]at h;subst h
     simp only[ah]
     exact run_equalIn_bool' w m T _ _ hD
    ·rename_i e
     rw[e]at hs
     simp only[ck]at hs
     subst hs
     simp only[zgk.injEq]at h;subst h
     simp only[ah]
     rw[run_equalIn_string w m T _ _ hD]
     simp
    ·rename_i fs l l' e
     rw[e]at hs
     obtain⟨F,rfl,hF⟩:=hs
     split at h
     ·rename_i BJ
      obtain⟨h1,h2,h3⟩:=hT.cmp BJ
      have hfo:=FZ hD
      rw[hfo]at h3
      simp only[ah]
      rw[run_equalIn_agg w m T _ _ (by rw[hfo];exact hD) h1,hfo]
      subst hF
      refine IS hΓ w (fun T x y b hb=>IQ hΓ w d T x y b hb m (by omega)) l l' F.toList b (fun f hf=>?_) h
      rw[Array.all_eq_true']at h3
      have:=h3 f (by simpa using hf)
      simpa using this
     ·cases h
    ·cases h
   ·cases h
theorem re (w:World)(d:Nat)(T e:TypeId)(h:P.underlying T=some (.slice e)):(Op.equalIn (d+1) T (.slice none 0 0) (.slice none 0 0)).run P w=Result.ok true w:=by
 simp[Op.equalIn,run_underlying h]
theorem AX {op:BinOp}{b:Bool}{r:SV}(h:Df op b=some r):(op=.eql∧r=.bool b)∨(op=.neq∧r=.bool (!b)):=by
 unfold Df at h
 split at h
 ·exact .inl ⟨rfl,(zgk.inj h).symm⟩
 ·exact .inr ⟨rfl,(zgk.inj h).symm⟩
 ·cases h
theorem eqB_ok {op:BinOp}{x y r:SV}{k:Kd}(hΓ:Cl P Γ){T:TypeId}(ht:kd Γ T=some k){β:Nat→Bt}(h:DI Γ T k op x y=some r)(w:World) :
 (binOp op T (ah β x) (ah β y)).run P w=Result.ok (ah β r) w:=by
 obtain⟨d,hd,hs⟩:=bY hΓ ht
 unfold DI at h
 split at h
 ·split at h
  ·rename_i a b _
   have hd':P.underlying T=some .bool:=by rw[hd];exact congrArg some hs
   split at h <;> simp only[zgk.injEq,reduceCtorEq]at h
   all_goals
    subst h
    simp only[ah]
    first
    | (show Sem.run P (do pure (Value.bool (← Op.equal T (Value.bool a) (Value.bool b)))) w=_
       simp[run_equal_bool (w:=w) T a b hd',Result.andThen])
    | (show Sem.run P (do pure (Value.bool (!(← Op.equal T (Value.bool a) (Value.bool b))))) w=_
       simp[run_equal_bool (w:=w) T a b hd',Result.andThen,bne])
  ·cases h
 ·rename_i l l'
  split at h
  ·rename_i b hb
   have he:=IQ (P:=P) hΓ (β:=β) w 4 T _ _ b hb 10000 (by omega)
   simp only[ah]at he ⊢
   rcases AX h with⟨rfl,rfl⟩|⟨rfl,rfl⟩
   ·rw[run_eql_struct,he];rfl
   ·rw[run_neq_struct,he];rfl
  ·cases h
 ·split at h
  ·rename_i e
   have hd':P.underlying T=some (.slice e):=by rw[hd];exact congrArg some hs
   have he:(Op.equal T (.slice none 0 0) (.slice none 0 0)).run P w=Result.ok true w:=by
    exact re w 9999 T e hd'
   rcases AX h with⟨rfl,rfl⟩|⟨rfl,rfl⟩
   ·show Sem.run P (do pure (Value.bool (← Op.equal T (.slice none 0 0) (.slice none 0 0)))) w=_
    rw[Sem.run_bind,he];rfl
   ·show Sem.run P (do pure (Value.bool (!(← Op.equal T (.slice none 0 0) (.slice none 0 0))))) w=_
    rw[Sem.run_bind,he];rfl
  ·cases h
 ·cases h
theorem F1 {op:BinOp}{x y r:SV}{k:Kd}(hΓ:Cl P Γ){T:TypeId}{β:Nat→Bt}(h:DI Γ T k op x y=some r)(a b:Operand)(w:World) :
 (eqGuard op T a b (ah β x) (ah β y)).run P w=Result.ok () w:=by
 unfold DI at h
 split at h
 ·simp only[ah];unfold eqGuard;split <;> rfl
 ·rename_i l l'
  split at h
  ·rename_i b' hb
   have hg:P.eqGuardType P.depth T=false:=by
    unfold eqS at hb
    split at hb
    ·rename_i ti iS
     unfold BS at hb
     split at hb
     ·rename_i e1 e2;cases e2
     ·rename_i e1 e2;cases e2
     ·rename_i e1 e2;cases e2
     ·split at hb
      ·rename_i BJ;exact((hΓ T ti iS).cmp BJ).2.1
      ·cases hb
     ·cases hb
    ·cases hb
   simp only[ah]
   exact run_eqGuard_agg w op T a b _ _ hg
  ·cases h
 ·simp only[ah];unfold eqGuard;split <;> rfl
 ·cases h
theorem sq {x:SV}{y:Option SV}{c:Prop}(h:y.map (fun x=>(True,x))=some (c,x)):y=some x:=by
 cases y with
 | none=>simp at h
 | some y=>simp only[Option.map_some,zgk.injEq,zJj.injEq]at h;rw[h.2]
theorem bO {s:Sem Value}{v:Value}{w w':World}(h:s.run P w=Result.ok v w'):Sem.run P (do pure (Next.value (← s))) w=Result.ok (.value v) w':=by
 simp[h,Result.andThen,go_sem]
theorem pick_ok {c:SV}{a b:Option SV}{x:SV}{va vb:Value}{β:Nat→Bt}(h:XJ c a b=some x)(ha:∀ y,a=some y→va=ah β y)(hb:∀ y,b=some y→vb=ah β y)(w:World) :
 Sem.run P (do pure (if ← asBool (ah β c) then va else vb)) w=Result.ok (ah β x) w:=by
 unfold XJ at h
 split at h <;> simp only[zgk.injEq,reduceCtorEq]at h
 ·subst h
  rename_i c' x y
  rw[ha _ rfl,hb _ rfl]
  cases c' <;> simp[ah,asBool,go_sem]
 ·subst h
  rename_i y _
  rw[ha _ rfl]
  simp[ah,asBool,go_sem]
 ·subst h
  rename_i y _
  rw[hb _ rfl]
  simp[ah,asBool,go_sem]
theorem zg (hΓ:Cl P Γ){t:List (Nat × SV)}{β:Nat→Bt}{n:Nat}{a:Act}(hf:jL β n t a){S:TypeId}{x:Operand}{f:Nat}{c:Prop}{r:SV}(h:Xb Γ t S x f=some (c,r))(w:World) :
 (Instr.fieldAt S (a.eval x) f).run P w=Result.ok (ah β r) w:=by
 unfold Xb at h
 split at h
 ·rename_i fs hk
  obtain⟨d,hd,F,rfl,hF⟩:=bY hΓ hk
  split at h
  ·rename_i i off he
   split at h
   ·rename_i o ft BE
    split at h
    ·rename_i m hm
     simp only[zgk.injEq,zJj.injEq]at h
     obtain⟨-,rfl⟩:=h
     rw[hf.ev he]
     subst hF
     simp only[zJo,zJk,zJj.injEq]at BE
     obtain⟨fl,mH,rfl,rfl⟩:=BE
     have hfl':F[f]? = some fl:=by simpa using mH
     unfold sz at hm
     cases iS:Γ fl.type with
     | none=>simp[iS]at hm
     | some ti =>
       simp[iS]at hm
       have hs:=(hΓ _ _ iS).size w
       rw[hm]at hs
       simp[Instr.fieldAt,run_underlying hd,hfl',ah,Instr.sureAddr,fieldPlace,hs,go_sem,Addr.add]
       split <;> simp <;> omega
    ·cases h
   ·cases h
  ·cases h
 ·cases h
theorem IM (hΓ:Cl P Γ){t:List (Nat × SV)}{β:Nat→Bt}{n:Nat}{a:Act}(hf:jL β n t a){S:TypeId}{x:Operand}{f:Nat}{c:Prop}{r:SV}(h:Xu Γ t S x f=some (c,r))(w:World) :
 (Instr.field S (a.eval x) f).run P w=Result.ok (ah β r) w:=by
 unfold Xu at h
 split at h
 ·rename_i fs hk
  obtain⟨d,hd,F,rfl,hF⟩:=bY hΓ hk
  split at h
  ·rename_i l he
   split at h
   ·rename_i o ft BE
    split at h
    ·rename_i ti iS
     have h':=sq h
     rw[hf.ev he]
     subst hF
     simp only[zJo,zJk,zJj.injEq]at BE
     obtain⟨fl,mH,rfl,rfl⟩:=BE
     have hfl':F[f]? = some fl:=by simpa using mH
     have hp:=yz hΓ iS (β:=β) h' w
     simpa[Instr.field,run_underlying hd,hfl',ah,bV,asAgg,go_sem] using hp
    ·cases h
   ·cases h
  ·cases h
 ·cases h
theorem conv_ok (hΓ:Cl P Γ){t:List (Nat × SV)}{β:Nat→Bt}{n:Nat}{a:Act}(hf:jL β n t a){S D:TypeId}{x:Operand}{c:Prop}{r:SV}(h:Ye Γ t S D x=some (c,r))(w:World) :
 (convert S D (a.eval x)).run P w=Result.ok (ah β r) w:=by
 unfold Ye at h
 split at h
 ·rename_i k0 sW
  obtain⟨d0,hd0,-⟩:=bY hΓ sW
  split at h
  ·rename_i k hk
   obtain⟨d,hd,hs⟩:=bY hΓ hk
   split at h
   ·rename_i y he
    have h':=sq h
    rw[hf.ev he]
    unfold XW at h'
    split at h' <;> simp only[zgk.injEq,reduceCtorEq]at h'
    ·subst h'
     simp only[ck]at hs
     subst hs
     simp[convert,run_underlying hd,run_underlying hd0,ah,Conv.intToInt,go_sem]
    ·subst h'
     simp only[ck]at hs
     subst hs
     simp[convert,run_underlying hd,run_underlying hd0,ah,go_sem]
   ·cases h
  ·cases h
 ·cases h
theorem GI (hΓ:Cl P Γ){t:List (Nat × SV)}{β:Nat→Bt}{n:Nat}{a:Act}(hf:jL β n t a){T:TypeId}{x:Operand}{lo hi:Option Operand}{c:Prop}{r:SV}(h:Xw Γ t T x lo hi=some (c,r))(hc:c)(w:World) :
 (Instr.sliceAt T (a.eval x) (lo.map a.eval) (hi.map a.eval) none).run P w=Result.ok (ah β r) w:=by
 unfold Xw at h
 split at h
 ·rename_i hk
  obtain⟨d,hd,hs⟩:=bY hΓ hk
  simp only[ck]at hs
  subst hs
  split at h
  ·rename_i l he
   split at h
   ·rename_i lo' Gm
    split at h
    ·rename_i hi' hhi
     simp only[zJk,zJj.injEq]at h
     obtain⟨⟨c',f,u⟩,hb,rfl,rfl⟩:=h
     rw[hf.ev he,tn hf Gm,tn hf hhi]
     have:=bnds_ok (P:=P) (β:=β) hb hc false w
     simp only[Instr.sliceAt,Sem.run_bind,run_underlying hd,Result.andThen,ah,Instr.slice,Option.isSome_none,zwc,if_false]
     rw[show (⟨zJi l⟩:ByteArray).size=l.length from rfl,this]
     simp[fH]
    ·cases h
   ·cases h
  ·cases h
 ·cases h
theorem HK (hΓ:Cl P Γ){t:List (Nat × SV)}{β:Nat→Bt}{n:Nat}{a:Act}(hf:jL β n t a){T:TypeId}{x i:Operand}{c:Prop}{r:SV}(h:Xx Γ t T x i=some (c,r))(hc:c)(w:World) :
 (Instr.index T (a.eval x) (a.eval i)).run P w=Result.ok (ah β r) w:=by
 unfold Xx at h
 split at h
 ·rename_i hk
  obtain⟨d,hd,hs⟩:=bY hΓ hk
  simp only[ck]at hs
  subst hs
  split at h
  ·rename_i l he
   split at h
   ·rename_i k m hi
    simp only[zgk.injEq,zJj.injEq]at h
    obtain⟨rfl,rfl⟩:=h
    rw[hf.ev he,hf.ev hi]
    obtain⟨h0,h1⟩:=hc
    have h2:m.toNat<l.length:=by omega
    simp only[Instr.index,ah,asIntOf,Sem.run_bind,Sem.run_pure,Result.andThen_ok,run_underlying hd,if_pos h0]
    rw[getElem?_pos (⟨zJi l⟩:ByteArray) m.toNat h2]
    simp[List.getD_eq_getElem?_getD,List.getElem?_eq_getElem h2,get_list]
   ·cases h
  ·cases h
 ·cases h
theorem pw (off:Nat):∀ (xs:List Value)(j:Nat)(arr:Array Value),off+j+xs.length≤arr.size →
 (xs.zipIdx j).foldl (fun cs (p:Value × Nat)=>cs.setIfInBounds (off+p.2) p.1) arr=(arr.toList.take (off+j)++xs++arr.toList.drop (off+j+xs.length)).toArray
 | [],j,arr,_=>by simp
 | x::r,j,arr,h=>by
   simp only[zJs]at h
   rw[List.zipIdx_cons,List.foldl_cons,pw off r (j+1) _ (by simp;omega)]
   congr 1
   simp only[Array.toList_setIfInBounds,zJs]
   have aC:off+j<arr.toList.length:=by simp;omega
   rw[show off+(j+1)=off+j+1 by omega,show off+j+1+r.length=off+j+(r.length+1) by omega]
   rw[List.take_succ_eq_append_getElem (by simp;omega),List.getElem_set_self,List.take_set_of_le (zJp _),List.drop_set_of_lt (by omega)]
   simp
theorem ve {t:List (Nat × SV)}{β:Nat→Bt}{n:Nat}{a:Act}(hf:jL β n t a):∀ {ps:List (Nat × Operand)}{l:List (Nat × SV)},Xl t ps=some l→ps.map (fun p=>(p.1,a.eval p.2))=l.map fun p=>(p.1,ah β p.2)
 | [],l,e=>by simp[Xl]at e;subst e;rfl
 | (i,o)::r,l,e=>by
  simp only[Xl]at e
  split at e
  ·rename_i x hx
   split at e
   ·rename_i l' hl
    cases e
    simp[hf.ev hx,ve hf hl]
   ·cases e
  ·cases e
theorem BR (s:Nat)(β:Nat→Bt):∀ (ps:List (Nat × SV))(c c':List SV),XY s ps c=some c'→Instr.fill (fun i=>some (i * s,s)) (c.map (ah β)).toArray (ps.map fun p=>(p.1,ah β p.2))=some (c'.map (ah β)).toArray
 | [],c,c',e=>by simp[XY]at e;subst e;rfl
 | (i,x)::r,c,c',e=>by
  simp only[XY]at e
  split at e
  ·rename_i lf
   obtain⟨hv,hl,ho⟩:=lf
   have ih:=BR s β r _ c' e
   have gd:=fy β x hv
   simp only[List.map_cons,Instr.fill,gd,List.size_toArray,zJu]
   rw[if_neg (by simp[hl];omega)]
   rw[← ih]
   congr 1
   have hz:=pw (i * s) ((cells x).map (ah β)) 0 (c.map (ah β)).toArray (by simp;omega)
   rw[← Array.foldl_toList,Array.toList_zipIdx]
   simp only[Nat.add_zero,zJu]at hz
   rw[hz]
   simp[Xs,List.map_take,List.map_drop]
  ·cases e
theorem DW (hΓ:Cl P Γ){e:TypeId}{s:Nat}(h:sz Γ e=some s)(w:World):(Go.sizeOf e).run P w=Result.ok s w:=by
 unfold sz at h
 cases ht:Γ e with
 | none=>simp[ht]at h
 | some ti=>simp[ht]at h;rw[← h];exact(hΓ _ ti ht).size w
theorem F9 (hΓ:Cl P Γ){t:List (Nat × SV)}{β:Nat→Bt}{n:Nat}{a:Act}(hf:jL β n t a){T:TypeId}{ps:Array (Nat × Operand)}{c:Prop}{r:SV}(h:Xk Γ t T ps.toList=some (c,r))(w:World) :
 (Instr.build T (ps.map fun p=>(p.1,a.eval p.2))).run P w=Result.ok (ah β r) w:=by
 unfold Xk at h
 (repeat' split at h) <;> try (cases h;done)
 rename_i ti iS _ m e hk _ s hs _ l hl _ cc hc
 cases h
 have bN:=hΓ T ti iS
 obtain⟨d,hd,hu⟩:=bN.und
 rw[hk]at hu
 simp only[ck]at hu
 subst hu
 obtain⟨z,hz,Gj⟩:=bN.zero w
 have kS:=DW hΓ hs w
 have qs:=BR s β l ti.zero cc hc
 rw[← ve hf hl,bN.flat β,← Gj]at qs
 simp only[Instr.build,Sem.run_bind,hz,Result.andThen_ok,run_underlying hd,kS,Array.toList_map,qs,ah,bV]
 rfl
theorem idxA_ok (hΓ:Cl P Γ){t:List (Nat × SV)}{β:Nat→Bt}{n:Nat}{a:Act}(hf:jL β n t a){T:TypeId}{x i:Operand}{c:Prop}{r:SV}(h:XS Γ t T x i=some (c,r))(hc:c)(w:World) :
 (Instr.indexAt T (a.eval x) (a.eval i)).run P w=Result.ok (ah β r) w:=by
 unfold XS at h
 (repeat' split at h) <;> try (cases h;done)
 rename_i _ m e hk _ s hs _ b off hx _ k kk hi
 cases h
 obtain⟨d,hd,hu⟩:=bY hΓ hk
 simp only[ck]at hu
 subst hu
 have kS:=DW hΓ hs w
 rw[hf.ev hx,hf.ev hi]
 obtain⟨h0,h1,h2⟩:=hc
 have:kk.toNat<m:=by omega
 simp[Instr.indexAt,asIntOf,run_underlying hd,h1,h2,kS,ah,Instr.sureAddr,Addr.add,go_sem]
 split <;> simp <;> omega
theorem xa (hΓ:Cl P Γ){t:List (Nat × SV)}{β:Nat→Bt}{n:Nat}{a:Act}(hf:jL β n t a){o:Oper}{c:Prop}{x:SV}(h:pv Γ t o.op=some (c,x))(hc:c)(w:World) :
 (execOp a.eval o).run P w=Result.ok (.value (ah β x)) w:=by
 obtain⟨dst,op,ty,pos,after,guard⟩:=o
 simp only at h
 cases op <;> simp only[pv,reduceCtorEq]at h
 case move y=>simp only[execOp];rw[hf.ev (sq h)];rfl
 case assign y=>simp only[execOp];rw[hf.ev (sq h)];rfl
 case pick c' y z =>
  unfold Ya at h
  split at h
  ·rename_i b hb
   simp only[execOp]
   rw[hf.ev hb]
   have:=pick_ok (P:=P) (sq h) (va:=a.eval y) (vb:=a.eval z) (fun _ e=>hf.ev e) (fun _ e=>hf.ev e) w
   have:=bO this
   simpa using this
  ·cases h
 case fieldAddr S y f=>exact bO (zg hΓ hf h w)
 case field S y f=>exact bO (IM hΓ hf h w)
 case convert S D y=>exact bO (conv_ok hΓ hf h w)
 case index T y i=>exact bO (HK hΓ hf h hc w)
 case build T ps=>exact bO (F9 hΓ hf h w)
 case indexAddr T y i=>exact bO (idxA_ok hΓ hf h hc w)
 case slice T y lo hi mx =>
  cases mx with
  | none=>exact bO (GI hΓ hf h hc w)
  | some _=>cases h
 case binOp op T y z yt =>
  unfold oBin at h
  split at h
  ·rename_i u hu
   split at h
   ·rename_i v hv
    have key:∀ r,(binOp op T (ah β u) (ah β v)).run P w=Result.ok r w→(∀ l,ah β u≠.agg l)→ah β u≠.nilIface→Sem.run P (do eqGuard op T y z (ah β u) (ah β v);binOp op T (ah β u) (ah β v)) w=Result.ok r w:=by
     intro r hr h1 h2
     have hg:(eqGuard op T y z (ah β u) (ah β v)).run P w=Result.ok () w:=by
      generalize ah β u=A at h1 h2
      cases A <;> first|exact absurd rfl (h1 _) | exact absurd rfl h2 | (unfold eqGuard;simp;done) | (unfold eqGuard;split <;> rfl)
     rw[Sem.run_bind,hg,Result.andThen_ok,hr]
    simp only[execOp]
    rw[hf.ev hu,hf.ev hv]
    split at h
    ·rename_i r hr
     cases h
     refine bO (key _ (bin_ok hr hc w) ?_ ?_)
     all_goals
      unfold bin at hr
      cases u <;> simp[ah]at hr ⊢
    ·split at h
     ·rename_i k hk
      have hr:=sq h
      refine bO ?_
      rw[Sem.run_bind,F1 hΓ hr y z w,Result.andThen_ok]
      exact eqB_ok hΓ hk hr w
     ·cases h
   ·cases h
  ·cases h
 case unOp op T y =>
  unfold oUn at h
  split at h
  ·split at h
   ·rename_i b hb
    cases h
    simp only[execOp]
    rw[hf.ev hb]
    rfl
   ·cases h
  ·split at h
   ·rename_i k n hb
    simp only[zgk.injEq]at h
    have e:=EV k (0 - n) β (by rw[h];exact hc)
    rw[h]at e
    simp only at e
    rw[e]
    simp only[execOp]
    rw[hf.ev hb]
    simp[ah,Op.intArith,go_sem]
   ·cases h
  ·cases h
 case extract y i =>
  unfold Xh at h
  split at h
  ·rename_i l hl
   have h':=sq h
   simp only[execOp]
   rw[hf.ev hl]
   refine bO ?_
   simp[Instr.extract,ah,bV,h']
  ·cases h
 case makeFunc fn first caps =>
  unfold Yh at h
  split at h
  ·rename_i hfst
   split at h
   ·rename_i l hl
    cases h
    have hm:=tu hf hl
    simp only[execOp]
    have h0:first=#[]:=by simpa using hfst
    subst h0
    refine bO ?_
    simp only[Instr.makeFunc,ah,bV,← hm]
    have e:Array.map a.eval caps=(List.map a.eval caps.toList).toArray:=Array.ext' (by simp)
    simp[e]
   ·cases h
  ·split at h
   ·rename_i hcaps
    split at h
    ·split at h
     ·rename_i l hl
      cases h
      have hm:=tu hf hl
      simp only[execOp]
      have h0:caps=#[]:=by simpa using hcaps
      subst h0
      refine bO ?_
      simp only[Instr.makeFunc,ah,bV,← hm]
      have e:Array.map a.eval first=(List.map a.eval first.toList).toArray:=Array.ext' (by simp)
      simp[e]
     ·cases h
    ·cases h
   ·cases h
 case makeInterface T y =>
  unfold yR at h
  split at h
  ·rename_i k hk
   obtain⟨d,hd,hs⟩:=bY hΓ hk
   split at h
   ·rename_i u hu
    split at h
    ·rename_i hp
     cases h
     simp only[execOp]
     rw[hf.ev hu]
     refine bO ?_
     unfold Instr.makeInterface
     rw[Sem.run_bind,run_underlying hd,Result.andThen_ok]
     cases k <;> simp only[rl,zwc,ck]at hp hs
     all_goals first
      | (subst hs;rfl)
      | (obtain⟨F,rfl,-⟩:=hs;rfl)
    ·cases h
   ·cases h
  ·cases h
 case typeAssert y S A ok =>
  cases ok
  ·simp at h
  simp only at h
  unfold tp at h
  split at h
  ·rename_i k hk
   obtain⟨d,hd,hs⟩:=bY hΓ hk
   split at h
   ·rename_i T u hu
    split at h
    ·rename_i hp
     split at h
     ·rename_i hT
      subst hT
      cases h
      simp only[execOp]
      rw[hf.ev hu]
      refine bO ?_
      unfold Instr.typeAssert
      rw[Sem.run_bind,run_underlying hd,Result.andThen_ok]
      cases k <;> simp only[rl,zwc,ck]at hp hs
      all_goals first
       | (subst hs;simp[ah,aJ])
       | (obtain⟨F,rfl,-⟩:=hs;simp[ah,aJ])
     ·cases h
    ·cases h
   ·cases h
  ·cases h
 case call cl =>
  obtain⟨callee,args,ts⟩:=cl
  cases callee <;> (try simp only[reduceCtorEq]at h)
  rename_i b
  cases b <;> (try simp only[reduceCtorEq]at h)
  unfold Fw at h
  split at h
  ·rename_i y hy
   split at h
   ·rename_i T hT
    split at h
    ·rename_i k hk
     obtain⟨d,hd,hs⟩:=bY hΓ hk
     split at h
     ·rename_i u hu
      have h':=sq h
      have ea:args=#[y]:=by apply Array.ext';simpa using hy
      have et:ts=#[T]:=by apply Array.ext';simpa using hT
      subst ea et
      have hev:=hf.ev hu
      unfold lO at h'
      split at h' <;> simp only[zgk.injEq,reduceCtorEq]at h'
      all_goals
       subst h'
       simp only[ck]at hs
       subst hs
       simp only[ah]at hev
       try (unfold oV at hev;split at hev)
       all_goals
       generalize a.eval=ρ at hev ⊢
       simp[execOp,resolve,invoke,builtin,Builtin.len_,hev,run_underlying hd,ah,goInt,go_sem]
     ·cases h
    ·cases h
   ·cases h
  ·cases h
end
open Go Go.RowKit Wf
structure mJ (own:Nat→Prop) (w w':World):Prop where
 os:w'.os=w.os
 tape:w'.tape=w.tape
 output:w'.output=w.output
 size:w.heap.size≤w'.heap.size
 block:∀ k,k<w.heap.size→¬ own k→w'.heap[k]? = w.heap[k]?
theorem mJ.refl (own:Nat→Prop)(w:World):mJ own w w:=⟨rfl,rfl,rfl,zJp _,fun _ _ _=>rfl⟩
theorem mJ.trans {own:Nat→Prop}{a b c:World}(h:mJ own a b)(k:mJ own b c):mJ own a c :=
 ⟨k.os.trans h.os,k.tape.trans h.tape,k.output.trans h.output,zJl h.size k.size,fun i hi hn=>(k.block i (zJm hi h.size) hn).trans (h.block i hi hn)⟩
theorem mJ.jA {own:Nat→Prop}{w w':World}(h:Below w.heap.size w w'):mJ own w w':=⟨h.os,h.tape,h.output,h.size,fun k hk _=>h.block k hk⟩
theorem mJ.below {w w':World}(h:mJ (fun _=>False) w w'):Below w.heap.size w w':=⟨h.os,h.tape,h.output,h.size,fun k hk=>h.block k hk (by simp)⟩
structure Rsc where
 holds:Bt→(Nat→Prop)→World→Prop
 stays:∀ b fp w w',holds b fp w→(∀ k,fp k→w'.heap[k]? = w.heap[k]?)→holds b fp w'
 /-- A string that is ranged over, and the place. -/
 it:Option (List UInt8 × Nat):=none
 itOk:∀ l p b fp w,it=some (l,p)→holds b fp w→b.off=0∧w.heap[b.cK]? = some (.stringIter ⟨zJi l⟩ p)∧∀ k,fp k↔k=b.cK:=by
  intro _ _ _ _ _ h;cases h
inductive aw where
 | cells (c:List SV) (T:TypeId) (cC:Bool)
 | own (c:List SV) (e:TypeId) (s n:Nat) (cC:Bool)
 | ext (R:Rsc)
 | gone
def aw.cC:aw→Bool
 | .cells _ _ m=>m
 | .own _ _ _ _ m=>m
 | .ext _=>true
 | .gone=>false
def mF (w:World)(b off:Nat)(vs:List Value):Prop:=∀ (j:Nat) (v:Value),vs[j]? = some v→w.cell? ⟨b,off+j,none⟩=some v
def Head (w:World)(b:Nat)(T:TypeId)(vs rest:List Value)(fz:Nat × Nat):Prop:=w.heap[b]? = some (.cells (vs++rest).toArray T fz)∧(vs.length≤fz.1∨fz.2≤fz.1)
theorem Head.sS {w:World}{b:Nat}{T:TypeId}{vs rest:List Value}{fz:Nat × Nat}(h:Head w b T vs rest fz):mF w b 0 vs:=fun j v hv=>by
 have hj:j<vs.length:=(zJh.1 hv).1
 simp only[World.cell?,h.1,Nat.zero_add]
 simp only[Option.isSome_none,zwc,if_false,List.getElem?_toArray]
 rw[List.getElem?_append_left hj]
 exact hv
def Holds (β:Nat→Bt)(t:Bt)(fp:Nat→Prop)(w:World):aw→Prop
 | .cells c T _=>t.off=0∧(∃ rest fz,Head w t.cK T (c.map (ah β)) rest fz∧rest=[])∧∀ k,fp k↔k=t.cK
 | .own c e s n m=>(t.cap=0∧n=0∧c=[]∧(∀ k,¬ fp k)∧(m=true→t.cK=0)) ∨
    (t.cap≠0∧n≤t.cap - 1∧t.cap - 1≤maxLen∧c.length=n * s∧mF w t.cK t.off (c.map (ah β))∧(m=true→t.off=0∧∃ rest fz,Head w t.cK e (c.map (ah β)) rest fz∧(c.length+rest.length<fz.1∨fz.2≤fz.1∨s=1∧c.length+rest.length≤fz.1)∧c.length+rest.length=(t.cap - 1) * s)∧∀ k,fp k↔k=t.cK)
 | .ext R=>R.holds t fp w
 | .gone=>∀ k,¬ fp k
theorem mF.stays {w w':World}{b off:Nat}{vs:List Value}(h:mF w b off vs)(hk:w'.heap[b]? = w.heap[b]?):mF w' b off vs:=fun j v hv =>
 (World.cell?_of_block (w:=w) (a:=⟨b,off+j,none⟩) hk).trans (h j v hv)
theorem Holds.stays {β:Nat→Bt}{t:Bt}{fp:Nat→Prop}{w w':World}{r:aw}(h:Holds β t fp w r)(hk:∀ k,fp k→w'.heap[k]? = w.heap[k]?):Holds β t fp w' r:=by
 cases r with
 | cells c T m =>
   obtain⟨h0,⟨rest,fz,⟨h1,h2⟩,hr⟩,h3⟩:=h
   exact⟨h0,⟨rest,fz,⟨(hk _ ((h3 _).2 rfl)).trans h1,h2⟩,hr⟩,h3⟩
 | own c e s n m =>
   rcases h with h|⟨h1,h2,h3,h4,h5,h6,h7⟩
   ·exact .inl h
   ·have e:=hk _ ((h7 _).2 rfl)
    exact .inr ⟨h1,h2,h3,h4,h5.stays e,fun hm=>by
     obtain⟨h8,rest,fz,h9,fm⟩:=h6 hm
     exact⟨h8,rest,fz,⟨e.trans h9.1,h9.2⟩,fm⟩,h7⟩
 | ext R=>exact R.stays _ _ _ _ h hk
 | gone=>exact h
structure vE (β:Nat→Bt) (fp:Nat→Nat→Prop) (w:World) (bs:List aw):Prop where
 holds:∀ i r,bs[i]? = some r→Holds β (β i) (fp i) w r
 lt:∀ i r,bs[i]? = some r→∀ k,fp i k→k<w.heap.size
 sep:∀ i j r r',bs[i]? = some r→bs[j]? = some r'→i≠j→(r.cC=true∨r'.cC=true)→∀ k,fp i k→¬ fp j k
structure St where
 t:List (Nat × SV)
 b:List aw
structure Cx where
 P:Program
 Γ:TypeId→Option TI
 E:World→Prop
 G:Nat
 oB:∀ w,E w→G≤w.heap.size
 nD:∀ w w',E w→(∀ k,k<G→w'.heap[k]? = w.heap[k]?)→w.heap.size≤w'.heap.size→E w'
 gZ:Cl P Γ
 mixed:P.follows .mixedOrders=true
 /-- The methods behind interface values: of a pointer type, by name. -/
 M:TypeId→String→Option FuncId
 mok:∀ T name f,M T name=some f→∀ (x:Value) (args:Array Value) (w:World),(callMethod (.iface T x) name args).run P w=(callFunc f (#[x]++args)).run P w
structure Fx (V:Cx) where
 n:Nat
 w0:World
 own:Nat→Prop
 e0:V.E w0
 ownG:∀ k,own k→V.G≤k
 β0:Nat→Bt
 bs0:List aw
 lU:Nat→Prop
def bC (m:Nat)(β β':Nat→Bt):Prop:=∀ i,i<m→β i=β' i
theorem bC.refl (m:Nat)(β:Nat→Bt):bC m β β:=fun _ _=>rfl
structure Ini {V:Cx} (F:Fx V) (β:Nat→Bt) (bs:List aw):Prop where
 zE:bC F.bs0.length F.β0 β
 len:F.bs0.length≤bs.length
structure Wd {V:Cx} (F:Fx V) (β:Nat→Bt) (fp:Nat→Nat→Prop) (bs:List aw) (w:World):Prop where
 fr:mJ F.own F.w0 w
 bx:∀ β',bC bs.length β β'→vE β' fp w bs
 cC:∀ i r,bs[i]? = some r→r.cC=true→∀ k,fp i k→F.w0.heap.size≤k∨F.own k
 tv:Ini F β bs
 lU:∀ i r,bs[i]? = some r→∀ k,fp i k→F.w0.heap.size≤k∨F.lU k
theorem Wd.env {V:Cx}{F:Fx V}{β:Nat→Bt}{fp:Nat→Nat→Prop}{bs:List aw}{w:World}(h:Wd F β fp bs w):V.E w :=
 V.nD F.w0 w F.e0 (fun k hk=>h.fr.block k (zJm hk (V.oB _ F.e0)) (fun ho=>by have:=F.ownG k ho;omega)) h.fr.size
theorem Wd.below {V:Cx}{F:Fx V}{β:Nat→Bt}{fp:Nat→Nat→Prop}{bs:List aw}{w w':World}(h:Wd F β fp bs w)(hb:Below w.heap.size w w'):Wd F β fp bs w' :=
 ⟨h.fr.trans (mJ.jA hb),fun β' hβ=>⟨fun i r hi=>((h.bx β' hβ).holds i r hi).stays (fun k hk=>hb.block k ((h.bx β' hβ).lt i r hi k hk)),fun i r hi k hk=>zJm ((h.bx β' hβ).lt i r hi k hk) hb.size,(h.bx β' hβ).sep⟩,h.cC,h.tv,h.lU⟩
theorem Wd.drew {V:Cx}{F:Fx V}{β:Nat→Bt}{fp:Nat→Nat→Prop}{bs:List aw}{w:World}(h:Wd F β fp bs w):Wd F β fp bs { w with drawn:=w.drawn+1 } :=
 h.below (Below.drew (Below.refl _ _))
structure Fm {V:Cx} (F:Fx V) (β:Nat→Bt) (m:Nat) (t:List (Nat × SV)) (a:Act):Prop where
 ok:∀ β',bC m β β'→jL β' F.n t a
def Rel {V:Cx}(F:Fx V)(σ:St)(a:Act)(w:World):Prop:=∃ β fp,Fm F β σ.b.length σ.t a∧Wd F β fp σ.b w
def Qof {V:Cx}(F:Fx V)(K:Exit→St→Prop):Exit→Act→World→Prop:=fun e a w=>∃ σ,K e σ∧Rel F σ a w
theorem Fm.put {V:Cx}{F:Fx V}{β:Nat→Bt}{m:Nat}{t:List (Nat × SV)}{a:Act}(h:Fm F β m t a){dst:Option Tmp}(hd:fits F.n dst=true){x:SV}{v:Value}(hv:∀ β',bC m β β'→v=ah β' x):Fm F β m (put dst x t) (a.put dst v) :=
 ⟨fun β' hβ=>by rw[hv β' hβ];exact(h.ok β' hβ).put' hd x⟩
theorem Fm.more {V:Cx}{F:Fx V}{β β₂:Nat→Bt}{m m₂:Nat}{t:List (Nat × SV)}{a:Act}(h:Fm F β m t a)(hm:m≤m₂)(hβ:bC m β β₂):Fm F β₂ m₂ t a :=
 ⟨fun β' hβ'=>h.ok β' (fun i hi=>(hβ i hi).trans (hβ' i (zJm hi hm)))⟩
def flat:SV→Bool
 | .p _ _=>false
 | .o _ _=>false
 | .f _ _=>false
 | .agg l=>ai l
 | .eR l=>ai l
 | .fn _ l=>ai l
 | .mv _ l=>ai l
 | .Ek _ x=>flat x
 | _=>true
where ai:List SV→Bool
 | []=>true
 | x::r=>flat x&&ai r
mutual
theorem fJ (x:SV)(h:flat x=true)(β β':Nat→Bt):ah β x=ah β' x:=by
 cases x <;> simp only[flat,zwc]at h <;> simp only[ah]
 ·rw[dx _ h β β']
 ·rw[dx _ h β β']
 ·rw[dx _ h β β']
 ·rw[dx _ h β β']
 ·rw[fJ _ h β β']
theorem dx (l:List SV)(h:flat.ai l=true)(β β':Nat→Bt):aJ β l=aJ β' l:=by
 cases l with
 | nil=>rfl
 | cons x r =>
   simp only[flat.ai,Bool.and_eq_true]at h
   simp only[aJ]
   rw[fJ x h.1 β β',dx r h.2 β β']
end
def Enters (V:Cx)(f:FuncId):Prop:=∀ args w,(callFunc f args).run V.P w=Result.ok (.enter f args) w
structure PC (V:Cx) (f:FuncId) (args:List SV) (r:SV):Prop where
 enters:Enters V f
 fa:flat.ai args=true
 fr:flat r=true
 calls:∀ w,V.E w→Calls V.P f (aJ kH args).toArray w fun e w'=>e=.returned (ah kH r)∧Below w.heap.size w w'
def SC (V:Cx)(f:FuncId)(args:List SV)(bs:List aw)(R:SV→List aw→Prop):Prop:=Enters V f ∧
 ∀ β fp w,(∀ β',bC bs.length β β'→vE β' fp w bs)→(∀ i r,bs[i]? = some r→r.cC=true→∀ k,fp i k→V.G≤k)→V.E w→Calls V.P f (aJ β args).toArray w fun e w' =>
  ∃ r bs' β₂ fp₂,R r bs'∧bC bs.length β β₂∧bs.length≤bs'.length∧(∀ β',bC bs'.length β₂ β'→e=.returned (ah β' r)∧vE β' fp₂ w' bs') ∧
   mJ (fun k=>∃ i r,bs[i]? = some r∧r.cC=true∧fp i k) w w' ∧
   (∀ i r',bs'[i]? = some r'→r'.cC=true→∀ k,fp₂ i k→w.heap.size≤k∨∃ j r,bs[j]? = some r∧r.cC=true∧fp j k) ∧
   (∀ i r',bs'[i]? = some r'→∀ k,fp₂ i k→w.heap.size≤k∨∃ j r,bs[j]? = some r∧fp j k)
def one:SV→Bool
 | .agg _=>false
 | .eR _=>false
 | .v _=>false
 | _=>true
def iH (bs:List aw)(i:Nat):Option (List SV × TypeId × Bool):=match bs[i]? with
 | some (.cells c T m)=>some (c,T,m)
 | some (.own c e _ _ m)=>some (c,e,m)
 | _=>none
def tO (c:List SV):aw→aw
 | .cells _ T m=>.cells c T m
 | .own _ e s n m=>.own c e s n m
 | r=>r
def tP (bs:List aw)(i:Nat)(c:List SV):List aw:=match bs[i]? with
 | some r=>bs.set i (tO c r)
 | none=>bs
def XZ (fs:List (Nat × TypeId))(Γ:TypeId→Option TI):List (Nat × SV)→List SV→Option (List SV)
 | [],c=>some c
 | (i,x)::r,c=>match fs[i]? with
  | some (off,T)=>match sz Γ T with
    | some n=>if HH x=false∧(cells x).length=n∧off+n≤c.length then XZ fs Γ r (Xs c off (cells x)) else none
    | none=>none
  | none=>none
def vcM (V:Cx)(n:Nat)(dst:Option Tmp)(op:Op)(σ:St)(K:St→Prop):Prop :=
 match op with
 | .alloc T=>match V.Γ T with
   | some ti=>K ⟨put dst (.p σ.b.length 0) σ.t,σ.b++[.cells ti.zero T true]⟩
   | none=>False
 | .box T x=>match ev σ.t x with
   | some x=>HH x=false∧K ⟨put dst (.p σ.b.length 0) σ.t,σ.b++[.cells (cells x) T true]⟩
   | none=>False
 | .load T x=>match ev σ.t x with
   | some (.p i off)=>match iH σ.b i with
     | some (c,_,_)=>match V.Γ T with
       | some ti=>off+ti.size≤c.length∧(match XM ti.agg off ti.size c with
         | some x=>K ⟨put dst x σ.t,σ.b⟩
         | none=>False)
       | none=>False
     | none=>False
   | _=>False
 | .store T x y=>match ev σ.t x with
   | some (.p i off)=>match ev σ.t y with
     | some y=>match iH σ.b i with
       | some (c,_,m)=>match sz V.Γ T with
         | some s=>(m=true∧(cells y).all one=true∧(cells y).length=s∧off+s≤c.length)∧K ⟨put dst (.v undef) σ.t,tP σ.b i (Xs c off (cells y))⟩
         | none=>False
       | none=>False
     | none=>False
   | _=>False
 | .build T ps=>match V.Γ T with
   | some ti=>match ti.kind with
     | .struct fs=>match Xl σ.t ps.toList with
       | some ps=>match XZ fs V.Γ ps ti.zero with
         | some c=>K ⟨put dst (.agg c) σ.t,σ.b⟩
         | none=>False
       | none=>False
     | _=>False
   | none=>False
 | .nilCheck x=>match ev σ.t x with
   | some (.p i off)=>K ⟨put dst (.p i off) σ.t,σ.b⟩
   | some (.fn f l)=>(match f with | .func _=>True | _=>False)∧K ⟨put dst (.fn f l) σ.t,σ.b⟩
   | some (.mv f l)=>K ⟨put dst (.mv f l) σ.t,σ.b⟩
   | _=>False
 | .call ⟨.value f,args,_⟩=>match ev σ.t f with
   | some (.fn (.func f) caps)=>match xQ σ.t args.toList with
     | some l=>(∃ r,PC V f (l++caps) r∧K ⟨put dst r σ.t,σ.b⟩)∨(∃ R,SC V f (l++caps) σ.b R∧∀ r bs,R r bs→K ⟨put dst r σ.t,bs⟩)
     | none=>False
   | some (.mv f first)=>match xQ σ.t args.toList with
     | some l=>(∃ r,PC V f (first++l) r∧K ⟨put dst r σ.t,σ.b⟩)∨(∃ R,SC V f (first++l) σ.b R∧∀ r bs,R r bs→K ⟨put dst r σ.t,bs⟩)
     | none=>False
   | _=>False
 | .call ⟨.invoke rc name,args,_⟩=>match ev σ.t rc with
   | some (.Ek T x)=>match V.M T name with
     | some f=>match xQ σ.t args.toList with
       | some l=>(∃ r,PC V f (x::l) r∧K ⟨put dst r σ.t,σ.b⟩)∨(∃ R,SC V f (x::l) σ.b R∧∀ r bs,R r bs→K ⟨put dst r σ.t,bs⟩)
       | none=>False
     | none=>False
   | _=>False
 | _=>False
def vcO (V:Cx)(n:Nat)(dst:Option Tmp)(op:Op)(σ:St)(K:St→Prop):Prop :=
 fits n dst=true∧match pv V.Γ σ.t op with
 | some (c,x)=>c∧K ⟨put dst x σ.t,σ.b⟩
 | none=>vcM V n dst op σ K
def gval (dsts:List (Option Tmp))(t:List (Nat × SV))(j:Nat):Option (Nat × Bool):=match dsts[j]? with
 | some (some d)=>match lk d t with
   | some (.bool b)=>some (d,b)
   | _=>none
 | _=>none
open Go Go.RowKit Wf
theorem gm {x:SV}(h:one x=true)(β:Nat→Bt):(ah β x).oneCell'=true:=by
 cases x
 case o i n=>simp only[ah,oV];split <;> rfl
 case f i n=>simp only[ah,fV];split <;> rfl
 all_goals simp[one,ah,Value.oneCell']at h ⊢
theorem oR {x:SV}(h:(cells x).all one=true):HH x=false:=by
 cases x <;> simp[cells,one,HH]at h ⊢
theorem bP {P:Program}(g o:Nat)(t:TypeId)(fz:Nat × Nat):∀ (vs:List Value)(i:Nat)(cur:Array Value)(w:World),w.heap[g]? = some (.cells cur t fz)→o+i+vs.length≤cur.size→(o+i+vs.length≤fz.1∨fz.2≤fz.1)→(∀ v∈vs,v.oneCell'=true) →
 (storeCells ⟨g,o,none⟩ vs i).run P w=Result.ok () (w.setRow g (cur.toList.take (o+i)++vs++cur.toList.drop (o+i+vs.length)).toArray)
 | [],i,cur,w,hg,_,_,_=>by
   simp only[storeCells,List.append_nil,List.length_nil,Nat.add_zero,List.take_append_drop,Array.toArray_toList]
   rw[setRow_self w g cur t fz hg]
   rfl
 | v::rest,i,cur,w,hg,hl,hz,h1=>by
   simp only[zJs]at hl hz
   have hi:o+i<cur.size:=by omega
   have lS:(⟨g,o,none⟩:Addr).add i=⟨g,o+i,none⟩:=by unfold Addr.add;split <;> simp_all
   have gu:w.cell? ⟨g,o+i,none⟩=some cur[o+i]:=by simp[World.cell?,hg,hi]
   have hfro:w.frozen? ⟨g,o+i,none⟩=false:=by simp[World.frozen?,hg];omega
   have oZ:(store ((⟨g,o,none⟩:Addr).add i) v).run P w=Result.ok () (w.setRow g (cur.setIfInBounds (o+i) v)):=by
    rw[lS,run_store P w _ v _ (h1 v (by simp)),gu]
    simp[hfro,setCell_eq_setRow w g (o+i) cur t fz v hg]
   have ih:=bP (P:=P) g o t fz rest (i+1) (cur.setIfInBounds (o+i) v) (w.setRow g (cur.setIfInBounds (o+i) v)) (setRow_heap w g cur _ t _ hg) (by simp;omega) (by omega) (fun x hx=>h1 x (by simp[hx]))
   simp only[storeCells,Sem.run_bind,oZ,Result.andThen_ok,ih,setRow_setRow]
   congr 3
   have e:=list_seg_step cur.toList (o+i) v rest (by simp;omega)
   simpa[Array.toList_setIfInBounds,Nat.add_assoc] using e
section
variable {V:Cx} {F:Fx V} {β:Nat→Bt} {fp:Nat→Nat→Prop} {bs:List aw} {w:World} {t:List (Nat × SV)} {a:Act}
theorem Fm.ev {m:Nat}(h:Fm F β m t a){o:Operand}{x:SV}(e:Vc.ev t o=some x){β':Nat→Bt}(hβ:bC m β β'):a.eval o=ah β' x:=(h.ok β' hβ).ev e
def nO (β:Nat→Bt)(m:Nat)(b:Bt):Nat→Bt:=fun i=>if i=m then b else β i
theorem ez (β:Nat→Bt)(m:Nat)(b:Bt):bC m β (nO β m b):=fun i hi=>by unfold nO;rw[if_neg (by omega)]
theorem fZ (β:Nat→Bt)(m:Nat)(b:Bt):nO β m b m=b:=if_pos rfl
theorem bC.dz {m:Nat}{b:Bt}{β β':Nat→Bt}(h:bC (m+1) (nO β m b) β'):bC m β β':=fun i hi=>(ez β m b i hi).trans (h i (by omega))
def nZ (fp:Nat→Nat→Prop)(m:Nat)(f:Nat→Prop):Nat→Nat→Prop:=fun i k=>if i=m then f k else fp i k
theorem Wd.more (h:Wd F β fp bs w){w':World}(hb:Below w.heap.size w w')(r:aw)(b:Bt)(f:Nat→Prop)
 (hr:∀ β',bC (bs.length+1) (nO β bs.length b) β'→Holds β' b f w' r) (hf:∀ k,f k→w.heap.size≤k∧k<w'.heap.size) :
 Wd F (nO β bs.length b) (nZ fp bs.length f) (bs++[r]) w':=by
 have h':=h.below hb
 have old:∀ {i r'},(bs++[r])[i]? = some r'→(i<bs.length∧bs[i]? = some r')∨(i=bs.length∧r'=r):=fun {i r'} hi=>by
  rcases Nat.lt_or_ge i bs.length with aC|rC
  ·rw[List.getElem?_append_left aC]at hi;exact .inl ⟨aC,hi⟩
  ·have hi':i=bs.length:=by
    have:=(zJh.1 hi).1
    rw[zJn,zJq]at this
    omega
   subst hi'
   rw[zJt (zJp _)]at hi
   simp at hi
   exact .inr ⟨rfl,hi.symm⟩
 have fo:∀ {i},i<bs.length→nZ fp bs.length f i=fp i:=fun {i} hi=>by funext k;simp[nZ,show i≠bs.length by omega]
 have fn:nZ fp bs.length f bs.length=f:=by funext k;simp[nZ]
 refine⟨h'.fr,fun β' hβ=>?_,fun i r' hi hm k hk=>?_,?_,fun i r' hi k hk=>?_⟩
 ·rw[zJn,zJq]at hβ
  have hb':=h'.bx β' hβ.dz
  have kV:β' bs.length=b:=by rw[← hβ bs.length (by omega),fZ]
  have zb:=(h.bx β' hβ.dz).lt
  refine⟨fun i r' hi=>?_,fun i r' hi k hk=>?_,fun i j r1 r2 hi hj bp hm k hk hk'=>?_⟩
  ·rcases old hi with⟨aC,hi⟩|⟨rfl,rfl⟩
   ·rw[fo aC];exact hb'.holds i r' hi
   ·rw[fn,kV];exact hr β' hβ
  ·rcases old hi with⟨aC,hi⟩|⟨rfl,rfl⟩
   ·rw[fo aC]at hk;exact hb'.lt i r' hi k hk
   ·rw[fn]at hk;exact(hf k hk).2
  ·rcases old hi with⟨aC,hi2⟩|⟨ei,e1⟩
   ·rcases old hj with⟨hlt',ij⟩|⟨ej,e2⟩
    ·rw[fo aC]at hk;rw[fo hlt']at hk';exact hb'.sep i j r1 r2 hi2 ij bp hm k hk hk'
    ·rw[ej]at hk'
     rw[fo aC]at hk;rw[fn]at hk'
     have:=zb i r1 hi2 k hk
     have:=(hf k hk').1
     omega
   ·rcases old hj with⟨hlt',ij⟩|⟨ej,e2⟩
    ·rw[ei]at hk
     rw[fn]at hk;rw[fo hlt']at hk'
     have:=zb j r2 ij k hk'
     have:=(hf k hk).1
     omega
    ·exact bp (ei.trans ej.symm)
 ·rcases old hi with⟨aC,hi⟩|⟨rfl,rfl⟩
  ·rw[fo aC]at hk;exact h'.cC i r' hi hm k hk
  ·rw[fn]at hk;exact .inl (zJl h.fr.size (hf k hk).1)
 ·have hl:=h.tv.len
  exact⟨fun i hi=>(h.tv.zE i hi).trans (ez β _ _ i (by omega)),by rw[zJn];omega⟩
 ·rcases old hi with⟨aC,hi⟩|⟨rfl,rfl⟩
  ·rw[fo aC]at hk;exact h'.lU i r' hi k hk
  ·rw[fn]at hk;exact .inl (zJl h.fr.size (hf k hk).1)
theorem Wd.alloc (h:Wd F β fp bs w)(c:List SV)(T:TypeId)(arr:Array Value)(cC:Bool)
 (harr:∀ β',bC (bs.length+1) (nO β bs.length ⟨w.heap.size,0,0⟩) β'→arr=(c.map (ah β')).toArray) :
 Wd F (nO β bs.length ⟨w.heap.size,0,0⟩) (nZ fp bs.length (·=w.heap.size)) (bs++[.cells c T cC]) (w.alloc (.cells arr T)):=by
 refine h.more ((Below.refl _ _).alloc (zJp _) _) _ ⟨w.heap.size,0,0⟩ _ (fun β' hβ=>⟨rfl,⟨[],(0,0),⟨?_,.inr (zJp _)⟩,rfl⟩,fun k=>Iff.rfl⟩) (fun k hk=>?_)
 ·show (w.alloc (.cells arr T)).heap[w.heap.size]? = _
  rw[cz,harr β' hβ,List.append_nil]
 ·subst hk
  exact⟨zJp _,by rw[size_alloc];omega⟩
theorem Wd.swap (h:Wd F β fp bs w){i:Nat}{r0:aw}(hi:bs[i]? = some r0)(hm:r0.cC=true){w':World}(jM:mJ (fp i) w w')(r:aw)(b:Bt)(f:Nat→Prop)
 (hr:∀ β',bC (bs.length+1) (nO β bs.length b) β'→Holds β' b f w' r) (hf:∀ k,f k→(fp i k∨w.heap.size≤k)∧k<w'.heap.size) :
 Wd F (nO β bs.length b) (fun j k=>if j=bs.length then f k else j≠i∧fp j k) (bs.set i .gone++[r]) w':=by
 have sX:i<bs.length:=(zJh.1 hi).1
 have old:∀ {j:Nat} {r':aw},(bs.set i .gone++[r])[j]? = some r'→(j<bs.length∧j≠i∧bs[j]? = some r')∨(j=i∧r'=.gone)∨(j=bs.length∧r'=r):=fun {j r'} hj=>by
  rcases Nat.lt_or_ge j bs.length with aC|rC
  ·rw[List.getElem?_append_left (by simpa using aC)]at hj
   by_cases lR:j=i
   ·subst lR
    rw[List.getElem?_set_self sX]at hj
    exact .inr (.inl ⟨rfl,by simpa using hj.symm⟩)
   ·rw[List.getElem?_set_ne (fun e=>lR e.symm)]at hj
    exact .inl ⟨aC,lR,hj⟩
  ·have hj':j=bs.length:=by
    have:=(zJh.1 hj).1
    rw[zJn,zJq,zJv]at this
    omega
   subst hj'
   rw[zJt (by simp)]at hj
   simp at hj
   exact .inr (.inr ⟨rfl,hj.symm⟩)
 have fB:=h.bx β (bC.refl _ _)
 have zb:=fB.lt
 have za:∀ j r',bs[j]? = some r'→j≠i→∀ k,fp j k→w'.heap[k]? = w.heap[k]? := fun j r' hj bp k hk =>
  jM.block k (zb j r' hj k hk) (fun hk'=>fB.sep j i r' r0 hj hi bp (.inr hm) k hk hk')
 have fo:∀ {j:Nat},j<bs.length→j≠i→(fun k=>if j=bs.length then f k else j≠i∧fp j k)=fp j:=fun {j} hj bp=>by funext k;simp[show j≠bs.length by omega,bp]
 refine⟨⟨jM.os.trans h.fr.os,jM.tape.trans h.fr.tape,jM.output.trans h.fr.output,zJl h.fr.size jM.size,fun k hk hn=>?_⟩,fun β' hβ=>?_,fun j r' hj hm' k hk=>?_,?_,fun j r' hj k hk=>?_⟩
 ·rw[jM.block k (zJm hk h.fr.size) (fun hk'=>?_)]
  ·exact h.fr.block k hk hn
  ·rcases h.cC i r0 hi hm k hk' with h1|h1
   ·omega
   ·exact hn h1
 ·rw[zJn,zJq,zJv]at hβ
  have hb':=h.bx β' hβ.dz
  have kV:β' bs.length=b:=by rw[← hβ bs.length (by omega),fZ]
  refine⟨fun j r' hj=>?_,fun j r' hj k hk=>?_,fun j l r1 r2 hj hl bp iY k hk hk'=>?_⟩
  ·rcases old hj with⟨aC,bp,ij⟩|⟨ej,e2⟩|⟨ej,e2⟩
   ·simp only[fo aC bp]
    exact(hb'.holds j r' ij).stays (fun k hk=>za j r' ij bp k hk)
   ·subst ej e2
    intro k hk
    simp[show j≠bs.length by omega]at hk
   ·subst ej e2
    simp only[if_true,kV]
    exact hr β' hβ
  ·rcases old hj with⟨aC,bp,ij⟩|⟨ej,e2⟩|⟨ej,e2⟩
   ·simp only[if_neg (show j≠bs.length by omega)]at hk
    exact zJm (zb j r' ij k hk.2) jM.size
   ·subst ej
    simp[show j≠bs.length by omega]at hk
   ·subst ej
    simp only[if_true]at hk
    exact(hf k hk).2
  ·rcases old hj with⟨aC,hnj,ij⟩|⟨ej,e2⟩|⟨ej,e2⟩
   ·simp only[if_neg (show j≠bs.length by omega)]at hk
    rcases old hl with⟨hlt',sA,gW⟩|⟨el,e3⟩|⟨el,e3⟩
    ·simp only[if_neg (show l≠bs.length by omega)]at hk'
     exact fB.sep j l r1 r2 ij gW bp iY k hk.2 hk'.2
    ·subst el;simp[show l≠bs.length by omega]at hk'
    ·subst el
     simp only[if_true]at hk'
     rcases (hf k hk').1 with h1|h1
     ·exact fB.sep j i r1 r0 ij hi hnj (.inr hm) k hk.2 h1
     ·have:=zb j r1 ij k hk.2
      omega
   ·subst ej;simp[show j≠bs.length by omega]at hk
   ·subst ej
    simp only[if_true]at hk
    rcases old hl with⟨hlt',sA,gW⟩|⟨el,e3⟩|⟨el,e3⟩
    ·simp only[if_neg (show l≠bs.length by omega)]at hk'
     rcases (hf k hk).1 with h1|h1
     ·exact fB.sep l i r2 r0 gW hi sA (.inr hm) k hk'.2 h1
     ·have:=zb l r2 gW k hk'.2
      omega
    ·subst el;simp[show l≠bs.length by omega]at hk'
    ·exact bp el.symm
 ·rcases old hj with⟨aC,bp,ij⟩|⟨ej,e2⟩|⟨ej,e2⟩
  ·simp only[if_neg (show j≠bs.length by omega)]at hk
   exact h.cC j r' ij hm' k hk.2
  ·subst e2;cases hm'
  ·subst ej
   simp only[if_true]at hk
   rcases (hf k hk).1 with h1|h1
   ·exact h.cC i r0 hi hm k h1
   ·exact .inl (zJl h.fr.size h1)
 ·have hl:=h.tv.len
  exact⟨fun j hj=>(h.tv.zE j hj).trans (ez β _ _ j (by omega)),by rw[zJn,zJv];omega⟩
 ·rcases old hj with⟨aC,bp,ij⟩|⟨ej,e2⟩|⟨ej,e2⟩
  ·simp only[if_neg (show j≠bs.length by omega)]at hk
   exact h.lU j r' ij k hk.2
  ·subst ej;simp[show j≠bs.length by omega]at hk
  ·subst ej
   simp only[if_true]at hk
   rcases (hf k hk).1 with h1|h1
   ·exact h.lU i r0 hi k h1
   ·exact .inl (zJl h.fr.size h1)
theorem lj {i:Nat}{c:List SV}{T:TypeId}{m:Bool}(h:iH bs i=some (c,T,m)):∃ r,bs[i]? = some r∧r.cC=m∧(r=.cells c T m∨∃ s n,r=.own c T s n m):=by
 unfold iH at h
 split at h
 ·rename_i e;cases h;exact⟨_,e,rfl,.inl rfl⟩
 ·rename_i e;cases h;exact⟨_,e,rfl,.inr ⟨_,_,rfl⟩⟩
 ·cases h
theorem EF {i:Nat}{c:List SV}{T:TypeId}{m:Bool}(h:iH bs i=some (c,T,m)):i<bs.length:=by
 obtain⟨r,hr,-⟩:=lj h
 exact(zJh.1 hr).1
theorem Wd.sS (h:Wd F β fp bs w){i:Nat}{c:List SV}{T:TypeId}{m:Bool}(hg:iH bs i=some (c,T,m)){β':Nat→Bt}(hβ:bC bs.length β β') :
 mF w (β' i).cK (β' i).off (c.map (ah β')):=by
 obtain⟨r,hr,-,hc⟩:=lj hg
 have hh:=(h.bx β' hβ).holds i r hr
 rcases hc with rfl|⟨s,n,rfl⟩
 ·obtain⟨h0,⟨rest,fz,hd,-⟩,-⟩:=hh
  rw[h0];exact hd.sS
 ·rcases hh with⟨-,-,h3,-⟩|⟨-,-,-,-,h5,-⟩
  ·subst h3;intro j v hv;simp at hv
  ·exact h5
theorem qb {w:World}{b off:Nat}{u v:List Value}(hl:u.length=v.length)(h1:mF w b off u)(h2:mF w b off v):u=v:=by
 apply List.ext_getElem?
 intro j
 rcases hu:u[j]? with _|x
 ·have:v[j]? = none:=by rw[List.getElem?_eq_none_iff]at hu ⊢;omega
  rw[this]
 ·rcases hv:v[j]? with _|y
  ·have:j<u.length:=(zJh.1 hu).1
   rw[List.getElem?_eq_none_iff]at hv;omega
  ·have e1:=h1 j x hu
   rw[h2 j y hv]at e1
   exact e1.symm
theorem Wd.zE (h:Wd F β fp bs w){i:Nat}{c:List SV}{T:TypeId}{m:Bool}(hg:iH bs i=some (c,T,m)){β':Nat→Bt}(hβ:bC bs.length β β'):c.map (ah β)=c.map (ah β'):=by
 have h1:=h.sS hg (bC.refl _ β)
 have h2:=h.sS hg hβ
 rw[← hβ i (EF hg)]at h2
 exact qb (by simp) h1 h2
theorem yf {i:Nat}{r:aw}(h:bs[i]? = some r)(c:List SV):tP bs i c=bs.set i (tO c r):=by unfold tP;rw[h]
theorem Fa (c:List SV)(r:aw):(tO c r).cC=r.cC:=by cases r <;> rfl
theorem Ae (i:Nat)(c:List SV):(tP bs i c).length=bs.length:=by unfold tP;split <;> simp
theorem Wd.store (h:Wd F β fp bs w){i:Nat}{c:List SV}{T:TypeId}(hg:iH bs i=some (c,T,true)){off:Nat}{ys:List SV}(hys:∀ β',bC bs.length β β'→ys.map (ah β)=ys.map (ah β'))(h1:ys.all one=true)(hl:off+ys.length≤c.length)(P:Program) :
 ∃ w',(storeCells ⟨(β i).cK,(β i).off+off,none⟩ (ys.map (ah β))).run P w=Result.ok () w'∧Wd F β fp (tP bs i (Xs c off ys)) w':=by
 obtain⟨r,hr,hm,hc⟩:=lj hg
 have sX:i<bs.length:=EF hg
 have hh:=(h.bx β (bC.refl _ _)).holds i r hr
 rcases Nat.eq_zero_or_pos ys.length with h0|Dr
 ·have:ys=[]:=List.eq_nil_of_length_eq_zero h0
  subst this
  refine⟨w,rfl,?_⟩
  have e:tP bs i (Xs c off [])=bs:=by
   have:Xs c off []=c:=by simp[Xs]
   rw[this,yf hr]
   apply List.ext_getElem?
   intro j
   by_cases lR:j=i
   ·subst lR
    rw[List.getElem?_set_self sX,hr]
    rcases hc with rfl|⟨s,n,rfl⟩ <;> rfl
   ·rw[List.getElem?_set_ne (fun e=>lR e.symm)]
  rw[e];exact h
 -- the block, whatever it is
 have key:(β i).off=0∧(∃ rest fz T',Head w (β i).cK T' (c.map (ah β)) rest fz)∧∀ k,fp i k↔k=(β i).cK:=by
  rcases hc with rfl|⟨s,n,rfl⟩
  ·obtain⟨k0,⟨rest,fz,hd,-⟩,k3⟩:=hh
   exact⟨k0,⟨rest,fz,_,hd⟩,k3⟩
  ·rcases hh with⟨-,-,h3,-⟩|⟨-,-,-,-,-,h6,h7⟩
   ·rw[h3]at hl;simp only[List.length_nil]at hl;omega
   ·obtain⟨k0,rest,fz,hd,-⟩:=h6 rfl
    exact⟨k0,⟨rest,fz,_,hd⟩,h7⟩
 obtain⟨By,⟨rest,fz,T',hd⟩,Dz⟩:=key
 have bJ:=bP (P:=P) (β i).cK off T' fz (ys.map (ah β)) 0 _ w hd.1 (by simp;omega) (by have:=hd.2;simp at this ⊢;omega) (fun v hv=>by
  simp only[List.mem_map]at hv
  obtain⟨x,hx,rfl⟩:=hv
  exact gm (List.all_eq_true.1 h1 x hx) β)
 have e:(List.take (off+0) (c.map (ah β)++rest)++ys.map (ah β)++List.drop (off+0+(ys.map (ah β)).length) (c.map (ah β)++rest))=(Xs c off ys).map (ah β)++rest:=by
  simp only[Nat.add_zero,zJu,Xs,List.map_append,List.map_take,List.map_drop]
  rw[List.take_append_of_le_length (by simp;omega),List.drop_append_of_le_length (by simp;omega)]
  simp
 simp only[e]at bJ
 rw[By,Nat.zero_add]
 refine⟨_,bJ,?_⟩
 have za:∀ k,k≠(β i).cK→(w.setRow (β i).cK ((Xs c off ys).map (ah β)++rest).toArray).heap[k]? = w.heap[k]? := fun k hk=>setRow_other _ _ _ _ hk
 have gX:∀ β',bC bs.length β β'→Head (w.setRow (β i).cK ((Xs c off ys).map (ah β)++rest).toArray) (β i).cK T' ((Xs c off ys).map (ah β')) rest fz:=fun β' hβ=>by
  have ea:(Xs c off ys).map (ah β)=(Xs c off ys).map (ah β'):=by
   simp only[Xs,List.map_append,List.map_take,List.map_drop,hys β' hβ,h.zE hg hβ]
  refine⟨?_,?_⟩
  ·rw[setRow_heap _ _ _ _ _ _ hd.1,ea]
  ·have:=hd.2
   simp[Xs]at this ⊢
   omega
 have jD:=yf hr (Xs c off ys)
 have slen:(Xs c off ys).length=c.length:=by simp[Xs];omega
 rw[jD]
 have old:∀ {j r'},(bs.set i (tO (Xs c off ys) r))[j]? = some r'→(j≠i∧bs[j]? = some r')∨(j=i∧r'=tO (Xs c off ys) r):=fun {j r'} hj=>by
  by_cases lR:j=i
  ·subst lR
   rw[List.getElem?_set_self sX]at hj
   exact .inr ⟨rfl,by simpa using hj.symm⟩
  ·rw[List.getElem?_set_ne (fun e=>lR e.symm)]at hj
   exact .inl ⟨lR,hj⟩
 have oldr:∀ {j:Nat} {r':aw},(bs.set i (tO (Xs c off ys) r))[j]? = some r'→∃ r0:aw,bs[j]? = some r0∧r0.cC=r'.cC:=fun {j r'} hj=>by
  rcases old hj with⟨-,hj⟩|⟨rfl,rfl⟩
  ·exact⟨r',hj,rfl⟩
  ·exact⟨r,hr,(Fa _ _).symm⟩
 refine⟨⟨h.fr.os,h.fr.tape,h.fr.output,by simpa using h.fr.size,fun k hk hn=>(za k (fun e=>?_)).trans (h.fr.block k hk hn)⟩,fun β' hβ=>?_,fun j r' hj hm' k hk=>?_,?_,fun j r' hj k hk=>?_⟩
 ·rcases h.cC i _ hr hm k ((Dz k).2 e) with h1|h1
  ·omega
  ·exact hn h1
 ·rw[zJv]at hβ
  have hb:=h.bx β' hβ
  have hhb:=hb.holds i r hr
  refine⟨fun j r' hj=>?_,fun j r' hj k hk=>?_,fun j l r1 r2 hj hl' bp iY=>?_⟩
  ·rcases old hj with⟨lR,hj⟩|⟨rfl,rfl⟩
   ·refine(hb.holds j r' hj).stays (fun k hk=>za k (fun e=>?_))
    exact hb.sep j i r' r hj hr lR (.inr hm) k hk ((Dz k).2 e)
   ·have hn:=gX β' hβ
    rw[← hβ j sX]
    rw[← hβ j sX]at hhb
    rcases hc with rfl|⟨s,n,rfl⟩
    ·have:T'=T:=by
      obtain⟨-,⟨rest',fz',hd',-⟩,-⟩:=hhb
      have:=hd'.1
      rw[hd.1]at this
      injection this with this
      injection this
     subst this
     have H3:rest=[]:=by
      obtain⟨-,⟨rest',fz',hd',hr'⟩,-⟩:=hhb
      have:=hd'.1
      rw[hd.1]at this
      injection this with this
      injection this with this
      have:=congrArg Array.size this
      subst hr'
      simp at this
      exact this
     exact⟨By,⟨rest,fz,hn,H3⟩,Dz⟩
    ·rcases hhb with⟨-,-,h3,-⟩|⟨k1,k2,k3,k4,k5,k6,k7⟩
     ·rw[h3]at hl;simp only[List.length_nil]at hl;omega
     ·obtain⟨-,rest',fz',hd',hfr',kS⟩:=k6 rfl
      have EA:=hd'.1
      rw[hd.1]at EA
      injection EA with EA
      injection EA with gd hT wD
      subst hT wD
      have hrl:rest'.length=rest.length:=by
       have:=congrArg Array.size gd
       simp at this
       omega
      refine .inr ⟨k1,k2,k3,by rw[slen];exact k4,by rw[By];exact hn.sS,fun _=>⟨By,rest,fz,hn,by rw[slen,← hrl];exact hfr',by rw[slen,← hrl];exact kS⟩,k7⟩
  ·obtain⟨r0,H4,-⟩:=oldr hj
   rw[setRow_size]
   exact hb.lt j r0 H4 k hk
  ·obtain⟨r3,hr3,e3⟩:=oldr hj
   obtain⟨r4,hr4,e4⟩:=oldr hl'
   exact hb.sep j l r3 r4 hr3 hr4 bp (by rw[e3,e4];exact iY)
 ·obtain⟨r0,H4,e0⟩:=oldr hj
  exact h.cC j r0 H4 (e0.trans hm') k hk
 ·exact⟨h.tv.zE,by rw[zJv];exact h.tv.len⟩
 ·obtain⟨r0,H4,-⟩:=oldr hj
  exact h.lU j r0 H4 k hk
theorem wp_of_value {o:Oper}{a:Act}{v:Value}{w w':World}{next:Act→World→Prop}{Q:Exit→Act→World→Prop}(h:(execOp a.eval o).run V.P w=Result.ok (.value v) w')(hn:next (a.put o.dst v) w'):o.wp V.P a w next Q:=by
 unfold Oper.wp
 rw[h]
 exact hn
theorem wp_of_skip {o:Oper}{a:Act}{w w':World}{next:Act→World→Prop}{Q:Exit→Act→World→Prop}(h:(execOp a.eval o).run V.P w=Result.ok .skip w')(hn:next (a.put o.dst undef) w'):o.wp V.P a w next Q:=by
 unfold Oper.wp
 rw[h]
 exact hn
theorem wX (T:TypeId)(ti:TI)(hT:V.Γ T=some ti)(w:World) :
 (Instr.alloc T true (.tuple #[])).run V.P w=Result.ok (.pointer (some ⟨w.heap.size,0,none⟩)) (w.alloc (.cells (ti.zero.map (ah kH)).toArray T)):=by
 obtain⟨z,hz,hc⟩:=(V.gZ T ti hT).zero w
 simp[Instr.alloc,hz,newVar,newRow,hc]
theorem run_box (T:TypeId)(v:Value)(w:World) :
 (Instr.box T v).run V.P w=Result.ok (.pointer (some ⟨w.heap.size,0,none⟩)) (w.alloc (.cells v.cells T)):=by
 simp[Instr.box,newVar,newRow]
theorem dj (b o j:Nat):(⟨b,o,none⟩:Addr).add j=⟨b,o+j,none⟩:=by unfold Addr.add;split <;> simp_all
theorem run_load (T:TypeId)(ti:TI)(hT:V.Γ T=some ti){c:List SV}{β:Nat→Bt}{b base off:Nat}{x:SV}(hx:XM ti.agg off ti.size c=some x)(hl:off+ti.size≤c.length)
 (hh:mF w b base (c.map (ah β))):(Instr.loadAt T (.pointer (some ⟨b,base+off,none⟩))).run V.P w=Result.ok (ah β x) w:=by
 have hz:=(V.gZ T ti hT).size w
 have ha:=(V.gZ T ti hT).agg w
 unfold XM at hx
 cases hg:ti.agg
 ·rw[hg]at ha hx
  simp only[zwc,if_false]at hx
  have hc':=hh off (ah β x) (by rw[zJo,hx];rfl)
  simp[Instr.loadAt,Instr.sureAddr,loadVar,ha,hc']
 ·rw[hg]at ha hx
  simp only[if_true,zgk.injEq]at hx
  subst hx
  have hlen:(((c.drop off).take ti.size).map (ah β)).length=ti.size:=by simp;omega
  have:=run_loadCells_list (P:=V.P) w ⟨b,base+off,none⟩ (((c.drop off).take ti.size).map (ah β)) (fun j v hv=>by
   rw[dj,Nat.add_assoc]
   refine hh (off+j) v ?_
   simp only[zJo,List.getElem?_take,List.getElem?_drop]at hv ⊢
   split at hv
   ·exact hv
   ·simp at hv)
  rw[hlen]at this
  simp[Instr.loadAt,Instr.sureAddr,loadVar,ha,hz,this,ah,bV]
theorem Ap (h:Wd F β fp bs w)(T:TypeId)(s:Nat)(hT:sz V.Γ T=some s){i off:Nat}{c:List SV}{T':TypeId}{y:SV}(hg:iH bs i=some (c,T',true))(hy:∀ β',bC bs.length β β'→ah β y=ah β' y)(h1:(cells y).all one=true)(hs:(cells y).length=s)(hl:off+s≤c.length) :
 ∃ w',(Instr.storeAt T (.pointer (some ⟨(β i).cK,(β i).off+off,none⟩)) (ah β y)).run V.P w=Result.ok () w'∧Wd F β fp (tP bs i (Xs c off (cells y))) w':=by
 have hz:(Go.sizeOf T).run V.P w=Result.ok s w:=by
  unfold sz at hT
  cases ht:V.Γ T with
  | none=>simp[ht]at hT
  | some ti=>simp[ht]at hT;rw[← hT];exact(V.gZ T ti ht).size w
 have gd:=fy β y (oR h1)
 obtain⟨w',bJ,hw⟩:=h.store hg (off:=off) (ys:=cells y) (fun β' hβ=>by
  have e:=congrArg Value.cells (hy β' hβ)
  rw[fy β y (oR h1),fy β' y (oR h1)]at e
  simpa using e) h1 (by omega) V.P
 refine⟨w',?_,hw⟩
 simp[Instr.storeAt,Instr.sureAddr,storeVar,hz,gd,hs,bJ]
theorem DH {m:Nat}(h:Fm F β m t a){os:List Operand}{l:List SV}(e:xQ t os=some l){β':Nat→Bt}(hβ:bC m β β'):os.map a.eval=aJ β' l:=by
 rw[bV];exact tu (h.ok β' hβ) e
theorem lV {m:Nat}(h:Fm F β m t a){β':Nat→Bt}(hβ:bC m β β'):∀ {ps:List (Nat × Operand)}{l:List (Nat × SV)},Xl t ps=some l→ps.map (fun p=>(p.1,a.eval p.2))=l.map fun p=>(p.1,ah β' p.2)
 | [],l,e=>by simp[Xl]at e;subst e;rfl
 | (i,o)::r,l,e=>by
  simp only[Xl]at e
  split at e
  ·rename_i x hx
   split at e
   ·rename_i l' hl
    cases e
    simp[h.ev hx hβ,lV h hβ hl]
   ·cases e
  ·cases e
theorem ur {P:Program}(w:World):∀ (L:List Field),(∀ f∈L,∃ n,∀ w,(Go.sizeOf f.type).run P w=Result.ok n w) →
 ∃ pl:List (Nat × Nat),(L.mapM fun(f:Field)=>do pure (f.offset,← Go.sizeOf f.type)).run P w=Result.ok pl w∧∀ (i:Nat) (f:Field) (n:Nat),L[i]? = some f→(Go.sizeOf f.type).run P w=Result.ok n w→pl[i]? = some (f.offset,n)
 | [],_=>⟨[],by simp,by simp⟩
 | f::L,h=>by
   obtain⟨n,hn⟩:=h f (by simp)
   obtain⟨pl,fU,dD⟩:=ur w L (fun g hg=>h g (by simp[hg]))
   refine⟨(f.offset,n)::pl,?_,fun i g m hi hm=>?_⟩
   ·simp only[List.mapM_cons,Sem.run_bind,hn,Result.andThen_ok,Sem.run_pure,fU]
   ·cases i with
    | zero =>
      simp at hi
      subst hi
      rw[hn w]at hm
      injection hm with hm
      simp[hm]
    | succ i=>simp at hi ⊢;exact dD i g m hi hm
theorem EG (fs:List (Nat × TypeId))(F':Array Field)(hF:F'.toList.map (fun f=>(f.offset,f.type))=fs)(places:Array (Nat × Nat))(fU:∀ (i off:Nat)(T:TypeId),fs[i]? = some (off,T)→∀ n,sz V.Γ T=some n→places[i]? = some (off,n))(β:Nat→Bt) :
 ∀ (ps:List (Nat × SV)) (c c':List SV),XZ fs V.Γ ps c=some c'→Instr.fill (places[·]?) (c.map (ah β)).toArray (ps.map fun p=>(p.1,ah β p.2))=some (c'.map (ah β)).toArray
 | [],c,c',e=>by simp[XZ]at e;subst e;rfl
 | (i,x)::r,c,c',e=>by
  simp only[XZ]at e
  split at e
  ·rename_i off T hfs
   split at e
   ·rename_i n hn
    split at e
    ·rename_i lf
     obtain⟨hv,hl,ho⟩:=lf
     have ih:=EG fs F' hF places fU β r _ c' e
     have gd:=fy β x hv
     simp only[List.map_cons,Instr.fill,fU i off T hfs n hn,gd,List.size_toArray,zJu]
     rw[if_neg (by simp[hl];omega)]
     rw[← ih]
     congr 1
     have hz:=pw off ((cells x).map (ah β)) 0 (c.map (ah β)).toArray (by simp;omega)
     rw[← Array.foldl_toList,Array.toList_zipIdx]
     simp only[Nat.add_zero,zJu]at hz
     rw[hz]
     simp[Xs,List.map_take,List.map_drop]
    ·cases e
   ·cases e
  ·cases e
theorem run_build {m:Nat}{T:TypeId}{ti:TI}{fs:List (Nat × TypeId)}{ps:Array (Nat × Operand)}{l:List (Nat × SV)}{c:List SV}(hf:Fm F β m t a)(hT:V.Γ T=some ti)(hk:ti.kind=.struct fs)(hl:Xl t ps.toList=some l)(hc:XZ fs V.Γ l ti.zero=some c){β':Nat→Bt}(hβ:bC m β β')
 (dst:Option Tmp) (ty:TypeId) (pos:String) (after:Array Edge) (guard:Option (Nat × Bool)):(execOp a.eval { dst:=dst,op:=.build T ps,type:=ty,pos:=pos,after:=after,guard:=guard }).run V.P w=Result.ok (.value (ah β' (.agg c))) w:=by
 have bN:=V.gZ T ti hT
 obtain⟨d,hd,hs⟩:=bN.und
 rw[hk]at hs
 obtain⟨Fs,rfl,hF⟩:=hs
 obtain⟨z,hz,Gj⟩:=bN.zero w
 have mH:=bN.flat
 obtain⟨pl,fU,dD⟩:=ur (P:=V.P) w Fs.toList (fun f hf'=>by
  have:=bN.flds fs hk (f.offset,f.type) (by rw[← hF];exact List.mem_map_of_mem hf')
  exact this)
 have hpl':(Fs.mapM fun(f:Field)=>do pure (f.offset,← Go.sizeOf f.type)).run V.P w=Result.ok pl.toArray w:=by
  rw[Array.mapM_eq_mapM_toList]
  rw[Sem.run_map,fU]
  rfl
 have hps:=lV hf hβ hl
 have qs:=EG (V:=V) fs Fs hF pl.toArray (fun i off T' hi n hn=>by
  rw[← hF]at hi
  simp only[zJo,zJk,zJj.injEq]at hi
  obtain⟨fl,hfl',rfl,rfl⟩:=hi
  have kS:(Go.sizeOf fl.type).run V.P w=Result.ok n w:=by
   unfold sz at hn
   cases ht:V.Γ fl.type with
   | none=>simp[ht]at hn
   | some ti'=>simp[ht]at hn;rw[← hn];exact(V.gZ _ ti' ht).size w
  simpa using dD i fl n hfl' kS) β' l ti.zero c hc
 rw[← hps,mH β',← Gj]at qs
 refine bO ?_
 simp only[Instr.build,Sem.run_bind,hz,Result.andThen_ok,run_underlying hd,hpl',Array.toList_map,qs,ah,bV]
 rfl
theorem zo {f:FuncId}{l:List SV}{σ:St}{K:St→Prop}{β:Nat→Bt}{fp:Nat→Nat→Prop}{a:Act}{w:World}(hf:Fm F β σ.b.length σ.t a)(hw:Wd F β fp σ.b w)(o:Oper)(bU:fits F.n o.dst=true)(nA:Enters V f→∀ β',bC σ.b.length β β'→(execOp a.eval o).run V.P w=Result.ok (.enter f (aJ β' l).toArray) w)
 (h:(∃ r,PC V f l r∧K ⟨put o.dst r σ.t,σ.b⟩)∨(∃ R,SC V f l σ.b R∧∀ r bs,R r bs→K ⟨put o.dst r σ.t,bs⟩)) (Q:Exit→Act→World→Prop):o.wp V.P a w (fun a w=>∃ σ,K σ∧Rel F σ a w) Q:=by
 obtain⟨dst,op,ty,pos,after,guard⟩:=o
 simp only at bU h nA
 rcases h with⟨r,hpc,h⟩|⟨R,⟨jE,kU⟩,h⟩
 ·unfold Oper.wp
  rw[nA hpc.enters β (bC.refl _ _)]
  show Calls V.P f _ w _
  have mH:=dx _ hpc.fa β kH
  rw[mH]
  refine(hpc.calls w hw.env).mono ?_
  rintro e w' ⟨rfl,hb⟩
  exact⟨_,h,β,fp,hf.put bU (fun β' _=>fJ r hpc.fr kH β'),hw.below hb⟩
 ·unfold Oper.wp
  rw[nA jE β (bC.refl _ _)]
  show Calls V.P f _ w _
  refine(kU β fp w hw.bx (fun i r hi hm k hk=>?_) hw.env).mono ?_
  ·rcases hw.cC i r hi hm k hk with h1|h1
   ·exact zJl (V.oB _ F.e0) h1
   ·exact F.ownG k h1
  ·rintro e w' ⟨r,bs',β₂,fp₂,hR,hβ,hle,aP,jM,qm,qp⟩
   have he:=(aP β₂ (bC.refl _ _)).1
   subst he
   refine⟨_,h r bs' hR,β₂,fp₂,(hf.more hle hβ).put bU (fun β' hβ'=>?_),⟨?_,fun β' hβ'=>(aP β' hβ').2,fun i r' hi hm k hk=>?_,?_,fun i r' hi k hk=>?_⟩⟩
   ·have:=(aP β' hβ').1
    injection this
   ·refine⟨jM.os.trans hw.fr.os,jM.tape.trans hw.fr.tape,jM.output.trans hw.fr.output,zJl hw.fr.size jM.size,fun k hk hn=>?_⟩
    rw[jM.block k (zJm hk hw.fr.size) (fun⟨i,r,hi,hm,hk'⟩=>?_)]
    ·exact hw.fr.block k hk hn
    ·rcases hw.cC i r hi hm k hk' with h1|h1
     ·omega
     ·exact hn h1
   ·rcases qm i r' hi hm k hk with h1|⟨j,r0,hj,hm0,sW⟩
    ·exact .inl (zJl hw.fr.size h1)
    ·exact hw.cC j r0 hj hm0 k sW
   ·have eF:=hw.tv.len
    exact⟨fun i hi=>(hw.tv.zE i hi).trans (hβ i (by omega)),zJl eF hle⟩
   ·rcases qp i r' hi k hk with h1|⟨j,r0,hj,sW⟩
    ·exact .inl (zJl hw.fr.size h1)
    ·exact hw.lU j r0 hj k sW
theorem wM {dst:Option Tmp}{op:Op}{σ:St}{K:St→Prop}(h:vcO V F.n dst op σ K){a:Act}{w:World}(hr:Rel F σ a w)(o:Oper)(hd:o.dst=dst)(ho:o.op=op)(Q:Exit→Act→World→Prop) :
 o.wp V.P a w (fun a w=>∃ σ,K σ∧Rel F σ a w) Q:=by
 obtain⟨β,fp,hf,hw⟩:=hr
 obtain⟨bU,h⟩:=h
 subst hd ho
 split at h
 ·rename_i c x hp
  obtain⟨hc,hK⟩:=h
  refine wp_of_value (xa V.gZ (hf.ok β (bC.refl _ _)) hp hc w) ⟨_,hK,β,fp,hf.put bU (fun β' hβ=>?_),hw⟩
  have h1:=xa V.gZ (hf.ok β (bC.refl _ _)) hp hc w
  have h2:=xa V.gZ (hf.ok β' hβ) hp hc w
  rw[h1]at h2
  injection h2 with h2
  injection h2
 ·rename_i hpv
  clear hpv
  obtain⟨dst,op,ty,pos,after,guard⟩:=o
  simp only at bU h ⊢
  cases op <;> simp only[vcM]at h
  case alloc T =>
   split at h
   ·rename_i ti hT
    have bJ:(execOp a.eval { dst:=dst,op:=.alloc T,type:=ty,pos:=pos,after:=after,guard:=guard }).run V.P w=_:=bO (wX (V:=V) T ti hT w)
    have mH:=(V.gZ T ti hT).flat
    refine wp_of_value bJ ⟨_,h,nO β σ.b.length ⟨w.heap.size,0,0⟩,nZ fp σ.b.length (·=w.heap.size),?_,hw.alloc ti.zero T _ true (fun β' _=>by rw[mH β'])⟩
    exact(hf.more (by simp) (ez _ _ _)).put bU (fun β' hβ=>by simp only[ah];rw[← hβ σ.b.length (by simp),fZ])
   ·cases h
  case box T x =>
   split at h
   ·rename_i y hy
    obtain⟨hv,h⟩:=h
    have bJ:(execOp a.eval { dst:=dst,op:=.box T x,type:=ty,pos:=pos,after:=after,guard:=guard }).run V.P w=_:=bO (run_box (V:=V) T (a.eval x) w)
    refine wp_of_value bJ ⟨_,h,nO β σ.b.length ⟨w.heap.size,0,0⟩,nZ fp σ.b.length (·=w.heap.size),?_,hw.alloc (cells y) T _ true (fun β' hβ=>?_)⟩
    ·exact(hf.more (by simp) (ez _ _ _)).put bU (fun β' hβ=>by simp only[ah];rw[← hβ σ.b.length (by simp),fZ])
    ·rw[hf.ev hy hβ.dz,fy β' y hv]
   ·cases h
  case load T x =>
   split at h
   ·rename_i i off hx
    split at h
    ·rename_i c T' m hg
     split at h
     ·rename_i ti hT
      obtain⟨hl,h⟩:=h
      split at h
      ·rename_i y hy
       have bJ:∀ β',bC σ.b.length β β'→(execOp a.eval { dst:=dst,op:=.load T x,type:=ty,pos:=pos,after:=after,guard:=guard }).run V.P w=Result.ok (.value (ah β' y)) w:=fun β' hβ=>by
        have:=run_load (V:=V) T ti hT hy hl (hw.sS hg hβ)
        have hx':=hf.ev hx hβ
        simp only[ah]at hx'
        rw[← hx']at this
        exact bO this
       refine wp_of_value (bJ β (bC.refl _ _)) ⟨_,h,β,fp,hf.put bU (fun β' hβ=>?_),hw⟩
       have h1:=bJ β (bC.refl _ _)
       rw[bJ β' hβ]at h1
       injection h1 with h1
       injection h1 with h1
       exact h1.symm
      ·cases h
     ·cases h
    ·cases h
   ·cases h
  case store T x y =>
   split at h
   ·rename_i i off hx
    split at h
    ·rename_i y' hy
     split at h
     ·rename_i c T' m hg
      split at h
      ·rename_i s hs
       obtain⟨⟨hm,H9,hlen,hl⟩,h⟩:=h
       subst hm
       have hx':=hf.ev hx (bC.refl _ β)
       simp only[ah]at hx'
       have hy':=hf.ev hy (bC.refl _ β)
       obtain⟨w',bJ,hw'⟩:=Ap hw T s hs hg (y:=y') (fun β' hβ=>by rw[← hf.ev hy hβ,hy']) H9 hlen hl
       rw[← hx',← hy']at bJ
       have hrun':(execOp a.eval { dst:=dst,op:=.store T x y,type:=ty,pos:=pos,after:=after,guard:=guard }).run V.P w=Result.ok .skip w':=by
        show Sem.run V.P (do Instr.storeAt T (a.eval x) (a.eval y);pure Next.skip) w=_
        rw[Sem.run_bind,bJ]
        rfl
       refine wp_of_skip hrun' ⟨_,h,β,fp,?_,hw'⟩
       exact(hf.more (by rw[Ae];exact zJp _) (bC.refl _ _)).put bU (fun β' _=>rfl)
      ·cases h
     ·cases h
    ·cases h
   ·cases h
  case nilCheck x =>
   split at h
   ·rename_i i off hx
    refine wp_of_value (v:=a.eval x) (w':=w) ?_ ⟨_,h,β,fp,hf.put bU (fun β' hβ=>hf.ev hx hβ),hw⟩
    simp only[execOp]
    rw[hf.ev hx (bC.refl _ β)]
    rfl
   ·rename_i f l hx
    obtain⟨hfn,h⟩:=h
    refine wp_of_value (v:=a.eval x) (w':=w) ?_ ⟨_,h,β,fp,hf.put bU (fun β' hβ=>hf.ev hx hβ),hw⟩
    simp only[execOp]
    rw[hf.ev hx (bC.refl _ β)]
    simp only[ah]
    cases f <;> first|rfl|cases hfn
   ·rename_i f l hx
    refine wp_of_value (v:=a.eval x) (w':=w) ?_ ⟨_,h,β,fp,hf.put bU (fun β' hβ=>hf.ev hx hβ),hw⟩
    simp only[execOp]
    rw[hf.ev hx (bC.refl _ β)]
    rfl
   ·cases h
  case call cl =>
   obtain⟨callee,args,ts⟩:=cl
   cases callee <;> simp only at h
   case value fo =>
    split at h
    ·rename_i f caps hfo
     split at h
     ·rename_i l hl
      have hN:∀ β',bC σ.b.length β β'→args.map a.eval=(aJ β' l).toArray:=fun β' hβ=>by
       have:=DH hf hl hβ
       rw[← this]
       exact Array.ext' (by simp)
      have nA:Enters V f→∀ β',bC σ.b.length β β'→(execOp a.eval { dst:=dst,op:=.call ⟨.value fo,args,ts⟩,type:=ty,pos:=pos,after:=after,guard:=guard }).run V.P w=Result.ok (.enter f (aJ β' (l++caps)).toArray) w:=fun he β' hβ=>by
       have h1:=hf.ev hfo hβ
       have h2:=hN β' hβ
       show Sem.run V.P (do let d ← resolve a.eval ⟨.value fo,args,ts⟩ ty;invoke d.target d.args) w=_
       simp only[resolve,h1,h2,ah,Deferred.ofValue,Sem.run_bind,Sem.run_pure,Result.andThen_ok,invoke]
       simp[bV]
       exact he _ _
      exact zo hf hw _ bU nA h Q
     ·cases h
    ·rename_i f first hfo
     split at h
     ·rename_i l hl
      have hN:∀ β',bC σ.b.length β β'→args.map a.eval=(aJ β' l).toArray:=fun β' hβ=>by
       have:=DH hf hl hβ
       rw[← this]
       exact Array.ext' (by simp)
      have nA:Enters V f→∀ β',bC σ.b.length β β'→(execOp a.eval { dst:=dst,op:=.call ⟨.value fo,args,ts⟩,type:=ty,pos:=pos,after:=after,guard:=guard }).run V.P w=Result.ok (.enter f (aJ β' (first++l)).toArray) w:=fun he β' hβ=>by
       have h1:=hf.ev hfo hβ
       have h2:=hN β' hβ
       show Sem.run V.P (do let d ← resolve a.eval ⟨.value fo,args,ts⟩ ty;invoke d.target d.args) w=_
       simp only[resolve,h1,h2,ah,Deferred.ofValue,Sem.run_bind,Sem.run_pure,Result.andThen_ok,invoke]
       simp[bV]
       exact he _ _
      exact zo hf hw _ bU nA h Q
     ·cases h
    ·cases h
   case invoke rc name =>
    split at h
    ·rename_i T x hx
     split at h
     ·rename_i f hM
      split at h
      ·rename_i l hl
       have hN:∀ β',bC σ.b.length β β'→args.map a.eval=(aJ β' l).toArray:=fun β' hβ=>by
        have:=DH hf hl hβ
        rw[← this]
        exact Array.ext' (by simp)
       have nA:Enters V f→∀ β',bC σ.b.length β β'→(execOp a.eval { dst:=dst,op:=.call ⟨.invoke rc name,args,ts⟩,type:=ty,pos:=pos,after:=after,guard:=guard }).run V.P w=Result.ok (.enter f (aJ β' (x::l)).toArray) w:=fun he β' hβ=>by
        have h1:=hf.ev hx hβ
        have h2:=hN β' hβ
        show Sem.run V.P (do let d ← resolve a.eval ⟨.invoke rc name,args,ts⟩ ty;invoke d.target d.args) w=_
        simp only[resolve,h1,h2,ah,Sem.run_bind,Sem.run_pure,Result.andThen_ok,invoke]
        have e0:(#[Value.iface T (ah β' x)]++(aJ β' l).toArray)[0]? = some (Value.iface T (ah β' x)):=by simp
        have e1:(#[Value.iface T (ah β' x)]++(aJ β' l).toArray).extract 1 (#[Value.iface T (ah β' x)]++(aJ β' l).toArray).size=(aJ β' l).toArray:=by simp
        rw[e0]
        simp only[e1]
        rw[V.mok T name f hM,show #[ah β' x]++(aJ β' l).toArray=(aJ β' (x::l)).toArray by simp[aJ]]
        exact he _ _
       exact zo hf hw _ bU nA h Q
      ·cases h
     ·cases h
    ·cases h
  case build T ps =>
   split at h
   ·rename_i ti hT
    split at h
    ·rename_i fs hk
     split at h
     ·rename_i l hl
      split at h
      ·rename_i c hc
       have bJ:=fun β' (hβ:bC σ.b.length β β')=>run_build (w:=w) hf hT hk hl hc hβ dst ty pos after guard
       refine wp_of_value (bJ β (bC.refl _ _)) ⟨_,h,β,fp,hf.put bU (fun β' hβ=>?_),hw⟩
       have h1:=bJ β (bC.refl _ _)
       rw[bJ β' hβ]at h1
       injection h1 with h1
       injection h1 with h1
       exact h1.symm
      ·cases h
     ·cases h
    ·cases h
   ·cases h
end
open Go Go.RowKit Wf
theorem least {p:Nat→Prop}(h:∃ n,p n):∃ n,p n∧∀ k,p k→n≤k:=by
 obtain⟨n,hn⟩:=h
 induction n using Nat.strongRecOn with
 | _ n ih =>
   by_cases h:∃ k,k<n∧p k
   ·obtain⟨k,hk,hp⟩:=h
    exact ih k hk hp
   ·exact⟨n,hn,fun k hk=>Nat.le_of_not_lt fun aC=>h ⟨k,aC,hk⟩⟩
section
variable {V:Cx} {F:Fx V}
theorem gval_ok {ops:Array Oper}{σt:List (Nat × SV)}{β:Nat→Bt}{a:Act}(hf:jL β F.n σt a){j d:Nat}{b:Bool}(h:gval (ops.toList.map (·.dst)) σt j=some (d,b)) :
 yielded ops a.tmps j=some b∧a.tmps.getD d undef=.bool b:=by
 unfold gval at h
 split at h
 ·rename_i d' hd
  split at h
  ·rename_i b' hb
   cases h
   have hg:=hf.get _ _ hb
   simp only[ah]at hg
   refine⟨?_,hg⟩
   have hd':(ops[j]?).bind (·.dst)=some d:=by
    simp only[zJo,zJk]at hd
    obtain⟨o,ho,hod⟩:=hd
    rw[show ops[j]? = some o by simpa using ho]
    simpa using hod
   have aC:d<a.tmps.size:=by
    rcases Nat.lt_or_ge d a.tmps.size with h' | h'
    ·exact h'
    ·simp[h']at hg;cases hg
   unfold yielded
   rw[hd']
   simp[aC]at hg ⊢
   rw[hg]
  ·cases h
 ·cases h
theorem Fm.relit {β:Nat→Bt}{m:Nat}{t:List (Nat × SV)}{a:Act}(h:Fm F β m t a){d:Nat}{x:SV}(hx:∀ β',bC m β β'→a.tmps.getD d undef=ah β' x):Fm F β m ((d,x)::t) a :=
 ⟨fun β' hβ=>⟨(h.ok β' hβ).size,(h.ok β' hβ).defers,fun e y hy=>by
  simp only[lk]at hy
  split at hy
  ·rename_i he;subst he;cases hy;exact hx β' hβ
  ·exact(h.ok β' hβ).get e y hy⟩⟩
def Fi (V:Cx)(σ:St):ResultVar→Option SV
 | .tmp t=>lk t σ.t
 | .cell p T=>match lk p σ.t with
   | some (.p i off)=>match iH σ.b i with
     | some (c,_,_)=>match V.Γ T with
       | some ti=>if off+ti.size≤c.length then XM ti.agg off ti.size c else none
       | none=>none
     | none=>none
   | _=>none
def XT (V:Cx)(σ:St):List ResultVar→Option (List SV)
 | []=>some []
 | r::rs=>match Fi V σ r with
   | some x=>match XT V σ rs with
     | some l=>some (x::l)
     | none=>none
   | none=>none
def qV:List SV→SV
 | [x]=>x
 | l=>.eR l
def kret (V:Cx)(rs:List ResultVar)(K:SV→List aw→Prop):Exit→St→Prop
 | .ret,σ=>match XT V σ rs with
   | some l=>K (qV l) σ.b
   | none=>False
 | .normal,σ=>match XT V σ rs with
   | some l=>K (qV l) σ.b
   | none=>False
 | _,_=>False
def tQ (tmps:Array Value):ResultVar→Sem Value
 | .tmp t=>pure (tmps.getD t undef)
 | .cell p t=>do loadVar t (← asAddr (tmps.getD p undef))
theorem resS_ok {σ:St}{r:ResultVar}{x:SV}(h:Fi V σ r=some x){β:Nat→Bt}{fp:Nat→Nat→Prop}{a:Act}{w:World}(hf:Fm F β σ.b.length σ.t a)(hw:Wd F β fp σ.b w){β':Nat→Bt}(hβ:bC σ.b.length β β') :
 Sem.run V.P (tQ a.tmps r) w=Result.ok (ah β' x) w:=by
 cases r with
 | tmp t=>simp only[Fi]at h;simp only[tQ];rw[(hf.ok β' hβ).get t x h];rfl
 | cell p T =>
   simp only[Fi]at h
   split at h
   ·rename_i i off hp
    split at h
    ·rename_i c T' m hg
     split at h
     ·rename_i ti hT
      split at h
      ·rename_i hl
       have:=run_load (V:=V) T ti hT h hl (hw.sS hg hβ)
       simp only[tQ]
       rw[(hf.ok β' hβ).get p _ hp]
       simpa[ah,asAddr,Instr.loadAt,Instr.sureAddr] using this
      ·cases h
     ·cases h
    ·cases h
   ·cases h
theorem Ar {σ:St}{β:Nat→Bt}{fp:Nat→Nat→Prop}{a:Act}{w:World}(hf:Fm F β σ.b.length σ.t a)(hw:Wd F β fp σ.b w){β':Nat→Bt}(hβ:bC σ.b.length β β') :
 ∀ (rs:List ResultVar) (l:List SV),XT V σ rs=some l→(rs.mapM (tQ a.tmps)).run V.P w=Result.ok (aJ β' l) w
 | [],l,h=>by simp[XT]at h;subst h;simp[aJ]
 | r::rs,l,h=>by
   simp only[XT]at h
   split at h
   ·rename_i x hx
    split at h
    ·rename_i l' hl
     cases h
     rw[List.mapM_cons,Sem.run_bind,resS_ok hx hf hw hβ,Result.andThen_ok,Sem.run_bind,Ar hf hw hβ rs l' hl]
     rfl
    ·cases h
   ·cases h
theorem oK {fn:Func}{σ:St}{β:Nat→Bt}{fp:Nat→Nat→Prop}{a:Act}{w:World}(hf:Fm F β σ.b.length σ.t a)(hw:Wd F β fp σ.b w){β':Nat→Bt}(hβ:bC σ.b.length β β'){l:List SV}(h:XT V σ fn.results.toList=some l) :
 (results fn a.tmps).run V.P w=Result.ok (ah β' (qV l)) w:=by
 have:=Ar hf hw hβ fn.results.toList l h
 show Sem.run V.P (do
  let vs ← fn.results.mapM (tQ a.tmps)
  pure (if h:vs.size=1 then vs[0] else .tuple vs)) w=_
 rw[Sem.run_bind,Array.mapM_eq_mapM_toList,Sem.run_map,this]
 simp only[Result.andThen_ok,Sem.run_pure]
 congr 1
 match l with
 | []=>simp[aJ,qV,ah]
 | [x]=>simp[aJ,qV]
 | x::y::r=>simp[aJ,qV,ah]
def Yj:Nat→List SV→List (Nat × SV)
 | _,[]=>[]
 | i,x::r=>(i,x)::Yj (i+1) r
theorem Bl (β:Nat→Bt):∀ (xs0:List SV)(i d:Nat)(x:SV),lk d (Yj i xs0)=some x→i≤d∧(aJ β xs0)[d - i]? = some (ah β x)
 | [],i,d,x,h=>by simp[Yj,lk]at h
 | y::r,i,d,x,h=>by
   simp only[Yj,lk]at h
   split at h
   ·rename_i e;subst e;cases h;simp[aJ]
   ·have:=Bl β r (i+1) d x h
    refine⟨by omega,?_⟩
    rw[show d - i=(d - (i+1))+1 by omega]
    simpa[aJ] using this.2
theorem zl (β:Nat→Bt)(l:List SV):(aJ β l).length=l.length:=by rw[bV];simp
def within (m:Nat):SV→Bool
 | .p i _=>decide (i<m)
 | .o i _=>decide (i<m)
 | .f i _=>decide (i<m)
 | .agg l=>aS l
 | .eR l=>aS l
 | .fn _ l=>aS l
 | .mv _ l=>aS l
 | .Ek _ x=>within m x
 | _=>true
where aS:List SV→Bool
 | []=>true
 | x::r=>within m x&&aS r
mutual
theorem sI (m:Nat)(x:SV)(h:within m x=true)(β β':Nat→Bt)(hb:bC m β β'):ah β x=ah β' x:=by
 cases x <;> simp only[within,decide_eq_true_eq]at h <;> simp only[ah]
 ·rw[hb _ h]
 ·rw[hb _ h]
 ·rw[hb _ h]
 ·rw[ax m _ h β β' hb]
 ·rw[ax m _ h β β' hb]
 ·rw[ax m _ h β β' hb]
 ·rw[ax m _ h β β' hb]
 ·rw[sI m _ h β β' hb]
theorem ax (m:Nat)(l:List SV)(h:within.aS m l=true)(β β':Nat→Bt)(hb:bC m β β'):aJ β l=aJ β' l:=by
 cases l with
 | nil=>rfl
 | cons x r =>
   simp only[within.aS,Bool.and_eq_true]at h
   simp only[aJ]
   rw[sI m x h.1 β β' hb,ax m r h.2 β β' hb]
end
theorem sc_core {V:Cx}{f:FuncId}{fn:Func}{c:Code}{args:List SV}{bs:List aw}{R:SV→List aw→Prop}{n:Nat}{rs:Array ResultVar}(hf:V.P.funcs[f]? = some fn)(hb:fn.body=some c)(hn:fn.ntmps=n)(hr:fn.results=rs)(jE:Enters V f)
 (hlen:args.length≤n) (kU:∀ β β',bC bs.length β β'→aJ β args=aJ β' args) (h:∀ F:Fx V,F.n=n→∀ a w,Rel F ⟨Yj 0 args,bs⟩ a w→c.wp V.P (Qof F (kret V rs.toList R)) a w):SC V f args bs R:=by
 subst hn hr
 refine⟨jE,fun β fp w gC hG hE=>?_⟩
 let F:Fx V:=⟨fn.ntmps,w,fun k=>∃ i r,bs[i]? = some r∧r.cC=true∧fp i k,hE,fun k ⟨i,r,hi,hm,hk⟩=>hG i r hi hm k hk,β,bs,fun k=>∃ i r,bs[i]? = some r∧fp i k⟩
 refine calls_of_wp hf hb ?_
 have hrel:Rel F ⟨Yj 0 args,bs⟩ { tmps:=(aJ β args).toArray++Array.replicate (fn.ntmps - (aJ β args).toArray.size) undef,defers:=[] } w:=by
  refine⟨β,fp,⟨fun β' hβ=>⟨by simp[zl,F];omega,rfl,fun d x hd=>?_⟩⟩,⟨mJ.refl _ _,gC,fun i r hi hm k hk=>.inr ⟨i,r,hi,hm,hk⟩,⟨bC.refl _ _,zJp _⟩,fun i r hi k hk=>.inr ⟨i,r,hi,hk⟩⟩⟩
  have h1:=(Bl β' args 0 d x hd).2
  rw[Nat.sub_zero]at h1
  rw[kU β β' hβ]
  have aC:d<(aJ β' args).length:=(zJh.1 h1).1
  have h2:((aJ β' args).toArray++Array.replicate (fn.ntmps - (aJ β' args).toArray.size) undef)[d]? = some (ah β' x):=by
   rw[Array.getElem?_append_left (by simpa using aC)]
   simpa using h1
  rw[zJr,h2]
  rfl
 refine wp_mono (h F rfl _ w hrel) ?_
 rintro e a w' ⟨σ,hk,β₂,fp₂,hfm,mB⟩
 have key:∀ l,XT V σ fn.results.toList=some l→R (qV l) σ.b→a.defers=[]∧∃ v,(results fn a.tmps).run V.P w'=Result.ok v w'∧(∃ r bs' β₂ fp₂,R r bs'∧bC bs.length β β₂∧bs.length≤bs'.length∧(∀ β',bC bs'.length β₂ β'→Ending.returned v=.returned (ah β' r)∧vE β' fp₂ w' bs') ∧
  mJ (fun k=>∃ i r,bs[i]? = some r∧r.cC=true∧fp i k) w w' ∧
  (∀ i r',bs'[i]? = some r'→r'.cC=true→∀ k,fp₂ i k→w.heap.size≤k∨∃ j r,bs[j]? = some r∧r.cC=true∧fp j k) ∧
  (∀ i r',bs'[i]? = some r'→∀ k,fp₂ i k→w.heap.size≤k∨∃ j r,bs[j]? = some r∧fp j k)):=by
  intro l hl hR
  refine⟨(hfm.ok β₂ (bC.refl _ _)).defers,_,oK hfm mB (bC.refl _ β₂) hl,qV l,σ.b,β₂,fp₂,hR,mB.tv.zE,mB.tv.len,fun β' hβ=>⟨?_,mB.bx β' hβ⟩,mB.fr,mB.cC,mB.lU⟩
  have h1:=oK hfm mB (bC.refl _ β₂) hl
  rw[oK hfm mB hβ hl]at h1
  injection h1 with h1
  rw[h1]
 cases e <;> simp only[kret]at hk
 case normal =>
  split at hk
  ·rename_i l hl;exact key l hl hk
  ·cases hk
 case ret =>
  split at hk
  ·rename_i l hl;exact key l hl hk
  ·cases hk
theorem G9 {V:Cx}{f:FuncId}{args:List SV}{r:SV}(fa:flat.ai args=true)(fr:flat r=true)(h:SC V f args [] fun r' _=>r'=r):PC V f args r:=by
 refine⟨h.1,fa,fr,fun w hE=>?_⟩
 refine(h.2 kH (fun _ _=>False) w (fun β' _=>⟨by simp,by simp,by simp⟩) (by simp) hE).mono ?_
 rintro e w' ⟨r',bs',β₂,fp₂,rfl,-,-,aP,jM,-⟩
 refine⟨?_,?_⟩
 ·rw[(aP β₂ (bC.refl _ _)).1,fJ r' fr β₂ kH]
 ·exact⟨jM.os,jM.tape,jM.output,jM.size,fun k hk=>jM.block k hk (by simp)⟩
end
end Vc
