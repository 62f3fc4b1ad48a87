/- Texts of this claim, laid together: Ty, Shelf, Plain, Small, V. -/
import Derived.Test.YtnmlimehgifadaaGreatDoorProg
import Derived.Shelf.Strings.Builder1
import Derived.Shelf.Strings.Builder2
import Derived.Shelf.Strings.OnBuilder
import Derived.Shelf.Small.Utf8
import Derived.Shelf.Small.Strs
import Derived.Shelf.Small.Wraps
import Derived.Shelf.Strings.BuilderF
import Derived.Shelf.Strings.BuilderK
import Derived.Shelf.Strings.Search1
import Derived.Shelf.Strings.Search2
import Derived.Shelf.Strings.Search3
import Derived.Shelf.Strings.Cut
import Derived.Shelf.Strings.Count
import Derived.Shelf.LaysM
import Derived.Shelf.Strings.Shaped
import Derived.Shelf.Strings.LastIndex
import Derived.Shelf.Strings.Prefix
import Derived.Shelf.Strings.Split
import Derived.Shelf.Strings.SplitShaped
import Derived.Shelf.Strings.Runes
import Derived.Shelf.Strings.IndexAny
import Derived.Shelf.Strings.AsciiSet
import Derived.Shelf.Strings.IndexAnyAll
import Derived.Shelf.Unicode.DecodeSlow
import Derived.Lib.IndexMore
import Derived.Lib.Split
import Derived.Lib.SplitLaws
import Derived.Lib.CutLaws
import Derived.Test.YtnmlimehgifadaaGreatDoorW1
open List renaming toArray → zJ3, mem_cons → zJ4, mem_cons_self → zJ5, mem_cons_of_mem → zJ6, length_cons → zJ7
set_option linter.all false
set_option maxHeartbeats 16000000
set_option maxRecDepth 20000
namespace Go.Proofs
open Go Vc
set_option maxRecDepth 100000
def Tryz.Γl:List (Nat × Vc.TI):=[(3,⟨1,8,false,[.int .i64 0],.int .i64,false⟩),(4,⟨1,1,false,[.bool false],.bool,false⟩),(5,⟨1,1,false,[.int .u8 0],.int .u8,false⟩),(9,⟨1,16,false,[.str []],.str,false⟩),(22,⟨1,24,false,[.ah],.slice 5,false⟩),(24,⟨2,24,true,[.str [],.int .i64 0],.struct [(0,9),(1,3)],true⟩),(25,⟨1,8,false,[.int .u64 0],.int .u64,false⟩),(27,⟨1,24,false,[.ah],.slice 33,false⟩),(33,⟨7,80,true,[.str [],.int .i64 0,.str [],.str [],.int .i64 0,.int .u64 0,.int .u64 0],.struct [(0,9),(1,3),(2,9),(3,9),(4,3),(5,25),(6,25)],true⟩),(35,⟨7,80,true,[.str [],.int .i64 0,.str [],.str [],.str [],.bool false,.bool false],.struct [(0,9),(1,3),(2,9),(3,9),(4,9),(5,4),(6,4)],true⟩),(39,⟨1,24,false,[.ah],.slice 24,false⟩),(46,⟨1,24,false,[.ah],.slice 100,false⟩),(48,⟨3,40,true,[.int .i64 0,.int .i64 0,.ah],.struct [(0,3),(1,3),(2,46)],false⟩),(73,⟨4,48,true,[.int .i64 0,.str [],.str [],.int .i64 0],.struct [(0,3),(1,9),(2,9),(3,3)],true⟩),(76,⟨1,24,false,[.ah],.slice 9,false⟩),(80,⟨1,24,true,[.ah],.struct [(0,22)],false⟩),(82,⟨9,88,true,[.str [],.str [],.str [],.str [],.str [],.bool false,.bool false,.bool false,.bool false],.struct [(0,9),(1,9),(2,9),(3,9),(4,9),(5,4),(6,4),(7,4),(8,4)],true⟩),(94,⟨4,48,true,[.str [],.int .i64 0,.str [],.int .u64 0],.struct [(0,24),(2,9),(3,25)],true⟩),(97,⟨2,24,true,[.str [],.int .i64 0],.struct [(0,9),(1,3)],true⟩),(100,⟨2,32,true,[.str [],.str []],.struct [(0,9),(1,9)],true⟩),(110,⟨2,32,true,[.str [],.str []],.struct [(0,9),(1,9)],true⟩),(115,⟨2,32,true,[.str [],.str []],.struct [(0,9),(1,9)],true⟩),(123,⟨2,32,true,[.str [],.str []],.struct [(0,9),(1,9)],true⟩),(130,⟨1,24,false,[.ah],.slice 232,false⟩),(132,⟨6,112,true,[.str [],.str [],.str [],.str [],.ah,.ah],.struct [(0,9),(1,9),(2,9),(3,9),(4,130),(5,130)],false⟩),(133,⟨1,24,false,[.ah],.slice 132,false⟩),(135,⟨4,88,true,[.str [],.ah,.ah,.ah],.struct [(0,9),(1,76),(2,130),(3,133)],false⟩),(137,⟨1,24,false,[.ah],.slice 139,false⟩),(139,⟨4,72,true,[.int .i64 0,.str [],.ah,.ah],.struct [(0,3),(1,9),(2,76),(3,137)],false⟩),(175,⟨1,24,false,[.ah],.slice 225,false⟩),(177,⟨1,24,false,[.ah],.slice 223,false⟩),(179,⟨5,112,true,[.str [],.ah,.ah,.ah,.ah],.struct [(0,9),(1,76),(2,76),(3,177),(4,175)],false⟩),(183,⟨1,24,false,[.ah],.slice 3,false⟩),(197,⟨1,24,false,[.ah],.slice 237,false⟩),(225,⟨3,64,true,[.str [],.ah,.ah],.struct [(0,9),(1,76),(2,76)],false⟩),(237,⟨3,64,true,[.str [],.ah,.ah],.struct [(0,9),(1,76),(2,46)],false⟩),(243,⟨1,24,false,[.ah],.slice 5,false⟩)]
def Tryz.Γ:TypeId→Option Vc.TI:=fun T=>(Tryz.Γl.find? (fun p=>p.1==T)).map (·.2)
theorem Tryz.Γs:Tryz.Γ 3=some ⟨1,8,false,[.int .i64 0],.int .i64,false⟩∧Tryz.Γ 4=some ⟨1,1,false,[.bool false],.bool,false⟩∧Tryz.Γ 5=some ⟨1,1,false,[.int .u8 0],.int .u8,false⟩∧Tryz.Γ 9=some ⟨1,16,false,[.str []],.str,false⟩∧Tryz.Γ 22=some ⟨1,24,false,[.ah],.slice 5,false⟩∧Tryz.Γ 24=some ⟨2,24,true,[.str [],.int .i64 0],.struct [(0,9),(1,3)],true⟩∧Tryz.Γ 25=some ⟨1,8,false,[.int .u64 0],.int .u64,false⟩∧Tryz.Γ 27=some ⟨1,24,false,[.ah],.slice 33,false⟩∧Tryz.Γ 33=some ⟨7,80,true,[.str [],.int .i64 0,.str [],.str [],.int .i64 0,.int .u64 0,.int .u64 0],.struct [(0,9),(1,3),(2,9),(3,9),(4,3),(5,25),(6,25)],true⟩∧Tryz.Γ 35=some ⟨7,80,true,[.str [],.int .i64 0,.str [],.str [],.str [],.bool false,.bool false],.struct [(0,9),(1,3),(2,9),(3,9),(4,9),(5,4),(6,4)],true⟩∧Tryz.Γ 39=some ⟨1,24,false,[.ah],.slice 24,false⟩∧Tryz.Γ 46=some ⟨1,24,false,[.ah],.slice 100,false⟩∧Tryz.Γ 48=some ⟨3,40,true,[.int .i64 0,.int .i64 0,.ah],.struct [(0,3),(1,3),(2,46)],false⟩∧Tryz.Γ 73=some ⟨4,48,true,[.int .i64 0,.str [],.str [],.int .i64 0],.struct [(0,3),(1,9),(2,9),(3,3)],true⟩∧Tryz.Γ 76=some ⟨1,24,false,[.ah],.slice 9,false⟩∧Tryz.Γ 80=some ⟨1,24,true,[.ah],.struct [(0,22)],false⟩∧Tryz.Γ 82=some ⟨9,88,true,[.str [],.str [],.str [],.str [],.str [],.bool false,.bool false,.bool false,.bool false],.struct [(0,9),(1,9),(2,9),(3,9),(4,9),(5,4),(6,4),(7,4),(8,4)],true⟩∧Tryz.Γ 94=some ⟨4,48,true,[.str [],.int .i64 0,.str [],.int .u64 0],.struct [(0,24),(2,9),(3,25)],true⟩∧Tryz.Γ 97=some ⟨2,24,true,[.str [],.int .i64 0],.struct [(0,9),(1,3)],true⟩∧Tryz.Γ 100=some ⟨2,32,true,[.str [],.str []],.struct [(0,9),(1,9)],true⟩∧Tryz.Γ 110=some ⟨2,32,true,[.str [],.str []],.struct [(0,9),(1,9)],true⟩∧Tryz.Γ 115=some ⟨2,32,true,[.str [],.str []],.struct [(0,9),(1,9)],true⟩∧Tryz.Γ 123=some ⟨2,32,true,[.str [],.str []],.struct [(0,9),(1,9)],true⟩∧Tryz.Γ 130=some ⟨1,24,false,[.ah],.slice 232,false⟩∧Tryz.Γ 132=some ⟨6,112,true,[.str [],.str [],.str [],.str [],.ah,.ah],.struct [(0,9),(1,9),(2,9),(3,9),(4,130),(5,130)],false⟩∧Tryz.Γ 133=some ⟨1,24,false,[.ah],.slice 132,false⟩∧Tryz.Γ 135=some ⟨4,88,true,[.str [],.ah,.ah,.ah],.struct [(0,9),(1,76),(2,130),(3,133)],false⟩∧Tryz.Γ 137=some ⟨1,24,false,[.ah],.slice 139,false⟩∧Tryz.Γ 139=some ⟨4,72,true,[.int .i64 0,.str [],.ah,.ah],.struct [(0,3),(1,9),(2,76),(3,137)],false⟩∧Tryz.Γ 175=some ⟨1,24,false,[.ah],.slice 225,false⟩∧Tryz.Γ 177=some ⟨1,24,false,[.ah],.slice 223,false⟩∧Tryz.Γ 179=some ⟨5,112,true,[.str [],.ah,.ah,.ah,.ah],.struct [(0,9),(1,76),(2,76),(3,177),(4,175)],false⟩∧Tryz.Γ 183=some ⟨1,24,false,[.ah],.slice 3,false⟩∧Tryz.Γ 197=some ⟨1,24,false,[.ah],.slice 237,false⟩∧Tryz.Γ 225=some ⟨3,64,true,[.str [],.ah,.ah],.struct [(0,9),(1,76),(2,76)],false⟩∧Tryz.Γ 237=some ⟨3,64,true,[.str [],.ah,.ah],.struct [(0,9),(1,76),(2,46)],false⟩∧Tryz.Γ 243=some ⟨1,24,false,[.ah],.slice 5,false⟩ :=
 ⟨by kernel_rfl,by kernel_rfl,by kernel_rfl,by kernel_rfl,by kernel_rfl,by kernel_rfl,by kernel_rfl,by kernel_rfl,by kernel_rfl,by kernel_rfl,by kernel_rfl,by kernel_rfl,by kernel_rfl,by kernel_rfl,by kernel_rfl,by kernel_rfl,by kernel_rfl,by kernel_rfl,by kernel_rfl,by kernel_rfl,by kernel_rfl,by kernel_rfl,by kernel_rfl,by kernel_rfl,by kernel_rfl,by kernel_rfl,by kernel_rfl,by kernel_rfl,by kernel_rfl,by kernel_rfl,by kernel_rfl,by kernel_rfl,by kernel_rfl,by kernel_rfl,by kernel_rfl,by kernel_rfl,by kernel_rfl⟩
theorem Tryz.all_cons {α:Type}{P:α→Prop}{a:α}{l:List α}(h:P a)(t:∀ x∈l,P x):∀ x∈a::l,P x:=fun x hx=>by
 rcases zJ4.1 hx with rfl|hx
 ·exact h
 ·exact t x hx
theorem Tryz.mkN {T:TypeId}{sz y:Nat}{ag:Bool}{zr:List SV}{kd:Kd}{z:Value}{d:TypeDesc}(h1:∀ w,(Go.sizeOf T).run Tryz.prog w=Result.ok sz w)(h2:∀ w,(isAgg T).run Tryz.prog w=Result.ok ag w)(h3:∀ w,(zeroValue T).run Tryz.prog w=Result.ok z w)(h4:Tryz.prog.underlying T=some d)(i:TypeInfo)(h5:Tryz.prog.info? T=some i:=by kernel_rfl)(h6:i.zero=some z:=by rfl)(h7:i.size=sz:=by rfl)(h8:i.bytes=y:=by rfl)(e1:z.cells=(zr.map (ai pS)).toArray:=by simp[ai,Value.cells])(e2:∀ β,zr.map (ai β)=zr.map (ai pS):=by intro;simp[ai])(e3:zr.length=sz:=by rfl)(e4:cH kd d:=by first|trivial|rfl)(e5:∀ fs,kd≠.struct fs:=by intro _ h;cases h):JP Tryz.prog T ⟨sz,y,ag,zr,kd,false⟩:=⟨h1,h2,fun w=>⟨_,h3 w,e1⟩,e2,e3,⟨_,h4,e4⟩,fun fs h=>absurd h (e5 fs),fun h=>(by cases h),⟨i,z,h5,h6,h7,h8,e1⟩⟩
theorem Tryz.mkS {T : TypeId} {sz y : Nat} {zr : List SV} {fs : List (Nat × TypeId)} {z : Value} {d : TypeDesc} {cm : Bool} (h1 : ∀ w, (Go.sizeOf T).run Tryz.prog w = Result.ok sz w) (h2 : ∀ w, (isAgg T).run Tryz.prog w = Result.ok true w) (h3 : ∀ w, (zeroValue T).run Tryz.prog w = Result.ok z w) (h4 : Tryz.prog.underlying T = some d) (i : TypeInfo) (hf : ∀ f ∈ fs, ∃ n, ∀ w, (Go.sizeOf f.2).run Tryz.prog w = Result.ok n w) (h5 : Tryz.prog.info? T = some i := by kernel_rfl) (h6 : i.zero = some z := by rfl) (h7 : i.size = sz := by rfl) (h8 : i.bytes = y := by rfl) (e1 : z.cells = (zr.map (ai pS)).toArray := by simp [ai, Value.cells]) (e2 : ∀ β, zr.map (ai β) = zr.map (ai pS) := by intro; simp [ai]) (e3 : zr.length = sz := by rfl) (e4 : cH (.struct fs) d := by exact ⟨_, rfl, rfl⟩) (c : cm = true → Tryz.prog.stoodInHeld T = false ∧ Tryz.prog.eqGuardType Tryz.prog.depth T = false ∧ (Tryz.prog.fieldsOf T).all (fun f => f.name != "_") = true := by first | (intro h; cases h; done) | exact fun _ => ⟨by kernel_rfl, by kernel_rfl, by kernel_rfl⟩) : JP Tryz.prog T ⟨sz, y, true, zr, .struct fs, cm⟩ := ⟨h1, h2, fun w => ⟨_, h3 w, e1⟩, e2, e3, ⟨_, h4, e4⟩, fun fs h f hm => (by cases h; exact hf f hm), c, ⟨i, z, h5, h6, h7, h8, e1⟩⟩
theorem Tryz.fl {f:Nat × TypeId}{fs:List (Nat × TypeId)}{n:Nat}(h:∀ w,(Go.sizeOf f.2).run Tryz.prog w=Result.ok n w)(r:∀ f∈fs,∃ n,∀ w,(Go.sizeOf f.2).run Tryz.prog w=Result.ok n w):∀ g∈f::fs,∃ n,∀ w,(Go.sizeOf g.2).run Tryz.prog w=Result.ok n w:=fun g hg=>by
 rcases zJ4.1 hg with rfl|hg
 ·exact⟨n,h⟩
 ·exact r g hg
theorem Tryz.fz:∀ g∈([]:List (Nat × TypeId)),∃ n,∀ w,(Go.sizeOf g.2).run Tryz.prog w=Result.ok n w:=fun g hg=>by cases hg
theorem Tryz.ty35:JP Tryz.prog 35 ⟨7,80,true,[.str [],.int .i64 0,.str [],.str [],.str [],.bool false,.bool false],.struct [(0,9),(1,3),(2,9),(3,9),(4,9),(5,4),(6,4)],true⟩:=Tryz.mkS Tryz.sizeOf35 Tryz.isAgg35 Tryz.zeroValue35 Tryz.underlying35 Tryz.t35 (Tryz.fl Tryz.sizeOf9 (Tryz.fl Tryz.sizeOf3 (Tryz.fl Tryz.sizeOf9 (Tryz.fl Tryz.sizeOf9 (Tryz.fl Tryz.sizeOf9 (Tryz.fl Tryz.sizeOf4 (Tryz.fl Tryz.sizeOf4 Tryz.fz)))))))
theorem Tryz.ty62:JP Tryz.prog 62 ⟨9,96,true,[.str [],.int .i64 0,.str [],.str [],.str [],.bool false,.bool false,.int .i64 0,.int .i64 0],.struct [(0,35),(7,3),(8,36)],true⟩:=Tryz.mkS Tryz.sizeOf62 Tryz.isAgg62 Tryz.zeroValue62 Tryz.underlying62 Tryz.t62 (Tryz.fl Tryz.sizeOf35 (Tryz.fl Tryz.sizeOf3 (Tryz.fl Tryz.sizeOf36 Tryz.fz)))
theorem Tryz.ty100:JP Tryz.prog 100 ⟨2,32,true,[.str [],.str []],.struct [(0,9),(1,9)],true⟩:=Tryz.mkS Tryz.sizeOf100 Tryz.isAgg100 Tryz.zeroValue100 Tryz.underlying100 Tryz.t100 (Tryz.fl Tryz.sizeOf9 (Tryz.fl Tryz.sizeOf9 Tryz.fz))
theorem Tryz.gokl:∀ p∈Tryz.Γl,Vc.JP Tryz.prog p.1 p.2:=by
 unfold Tryz.Γl
 refine Tryz.all_cons (Tryz.mkN Tryz.sizeOf3 Tryz.isAgg3 Tryz.zeroValue3 Tryz.underlying3 Tryz.t3) ?_
 refine Tryz.all_cons (Tryz.mkN Tryz.sizeOf4 Tryz.isAgg4 Tryz.zeroValue4 Tryz.underlying4 Tryz.t4) ?_
 refine Tryz.all_cons (Tryz.mkN Tryz.sizeOf5 Tryz.isAgg5 Tryz.zeroValue5 Tryz.underlying5 Tryz.t5) ?_
 refine Tryz.all_cons (Tryz.mkN Tryz.sizeOf9 Tryz.isAgg9 Tryz.zeroValue9 Tryz.underlying9 Tryz.t9) ?_
 refine Tryz.all_cons (Tryz.mkN Tryz.sizeOf22 Tryz.isAgg22 Tryz.zeroValue22 Tryz.underlying22 Tryz.t22) ?_
 refine Tryz.all_cons (Tryz.mkS Tryz.sizeOf24 Tryz.isAgg24 Tryz.zeroValue24 Tryz.underlying24 Tryz.t24 (Tryz.fl Tryz.sizeOf9 (Tryz.fl Tryz.sizeOf3 Tryz.fz))) ?_
 refine Tryz.all_cons (Tryz.mkN Tryz.sizeOf25 Tryz.isAgg25 Tryz.zeroValue25 Tryz.underlying25 Tryz.t25) ?_
 refine Tryz.all_cons (Tryz.mkN Tryz.sizeOf27 Tryz.isAgg27 Tryz.zeroValue27 Tryz.underlying27 Tryz.t27) ?_
 refine Tryz.all_cons (Tryz.mkS Tryz.sizeOf33 Tryz.isAgg33 Tryz.zeroValue33 Tryz.underlying33 Tryz.t33 (Tryz.fl Tryz.sizeOf9 (Tryz.fl Tryz.sizeOf3 (Tryz.fl Tryz.sizeOf9 (Tryz.fl Tryz.sizeOf9 (Tryz.fl Tryz.sizeOf3 (Tryz.fl Tryz.sizeOf25 (Tryz.fl Tryz.sizeOf25 Tryz.fz)))))))) ?_
 refine Tryz.all_cons (Tryz.mkS Tryz.sizeOf35 Tryz.isAgg35 Tryz.zeroValue35 Tryz.underlying35 Tryz.t35 (Tryz.fl Tryz.sizeOf9 (Tryz.fl Tryz.sizeOf3 (Tryz.fl Tryz.sizeOf9 (Tryz.fl Tryz.sizeOf9 (Tryz.fl Tryz.sizeOf9 (Tryz.fl Tryz.sizeOf4 (Tryz.fl Tryz.sizeOf4 Tryz.fz)))))))) ?_
 refine Tryz.all_cons (Tryz.mkN Tryz.sizeOf39 Tryz.isAgg39 Tryz.zeroValue39 Tryz.underlying39 Tryz.t39) ?_
 refine Tryz.all_cons (Tryz.mkN Tryz.sizeOf46 Tryz.isAgg46 Tryz.zeroValue46 Tryz.underlying46 Tryz.t46) ?_
 refine Tryz.all_cons (Tryz.mkS Tryz.sizeOf48 Tryz.isAgg48 Tryz.zeroValue48 Tryz.underlying48 Tryz.t48 (Tryz.fl Tryz.sizeOf3 (Tryz.fl Tryz.sizeOf3 (Tryz.fl Tryz.sizeOf46 Tryz.fz)))) ?_
 refine Tryz.all_cons (Tryz.mkS Tryz.sizeOf73 Tryz.isAgg73 Tryz.zeroValue73 Tryz.underlying73 Tryz.t73 (Tryz.fl Tryz.sizeOf3 (Tryz.fl Tryz.sizeOf9 (Tryz.fl Tryz.sizeOf9 (Tryz.fl Tryz.sizeOf3 Tryz.fz))))) ?_
 refine Tryz.all_cons (Tryz.mkN Tryz.sizeOf76 Tryz.isAgg76 Tryz.zeroValue76 Tryz.underlying76 Tryz.t76) ?_
 refine Tryz.all_cons (Tryz.mkS Tryz.sizeOf80 Tryz.isAgg80 Tryz.zeroValue80 Tryz.underlying80 Tryz.t80 (Tryz.fl Tryz.sizeOf22 Tryz.fz)) ?_
 refine Tryz.all_cons (Tryz.mkS Tryz.sizeOf82 Tryz.isAgg82 Tryz.zeroValue82 Tryz.underlying82 Tryz.t82 (Tryz.fl Tryz.sizeOf9 (Tryz.fl Tryz.sizeOf9 (Tryz.fl Tryz.sizeOf9 (Tryz.fl Tryz.sizeOf9 (Tryz.fl Tryz.sizeOf9 (Tryz.fl Tryz.sizeOf4 (Tryz.fl Tryz.sizeOf4 (Tryz.fl Tryz.sizeOf4 (Tryz.fl Tryz.sizeOf4 Tryz.fz)))))))))) ?_
 refine Tryz.all_cons (Tryz.mkS Tryz.sizeOf94 Tryz.isAgg94 Tryz.zeroValue94 Tryz.underlying94 Tryz.t94 (Tryz.fl Tryz.sizeOf24 (Tryz.fl Tryz.sizeOf9 (Tryz.fl Tryz.sizeOf25 Tryz.fz)))) ?_
 refine Tryz.all_cons (Tryz.mkS Tryz.sizeOf97 Tryz.isAgg97 Tryz.zeroValue97 Tryz.underlying97 Tryz.t97 (Tryz.fl Tryz.sizeOf9 (Tryz.fl Tryz.sizeOf3 Tryz.fz))) ?_
 refine Tryz.all_cons (Tryz.mkS Tryz.sizeOf100 Tryz.isAgg100 Tryz.zeroValue100 Tryz.underlying100 Tryz.t100 (Tryz.fl Tryz.sizeOf9 (Tryz.fl Tryz.sizeOf9 Tryz.fz))) ?_
 refine Tryz.all_cons (Tryz.mkS Tryz.sizeOf110 Tryz.isAgg110 Tryz.zeroValue110 Tryz.underlying110 Tryz.t110 (Tryz.fl Tryz.sizeOf9 (Tryz.fl Tryz.sizeOf9 Tryz.fz))) ?_
 refine Tryz.all_cons (Tryz.mkS Tryz.sizeOf115 Tryz.isAgg115 Tryz.zeroValue115 Tryz.underlying115 Tryz.t115 (Tryz.fl Tryz.sizeOf9 (Tryz.fl Tryz.sizeOf9 Tryz.fz))) ?_
 refine Tryz.all_cons (Tryz.mkS Tryz.sizeOf123 Tryz.isAgg123 Tryz.zeroValue123 Tryz.underlying123 Tryz.t123 (Tryz.fl Tryz.sizeOf9 (Tryz.fl Tryz.sizeOf9 Tryz.fz))) ?_
 refine Tryz.all_cons (Tryz.mkN Tryz.sizeOf130 Tryz.isAgg130 Tryz.zeroValue130 Tryz.underlying130 Tryz.t130) ?_
 refine Tryz.all_cons (Tryz.mkS Tryz.sizeOf132 Tryz.isAgg132 Tryz.zeroValue132 Tryz.underlying132 Tryz.t132 (Tryz.fl Tryz.sizeOf9 (Tryz.fl Tryz.sizeOf9 (Tryz.fl Tryz.sizeOf9 (Tryz.fl Tryz.sizeOf9 (Tryz.fl Tryz.sizeOf130 (Tryz.fl Tryz.sizeOf130 Tryz.fz))))))) ?_
 refine Tryz.all_cons (Tryz.mkN Tryz.sizeOf133 Tryz.isAgg133 Tryz.zeroValue133 Tryz.underlying133 Tryz.t133) ?_
 refine Tryz.all_cons (Tryz.mkS Tryz.sizeOf135 Tryz.isAgg135 Tryz.zeroValue135 Tryz.underlying135 Tryz.t135 (Tryz.fl Tryz.sizeOf9 (Tryz.fl Tryz.sizeOf76 (Tryz.fl Tryz.sizeOf130 (Tryz.fl Tryz.sizeOf133 Tryz.fz))))) ?_
 refine Tryz.all_cons (Tryz.mkN Tryz.sizeOf137 Tryz.isAgg137 Tryz.zeroValue137 Tryz.underlying137 Tryz.t137) ?_
 refine Tryz.all_cons (Tryz.mkS Tryz.sizeOf139 Tryz.isAgg139 Tryz.zeroValue139 Tryz.underlying139 Tryz.t139 (Tryz.fl Tryz.sizeOf3 (Tryz.fl Tryz.sizeOf9 (Tryz.fl Tryz.sizeOf76 (Tryz.fl Tryz.sizeOf137 Tryz.fz))))) ?_
 refine Tryz.all_cons (Tryz.mkN Tryz.sizeOf175 Tryz.isAgg175 Tryz.zeroValue175 Tryz.underlying175 Tryz.t175) ?_
 refine Tryz.all_cons (Tryz.mkN Tryz.sizeOf177 Tryz.isAgg177 Tryz.zeroValue177 Tryz.underlying177 Tryz.t177) ?_
 refine Tryz.all_cons (Tryz.mkS Tryz.sizeOf179 Tryz.isAgg179 Tryz.zeroValue179 Tryz.underlying179 Tryz.t179 (Tryz.fl Tryz.sizeOf9 (Tryz.fl Tryz.sizeOf76 (Tryz.fl Tryz.sizeOf76 (Tryz.fl Tryz.sizeOf177 (Tryz.fl Tryz.sizeOf175 Tryz.fz)))))) ?_
 refine Tryz.all_cons (Tryz.mkN Tryz.sizeOf183 Tryz.isAgg183 Tryz.zeroValue183 Tryz.underlying183 Tryz.t183) ?_
 refine Tryz.all_cons (Tryz.mkN Tryz.sizeOf197 Tryz.isAgg197 Tryz.zeroValue197 Tryz.underlying197 Tryz.t197) ?_
 refine Tryz.all_cons (Tryz.mkS Tryz.sizeOf225 Tryz.isAgg225 Tryz.zeroValue225 Tryz.underlying225 Tryz.t225 (Tryz.fl Tryz.sizeOf9 (Tryz.fl Tryz.sizeOf76 (Tryz.fl Tryz.sizeOf76 Tryz.fz)))) ?_
 refine Tryz.all_cons (Tryz.mkS Tryz.sizeOf237 Tryz.isAgg237 Tryz.zeroValue237 Tryz.underlying237 Tryz.t237 (Tryz.fl Tryz.sizeOf9 (Tryz.fl Tryz.sizeOf76 (Tryz.fl Tryz.sizeOf46 Tryz.fz)))) ?_
 refine Tryz.all_cons (Tryz.mkN Tryz.sizeOf243 Tryz.isAgg243 Tryz.zeroValue243 Tryz.underlying243 Tryz.t243) ?_
 exact fun x hx=>by cases hx
theorem Tryz.iH:Vc.CU Tryz.prog Tryz.Γ:=by
 intro T t h
 unfold Tryz.Γ at h
 obtain⟨p,hp,rfl⟩:=Option.map_eq_some_iff.1 h
 have h1:=List.find?_some hp
 have h2:=List.mem_of_find?_eq_some hp
 obtain rfl:p.1=T:=by simpa using h1
 exact Tryz.gokl p h2
end Go.Proofs
namespace Go.Proofs
open Go.Shelf
def Tryz.BM:Go.Shelf.Ren:=⟨fun|119=>278|n=>n,fun|21=>21|4=>4|n=>n,fun|n=>n⟩
theorem Tryz.lays119:Go.Proofs.Lays.n119 Tryz.prog Tryz.BM:={
 mixed:=by kernel_rfl
 f119:=Tryz.func278.trans (congrArg some (by kernel_rfl))
 t4:=Tryz.underlying4
 a4:=Tryz.isAgg4
 z4:=Tryz.sizeOf4
 v4:=Tryz.zeroValue4
 t21:=Tryz.underlying21
 a21:=Tryz.isAgg21
 z21:=Tryz.sizeOf21
 v21:=Tryz.zeroValue21 }
theorem Tryz.utf8_ValidRune (r:Int)(w:World) :
 Calls Tryz.prog 278 #[.int .i32 r] w fun e w'=>e=.returned (.bool (Lib.validRune r))∧w'=w:=Any.utf8_ValidRune Tryz.lays119 r w
def Tryz.BL:Go.Shelf.Ren:=⟨fun|137=>209|217=>254|266=>279|n=>n,fun|9=>9|5=>5|3=>3|n=>n,fun|n=>n⟩
theorem Tryz.lays137:Go.Proofs.Lays.n137 Tryz.prog Tryz.BL:={
 mixed:=by kernel_rfl
 f137:=Tryz.func209.trans (congrArg some (by kernel_rfl))
 f217:=Tryz.func254.trans (congrArg some (by kernel_rfl))
 f266:=Tryz.func279.trans (congrArg some (by kernel_rfl))
 t3:=Tryz.underlying3
 a3:=Tryz.isAgg3
 z3:=Tryz.sizeOf3
 v3:=Tryz.zeroValue3
 t5:=Tryz.underlying5
 a5:=Tryz.isAgg5
 z5:=Tryz.sizeOf5
 v5:=Tryz.zeroValue5
 t9:=Tryz.underlying9
 a9:=Tryz.isAgg9
 z9:=Tryz.sizeOf9
 v9:=Tryz.zeroValue9 }
open Go.RowKit in
theorem Tryz.strings_IndexByte (s:ByteArray)(c:Int)(w:World) :
 Calls Tryz.prog 209 #[.string s,.int .u8 c] w fun e w'=>e=.returned (.int .i64 (Lib.indexByte s.data.toList c.toNat.toUInt8))∧w'=w:=Any.strings_IndexByte Tryz.lays137 s c w
def Tryz.lays210_ren:Go.Shelf.Ren:=⟨fun|210=>253|206=>186|n=>n,fun|9=>9|4=>4|3=>3|n=>n,fun|n=>n⟩
def Tryz.BN:Go.Shelf.Ren:=⟨fun|103=>208|210=>253|206=>186|n=>n,fun|9=>9|4=>4|24=>195|3=>3|n=>n,fun|n=>n⟩
theorem Tryz.lays103:Go.Proofs.Lays.n103 Tryz.prog Tryz.BN:={
 mixed:=by kernel_rfl
 f103:=Tryz.func208.trans (congrArg some (by kernel_rfl))
 f206:=Tryz.func186.trans (congrArg some (by kernel_rfl))
 f210:=Tryz.func253.trans (congrArg some (by kernel_rfl))
 t3:=Tryz.underlying3
 a3:=Tryz.isAgg3
 z3:=Tryz.sizeOf3
 v3:=Tryz.zeroValue3
 t4:=Tryz.underlying4
 a4:=Tryz.isAgg4
 z4:=Tryz.sizeOf4
 v4:=Tryz.zeroValue4
 t9:=Tryz.underlying9
 a9:=Tryz.isAgg9
 z9:=Tryz.sizeOf9
 v9:=Tryz.zeroValue9
 t24:=Tryz.underlying195
 a24:=Tryz.isAgg195
 z24:=Tryz.sizeOf195
 v24:=Tryz.zeroValue195 }
open Go.RowKit in
theorem Tryz.strings_CutPrefix (s p:ByteArray)(w:World) :
 Calls Tryz.prog 208 #[.string s,.string p] w fun e w'=>e=.returned (.tuple #[.string ⟨(Lib.trimPrefix s.data.toList p.data.toList).toArray⟩,.bool (Lib.hasPrefix s.data.toList p.data.toList)])∧w'=w:=Any.strings_CutPrefix Tryz.lays103 s p w
def Tryz.lays219_ren:Go.Shelf.Ren:=⟨fun|219=>222|217=>254|225=>262|224=>263|267=>264|266=>279|314=>280|n=>n,fun|9=>9|3=>3|4=>4|5=>5|46=>277|146=>290|51=>289|n=>n,fun|1=>0|n=>n⟩
def Tryz.BK:Go.Shelf.Ren:=⟨fun|144=>156|143=>169|219=>222|217=>254|225=>262|224=>263|267=>264|266=>279|314=>280|n=>n,fun|9=>9|4=>4|3=>3|5=>5|46=>277|146=>290|51=>289|n=>n,fun|1=>0|n=>n⟩
theorem Tryz.lays144:Go.Proofs.Lays.n144 Tryz.prog Tryz.BK:={
 mixed:=by kernel_rfl
 f143:=Tryz.func169.trans (congrArg some (by kernel_rfl))
 f144:=Tryz.func156.trans (congrArg some (by kernel_rfl))
 f217:=Tryz.func254.trans (congrArg some (by kernel_rfl))
 f219:=Tryz.func222.trans (congrArg some (by kernel_rfl))
 f224:=Tryz.func263.trans (congrArg some (by kernel_rfl))
 f225:=Tryz.func262.trans (congrArg some (by kernel_rfl))
 f266:=Tryz.func279.trans (congrArg some (by kernel_rfl))
 f267:=Tryz.func264.trans (congrArg some (by kernel_rfl))
 f314:=Tryz.func280.trans (congrArg some (by kernel_rfl))
 t3:=Tryz.underlying3
 a3:=Tryz.isAgg3
 z3:=Tryz.sizeOf3
 v3:=Tryz.zeroValue3
 t4:=Tryz.underlying4
 a4:=Tryz.isAgg4
 z4:=Tryz.sizeOf4
 v4:=Tryz.zeroValue4
 t5:=Tryz.underlying5
 a5:=Tryz.isAgg5
 z5:=Tryz.sizeOf5
 v5:=Tryz.zeroValue5
 t9:=Tryz.underlying9
 a9:=Tryz.isAgg9
 z9:=Tryz.sizeOf9
 v9:=Tryz.zeroValue9
 t46:=Tryz.underlying277
 a46:=Tryz.isAgg277
 z46:=Tryz.sizeOf277
 v46:=Tryz.zeroValue277
 t51:=Tryz.underlying289
 a51:=Tryz.isAgg289
 z51:=Tryz.sizeOf289
 v51:=Tryz.zeroValue289
 t146:=Tryz.underlying290
 a146:=Tryz.isAgg290
 z146:=Tryz.sizeOf290
 v146:=Tryz.zeroValue290
 g1:=by kernel_rfl }
open Go.RowKit Go.Lib in
theorem Tryz.strings_Contains_one (s:ByteArray)(c:UInt8)(w:World) :
 Calls Tryz.prog 156 #[.string s,.string ⟨#[c]⟩] w fun e w'=>e=.returned (.bool (decide (0≤Lib.indexByte s.data.toList c)))∧w'=w:=Any.strings_Contains_one Tryz.lays144 s c w
def Tryz.BJ:Go.Shelf.Ren:=⟨fun|145=>172|220=>224|219=>222|217=>254|225=>262|224=>263|267=>264|266=>279|314=>280|n=>n,fun|9=>9|4=>4|59=>214|3=>3|5=>5|46=>277|146=>290|51=>289|n=>n,fun|1=>0|n=>n⟩
theorem Tryz.lays145:Go.Proofs.Lays.n145 Tryz.prog Tryz.BJ:={
 mixed:=by kernel_rfl
 f145:=Tryz.func172.trans (congrArg some (by kernel_rfl))
 f217:=Tryz.func254.trans (congrArg some (by kernel_rfl))
 f219:=Tryz.func222.trans (congrArg some (by kernel_rfl))
 f220:=Tryz.func224.trans (congrArg some (by kernel_rfl))
 f224:=Tryz.func263.trans (congrArg some (by kernel_rfl))
 f225:=Tryz.func262.trans (congrArg some (by kernel_rfl))
 f266:=Tryz.func279.trans (congrArg some (by kernel_rfl))
 f267:=Tryz.func264.trans (congrArg some (by kernel_rfl))
 f314:=Tryz.func280.trans (congrArg some (by kernel_rfl))
 t3:=Tryz.underlying3
 a3:=Tryz.isAgg3
 z3:=Tryz.sizeOf3
 v3:=Tryz.zeroValue3
 t4:=Tryz.underlying4
 a4:=Tryz.isAgg4
 z4:=Tryz.sizeOf4
 v4:=Tryz.zeroValue4
 t5:=Tryz.underlying5
 a5:=Tryz.isAgg5
 z5:=Tryz.sizeOf5
 v5:=Tryz.zeroValue5
 t9:=Tryz.underlying9
 a9:=Tryz.isAgg9
 z9:=Tryz.sizeOf9
 v9:=Tryz.zeroValue9
 t46:=Tryz.underlying277
 a46:=Tryz.isAgg277
 z46:=Tryz.sizeOf277
 v46:=Tryz.zeroValue277
 t51:=Tryz.underlying289
 a51:=Tryz.isAgg289
 z51:=Tryz.sizeOf289
 v51:=Tryz.zeroValue289
 t59:=Tryz.underlying214
 a59:=Tryz.isAgg214
 z59:=Tryz.sizeOf214
 v59:=Tryz.zeroValue214
 t146:=Tryz.underlying290
 a146:=Tryz.isAgg290
 z146:=Tryz.sizeOf290
 v146:=Tryz.zeroValue290
 g1:=by kernel_rfl }
open Go.RowKit Go.Lib in
theorem Tryz.strings_Cut (s sep:ByteArray)(m:Int)(w:World)(hs:s.size<4294967281)(hm:w.cell? ⟨0,0,none⟩=some (.int .i64 m)) :
 Calls Tryz.prog 172 #[.string s,.string sep] w fun e w'=>e=.returned (.tuple #[.string ⟨(Lib.cut s.data.toList sep.data.toList).1.toArray⟩,.string ⟨(Lib.cut s.data.toList sep.data.toList).2.1.toArray⟩,.bool (Lib.cut s.data.toList sep.data.toList).2.2])∧∃ n,w'=w.drewN n:=Any.strings_Cut Tryz.lays145 s sep m w hs hm
def Tryz.lays222_ren:Go.Shelf.Ren:=⟨fun|222=>260|n=>n,fun|9=>9|5=>5|3=>3|4=>4|n=>n,fun|n=>n⟩
def Tryz.BH:Go.Shelf.Ren:=⟨fun|149=>214|222=>260|n=>n,fun|9=>9|5=>5|3=>3|4=>4|n=>n,fun|n=>n⟩
theorem Tryz.lays149:Go.Proofs.Lays.n149 Tryz.prog Tryz.BH:={
 mixed:=by kernel_rfl
 f149:=Tryz.func214.trans (congrArg some (by kernel_rfl))
 f222:=Tryz.func260.trans (congrArg some (by kernel_rfl))
 t3:=Tryz.underlying3
 a3:=Tryz.isAgg3
 z3:=Tryz.sizeOf3
 v3:=Tryz.zeroValue3
 t4:=Tryz.underlying4
 a4:=Tryz.isAgg4
 z4:=Tryz.sizeOf4
 v4:=Tryz.zeroValue4
 t5:=Tryz.underlying5
 a5:=Tryz.isAgg5
 z5:=Tryz.sizeOf5
 v5:=Tryz.zeroValue5
 t9:=Tryz.underlying9
 a9:=Tryz.isAgg9
 z9:=Tryz.sizeOf9
 v9:=Tryz.zeroValue9 }
open Go.RowKit Go.Lib in
theorem Tryz.strings_LastIndexByte (s:ByteArray)(c:Int)(hs:s.size<4611686018427387904)(w:World) :
 Calls Tryz.prog 214 #[.string s,.int .u8 c] w fun e w'=>e=.returned (.int .i64 (Lib.lastIndexByte s c))∧w'=w:=Any.strings_LastIndexByte Tryz.lays149 s c hs w
def Tryz.DT:Go.Shelf.Ren:=⟨fun|99=>115|206=>186|n=>n,fun|9=>9|4=>4|3=>3|n=>n,fun|n=>n⟩
theorem Tryz.lays99:Go.Proofs.Lays.n99 Tryz.prog Tryz.DT:={
 mixed:=by kernel_rfl
 f99:=Tryz.func115.trans (congrArg some (by kernel_rfl))
 f206:=Tryz.func186.trans (congrArg some (by kernel_rfl))
 t3:=Tryz.underlying3
 a3:=Tryz.isAgg3
 z3:=Tryz.sizeOf3
 v3:=Tryz.zeroValue3
 t4:=Tryz.underlying4
 a4:=Tryz.isAgg4
 z4:=Tryz.sizeOf4
 v4:=Tryz.zeroValue4
 t9:=Tryz.underlying9
 a9:=Tryz.isAgg9
 z9:=Tryz.sizeOf9
 v9:=Tryz.zeroValue9 }
open Go.RowKit Go.Lib in
theorem Tryz.strings_HasPrefix (s p:ByteArray)(w:World) :
 Calls Tryz.prog 115 #[.string s,.string p] w fun e w'=>e=.returned (.bool (Lib.hasPrefix s.data.toList p.data.toList))∧w'=w:=Any.strings_HasPrefix Tryz.lays99 s p w
def Tryz.BO:Go.Shelf.Ren:=⟨fun|101=>213|208=>259|206=>186|n=>n,fun|9=>9|4=>4|3=>3|n=>n,fun|n=>n⟩
theorem Tryz.lays101:Go.Proofs.Lays.n101 Tryz.prog Tryz.BO:={
 mixed:=by kernel_rfl
 f101:=Tryz.func213.trans (congrArg some (by kernel_rfl))
 f206:=Tryz.func186.trans (congrArg some (by kernel_rfl))
 f208:=Tryz.func259.trans (congrArg some (by kernel_rfl))
 t3:=Tryz.underlying3
 a3:=Tryz.isAgg3
 z3:=Tryz.sizeOf3
 v3:=Tryz.zeroValue3
 t4:=Tryz.underlying4
 a4:=Tryz.isAgg4
 z4:=Tryz.sizeOf4
 v4:=Tryz.zeroValue4
 t9:=Tryz.underlying9
 a9:=Tryz.isAgg9
 z9:=Tryz.sizeOf9
 v9:=Tryz.zeroValue9 }
open Go.RowKit Go.Lib in
theorem Tryz.strings_TrimPrefix (s p:ByteArray)(w:World) :
 Calls Tryz.prog 213 #[.string s,.string p] w fun e w'=>e=.returned (.string ⟨(Lib.trimPrefix s.data.toList p.data.toList).toArray⟩)∧w'=w:=Any.strings_TrimPrefix Tryz.lays101 s p w
def Tryz.lays221_ren:Go.Shelf.Ren:=⟨fun|221=>268|268=>283|138=>284|143=>169|195=>290|197=>291|218=>292|219=>222|260=>295|217=>254|225=>262|224=>263|267=>264|266=>279|314=>280|n=>n,fun|9=>9|3=>3|31=>76|4=>4|0=>0|105=>299|21=>21|5=>5|46=>277|119=>302|139=>305|138=>304|146=>290|51=>289|n=>n,fun|1=>0|3=>1|4=>2|n=>n⟩
def Tryz.BI:Go.Shelf.Ren:=⟨fun|146=>234|221=>268|268=>283|138=>284|143=>169|195=>290|197=>291|218=>292|219=>222|260=>295|217=>254|225=>262|224=>263|267=>264|266=>279|314=>280|n=>n,fun|9=>9|31=>76|3=>3|4=>4|0=>0|105=>299|21=>21|5=>5|46=>277|119=>302|139=>305|138=>304|146=>290|51=>289|n=>n,fun|1=>0|3=>1|4=>2|n=>n⟩
theorem Tryz.lays146:Go.Proofs.Lays.n146 Tryz.prog Tryz.BI:={
 mixed:=by kernel_rfl
 f138:=Tryz.func284.trans (congrArg some (by kernel_rfl))
 f143:=Tryz.func169.trans (congrArg some (by kernel_rfl))
 f146:=Tryz.func234.trans (congrArg some (by kernel_rfl))
 f195:=Tryz.func290.trans (congrArg some (by kernel_rfl))
 f197:=Tryz.func291.trans (congrArg some (by kernel_rfl))
 f217:=Tryz.func254.trans (congrArg some (by kernel_rfl))
 f218:=Tryz.func292.trans (congrArg some (by kernel_rfl))
 f219:=Tryz.func222.trans (congrArg some (by kernel_rfl))
 f221:=Tryz.func268.trans (congrArg some (by kernel_rfl))
 f224:=Tryz.func263.trans (congrArg some (by kernel_rfl))
 f225:=Tryz.func262.trans (congrArg some (by kernel_rfl))
 f260:=Tryz.func295.trans (congrArg some (by kernel_rfl))
 f266:=Tryz.func279.trans (congrArg some (by kernel_rfl))
 f267:=Tryz.func264.trans (congrArg some (by kernel_rfl))
 f268:=Tryz.func283.trans (congrArg some (by kernel_rfl))
 f314:=Tryz.func280.trans (congrArg some (by kernel_rfl))
 t0:=Tryz.underlying0
 a0:=Tryz.isAgg0
 z0:=Tryz.sizeOf0
 v0:=Tryz.zeroValue0
 t3:=Tryz.underlying3
 a3:=Tryz.isAgg3
 z3:=Tryz.sizeOf3
 v3:=Tryz.zeroValue3
 t4:=Tryz.underlying4
 a4:=Tryz.isAgg4
 z4:=Tryz.sizeOf4
 v4:=Tryz.zeroValue4
 t5:=Tryz.underlying5
 a5:=Tryz.isAgg5
 z5:=Tryz.sizeOf5
 v5:=Tryz.zeroValue5
 t9:=Tryz.underlying9
 a9:=Tryz.isAgg9
 z9:=Tryz.sizeOf9
 v9:=Tryz.zeroValue9
 t21:=Tryz.underlying21
 a21:=Tryz.isAgg21
 z21:=Tryz.sizeOf21
 v21:=Tryz.zeroValue21
 t31:=Tryz.underlying76
 a31:=Tryz.isAgg76
 z31:=Tryz.sizeOf76
 v31:=Tryz.zeroValue76
 t46:=Tryz.underlying277
 a46:=Tryz.isAgg277
 z46:=Tryz.sizeOf277
 v46:=Tryz.zeroValue277
 t51:=Tryz.underlying289
 a51:=Tryz.isAgg289
 z51:=Tryz.sizeOf289
 v51:=Tryz.zeroValue289
 t105:=Tryz.underlying299
 a105:=Tryz.isAgg299
 z105:=Tryz.sizeOf299
 v105:=Tryz.zeroValue299
 t119:=Tryz.underlying302
 a119:=Tryz.isAgg302
 z119:=Tryz.sizeOf302
 t138:=Tryz.underlying304
 a138:=Tryz.isAgg304
 z138:=Tryz.sizeOf304
 v138:=Tryz.zeroValue304
 t139:=Tryz.underlying305
 a139:=Tryz.isAgg305
 z139:=Tryz.sizeOf305
 v139:=Tryz.zeroValue305
 t146:=Tryz.underlying290
 a146:=Tryz.isAgg290
 z146:=Tryz.sizeOf290
 v146:=Tryz.zeroValue290
 g1:=by kernel_rfl
 g3:=by kernel_rfl
 g4:=by kernel_rfl }
open Go.RowKit Go.Lib in
theorem Tryz.strings_Split (s sep:ByteArray)(m:Int)(w:World)(hs:s.size<4294967281)(hm:w.cell? ⟨0,0,none⟩=some (.int .i64 m))(h1:1≤sep.size) :
 Calls Tryz.prog 234 #[.string s,.string sep] w fun e w' =>
  e=.returned (.slice (some ⟨w.heap.size,0,none⟩) (Lib.countB s sep+1) (Lib.countB s sep+1))∧w'=w.alloc (.cells ((Lib.splitB sep 0 (Lib.countB s sep) s).map Value.string).toArray 9):=Any.strings_Split Tryz.lays146 (by kernel_rfl) s sep m w hs hm h1
def Tryz.BG:Go.Shelf.Ren:=⟨fun|152=>247|137=>209|119=>278|224=>263|225=>262|217=>254|266=>279|n=>n,fun|9=>9|21=>21|3=>3|4=>4|5=>5|0=>0|46=>277|n=>n,fun|n=>n⟩
theorem Tryz.lays152:Go.Proofs.Lays.n152 Tryz.prog Tryz.BG:={
 mixed:=by kernel_rfl
 f119:=Tryz.func278.trans (congrArg some (by kernel_rfl))
 f137:=Tryz.func209.trans (congrArg some (by kernel_rfl))
 f152:=Tryz.func247.trans (congrArg some (by kernel_rfl))
 f217:=Tryz.func254.trans (congrArg some (by kernel_rfl))
 f224:=Tryz.func263.trans (congrArg some (by kernel_rfl))
 f225:=Tryz.func262.trans (congrArg some (by kernel_rfl))
 f266:=Tryz.func279.trans (congrArg some (by kernel_rfl))
 t0:=Tryz.underlying0
 a0:=Tryz.isAgg0
 z0:=Tryz.sizeOf0
 v0:=Tryz.zeroValue0
 t3:=Tryz.underlying3
 a3:=Tryz.isAgg3
 z3:=Tryz.sizeOf3
 v3:=Tryz.zeroValue3
 t4:=Tryz.underlying4
 a4:=Tryz.isAgg4
 z4:=Tryz.sizeOf4
 v4:=Tryz.zeroValue4
 t5:=Tryz.underlying5
 a5:=Tryz.isAgg5
 z5:=Tryz.sizeOf5
 v5:=Tryz.zeroValue5
 t9:=Tryz.underlying9
 a9:=Tryz.isAgg9
 z9:=Tryz.sizeOf9
 v9:=Tryz.zeroValue9
 t21:=Tryz.underlying21
 a21:=Tryz.isAgg21
 z21:=Tryz.sizeOf21
 v21:=Tryz.zeroValue21
 t46:=Tryz.underlying277
 a46:=Tryz.isAgg277
 z46:=Tryz.sizeOf277
 v46:=Tryz.zeroValue277 }
open Go.RowKit Go.Lib in
theorem Tryz.strings_IndexRune_ascii (s:ByteArray)(r:Int)(w:World)(h0:0≤r)(h1:r<128) :
 Calls Tryz.prog 247 #[.string s,.int .i32 r] w fun e w'=>e=.returned (.int .i64 (Lib.indexByte s.data.toList r.toNat.toUInt8))∧w'=w:=Any.strings_IndexRune_ascii Tryz.lays152 s r w h0 h1
def Tryz.BE:Go.Shelf.Ren:=⟨fun|226=>248|n=>n,fun|3=>3|4=>4|n=>n,fun|n=>n⟩
theorem Tryz.lays226:Go.Proofs.Lays.n226 Tryz.prog Tryz.BE:={
 mixed:=by kernel_rfl
 f226:=Tryz.func248.trans (congrArg some (by kernel_rfl))
 t3:=Tryz.underlying3
 a3:=Tryz.isAgg3
 z3:=Tryz.sizeOf3
 v3:=Tryz.zeroValue3
 t4:=Tryz.underlying4
 a4:=Tryz.isAgg4
 z4:=Tryz.sizeOf4
 v4:=Tryz.zeroValue4 }
open Go.RowKit Go.Lib in
theorem Tryz.strings_shouldUseASCIISet (n:Int)(w:World) :
 Calls Tryz.prog 248 #[.int .i64 n] w fun e w'=>e=.returned (.bool (decide (8<n)))∧w'=w:=Any.strings_shouldUseASCIISet Tryz.lays226 n w
def Tryz.BF:Go.Shelf.Ren:=⟨fun|153=>206|152=>247|226=>248|227=>249|228=>250|137=>209|119=>278|224=>263|225=>262|217=>254|266=>279|n=>n,fun|9=>9|3=>3|4=>4|5=>5|21=>21|117=>275|116=>274|0=>0|46=>277|124=>288|n=>n,fun|n=>n⟩
theorem Tryz.ET:Go.Proofs.Lays.n153 Tryz.prog Tryz.BF:={
 mixed:=by kernel_rfl
 f119:=Tryz.func278.trans (congrArg some (by kernel_rfl))
 f137:=Tryz.func209.trans (congrArg some (by kernel_rfl))
 f152:=Tryz.func247.trans (congrArg some (by kernel_rfl))
 f153:=Tryz.func206.trans (congrArg some (by kernel_rfl))
 f217:=Tryz.func254.trans (congrArg some (by kernel_rfl))
 f224:=Tryz.func263.trans (congrArg some (by kernel_rfl))
 f225:=Tryz.func262.trans (congrArg some (by kernel_rfl))
 f226:=Tryz.func248.trans (congrArg some (by kernel_rfl))
 f227:=Tryz.func249.trans (congrArg some (by kernel_rfl))
 f228:=Tryz.func250.trans (congrArg some (by kernel_rfl))
 f266:=Tryz.func279.trans (congrArg some (by kernel_rfl))
 t0:=Tryz.underlying0
 a0:=Tryz.isAgg0
 z0:=Tryz.sizeOf0
 v0:=Tryz.zeroValue0
 t3:=Tryz.underlying3
 a3:=Tryz.isAgg3
 z3:=Tryz.sizeOf3
 v3:=Tryz.zeroValue3
 t4:=Tryz.underlying4
 a4:=Tryz.isAgg4
 z4:=Tryz.sizeOf4
 v4:=Tryz.zeroValue4
 t5:=Tryz.underlying5
 a5:=Tryz.isAgg5
 z5:=Tryz.sizeOf5
 v5:=Tryz.zeroValue5
 t9:=Tryz.underlying9
 a9:=Tryz.isAgg9
 z9:=Tryz.sizeOf9
 v9:=Tryz.zeroValue9
 t21:=Tryz.underlying21
 a21:=Tryz.isAgg21
 z21:=Tryz.sizeOf21
 v21:=Tryz.zeroValue21
 t46:=Tryz.underlying277
 a46:=Tryz.isAgg277
 z46:=Tryz.sizeOf277
 v46:=Tryz.zeroValue277
 t116:=Tryz.underlying274
 a116:=Tryz.isAgg274
 z116:=Tryz.sizeOf274
 t117:=Tryz.underlying275
 a117:=Tryz.isAgg275
 z117:=Tryz.sizeOf275
 v117:=Tryz.zeroValue275
 t124:=Tryz.underlying288
 a124:=Tryz.isAgg288
 z124:=Tryz.sizeOf288
 v124:=Tryz.zeroValue288 }
open Go.RowKit Go.Lib in
theorem Tryz.strings_IndexAny_long (Il:∀ w,(zeroValue 274).run Tryz.prog w=.ok (.agg (Array.replicate 256 (.bool false))) w)(s chars:ByteArray)(w:World)(h2:2≤chars.size)(h8:8<s.size)(hs:s.size<4294967281)(hcs:chars.size<4294967281)(hascii:∀ (j:Nat) b,chars.data.toList[j]? = some b→b.toNat<128) :
 Calls Tryz.prog 206 #[.string s,.string chars] w fun e w'=>e=.returned (.int .i64 (Lib.indexAny s.data.toList chars.data.toList))∧w'=((w.alloc (.cells (Lib.setCells chars.data.toList) 274)).alloc (.cells (Lib.setCells chars.data.toList) 274)):=Any.strings_IndexAny_long Tryz.ET Il (by kernel_rfl) s chars w h2 h8 hs hcs hascii
open Go.RowKit Go.Lib in
theorem Tryz.strings_IndexAny (Il:∀ w,(zeroValue 274).run Tryz.prog w=.ok (.agg (Array.replicate 256 (.bool false))) w)(s chars:ByteArray)(w:World)(hs:s.size<4294967281)(hcs:chars.size<4294967281)(has:∀ (j:Nat) b,s.data.toList[j]? = some b→b.toNat<128)(hac:∀ (j:Nat) b,chars.data.toList[j]? = some b→b.toNat<128) :
 Calls Tryz.prog 206 #[.string s,.string chars] w fun e w'=>e=.returned (.int .i64 (Lib.indexAny s.data.toList chars.data.toList))∧Below w.heap.size w w':=Any.strings_IndexAny Tryz.ET Il (by kernel_rfl) s chars w hs hcs has hac
end Go.Proofs
namespace Wf
open Go Go.RowKit
theorem index_one (c:UInt8)(s:Bytes):Lib.index s [c]=Lib.indexByte s c:=by
 induction s with
 | nil=>rfl
 | cons b l ih =>
   rw[Lib.index,Lib.indexByte,ih]
   have:[c].isPrefixOf (b::l)=(b==c):=by simp[List.isPrefixOf];exact Bool.beq_comm
   rw[this]
def aL (c:UInt8)(s:Bytes):Bytes × Bytes × Bool :=
 if pre (·==c) s<s.length then(s.take (pre (·==c) s),s.drop (pre (·==c) s+1),true) else(s,[],false)
theorem iw (c:UInt8)(s:Bytes):(aL c s).1.length≤s.length∧(aL c s).2.1.length≤s.length:=by
 unfold aL
 split
 ·simp;omega
 ·simp
theorem cut_one (c:UInt8)(s:Bytes):Lib.cut s [c]=aL c s:=by
 unfold Lib.cut aL
 rw[index_one,dD]
 by_cases h:pre (·==c) s<s.length
 ·simp[h]
 ·simp[h]
def aA (c:UInt8):Bytes→List Bytes
 | []=>[[]]
 | x::r=>if x==c then []::aA c r else match aA c r with
   | h::t=>(x::h)::t
   | []=>[[x]]
theorem cC {c:UInt8}{s:Bytes}(h:¬ pre (·==c) s<s.length):aA c s=[s]:=by
 induction s with
 | nil=>rfl
 | cons x r ih =>
   rw[bV]at h
   rw[aA]
   cases hx:x==c
   ·rw[hx]at h
    simp at h
    rw[ih (by omega)]
    rfl
   ·rw[hx]at h;simp at h
theorem cT {c:UInt8}{s:Bytes}(h:pre (·==c) s<s.length):aA c s=s.take (pre (·==c) s)::aA c (s.drop (pre (·==c) s+1)):=by
 induction s with
 | nil=>simp at h
 | cons x r ih =>
   rw[bV]at h ⊢
   rw[aA]
   cases hx:x==c
   ·rw[hx]at h
    simp at h
    rw[ih h]
    simp
   ·simp
theorem rB (c:UInt8)(s:Bytes):aA c s≠[]:=by
 by_cases h:pre (·==c) s<s.length
 ·rw[cT h];simp
 ·rw[cC h];simp
theorem jr {c:UInt8}{s:Bytes}(h:pre (·==c) s<s.length):s.count c=(s.drop (pre (·==c) s+1)).count c+1:=by
 induction s with
 | nil=>simp at h
 | cons x r ih =>
   rw[bV]at h ⊢
   cases hx:x==c
   ·rw[hx]at h
    simp at h
    rw[List.count_cons,hx,ih h]
    simp
   ·simp[List.count_cons,hx]
theorem pK {c:UInt8}{s:Bytes}(h:¬ pre (·==c) s<s.length):s.count c=0:=by
 induction s with
 | nil=>rfl
 | cons x r ih =>
   rw[bV]at h
   cases hx:x==c
   ·rw[hx]at h
    simp at h
    rw[List.count_cons,hx,ih (by omega)];rfl
   ·rw[hx]at h;simp at h
theorem Dq (c:UInt8):∀ (k:Nat)(s:Bytes),s.count c=k→Lib.splitK [c] 0 k s=aA c s:=by
 intro k
 induction k with
 | zero =>
   intro s h
   by_cases hp:pre (·==c) s<s.length
   ·rw[jr hp]at h;omega
   ·rw[cC hp];rfl
 | succ k ih =>
   intro s h
   by_cases hp:pre (·==c) s<s.length
   ·rw[cT hp,Lib.splitK,index_one,dD,if_pos hp,if_neg (by simp)]
    rw[jr hp]at h
    have:=ih (s.drop (pre (·==c) s+1)) (by omega)
    simp[this]
   ·rw[pK hp]at h;omega
theorem hY (c:UInt8)(s:Bytes):(aA c s).length=s.count c+1:=by
 suffices ∀ k,∀ s:Bytes,s.count c=k→(aA c s).length=k+1 from this _ s rfl
 intro k
 induction k with
 | zero =>
   intro s h
   by_cases hp:pre (·==c) s<s.length
   ·rw[jr hp]at h;omega
   ·rw[cC hp];rfl
 | succ k ih =>
   intro s h
   by_cases hp:pre (·==c) s<s.length
   ·rw[cT hp]
    rw[jr hp]at h
    simp[ih _ (by omega:(s.drop (pre (·==c) s+1)).count c=k)]
   ·rw[pK hp]at h;omega
theorem gR (c:UInt8)(s:Bytes):∀ x∈aA c s,x.length≤s.length:=by
 suffices ∀ k,∀ s:Bytes,s.count c=k→∀ x∈aA c s,x.length≤s.length from this _ s rfl
 intro k
 induction k with
 | zero =>
   intro s h
   by_cases hp:pre (·==c) s<s.length
   ·rw[jr hp]at h;omega
   ·rw[cC hp];simp
 | succ k ih =>
   intro s h
   by_cases hp:pre (·==c) s<s.length
   ·rw[cT hp]
    rw[jr hp]at h
    intro x hx
    rcases zJ4.1 hx with rfl|hx
    ·simp;omega
    ·have:=ih _ (by omega:(s.drop (pre (·==c) s+1)).count c=k) x hx
     simp at this;omega
   ·rw[pK hp]at h;omega
def na (l:Bytes):Value:=.string ⟨zJ3 l⟩
theorem Dr (c:UInt8)(s:Bytes):(Lib.splitB ⟨#[c]⟩ 0 (Lib.countB ⟨zJ3 s⟩ ⟨#[c]⟩) ⟨zJ3 s⟩).map Value.string=(aA c s).map na:=by
 have h:=Lib.splitB_data ⟨#[c]⟩ 0 (Lib.countB ⟨zJ3 s⟩ ⟨#[c]⟩) ⟨zJ3 s⟩
 have hk:Lib.splitK [c] 0 (Lib.countB ⟨zJ3 s⟩ ⟨#[c]⟩) s=aA c s:=Dq c _ s (Lib.count_one c s).symm
 have h2:(Lib.splitB ⟨#[c]⟩ 0 (Lib.countB ⟨zJ3 s⟩ ⟨#[c]⟩) ⟨zJ3 s⟩).map (·.data.toList)=aA c s:=h.trans hk
 rw[← h2,List.map_map]
 apply List.map_congr_left
 intro x _
 rfl
theorem Eo (c:UInt8)(s:Bytes):Lib.countB ⟨zJ3 s⟩ ⟨#[c]⟩+1=(aA c s).length:=by
 rw[hY]
 exact congrArg (·+1) (Lib.count_one c s)
open Go Go.RowKit
structure Uri where
 scheme:Bytes
 authority:Bytes
 path:Bytes
 query:Bytes
 fragment:Bytes
 bX:Bool
 a8:Bool
 aN:Bool
 aZ:Bool
 deriving DecidableEq
def Uri.none:Uri:=⟨[],[],[],[],[],false,false,false,false⟩
def Uri.cells (u:Uri):Array Value:=#[na u.scheme,na u.authority,na u.path,na u.query,na u.fragment,.bool u.bX,.bool u.a8,.bool u.aN,.bool u.aZ]
def Uri.val (u:Uri):Value:=.agg u.cells
def eT (c:UInt8):Bool:=isAlpha c||isDigit c||[43,45,46].contains c
def cO (s:Bytes):Bool:=match s with
 | []=>false
 | c::r=>isAlpha c&&r.all eT
def aq (c:UInt8):Bool:=[58,47].contains c
def aB (s:Bytes):Bytes × Bool × Bytes:=match s with
 | 47::47::r=>(r.take (pre (·==47) r),true,r.drop (pre (·==47) r))
 | s=>([],false,s)
def aH (s frag query:Bytes)(aZ aN:Bool):Uri × Int :=
 if (s.drop (pre aq s)).head? = some 58 then
  if cO (s.take (pre aq s)) then
   (⟨s.take (pre aq s),(aB (s.drop (pre aq s+1))).1,(aB (s.drop (pre aq s+1))).2.2,query,frag,true,(aB (s.drop (pre aq s+1))).2.1,aN,aZ⟩,0)
  else(Uri.none,6)
 else(⟨[],(aB s).1,(aB s).2.2,query,frag,false,(aB s).2.1,aN,aZ⟩,0)
def aM (s:Bytes):Uri × Int :=
 if 16384<s.length then(Uri.none,5)
 else aH (aL 63 (aL 35 s).1).1 (aL 35 s).2.1 (aL 63 (aL 35 s).1).2.1 (aL 35 s).2.2 (aL 63 (aL 35 s).1).2.2
def fg (u:Uri):Bytes :=
 (if u.bX then u.scheme++[58] else [])++(if u.a8 then [47,47]++u.authority else [])++u.path++(if u.aN then [63]++u.query else [])++(if u.aZ then [35]++u.fragment else [])
def dg (out:Bytes):Bytes:=(out.reverse.dropWhile (· != 47)).drop 1 |>.reverse
def cJ (path out:Bytes):Bytes × Bytes :=
 if [46,46,47].isPrefixOf path then(path.drop 3,out)
 else if [46,47].isPrefixOf path then(path.drop 2,out)
 else if [47,46,47].isPrefixOf path then(path.drop 2,out)
 else if path=[47,46] then([47],out)
 else if [47,46,46,47].isPrefixOf path then(path.drop 3,dg out)
 else if path=[47,46,46] then([47],dg out)
 else if path=[46]∨path=[46,46] then([],out)
 else(path.drop (1+pre (·==47) (path.drop 1)),out++path.take (1+pre (·==47) (path.drop 1)))
def en:Nat→Bytes→Bytes→Bytes
 | 0,_,out=>out
 | f+1,path,out=>if path=[] then out else en f (cJ path out).1 (cJ path out).2
def aG (path:Bytes):Bytes:=en path.length path []
def cF (s:Bytes):Nat:=(s.reverse.dropWhile (· != 47)).length
def kZ (base ref:Uri):Bytes :=
 if ref.path.head? = some 47 then ref.path
 else if base.a8∧base.path=[] then 47::ref.path
 else base.path.take (cF base.path)++ref.path
def eV (base ref:Uri):Uri :=
 if ref.bX then { ref with path:=aG ref.path }
 else if ref.a8 then { ref with path:=aG ref.path,scheme:=base.scheme,bX:=base.bX }
 else if ref.path=[] then
  if ref.aN then { ref with path:=base.path,scheme:=base.scheme,bX:=base.bX,authority:=base.authority,a8:=base.a8 }
  else { ref with path:=base.path,query:=base.query,aN:=base.aN,scheme:=base.scheme,bX:=base.bX,authority:=base.authority,a8:=base.a8 }
 else { ref with path:=aG (kZ base ref),scheme:=base.scheme,bX:=base.bX,authority:=base.authority,a8:=base.a8 }
open Go Go.RowKit
def fE (c:UInt8):Bool:=isAlpha c||isDigit c||([45,46,95,126]:Bytes).contains c
def gE (n:Nat):UInt8:=if n<10 then(48+n).toUInt8 else(55+n).toUInt8
def kN (c:UInt8):Bytes:=[37,gE (c.toNat / 16),gE (c.toNat % 16)]
def unhex (a b:UInt8):UInt8:=(cG a * 16+cG b).toUInt8
inductive PU where
 | lit (c:UInt8) | hex (a b:UInt8) | bad
 deriving DecidableEq
def di:Bytes→Option (UInt8 × UInt8 × Bytes)
 | a::b::r=>if bm a&&bm b then some (a,b,r) else none
 | _=>none
theorem dh {s r:Bytes}{a b:UInt8}(h:di s=some (a,b,r)):s=a::b::r∧bm a=true∧bm b=true:=by
 unfold di at h
 split at h
 ·split at h
  ·rename_i hx
   simp only[Bool.and_eq_true]at hx
   cases h
   exact⟨rfl,hx⟩
  ·cases h
 ·cases h
def bL:Nat→Bytes→List PU
 | 0,_=>[]
 | _+1,[]=>[]
 | f+1,c::r=>if c=37 then(match di r with
    | some (a,b,r)=>.hex a b::bL f r
    | none=>[.bad]) else .lit c::bL f r
def aE (s:Bytes):List PU:=bL s.length s
theorem lH:∀ (f g:Nat)(s:Bytes),s.length≤f→s.length≤g→bL f s=bL g s
 | 0,0,_,_,_=>rfl
 | 0,g+1,s,h,_=>by obtain rfl:=List.length_eq_zero_iff.1 (Nat.le_zero.1 h);rfl
 | f+1,0,s,_,h=>by obtain rfl:=List.length_eq_zero_iff.1 (Nat.le_zero.1 h);rfl
 | f+1,g+1,[],_,_=>rfl
 | f+1,g+1,c::r,h,h'=>by
   simp only[zJ7]at h h'
   rw[bL,bL]
   split
   ·cases hp:di r with
    | none=>rfl
    | some x =>
      obtain⟨a,b,r'⟩:=x
      obtain⟨rfl,-,-⟩:=dh hp
      simp only[zJ7]at h h' ⊢
      rw[lH f g r' (by omega) (by omega)]
   ·rw[lH f g r (by omega) (by omega)]
theorem eO:aE []=[]:=rfl
theorem dm {c:UInt8}(h:c≠37)(r:Bytes):aE (c::r)=.lit c::aE r:=by
 unfold aE;rw[zJ7,bL,if_neg h]
theorem fh {a b:UInt8}(ha:bm a=true)(hb:bm b=true)(r:Bytes):aE (37::a::b::r)=.hex a b::aE r:=by
 unfold aE
 rw[zJ7,bL,if_pos rfl,show di (a::b::r)=some (a,b,r) by simp[di,ha,hb]]
 simp only[zJ7]
 rw[lH _ r.length r (by omega) (Nat.le_refl _)]
theorem ru {s:Bytes}(h:di s=none):aE (37::s)=[.bad]:=by
 unfold aE;rw[zJ7,bL,if_pos rfl,h]
theorem fK:∀ n,n<16→bm (gE n)=true:=by decide
theorem jj (c:UInt8):unhex (gE (c.toNat / 16)) (gE (c.toNat % 16))=c:=by
 have:=cW (p:=fun c=>unhex (gE (c.toNat / 16)) (gE (c.toNat % 16))==c) (by decide +kernel) c
 simpa using this
theorem xF (c:UInt8)(r:Bytes):aE (kN c++r)=.hex (gE (c.toNat / 16)) (gE (c.toNat % 16))::aE r :=
 fh (fK _ (by have:=c.toNat_lt;omega)) (fK _ (by omega)) r
def PU.val:PU→UInt8
 | .lit c=>c
 | .hex a b=>unhex a b
 | .bad=>0
def ay (s:Bytes):Bytes × Int:=if 16384<s.length then([],5) else if PU.bad∈aE s then([],2) else((aE s).map PU.val,0)
def lr (keep:Bytes)(c:UInt8):Bytes:=if fE c||(c != 37&&keep.contains c) then [c] else kN c
def aD (keep s:Bytes):Bytes:=s.flatMap (lr keep)
def dU (also:Bytes)(c:UInt8):Bool:=fE c||also.contains c
def nA (c:UInt8):Bytes:=if fE c then [c] else kN c
def comb (d:Bytes)(x:Bytes × Int):Bytes × Int:=if x.2=0 then(d++x.1,0) else([],x.2)
def bB (also:Bytes):List PU→Bytes × Int
 | []=>([],0)
 | .bad::_=>([],2)
 | .lit c::r=>if dU also c then comb [c] (bB also r) else([],1)
 | .hex a b::r=>comb (nA (unhex a b)) (bB also r)
def bk (also s:Bytes):Bytes × Int:=if 16384<s.length then([],5) else bB also (aE s)
theorem wm (x:Bytes × Int)(h:x.2≠0→x.1=[]):comb [] x=x:=by
 obtain⟨x,e⟩:=x
 unfold comb
 simp only at h ⊢
 split
 ·rename_i h0;subst h0;rfl
 ·rename_i h0;rw[h h0]
theorem jv (a b:Bytes)(x:Bytes × Int):comb a (comb b x)=comb (a++b) x:=by
 unfold comb
 by_cases h:x.2=0
 ·simp[h]
 ·simp[h]
theorem xV (also:Bytes):∀ l,(bB also l).2≠0→(bB also l).1=[]
 | [],h=>by simp[bB]at h
 | .bad::_,_=>rfl
 | .lit c::r,h=>by
   rw[bB]at h ⊢
   split
   ·rename_i hk
    rw[if_pos hk]at h
    unfold comb at h ⊢
    split
    ·rename_i h0;rw[if_pos h0]at h;simp at h
    ·rfl
   ·rfl
 | .hex a b::r,h=>by
   rw[bB]at h ⊢
   unfold comb at h ⊢
   split
   ·rename_i h0;rw[if_pos h0]at h;simp at h
   ·rfl
theorem As {c:UInt8}(h:fE c=true):c≠37:=by
 rintro rfl;revert h;decide
def Jz (also:Bytes):PU→Prop
 | .lit c=>dU also c=true∧c≠37
 | .hex a b=>fE (unhex a b)=false∧a=gE ((unhex a b).toNat / 16)∧b=gE ((unhex a b).toNat % 16)∧bm a=true∧bm b=true
 | .bad=>False
def PU.str:PU→Bytes
 | .lit c=>[c]
 | .hex a b=>[37,a,b]
 | .bad=>[]
theorem nX (also:Bytes):∀ (l:List PU),(∀ x∈l,Jz also x)→aE (l.flatMap PU.str)=l
 | [],_=>rfl
 | .lit c::r,h=>by
   have h1:=h _ zJ5
   rw[List.flatMap_cons,PU.str,List.singleton_append,dm h1.2,nX also r (fun x hx=>h x (zJ6 _ hx))]
 | .hex a b::r,h=>by
   have h1:=h _ zJ5
   rw[List.flatMap_cons,PU.str]
   simp only[List.cons_append,List.nil_append]
   rw[fh h1.2.2.2.1 h1.2.2.2.2,nX also r (fun x hx=>h x (zJ6 _ hx))]
 | .bad::r,h=>(h _ zJ5).elim
theorem rQ (also:Bytes):∀ (l:List PU),(∀ x∈l,Jz also x)→bB also l=(l.flatMap PU.str,0)
 | [],_=>rfl
 | .lit c::r,h=>by
   have h1:=h _ zJ5
   rw[bB,if_pos h1.1,rQ also r (fun x hx=>h x (zJ6 _ hx))]
   rfl
 | .hex a b::r,h=>by
   have h1:=h _ zJ5
   rw[bB,rQ also r (fun x hx=>h x (zJ6 _ hx))]
   unfold comb nA kN
   simp only[h1.1,← h1.2.1,← h1.2.2.1,Bool.false_eq_true,if_false,if_true]
   rfl
 | .bad::r,h=>(h _ zJ5).elim
theorem nz (also:Bytes):∀ (l:List PU),(∀ c,PU.lit c∈l→c≠37)→(bB also l).2=0→∃ l':List PU,(bB also l).1=l'.flatMap PU.str∧(∀ x∈l',Jz also x)∧(∀ x∈l,x≠.bad)∧l'.map PU.val=l.map PU.val
 | [],_,_=>⟨[],rfl,by simp,by simp,rfl⟩
 | .bad::_,_,h=>by simp[bB]at h
 | .lit c::r,hl,h=>by
   rw[bB]at h ⊢
   split at h
   ·rename_i hk
    rw[if_pos hk]
    unfold comb at h ⊢
    split at h
    ·rename_i h0
     rw[if_pos h0]
     obtain⟨l',e,h1,h2,h3⟩:=nz also r (fun d hd=>hl d (zJ6 _ hd)) h0
     refine⟨.lit c::l',by simp[e,PU.str],?_,?_,by simp[h3,PU.val]⟩
     ·intro x hx
      simp only[zJ4]at hx
      rcases hx with rfl|hx
      ·exact⟨hk,hl c zJ5⟩
      ·exact h1 x hx
     ·intro x hx
      simp only[zJ4]at hx
      rcases hx with rfl|hx
      ·simp
      ·exact h2 x hx
    ·rename_i h0;exact absurd h h0
   ·simp at h
 | .hex a b::r,hl,h=>by
   rw[bB]at h ⊢
   unfold comb at h ⊢
   split at h
   ·rename_i h0
    rw[if_pos h0]
    obtain⟨l',e,h1,h2,h3⟩:=nz also r (fun d hd=>hl d (zJ6 _ hd)) h0
    have lp:∀ x∈PU.hex a b::r,x≠.bad:=fun x hx=>by
     simp only[zJ4]at hx
     rcases hx with rfl|hx
     ·simp
     ·exact h2 x hx
    by_cases hu:fE (unhex a b)=true
    ·refine⟨.lit (unhex a b)::l',by simp[e,PU.str,nA,hu],?_,lp,by simp[h3,PU.val]⟩
     intro x hx
     simp only[zJ4]at hx
     rcases hx with rfl|hx
     ·exact⟨by simp[dU,hu],As hu⟩
     ·exact h1 x hx
    ·have hu':fE (unhex a b)=false:=by simpa using hu
     have hn:=(unhex a b).toNat_lt
     have hv:=jj (unhex a b)
     refine⟨.hex (gE ((unhex a b).toNat / 16)) (gE ((unhex a b).toNat % 16))::l',by simp[e,PU.str,nA,hu',kN],?_,lp,by simp[h3,PU.val,hv]⟩
     intro x hx
     simp only[zJ4]at hx
     rcases hx with rfl|hx
     ·exact⟨by rw[hv];exact hu',by rw[hv],by rw[hv],fK _ (by omega),fK _ (by omega)⟩
     ·exact h1 x hx
   ·rename_i h0;exact absurd h h0
theorem mW:∀ (f:Nat)(s:Bytes)(c:UInt8),PU.lit c∈bL f s→c≠37
 | 0,_,_,h=>by simp[bL]at h
 | _+1,[],_,h=>by simp[bL]at h
 | f+1,d::r,c,h=>by
   rw[bL]at h
   split at h
   ·split at h
    ·simp only[zJ4,reduceCtorEq,false_or]at h
     exact mW f _ c h
    ·simp at h
   ·rename_i hd
    simp only[zJ4,PU.lit.injEq]at h
    rcases h with rfl|h
    ·exact hd
    ·exact mW f _ c h
theorem sC (s:Bytes)(c:UInt8)(h:PU.lit c∈aE s):c≠37:=mW _ s c h
theorem mX:∀ (f:Nat)(s:Bytes),((bL f s).flatMap PU.str).length≤s.length
 | 0,_=>by simp[bL]
 | _+1,[]=>by simp[bL]
 | f+1,d::r=>by
   rw[bL]
   split
   ·cases hp:di r with
    | none=>simp[PU.str]
    | some x =>
      obtain⟨a,b,r'⟩:=x
      obtain⟨rfl,-,-⟩:=dh hp
      have:=mX f r'
      simp[PU.str]at this ⊢;omega
   ·have:=mX f r
    simp[PU.str]at this ⊢;omega
theorem rP (also:Bytes):∀ (l:List PU),(bB also l).1.length≤(l.flatMap PU.str).length
 | []=>by simp[bB]
 | .bad::_=>by simp[bB]
 | .lit c::r=>by
   have:=rP also r
   rw[bB]
   split
   ·unfold comb;split
    ·simp[PU.str]at this ⊢;omega
    ·simp
   ·simp
 | .hex a b::r=>by
   have:=rP also r
   rw[bB]
   unfold comb nA;split
   ·split
    ·simp[PU.str]at this ⊢;omega
    ·simp[PU.str,kN]at this ⊢;omega
   ·simp
theorem eW (also s:Bytes):(bk also s).1.length≤s.length:=by
 unfold bk
 split
 ·simp
 ·exact Nat.le_trans (rP also _) (mX _ s)
theorem iO (keep:Bytes):∀ (s:Bytes),(aE (aD keep s)).map PU.val=s∧PU.bad ∉ aE (aD keep s)
 | []=>⟨rfl,by simp[aD,eO]⟩
 | c::s=>by
   obtain⟨h1,h2⟩:=iO keep s
   have e:aD keep (c::s)=lr keep c++aD keep s:=rfl
   rw[e]
   unfold lr
   split
   ·rename_i hc
    have bt:c≠37:=by
     rintro rfl
     simp at hc
     exact absurd hc (by decide)
    rw[List.singleton_append,dm bt]
    exact⟨by simp[PU.val,h1],by simpa using h2⟩
   ·rw[xF]
    exact⟨by simp[PU.val,h1,jj],by simpa using h2⟩
theorem rK (keep s:Bytes)(hl:(aD keep s).length≤16384):ay (aD keep s)=(s,0):=by
 obtain⟨h1,h2⟩:=iO keep s
 unfold ay
 rw[if_neg (by omega),if_neg h2,h1]
theorem dB (keep s:Bytes):(aD keep s).length≤3 * s.length:=by
 induction s with
 | nil=>simp[aD]
 | cons c s ih =>
   have e:aD keep (c::s)=lr keep c++aD keep s:=rfl
   have:(lr keep c).length≤3:=by unfold lr kN;split <;> simp
   rw[e,List.length_append,zJ7];omega
open Go Go.RowKit
def ua (c:UInt8):Bool:=isAlpha c||isDigit c||c==45
def br (s:Bytes):Bool:=!s.isEmpty&&decide (s.length≤63)&&!(s.head?==some 45)&&!(s.getLast?==some 45)&&s.all ua
def mB:List Bytes→Bool
 | []=>true
 | [x]=>br x&&!cf x
 | x::y::r=>br x&&mB (y::r)
def eD (s:Bytes):Bool:=mB (aA 46 s)
def eU (s:Bytes):Bool:=(aY 255 s).2==0
def ipv4 (s:Bytes):Bool:=(aA 46 s).length==4&&(aA 46 s).all eU
def bF (s:Bytes):Bytes × Int :=
 if s.isEmpty then([],3) else if 253<s.length then([],5) else if !ipv4 s&&!eD s then([],50) else(lower s,0)
def iL (s:Bytes):Int × Int :=
 if (aY 65535 s).2≠0∨(aY 65535 s).1=0 then(0,51) else((aY 65535 s).1,0)
def bZ (h:Bytes × Int)(colon:Bool)(p:Int × Int):(Bytes × Int) × Int :=
 if h.2≠0 then(([],0),h.2)
 else if colon then if p.2≠0 then(([],0),p.2) else((h.1,if p.1=443 then 0 else p.1),0)
 else((h.1,0),0)
def aF (s:Bytes):(Bytes × Int) × Int:=bZ (bF (aL 58 s).1) (aL 58 s).2.2 (iL (aL 58 s).2.1)
def aU (h:Bytes)(p:Int):Bytes:=if p=0 then h else if p<0 then h++[58,45]++bD p.natAbs else h++[58]++bD p.natAbs
open Go Go.RowKit
structure cX where
 host:Bytes
 port:Int
 path:Bytes
 query:Bytes
 fragment:Bytes
 aN:Bool
 aZ:Bool
 deriving DecidableEq
def cX.none:cX:=⟨[],0,[],[],[],false,false⟩
def cU:Bytes:=[33,36,38,39,40,41,42,43,44,59,61,58,64,47]
def cI:Bytes:=[33,36,38,39,40,41,42,43,44,59,61,58,64,47,63]
def dw:Bytes:=[104,116,116,112,115]
def bz (u:cX):Bytes:=if u.aN then u.path++[63]++u.query else u.path
def aT (u:cX):Bytes:=[104,116,116,112,115,58,47,47]++aU u.host u.port++bz u++(if u.aZ then [35]++u.fragment else [])
def lG (h:Bytes × Int)(p q f:Bytes)(hq hf:Bool):cX × Int :=
 if 4096<(aT ⟨h.1,h.2,if aG p=[] then [47] else aG p,q,f,hq,hf⟩).length then(cX.none,5)
 else(⟨h.1,h.2,if aG p=[] then [47] else aG p,q,f,hq,hf⟩,0)
def kY (r:Uri):cX × Int :=
 if (aF r.authority).2≠0 then(cX.none,(aF r.authority).2)
 else if (bk cU r.path).2≠0 then(cX.none,(bk cU r.path).2)
 else if (bk cI r.query).2≠0 then(cX.none,(bk cI r.query).2)
 else if (bk cI r.fragment).2≠0 then(cX.none,(bk cI r.fragment).2)
 else lG (aF r.authority).1 (bk cU r.path).1 (bk cI r.query).1 (bk cI r.fragment).1 r.aN r.aZ
def sB (r:Uri):cX × Int :=
 if r.bX=false∨lower r.scheme≠dw then(cX.none,60)
 else if r.a8=false then(cX.none,71)
 else if (64:UInt8)∈r.authority then(cX.none,70)
 else kY r
def a7 (s:Bytes):cX × Int :=
 if 4096<s.length then(cX.none,5)
 else if (aM s).2≠0 then(cX.none,(aM s).2)
 else sB (aM s).1
def dQ (u:cX):Bool:=decide (a7 (aT u)=(u,0))
def ey (b:cX)(ref:Bytes):cX × Int :=
 if dQ b=false then(cX.none,8)
 else if (aM ref).2≠0 then(cX.none,(aM ref).2)
 else if lower (eV (aM (aT b)).1 (aM ref).1).scheme≠dw then(cX.none,253)
 else a7 (fg (eV (aM (aT b)).1 (aM ref).1))
end Wf
namespace Go.Proofs
open Go.Shelf Go.RowKit
def Tryz.layB_ren:Go.Shelf.Ren:=⟨fun|240=>267|166=>230|276=>282|n=>n,fun|0=>0|3=>3|4=>4|5=>5|9=>9|20=>20|37=>22|70=>251|72=>253|75=>260|80=>213|164=>292|n=>n,fun|n=>n⟩
end Go.Proofs
namespace Go.Proofs.YtnmlimehgifadaaGreatDoor
open Go.RowKit Wf
structure Fr (own:Nat→Prop) (w w':World):Prop where
 os:w'.os=w.os
 tape:w'.tape=w.tape
 output:w'.output=w.output
 size:w.heap.size≤w'.heap.size
 block:∀ k,k<w.heap.size→¬ own k→w'.heap[k]? = w.heap[k]?
theorem Fr.below {own:Nat→Prop}{B:Nat}{w w':World}(h:Fr own w w')(ho:∀ k,own k→B≤k)(hB:B≤w.heap.size):Below B w w' :=
 ⟨h.os,h.tape,h.output,h.size,fun k hk=>h.block k (by omega) (fun e=>by have:=ho k e;omega)⟩
theorem Fr.vf {own:Nat→Prop}{B:Nat}{w w':World}(h:Below B w w')(ho:∀ k,B≤k→k<w.heap.size→own k):Fr own w w' :=
 ⟨h.os,h.tape,h.output,h.size,fun k hk hn=>h.block k (by
  rcases Nat.lt_or_ge k B with h' | h'
  ·exact h'
  ·exact absurd (ho k h' hk) hn)⟩
theorem Fr.refl (own:Nat→Prop)(w:World):Fr own w w:=⟨rfl,rfl,rfl,Nat.le_refl _,fun _ _ _=>rfl⟩
theorem Fr.trans {own:Nat→Prop}{a b c:World}(h:Fr own a b)(k:Fr own b c):Fr own a c :=
 ⟨k.os.trans h.os,k.tape.trans h.tape,k.output.trans h.output,Nat.le_trans h.size k.size,fun i hi hn=>(k.block i (by have:=h.size;omega) hn).trans (h.block i hi hn)⟩
theorem Fr.drew {own:Nat→Prop}{a w:World}(h:Fr own a w):Fr own a w.drew:=⟨h.os,h.tape,h.output,h.size,h.block⟩
theorem Fr.setCell {own:Nat→Prop}{a w:World}(h:Fr own a w){b o:Nat}(hb:own b)(v:Value):Fr own a (w.setCell ⟨b,o,none⟩ v) :=
 h.trans ⟨rfl,rfl,rfl,by simp[World.setCell],fun k _ hn=>Below.heap_setCell _ _ _ _ (by rintro rfl;exact hn hb)⟩
theorem heap_set {w:World}{b o:Nat}{cs:Array Value}{T:TypeId}{fz:Nat × Nat}(h:w.heap[b]? = some (.cells cs T fz))(v:Value):(w.setCell ⟨b,o,none⟩ v).heap[b]? = some (.cells (cs.setIfInBounds o v) T fz):=by
 simp[World.setCell,Array.getElem?_modify,h]
theorem cE {w:World}{b:Nat}{x:Obj}(h:w.heap[b]? = some x):b<w.heap.size:=(Array.getElem?_eq_some_iff.1 h).1
theorem Fr.kept {b:Nat}{w w':World}(h2:Lib.OthersKept 5 (some b) w w'){k:Nat}{cs:Array Value}{T:TypeId}{fz:Nat × Nat}(hk:w.heap[k]? = some (.cells cs T fz))(bt:k≠b)(hT:T≠5):w'.heap[k]? = some (.cells cs T fz) :=
 h2 k _ hk (by simpa using bt) (by rintro c f IU;injection IU with _ hT' _;exact hT hT')
def Bld (b:Nat)(l:Bytes)(w:World):Prop:=Lib.IsBuilderF 253 5 b b (Lib.byteCells l) w
theorem Bld.lt {b:Nat}{l:Bytes}{w:World}(h:Bld b l w):b<w.heap.size:=by
 have:∀ p,Lib.BuilderAtF 253 5 b b p (Lib.byteCells l) w→b<w.heap.size:=by
  rintro p ⟨_,v,hb,_⟩
  rcases Nat.lt_or_ge b w.heap.size with h' | h'
  ·exact h'
  ·simp[Array.getElem?_eq_none h']at hb
 rcases h with h|h <;> exact this _ h
theorem Bld.alloc {b:Nat}{l:Bytes}{w:World}(h:Bld b l w)(o:Obj):Bld b l (w.alloc o):=Lib.IsBuilderF.alloc h o
theorem Bld.fr {b cb:Nat}{l:Bytes}{w w':World}{cs:Array Value}{T:TypeId}{fz:Nat × Nat}(h:Bld b l w)(hf:Fr (·=cb) w w')(hc:w.heap[cb]? = some (.cells cs T fz))(hT:T≠5)(bt:b≠cb):Bld b l w':=by
 have key:∀ p,Lib.BuilderAtF 253 5 b b p (Lib.byteCells l) w→Lib.BuilderAtF 253 5 b b p (Lib.byteCells l) w':=by
  rintro p ⟨hB,v,hb,qI,hv⟩
  refine⟨hB,v,?_,?_,hv⟩
  ·rw[hf.block b (cE hb) bt];exact hb
  ·exact qI.kept (row:=some cb) ⟨hf.os,hf.tape,hf.output,hf.size,fun k hk hn=>hf.block k hk (fun e=>hn (by rw[e]))⟩ (Or.inr (Lib.ownBlock_neF qI hc hT))
 rcases h with h|h
 ·exact Or.inl (key _ h)
 ·exact Or.inr (key _ h)
open Go.RowKit Wf
def Env (w:World):Prop:=∃ m,w.cell? ⟨0,0,none⟩=some (.int .i64 m)
theorem Env.lt {w:World}(h:Env w):0<w.heap.size:=by
 obtain⟨m,hm⟩:=h
 unfold World.cell? at hm
 rcases Nat.lt_or_ge 0 w.heap.size with h' | h'
 ·exact h'
 ·simp[Array.getElem?_eq_none h']at hm
theorem Env.below {w w':World}(h:Env w)(hb:Below w.heap.size w w'):Env w':=by
 have:=h.lt
 obtain⟨m,hm⟩:=h
 exact⟨m,(hb.cell (p:=⟨0,0,none⟩) this).trans hm⟩
theorem fX (l:Bytes)(c:UInt8)(w:World) :
 Calls Tryz.prog 209 #[(Value.string ⟨zJ3 (l)⟩),.int .u8 c.toNat] w fun e w'=>e=.returned (.int .i64 (Lib.indexByte l c))∧w=w':=by
 refine(Tryz.strings_IndexByte ⟨zJ3 l⟩ c.toNat w).mono ?_
 rintro e w' ⟨rfl,rfl⟩
 exact⟨by rw[show ((c.toNat:Int)).toNat.toUInt8=c from by simp],rfl⟩
theorem AV (l p:Bytes)(w:World) :
 Calls Tryz.prog 115 #[(Value.string ⟨zJ3 (l)⟩),(Value.string ⟨zJ3 (p)⟩)] w fun e w'=>e=.returned (.bool (Lib.hasPrefix l p))∧w=w':=by
 refine(Tryz.strings_HasPrefix ⟨zJ3 l⟩ ⟨zJ3 p⟩ w).mono ?_
 rintro e w' ⟨rfl,rfl⟩
 exact⟨rfl,rfl⟩
theorem AW (l p:Bytes)(w:World) :
 Calls Tryz.prog 208 #[(Value.string ⟨zJ3 (l)⟩),(Value.string ⟨zJ3 (p)⟩)] w fun e w'=>e=.returned (.tuple #[(Value.string ⟨zJ3 (Lib.trimPrefix l p)⟩),.bool (Lib.hasPrefix l p)])∧w=w':=by
 refine(Tryz.strings_CutPrefix ⟨zJ3 l⟩ ⟨zJ3 p⟩ w).mono ?_
 rintro e w' ⟨rfl,rfl⟩
 exact⟨rfl,rfl⟩
theorem yS (l p:Bytes)(w:World) :
 Calls Tryz.prog 213 #[(Value.string ⟨zJ3 (l)⟩),(Value.string ⟨zJ3 (p)⟩)] w fun e w'=>e=.returned (Value.string ⟨zJ3 (Lib.trimPrefix l p)⟩)∧w=w':=by
 refine(Tryz.strings_TrimPrefix ⟨zJ3 l⟩ ⟨zJ3 p⟩ w).mono ?_
 rintro e w' ⟨rfl,rfl⟩
 exact⟨rfl,rfl⟩
theorem EE (l:Bytes)(c:UInt8)(w:World)(hE:Env w)(hl:l.length<4294967281) :
 Calls Tryz.prog 172 #[(Value.string ⟨zJ3 (l)⟩),(Value.string ⟨zJ3 ([c])⟩)] w fun e w'=>e=.returned (.tuple #[(Value.string ⟨zJ3 ((aL c l).1)⟩),(Value.string ⟨zJ3 ((aL c l).2.1)⟩),.bool (aL c l).2.2])∧∃ n,w'=w.drewN n:=by
 obtain⟨m,hm⟩:=hE
 refine(Tryz.strings_Cut ⟨zJ3 l⟩ ⟨#[c]⟩ m w hl hm).mono ?_
 rintro e w' ⟨rfl,hw⟩
 have:=cut_one c l
 exact⟨by rw[← this],hw⟩
theorem s_Split (l:Bytes)(c:UInt8)(w:World)(hE:Env w)(hl:l.length<4294967281) :
 Calls Tryz.prog 234 #[(Value.string ⟨zJ3 (l)⟩),(Value.string ⟨zJ3 ([c])⟩)] w fun e w'=>e=.returned (.slice (some ⟨w.heap.size,0,none⟩) (aA c l).length (aA c l).length)∧w'=w.alloc (.cells ((aA c l).map na).toArray 9):=by
 obtain⟨m,hm⟩:=hE
 refine(Tryz.strings_Split ⟨zJ3 l⟩ ⟨#[c]⟩ m w hl hm (Nat.le_refl 1)).mono ?_
 rintro e w' ⟨rfl,rfl⟩
 rw[Eo,Dr]
 exact⟨rfl,rfl⟩
def Ab (w:World)(b:Nat)(l:List Bytes):Prop:=∀ i (h:i<l.length),w.cell? ⟨b,i,none⟩=some (Value.string ⟨zJ3 (l[i])⟩)
theorem Ab.alloc (w:World)(l:List Bytes)(rest:List Value)(T:TypeId):Ab (w.alloc (.cells (l.map na++rest).toArray T)) w.heap.size l:=by
 intro i h
 rw[Lib.cell_of_heap (dG _ _) i]
 simp[List.getElem?_append_left,h,na]
end Go.Proofs.YtnmlimehgifadaaGreatDoor
namespace Go.Proofs
open Go Vc Go.Proofs.YtnmlimehgifadaaGreatDoor
noncomputable def Tryz.V:Vc.Cx where
 P:=Tryz.prog
 Γ:=Tryz.Γ
 E:=Env
 G:=0+1
 Co:=fun _ h=>h.lt
 Jk:=fun w _ ⟨m,hm⟩ hk _=>⟨m,(World.cell?_of_block (w:=w) (hk _ (Nat.lt_succ_self _))).trans hm⟩
 iH:=Tryz.iH
 mixed:=by kernel_rfl
 M:=fun _ _=>none
 mok:=fun _ _ _ h=>by cases h
theorem Tryz.VΓ:Tryz.V.Γ=Tryz.Γ:=rfl
end Go.Proofs
