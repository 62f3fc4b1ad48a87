/- R2 -/
import Derived.Test.YtnmlimehgifadaaGreatDoorProg
import Derived.Shelf.Strings.Builder1
import Derived.Shelf.Strings.Builder2
import Derived.Shelf.Strings.OnBuilder
import Derived.Shelf.Small.Utf8
import Derived.Shelf.Small.Strs
import Derived.Shelf.Small.Wraps
import Derived.Shelf.Strings.BuilderF
import Derived.Shelf.Strings.BuilderK
import Derived.Shelf.Strings.Search1
import Derived.Shelf.Strings.Search2
import Derived.Shelf.Strings.Search3
import Derived.Shelf.Strings.Cut
import Derived.Shelf.Strings.Count
import Derived.Shelf.LaysM
import Derived.Shelf.Strings.Shaped
import Derived.Shelf.Strings.LastIndex
import Derived.Shelf.Strings.Prefix
import Derived.Shelf.Strings.Split
import Derived.Shelf.Strings.SplitShaped
import Derived.Shelf.Strings.Runes
import Derived.Shelf.Strings.IndexAny
import Derived.Shelf.Strings.AsciiSet
import Derived.Shelf.Strings.IndexAnyAll
import Derived.Shelf.Unicode.DecodeSlow
import Derived.Lib.IndexMore
import Derived.Lib.Split
import Derived.Lib.SplitLaws
import Derived.Lib.CutLaws
import Derived.Test.YtnmlimehgifadaaGreatDoorR1
open List renaming toArray→zQA,mem_cons→zQB,mem_cons_self→zQC,mem_cons_of_mem→zQD,length_cons→zQE
open Go.Proofs.Tryz
set_option linter.all false
set_option maxHeartbeats 16000000
set_option maxRecDepth 20000
namespace Go.Proofs
open Go Vc
set_option maxRecDepth 100000
def Tryz.Γl:List (Nat × Vc.TI):=[(3,⟨1,8,false,[.int .i64 0],.int .i64,false⟩),(4,⟨1,1,false,[.bool false],.bool,false⟩),(5,⟨1,1,false,[.int .u8 0],.int .u8,false⟩),(9,⟨1,16,false,[.str []],.str,false⟩),(22,⟨1,24,false,[.ai],.slice 5,false⟩),(24,⟨2,24,true,[.str [],.int .i64 0],.struct [(0,9),(1,3)],true⟩),(25,⟨1,8,false,[.int .u64 0],.int .u64,false⟩),(27,⟨1,24,false,[.ai],.slice 33,false⟩),(33,⟨7,80,true,[.str [],.int .i64 0,.str [],.str [],.int .i64 0,.int .u64 0,.int .u64 0],.struct [(0,9),(1,3),(2,9),(3,9),(4,3),(5,25),(6,25)],true⟩),(35,⟨7,80,true,[.str [],.int .i64 0,.str [],.str [],.str [],.bool false,.bool false],.struct [(0,9),(1,3),(2,9),(3,9),(4,9),(5,4),(6,4)],true⟩),(36,⟨1,8,false,[.int .i64 0],.int .i64,false⟩),(39,⟨1,24,false,[.ai],.slice 24,false⟩),(46,⟨1,24,false,[.ai],.slice 100,false⟩),(48,⟨3,40,true,[.int .i64 0,.int .i64 0,.ai],.struct [(0,3),(1,3),(2,46)],false⟩),(49,⟨1,24,false,[.ai],.slice 62,false⟩),(51,⟨12,160,true,[.str [],.int .i64 0,.str [],.str [],.str [],.bool false,.bool false,.int .i64 0,.int .i64 0,.ai,.str [],.ai],.struct [(0,35),(7,48),(10,9),(11,49)],false⟩),(56,⟨1,24,false,[.ai],.slice 35,false⟩),(58,⟨23,288,true,[.str [],.int .i64 0,.str [],.str [],.str [],.bool false,.bool false,.int .i64 0,.bool false,.int .i64 0,.str [],.int .i64 0,.str [],.str [],.str [],.bool false,.bool false,.int .i64 0,.int .i64 0,.ai,.str [],.ai,.ai],.struct [(0,35),(7,3),(8,4),(9,36),(10,51),(22,56)],false⟩),(62,⟨9,96,true,[.str [],.int .i64 0,.str [],.str [],.str [],.bool false,.bool false,.int .i64 0,.int .i64 0],.struct [(0,35),(7,3),(8,36)],true⟩),(73,⟨4,48,true,[.int .i64 0,.str [],.str [],.int .i64 0],.struct [(0,3),(1,9),(2,9),(3,3)],true⟩),(76,⟨1,24,false,[.ai],.slice 9,false⟩),(80,⟨1,24,true,[.ai],.struct [(0,22)],false⟩),(82,⟨9,88,true,[.str [],.str [],.str [],.str [],.str [],.bool false,.bool false,.bool false,.bool false],.struct [(0,9),(1,9),(2,9),(3,9),(4,9),(5,4),(6,4),(7,4),(8,4)],true⟩),(94,⟨4,48,true,[.str [],.int .i64 0,.str [],.int .u64 0],.struct [(0,24),(2,9),(3,25)],true⟩),(100,⟨2,32,true,[.str [],.str []],.struct [(0,9),(1,9)],true⟩),(110,⟨2,32,true,[.str [],.str []],.struct [(0,9),(1,9)],true⟩),(115,⟨2,32,true,[.str [],.str []],.struct [(0,9),(1,9)],true⟩),(123,⟨2,32,true,[.str [],.str []],.struct [(0,9),(1,9)],true⟩),(130,⟨1,24,false,[.ai],.slice 232,false⟩),(132,⟨6,112,true,[.str [],.str [],.str [],.str [],.ai,.ai],.struct [(0,9),(1,9),(2,9),(3,9),(4,130),(5,130)],false⟩),(133,⟨1,24,false,[.ai],.slice 132,false⟩),(135,⟨4,88,true,[.str [],.ai,.ai,.ai],.struct [(0,9),(1,76),(2,130),(3,133)],false⟩),(137,⟨1,24,false,[.ai],.slice 139,false⟩),(139,⟨4,72,true,[.int .i64 0,.str [],.ai,.ai],.struct [(0,3),(1,9),(2,76),(3,137)],false⟩),(175,⟨1,24,false,[.ai],.slice 225,false⟩),(177,⟨1,24,false,[.ai],.slice 223,false⟩),(179,⟨5,112,true,[.str [],.ai,.ai,.ai,.ai],.struct [(0,9),(1,76),(2,76),(3,177),(4,175)],false⟩),(183,⟨1,24,false,[.ai],.slice 3,false⟩),(197,⟨1,24,false,[.ai],.slice 237,false⟩),(212,⟨2,24,true,[.str [],.bool false],.struct [(0,9),(1,4)],true⟩),(225,⟨3,64,true,[.str [],.ai,.ai],.struct [(0,9),(1,76),(2,76)],false⟩),(237,⟨3,64,true,[.str [],.ai,.ai],.struct [(0,9),(1,76),(2,46)],false⟩),(243,⟨1,24,false,[.ai],.slice 5,false⟩),(253,⟨2,32,true,[.v (.pointer none),.ai],.struct [(0,251),(1,22)],false⟩)]
def Tryz.Γ:TypeId→Option Vc.TI:=fun T=>(Tryz.Γl.find? (fun p=>p.1==T)).map (·.2)
theorem Tryz.Γs:Tryz.Γ 3=some ⟨1,8,false,[.int .i64 0],.int .i64,false⟩∧Tryz.Γ 4=some ⟨1,1,false,[.bool false],.bool,false⟩∧Tryz.Γ 5=some ⟨1,1,false,[.int .u8 0],.int .u8,false⟩∧Tryz.Γ 9=some ⟨1,16,false,[.str []],.str,false⟩∧Tryz.Γ 22=some ⟨1,24,false,[.ai],.slice 5,false⟩∧Tryz.Γ 24=some ⟨2,24,true,[.str [],.int .i64 0],.struct [(0,9),(1,3)],true⟩∧Tryz.Γ 25=some ⟨1,8,false,[.int .u64 0],.int .u64,false⟩∧Tryz.Γ 27=some ⟨1,24,false,[.ai],.slice 33,false⟩∧Tryz.Γ 33=some ⟨7,80,true,[.str [],.int .i64 0,.str [],.str [],.int .i64 0,.int .u64 0,.int .u64 0],.struct [(0,9),(1,3),(2,9),(3,9),(4,3),(5,25),(6,25)],true⟩∧Tryz.Γ 35=some ⟨7,80,true,[.str [],.int .i64 0,.str [],.str [],.str [],.bool false,.bool false],.struct [(0,9),(1,3),(2,9),(3,9),(4,9),(5,4),(6,4)],true⟩∧Tryz.Γ 36=some ⟨1,8,false,[.int .i64 0],.int .i64,false⟩∧Tryz.Γ 39=some ⟨1,24,false,[.ai],.slice 24,false⟩∧Tryz.Γ 46=some ⟨1,24,false,[.ai],.slice 100,false⟩∧Tryz.Γ 48=some ⟨3,40,true,[.int .i64 0,.int .i64 0,.ai],.struct [(0,3),(1,3),(2,46)],false⟩∧Tryz.Γ 49=some ⟨1,24,false,[.ai],.slice 62,false⟩∧Tryz.Γ 51=some ⟨12,160,true,[.str [],.int .i64 0,.str [],.str [],.str [],.bool false,.bool false,.int .i64 0,.int .i64 0,.ai,.str [],.ai],.struct [(0,35),(7,48),(10,9),(11,49)],false⟩∧Tryz.Γ 56=some ⟨1,24,false,[.ai],.slice 35,false⟩∧Tryz.Γ 58=some ⟨23,288,true,[.str [],.int .i64 0,.str [],.str [],.str [],.bool false,.bool false,.int .i64 0,.bool false,.int .i64 0,.str [],.int .i64 0,.str [],.str [],.str [],.bool false,.bool false,.int .i64 0,.int .i64 0,.ai,.str [],.ai,.ai],.struct [(0,35),(7,3),(8,4),(9,36),(10,51),(22,56)],false⟩∧Tryz.Γ 62=some ⟨9,96,true,[.str [],.int .i64 0,.str [],.str [],.str [],.bool false,.bool false,.int .i64 0,.int .i64 0],.struct [(0,35),(7,3),(8,36)],true⟩∧Tryz.Γ 73=some ⟨4,48,true,[.int .i64 0,.str [],.str [],.int .i64 0],.struct [(0,3),(1,9),(2,9),(3,3)],true⟩∧Tryz.Γ 76=some ⟨1,24,false,[.ai],.slice 9,false⟩∧Tryz.Γ 80=some ⟨1,24,true,[.ai],.struct [(0,22)],false⟩∧Tryz.Γ 82=some ⟨9,88,true,[.str [],.str [],.str [],.str [],.str [],.bool false,.bool false,.bool false,.bool false],.struct [(0,9),(1,9),(2,9),(3,9),(4,9),(5,4),(6,4),(7,4),(8,4)],true⟩∧Tryz.Γ 94=some ⟨4,48,true,[.str [],.int .i64 0,.str [],.int .u64 0],.struct [(0,24),(2,9),(3,25)],true⟩∧Tryz.Γ 100=some ⟨2,32,true,[.str [],.str []],.struct [(0,9),(1,9)],true⟩∧Tryz.Γ 110=some ⟨2,32,true,[.str [],.str []],.struct [(0,9),(1,9)],true⟩∧Tryz.Γ 115=some ⟨2,32,true,[.str [],.str []],.struct [(0,9),(1,9)],true⟩∧Tryz.Γ 123=some ⟨2,32,true,[.str [],.str []],.struct [(0,9),(1,9)],true⟩∧Tryz.Γ 130=some ⟨1,24,false,[.ai],.slice 232,false⟩∧Tryz.Γ 132=some ⟨6,112,true,[.str [],.str [],.str [],.str [],.ai,.ai],.struct [(0,9),(1,9),(2,9),(3,9),(4,130),(5,130)],false⟩∧Tryz.Γ 133=some ⟨1,24,false,[.ai],.slice 132,false⟩∧Tryz.Γ 135=some ⟨4,88,true,[.str [],.ai,.ai,.ai],.struct [(0,9),(1,76),(2,130),(3,133)],false⟩∧Tryz.Γ 137=some ⟨1,24,false,[.ai],.slice 139,false⟩∧Tryz.Γ 139=some ⟨4,72,true,[.int .i64 0,.str [],.ai,.ai],.struct [(0,3),(1,9),(2,76),(3,137)],false⟩∧Tryz.Γ 175=some ⟨1,24,false,[.ai],.slice 225,false⟩∧Tryz.Γ 177=some ⟨1,24,false,[.ai],.slice 223,false⟩∧Tryz.Γ 179=some ⟨5,112,true,[.str [],.ai,.ai,.ai,.ai],.struct [(0,9),(1,76),(2,76),(3,177),(4,175)],false⟩∧Tryz.Γ 183=some ⟨1,24,false,[.ai],.slice 3,false⟩∧Tryz.Γ 197=some ⟨1,24,false,[.ai],.slice 237,false⟩∧Tryz.Γ 212=some ⟨2,24,true,[.str [],.bool false],.struct [(0,9),(1,4)],true⟩∧Tryz.Γ 225=some ⟨3,64,true,[.str [],.ai,.ai],.struct [(0,9),(1,76),(2,76)],false⟩∧Tryz.Γ 237=some ⟨3,64,true,[.str [],.ai,.ai],.struct [(0,9),(1,76),(2,46)],false⟩∧Tryz.Γ 243=some ⟨1,24,false,[.ai],.slice 5,false⟩∧Tryz.Γ 253=some ⟨2,32,true,[.v (.pointer none),.ai],.struct [(0,251),(1,22)],false⟩ :=
 ⟨QE,QE,QE,QE,QE,QE,QE,QE,QE,QE,QE,QE,QE,QE,QE,QE,QE,QE,QE,QE,QE,QE,QE,QE,QE,QE,QE,QE,QE,QE,QE,QE,QE,QE,QE,QE,QE,QE,QE,QE,QE,QE,QE,QE⟩
theorem Tryz.all_cons {α:Type}{P:α→Prop}{a:α}{l:List α}(h:P a)(t:∀ x∈l,P x):∀ x∈a::l,P x:=fun x hx=>by
 rcases zQB.1 hx with rfl|hx
 ·exact h
 ·exact t x hx
theorem Tryz.mkN {T:TypeId}{sz y:Nat}{ag:Bool}{zr:List SV}{kd:Kd}{z:Value}{d:TypeDesc}(h1:∀ w,(Go.sizeOf T).run Tryz.prog w=Result.ok sz w)(h2:∀ w,(isAgg T).run Tryz.prog w=Result.ok ag w)(h3:∀ w,(zeroValue T).run Tryz.prog w=Result.ok z w)(h4:Tryz.prog.underlying T=some d)(i:TypeInfo)(h5:Tryz.prog.info? T=some i:=by kernel_rfl)(h6:i.zero=some z:=by rfl)(h7:i.size=sz:=by rfl)(h8:i.bytes=y:=by rfl)(e1:z.cells=(zr.map (aj nX)).toArray:=by simp[aj,Value.cells])(e2:∀ β,zr.map (aj β)=zr.map (aj nX):=by intro;simp[aj])(e3:zr.length=sz:=by rfl)(e4:dk kd d:=by first|trivial|rfl)(e5:∀ fs,kd≠.struct fs:=by intro _ h;cases h):Kc Tryz.prog T ⟨sz,y,ag,zr,kd,false⟩:=⟨h1,h2,fun w=>⟨_,h3 w,e1⟩,e2,e3,⟨_,h4,e4⟩,fun fs h=>absurd h (e5 fs),fun h=>(by cases h),⟨i,z,h5,h6,h7,h8,e1⟩⟩
theorem Tryz.mkS {T : TypeId} {sz y : Nat} {zr : List SV} {fs : List (Nat × TypeId)} {z : Value} {d : TypeDesc} {cm : Bool} (h1 : ∀ w, (Go.sizeOf T).run Tryz.prog w = Result.ok sz w) (h2 : ∀ w, (isAgg T).run Tryz.prog w = Result.ok true w) (h3 : ∀ w, (zeroValue T).run Tryz.prog w = Result.ok z w) (h4 : Tryz.prog.underlying T = some d) (i : TypeInfo) (hf : ∀ f ∈ fs, ∃ n, ∀ w, (Go.sizeOf f.2).run Tryz.prog w = Result.ok n w) (h5 : Tryz.prog.info? T = some i := by kernel_rfl) (h6 : i.zero = some z := by rfl) (h7 : i.size = sz := by rfl) (h8 : i.bytes = y := by rfl) (e1 : z.cells = (zr.map (aj nX)).toArray := by simp [aj, Value.cells]) (e2 : ∀ β, zr.map (aj β) = zr.map (aj nX) := by intro; simp [aj]) (e3 : zr.length = sz := by rfl) (e4 : dk (.struct fs) d := by exact ⟨_, rfl, rfl⟩) (c : cm = true → Tryz.prog.stoodInHeld T = false ∧ Tryz.prog.eqGuardType Tryz.prog.depth T = false ∧ (Tryz.prog.fieldsOf T).all (fun f => f.name != "_") = true := by first | (intro h; cases h; done) | exact fun _ => ⟨by kernel_rfl, by kernel_rfl, by kernel_rfl⟩) : Kc Tryz.prog T ⟨sz, y, true, zr, .struct fs, cm⟩ := ⟨h1, h2, fun w => ⟨_, h3 w, e1⟩, e2, e3, ⟨_, h4, e4⟩, fun fs h f hm => (by cases h; exact hf f hm), c, ⟨i, z, h5, h6, h7, h8, e1⟩⟩
theorem Tryz.fl {f:Nat × TypeId}{fs:List (Nat × TypeId)}{n:Nat}(h:∀ w,(Go.sizeOf f.2).run Tryz.prog w=Result.ok n w)(r:∀ f∈fs,∃ n,∀ w,(Go.sizeOf f.2).run Tryz.prog w=Result.ok n w):∀ g∈f::fs,∃ n,∀ w,(Go.sizeOf g.2).run Tryz.prog w=Result.ok n w:=fun g hg=>by
 rcases zQB.1 hg with rfl|hg
 ·exact⟨n,h⟩
 ·exact r g hg
theorem Tryz.fz:∀ g∈([]:List (Nat × TypeId)),∃ n,∀ w,(Go.sizeOf g.2).run Tryz.prog w=Result.ok n w:=fun g hg=>by cases hg
theorem Tryz.ty35:Kc Tryz.prog 35 ⟨7,80,true,[.str [],.int .i64 0,.str [],.str [],.str [],.bool false,.bool false],.struct [(0,9),(1,3),(2,9),(3,9),(4,9),(5,4),(6,4)],true⟩:=Tryz.mkS sizeOf35 isAgg35 zeroValue35 underlying35 Tryz.t35 (Tryz.fl sizeOf9 (Tryz.fl sizeOf3 (Tryz.fl sizeOf9 (Tryz.fl sizeOf9 (Tryz.fl sizeOf9 (Tryz.fl sizeOf4 (Tryz.fl sizeOf4 Tryz.fz)))))))
theorem Tryz.ty62:Kc Tryz.prog 62 ⟨9,96,true,[.str [],.int .i64 0,.str [],.str [],.str [],.bool false,.bool false,.int .i64 0,.int .i64 0],.struct [(0,35),(7,3),(8,36)],true⟩:=Tryz.mkS sizeOf62 isAgg62 zeroValue62 underlying62 Tryz.t62 (Tryz.fl sizeOf35 (Tryz.fl sizeOf3 (Tryz.fl sizeOf36 Tryz.fz)))
theorem Tryz.ty100:Kc Tryz.prog 100 ⟨2,32,true,[.str [],.str []],.struct [(0,9),(1,9)],true⟩:=Tryz.mkS sizeOf100 isAgg100 zeroValue100 underlying100 Tryz.t100 (Tryz.fl sizeOf9 (Tryz.fl sizeOf9 Tryz.fz))
theorem Tryz.gokl:∀ p∈Tryz.Γl,Vc.Kc Tryz.prog p.1 p.2:=by
 unfold Tryz.Γl;refine Tryz.all_cons (Tryz.mkN sizeOf3 isAgg3 zeroValue3 underlying3 Tryz.t3) ?_;refine Tryz.all_cons (Tryz.mkN sizeOf4 isAgg4 zeroValue4 underlying4 Tryz.t4) ?_;refine Tryz.all_cons (Tryz.mkN sizeOf5 isAgg5 zeroValue5 underlying5 Tryz.t5) ?_;refine Tryz.all_cons (Tryz.mkN sizeOf9 isAgg9 zeroValue9 underlying9 Tryz.t9) ?_;refine Tryz.all_cons (Tryz.mkN sizeOf22 isAgg22 zeroValue22 underlying22 Tryz.t22) ?_;refine Tryz.all_cons (Tryz.mkS sizeOf24 isAgg24 zeroValue24 underlying24 Tryz.t24 (Tryz.fl sizeOf9 (Tryz.fl sizeOf3 Tryz.fz))) ?_;refine Tryz.all_cons (Tryz.mkN sizeOf25 isAgg25 zeroValue25 underlying25 Tryz.t25) ?_;refine Tryz.all_cons (Tryz.mkN sizeOf27 isAgg27 zeroValue27 underlying27 Tryz.t27) ?_;refine Tryz.all_cons (Tryz.mkS sizeOf33 isAgg33 zeroValue33 underlying33 Tryz.t33 (Tryz.fl sizeOf9 (Tryz.fl sizeOf3 (Tryz.fl sizeOf9 (Tryz.fl sizeOf9 (Tryz.fl sizeOf3 (Tryz.fl sizeOf25 (Tryz.fl sizeOf25 Tryz.fz)))))))) ?_;refine Tryz.all_cons (Tryz.mkS sizeOf35 isAgg35 zeroValue35 underlying35 Tryz.t35 (Tryz.fl sizeOf9 (Tryz.fl sizeOf3 (Tryz.fl sizeOf9 (Tryz.fl sizeOf9 (Tryz.fl sizeOf9 (Tryz.fl sizeOf4 (Tryz.fl sizeOf4 Tryz.fz)))))))) ?_;refine Tryz.all_cons (Tryz.mkN sizeOf36 isAgg36 zeroValue36 underlying36 Tryz.t36) ?_;refine Tryz.all_cons (Tryz.mkN sizeOf39 isAgg39 zeroValue39 underlying39 Tryz.t39) ?_;refine Tryz.all_cons (Tryz.mkN sizeOf46 isAgg46 zeroValue46 underlying46 Tryz.t46) ?_;refine Tryz.all_cons (Tryz.mkS sizeOf48 isAgg48 zeroValue48 underlying48 Tryz.t48 (Tryz.fl sizeOf3 (Tryz.fl sizeOf3 (Tryz.fl sizeOf46 Tryz.fz)))) ?_;refine Tryz.all_cons (Tryz.mkN sizeOf49 isAgg49 zeroValue49 underlying49 Tryz.t49) ?_;refine Tryz.all_cons (Tryz.mkS sizeOf51 isAgg51 zeroValue51 underlying51 Tryz.t51 (Tryz.fl sizeOf35 (Tryz.fl sizeOf48 (Tryz.fl sizeOf9 (Tryz.fl sizeOf49 Tryz.fz))))) ?_;refine Tryz.all_cons (Tryz.mkN sizeOf56 isAgg56 zeroValue56 underlying56 Tryz.t56) ?_;refine Tryz.all_cons (Tryz.mkS sizeOf58 isAgg58 zeroValue58 underlying58 Tryz.t58 (Tryz.fl sizeOf35 (Tryz.fl sizeOf3 (Tryz.fl sizeOf4 (Tryz.fl sizeOf36 (Tryz.fl sizeOf51 (Tryz.fl sizeOf56 Tryz.fz))))))) ?_;refine Tryz.all_cons (Tryz.mkS sizeOf62 isAgg62 zeroValue62 underlying62 Tryz.t62 (Tryz.fl sizeOf35 (Tryz.fl sizeOf3 (Tryz.fl sizeOf36 Tryz.fz)))) ?_;refine Tryz.all_cons (Tryz.mkS sizeOf73 isAgg73 zeroValue73 underlying73 Tryz.t73 (Tryz.fl sizeOf3 (Tryz.fl sizeOf9 (Tryz.fl sizeOf9 (Tryz.fl sizeOf3 Tryz.fz))))) ?_;refine Tryz.all_cons (Tryz.mkN sizeOf76 isAgg76 zeroValue76 underlying76 Tryz.t76) ?_;refine Tryz.all_cons (Tryz.mkS sizeOf80 isAgg80 zeroValue80 underlying80 Tryz.t80 (Tryz.fl sizeOf22 Tryz.fz)) ?_;refine Tryz.all_cons (Tryz.mkS sizeOf82 isAgg82 zeroValue82 underlying82 Tryz.t82 (Tryz.fl sizeOf9 (Tryz.fl sizeOf9 (Tryz.fl sizeOf9 (Tryz.fl sizeOf9 (Tryz.fl sizeOf9 (Tryz.fl sizeOf4 (Tryz.fl sizeOf4 (Tryz.fl sizeOf4 (Tryz.fl sizeOf4 Tryz.fz)))))))))) ?_;refine Tryz.all_cons (Tryz.mkS sizeOf94 isAgg94 zeroValue94 underlying94 Tryz.t94 (Tryz.fl sizeOf24 (Tryz.fl sizeOf9 (Tryz.fl sizeOf25 Tryz.fz)))) ?_
 refine Tryz.all_cons (Tryz.mkS sizeOf100 isAgg100 zeroValue100 underlying100 Tryz.t100 (Tryz.fl sizeOf9 (Tryz.fl sizeOf9 Tryz.fz))) ?_;refine Tryz.all_cons (Tryz.mkS sizeOf110 isAgg110 zeroValue110 underlying110 Tryz.t110 (Tryz.fl sizeOf9 (Tryz.fl sizeOf9 Tryz.fz))) ?_;refine Tryz.all_cons (Tryz.mkS sizeOf115 isAgg115 zeroValue115 underlying115 Tryz.t115 (Tryz.fl sizeOf9 (Tryz.fl sizeOf9 Tryz.fz))) ?_;refine Tryz.all_cons (Tryz.mkS sizeOf123 isAgg123 zeroValue123 underlying123 Tryz.t123 (Tryz.fl sizeOf9 (Tryz.fl sizeOf9 Tryz.fz))) ?_;refine Tryz.all_cons (Tryz.mkN sizeOf130 isAgg130 zeroValue130 underlying130 Tryz.t130) ?_;refine Tryz.all_cons (Tryz.mkS sizeOf132 isAgg132 zeroValue132 underlying132 Tryz.t132 (Tryz.fl sizeOf9 (Tryz.fl sizeOf9 (Tryz.fl sizeOf9 (Tryz.fl sizeOf9 (Tryz.fl sizeOf130 (Tryz.fl sizeOf130 Tryz.fz))))))) ?_;refine Tryz.all_cons (Tryz.mkN sizeOf133 isAgg133 zeroValue133 underlying133 Tryz.t133) ?_;refine Tryz.all_cons (Tryz.mkS sizeOf135 isAgg135 zeroValue135 underlying135 Tryz.t135 (Tryz.fl sizeOf9 (Tryz.fl sizeOf76 (Tryz.fl sizeOf130 (Tryz.fl sizeOf133 Tryz.fz))))) ?_;refine Tryz.all_cons (Tryz.mkN sizeOf137 isAgg137 zeroValue137 underlying137 Tryz.t137) ?_;refine Tryz.all_cons (Tryz.mkS sizeOf139 isAgg139 zeroValue139 underlying139 Tryz.t139 (Tryz.fl sizeOf3 (Tryz.fl sizeOf9 (Tryz.fl sizeOf76 (Tryz.fl sizeOf137 Tryz.fz))))) ?_;refine Tryz.all_cons (Tryz.mkN sizeOf175 isAgg175 zeroValue175 underlying175 Tryz.t175) ?_;refine Tryz.all_cons (Tryz.mkN sizeOf177 isAgg177 zeroValue177 underlying177 Tryz.t177) ?_;refine Tryz.all_cons (Tryz.mkS sizeOf179 isAgg179 zeroValue179 underlying179 Tryz.t179 (Tryz.fl sizeOf9 (Tryz.fl sizeOf76 (Tryz.fl sizeOf76 (Tryz.fl sizeOf177 (Tryz.fl sizeOf175 Tryz.fz)))))) ?_;refine Tryz.all_cons (Tryz.mkN sizeOf183 isAgg183 zeroValue183 underlying183 Tryz.t183) ?_;refine Tryz.all_cons (Tryz.mkN sizeOf197 isAgg197 zeroValue197 underlying197 Tryz.t197) ?_;refine Tryz.all_cons (Tryz.mkS sizeOf212 isAgg212 zeroValue212 underlying212 Tryz.t212 (Tryz.fl sizeOf9 (Tryz.fl sizeOf4 Tryz.fz))) ?_;refine Tryz.all_cons (Tryz.mkS sizeOf225 isAgg225 zeroValue225 underlying225 Tryz.t225 (Tryz.fl sizeOf9 (Tryz.fl sizeOf76 (Tryz.fl sizeOf76 Tryz.fz)))) ?_;refine Tryz.all_cons (Tryz.mkS sizeOf237 isAgg237 zeroValue237 underlying237 Tryz.t237 (Tryz.fl sizeOf9 (Tryz.fl sizeOf76 (Tryz.fl sizeOf46 Tryz.fz)))) ?_;refine Tryz.all_cons (Tryz.mkN sizeOf243 isAgg243 zeroValue243 underlying243 Tryz.t243) ?_;refine Tryz.all_cons (Tryz.mkS sizeOf253 isAgg253 zeroValue253 underlying253 Tryz.t253 (Tryz.fl sizeOf251 (Tryz.fl sizeOf22 Tryz.fz))) ?_;exact fun x hx=>by cases hx
theorem Tryz.kF:Vc.Ij Tryz.prog Tryz.Γ:=by
 intro T t h;unfold Tryz.Γ at h;obtain⟨p,hp,rfl⟩:=Option.map_eq_some_iff.1 h;have h1:=List.find?_some hp;have h2:=List.mem_of_find?_eq_some hp;obtain rfl:p.1=T:=by simpa using h1
 exact Tryz.gokl p h2
end Go.Proofs
namespace Go.Proofs
open Go.Shelf
def Tryz.GF:Go.Shelf.Ren:=⟨fun|170=>229|n=>n,fun|70=>251|3=>3|0=>0|72=>253|37=>22|5=>5|n=>n,fun|n=>n⟩
theorem Tryz.lays170:Go.Proofs.Lays.n170 Tryz.prog Tryz.GF:={
 mixed:=by kernel_rfl
 f170:=func229.trans (congrArg some QE)
 t0:=underlying0
 a0:=isAgg0
 z0:=sizeOf0
 v0:=zeroValue0
 t3:=underlying3
 a3:=isAgg3
 z3:=sizeOf3
 v3:=zeroValue3
 t37:=underlying22
 a37:=isAgg22
 z37:=sizeOf22
 v37:=zeroValue22
 t70:=underlying251
 a70:=isAgg251
 z70:=sizeOf251
 v70:=zeroValue251
 t72:=underlying253
 a72:=isAgg253
 z72:=sizeOf253
 v72:=zeroValue253 }
def Tryz.xK:Go.Shelf.Ren:=⟨fun|169=>233|n=>n,fun|70=>251|9=>9|0=>0|72=>253|37=>22|127=>280|3=>3|5=>5|n=>n,fun|n=>n⟩
theorem Tryz.lays169:Go.Proofs.Lays.n169 Tryz.prog Tryz.xK:={
 mixed:=by kernel_rfl
 f169:=func233.trans (congrArg some QE)
 t0:=underlying0
 a0:=isAgg0
 z0:=sizeOf0
 v0:=zeroValue0
 t3:=underlying3
 a3:=isAgg3
 z3:=sizeOf3
 v3:=zeroValue3
 t9:=underlying9
 a9:=isAgg9
 z9:=sizeOf9
 v9:=zeroValue9
 t37:=underlying22
 a37:=isAgg22
 z37:=sizeOf22
 v37:=zeroValue22
 t70:=underlying251
 a70:=isAgg251
 z70:=sizeOf251
 v70:=zeroValue251
 t72:=underlying253
 a72:=isAgg253
 z72:=sizeOf253
 v72:=zeroValue253
 t127:=underlying280
 a127:=isAgg280
 z127:=sizeOf280
 v127:=zeroValue280 }
theorem Tryz.vH:Builder.Extra Tryz.prog Tryz.xK:={
 sizeBuilder:=by kernel_rfl
 liesBuilder:=by kernel_rfl
 t5:=underlying5
 a5:=isAgg5
 z5:=sizeOf5
 v5:=zeroValue5
 infoByte:=by kernel_rfl
 cellsByte:=by kernel_rfl
 sizeByte:=by kernel_rfl
 neB5:=by decide }
def Tryz.xL:Go.Shelf.Ren:=⟨fun|156=>227|165=>265|166=>230|169=>233|240=>267|241=>281|276=>282|277=>289|n=>n,fun|31=>76|9=>9|3=>3|4=>4|0=>0|20=>20|72=>253|76=>261|70=>251|37=>22|75=>260|127=>280|164=>292|5=>5|80=>213|n=>n,fun|n=>n⟩
theorem Tryz.KD:Go.Proofs.Lays.n156 Tryz.prog Tryz.xL:={
 mixed:=by kernel_rfl
 f156:=func227.trans (congrArg some QE)
 f165:=func265.trans (congrArg some QE)
 f166:=func230.trans (congrArg some QE)
 f169:=func233.trans (congrArg some QE)
 f240:=func267.trans (congrArg some QE)
 f241:=func281.trans (congrArg some QE)
 f276:=func282.trans (congrArg some QE)
 f277:=func289.trans (congrArg some QE)
 t0:=underlying0
 a0:=isAgg0
 z0:=sizeOf0
 v0:=zeroValue0
 t3:=underlying3
 a3:=isAgg3
 z3:=sizeOf3
 v3:=zeroValue3
 t4:=underlying4
 a4:=isAgg4
 z4:=sizeOf4
 v4:=zeroValue4
 t9:=underlying9
 a9:=isAgg9
 z9:=sizeOf9
 v9:=zeroValue9
 t20:=underlying20
 a20:=isAgg20
 z20:=sizeOf20
 v20:=zeroValue20
 t31:=underlying76
 a31:=isAgg76
 z31:=sizeOf76
 v31:=zeroValue76
 t37:=underlying22
 a37:=isAgg22
 z37:=sizeOf22
 v37:=zeroValue22
 t70:=underlying251
 a70:=isAgg251
 z70:=sizeOf251
 v70:=zeroValue251
 t72:=underlying253
 a72:=isAgg253
 z72:=sizeOf253
 v72:=zeroValue253
 t75:=underlying260
 a75:=isAgg260
 z75:=sizeOf260
 v75:=zeroValue260
 t76:=underlying261
 a76:=isAgg261
 z76:=sizeOf261
 v76:=zeroValue261
 t127:=underlying280
 a127:=isAgg280
 z127:=sizeOf280
 v127:=zeroValue280
 t164:=underlying292
 a164:=isAgg292
 z164:=sizeOf292
 v164:=zeroValue292 }
theorem Tryz.nC:Builder.Extra Tryz.prog Tryz.xL:={
 sizeBuilder:=by kernel_rfl
 liesBuilder:=by kernel_rfl
 t5:=underlying5
 a5:=isAgg5
 z5:=sizeOf5
 v5:=zeroValue5
 infoByte:=by kernel_rfl
 cellsByte:=by kernel_rfl
 sizeByte:=by kernel_rfl
 neB5:=by decide }
open Go.RowKit in
theorem Tryz.strings_Join_none (a:Option Addr)(c:Nat)(sep:ByteArray)(w:World) :
 Calls Tryz.prog 227 #[.slice a 0 c,.string sep] w fun e w'=>e=.returned (.string ⟨#[]⟩)∧w'=w:=Any.strings_Join_none Tryz.KD Tryz.nC a c sep w
open Go.RowKit in
theorem Tryz.strings_Join (bk o c:Nat)(xs:List ByteArray)(sep:ByteArray)(w:World)(gX:∀ (j:Nat) x,xs[j]? = some x→w.cell? ⟨bk,o+j,none⟩=some (.string x))(hbk:bk<w.heap.size)(hN:xs.length≤140737488355328)(Ar:xs.length≤c)(hlen:(Lib.join (xs.map (·.data.toList)) sep.data.toList).length≤140737488355328) :
 Calls Tryz.prog 227 #[.slice (some ⟨bk,o,none⟩) xs.length c,.string sep] w fun e w'=>e=.returned (.string ⟨(Lib.join (xs.map (·.data.toList)) sep.data.toList).toArray⟩)∧Below w.heap.size w w':=Any.strings_Join Tryz.KD Tryz.nC bk o c xs sep w gX hbk hN Ar hlen
def Tryz.GO:Go.Shelf.Ren:=⟨fun|119=>278|n=>n,fun|21=>21|4=>4|n=>n,fun|n=>n⟩
theorem Tryz.lays119:Go.Proofs.Lays.n119 Tryz.prog Tryz.GO:={
 mixed:=by kernel_rfl
 f119:=func278.trans (congrArg some QE)
 t4:=underlying4
 a4:=isAgg4
 z4:=sizeOf4
 v4:=zeroValue4
 t21:=underlying21
 a21:=isAgg21
 z21:=sizeOf21
 v21:=zeroValue21 }
theorem Tryz.utf8_ValidRune (r:Int)(w:World) :
 Calls Tryz.prog 278 #[.int .i32 r] w fun e w'=>e=.returned (.bool (Lib.validRune r))∧w'=w:=Any.utf8_ValidRune Tryz.lays119 r w
def Tryz.GN:Go.Shelf.Ren:=⟨fun|137=>209|217=>254|266=>279|n=>n,fun|9=>9|5=>5|3=>3|n=>n,fun|n=>n⟩
theorem Tryz.lays137:Go.Proofs.Lays.n137 Tryz.prog Tryz.GN:={
 mixed:=by kernel_rfl
 f137:=func209.trans (congrArg some QE)
 f217:=func254.trans (congrArg some QE)
 f266:=func279.trans (congrArg some QE)
 t3:=underlying3
 a3:=isAgg3
 z3:=sizeOf3
 v3:=zeroValue3
 t5:=underlying5
 a5:=isAgg5
 z5:=sizeOf5
 v5:=zeroValue5
 t9:=underlying9
 a9:=isAgg9
 z9:=sizeOf9
 v9:=zeroValue9 }
open Go.RowKit in
theorem Tryz.strings_IndexByte (s:ByteArray)(c:Int)(w:World) :
 Calls Tryz.prog 209 #[.string s,.int .u8 c] w fun e w'=>e=.returned (.int .i64 (Lib.indexByte s.data.toList c.toNat.toUInt8))∧w'=w:=Any.strings_IndexByte Tryz.lays137 s c w
def Tryz.lays210_ren:Go.Shelf.Ren:=⟨fun|210=>253|206=>186|n=>n,fun|9=>9|4=>4|3=>3|n=>n,fun|n=>n⟩
def Tryz.GP:Go.Shelf.Ren:=⟨fun|103=>208|210=>253|206=>186|n=>n,fun|9=>9|4=>4|24=>195|3=>3|n=>n,fun|n=>n⟩
theorem Tryz.lays103:Go.Proofs.Lays.n103 Tryz.prog Tryz.GP:={
 mixed:=by kernel_rfl
 f103:=func208.trans (congrArg some QE)
 f206:=func186.trans (congrArg some QE)
 f210:=func253.trans (congrArg some QE)
 t3:=underlying3
 a3:=isAgg3
 z3:=sizeOf3
 v3:=zeroValue3
 t4:=underlying4
 a4:=isAgg4
 z4:=sizeOf4
 v4:=zeroValue4
 t9:=underlying9
 a9:=isAgg9
 z9:=sizeOf9
 v9:=zeroValue9
 t24:=underlying195
 a24:=isAgg195
 z24:=sizeOf195
 v24:=zeroValue195 }
open Go.RowKit in
theorem Tryz.strings_CutPrefix (s p:ByteArray)(w:World) :
 Calls Tryz.prog 208 #[.string s,.string p] w fun e w'=>e=.returned (.tuple #[.string ⟨(Lib.trimPrefix s.data.toList p.data.toList).toArray⟩,.bool (Lib.hasPrefix s.data.toList p.data.toList)])∧w'=w:=Any.strings_CutPrefix Tryz.lays103 s p w
open Go.RowKit in
theorem Tryz.Builder_Len_f (B b:Nat)(bs:List Value)(w:World)(h:Lib.IsBuilderF 253 5 B b bs w) :
 Calls Tryz.prog 229 #[.pointer (some ⟨b,0,none⟩)] w fun e w'=>e=.returned (.int .i64 bs.length)∧w'=w:=Any.Builder_Len_f Tryz.lays170 B b bs w h
open Go.RowKit in
theorem Tryz.Builder_String_any_k (B b:Nat)(l:List UInt8)(w:World)(h:Lib.IsBuilderF 253 5 B b (Lib.byteCells l) w)(hBw:B≤w.heap.size) :
 Calls Tryz.prog 233 #[.pointer (some ⟨b,0,none⟩)] w fun e w'=>e=.returned (.string ⟨l.toArray⟩)∧(Lib.IsBuilderF 253 5 B b (Lib.byteCells l) w'∧Below B w w'∧Lib.OthersKept 5 (some b) w w'):=Any.Builder_String_any_k Tryz.lays169 Tryz.vH B b l w h hBw
def Tryz.lays219_ren:Go.Shelf.Ren:=⟨fun|219=>222|217=>254|225=>262|224=>263|267=>264|266=>279|314=>280|n=>n,fun|9=>9|3=>3|4=>4|5=>5|46=>277|146=>290|51=>289|n=>n,fun|1=>0|n=>n⟩
def Tryz.GM:Go.Shelf.Ren:=⟨fun|143=>169|219=>222|217=>254|225=>262|224=>263|267=>264|266=>279|314=>280|n=>n,fun|9=>9|3=>3|4=>4|5=>5|46=>277|146=>290|51=>289|n=>n,fun|1=>0|n=>n⟩
theorem Tryz.lays143:Go.Proofs.Lays.n143 Tryz.prog Tryz.GM:={
 mixed:=by kernel_rfl
 f143:=func169.trans (congrArg some QE)
 f217:=func254.trans (congrArg some QE)
 f219:=func222.trans (congrArg some QE)
 f224:=func263.trans (congrArg some QE)
 f225:=func262.trans (congrArg some QE)
 f266:=func279.trans (congrArg some QE)
 f267:=func264.trans (congrArg some QE)
 f314:=func280.trans (congrArg some QE)
 t3:=underlying3
 a3:=isAgg3
 z3:=sizeOf3
 v3:=zeroValue3
 t4:=underlying4
 a4:=isAgg4
 z4:=sizeOf4
 v4:=zeroValue4
 t5:=underlying5
 a5:=isAgg5
 z5:=sizeOf5
 v5:=zeroValue5
 t9:=underlying9
 a9:=isAgg9
 z9:=sizeOf9
 v9:=zeroValue9
 t46:=underlying277
 a46:=isAgg277
 z46:=sizeOf277
 v46:=zeroValue277
 t51:=underlying289
 a51:=isAgg289
 z51:=sizeOf289
 v51:=zeroValue289
 t146:=underlying290
 a146:=isAgg290
 z146:=sizeOf290
 v146:=zeroValue290
 g1:=by kernel_rfl }
open Go.RowKit Go.Lib in
theorem Tryz.strings_Index (s sub:ByteArray)(m:Int)(w:World)(hs:s.size<4294967281)(hm:w.cell? ⟨0,0,none⟩=some (.int .i64 m)) :
 Calls Tryz.prog 169 #[.string s,.string sub] w fun e w'=>e=.returned (.int .i64 (Lib.index s.data.toList sub.data.toList))∧w'=w:=Any.strings_Index Tryz.lays143 s sub m w hs hm
def Tryz.GL:Go.Shelf.Ren:=⟨fun|144=>156|143=>169|219=>222|217=>254|225=>262|224=>263|267=>264|266=>279|314=>280|n=>n,fun|9=>9|4=>4|3=>3|5=>5|46=>277|146=>290|51=>289|n=>n,fun|1=>0|n=>n⟩
theorem Tryz.lays144:Go.Proofs.Lays.n144 Tryz.prog Tryz.GL:={
 mixed:=by kernel_rfl
 f143:=func169.trans (congrArg some QE)
 f144:=func156.trans (congrArg some QE)
 f217:=func254.trans (congrArg some QE)
 f219:=func222.trans (congrArg some QE)
 f224:=func263.trans (congrArg some QE)
 f225:=func262.trans (congrArg some QE)
 f266:=func279.trans (congrArg some QE)
 f267:=func264.trans (congrArg some QE)
 f314:=func280.trans (congrArg some QE)
 t3:=underlying3
 a3:=isAgg3
 z3:=sizeOf3
 v3:=zeroValue3
 t4:=underlying4
 a4:=isAgg4
 z4:=sizeOf4
 v4:=zeroValue4
 t5:=underlying5
 a5:=isAgg5
 z5:=sizeOf5
 v5:=zeroValue5
 t9:=underlying9
 a9:=isAgg9
 z9:=sizeOf9
 v9:=zeroValue9
 t46:=underlying277
 a46:=isAgg277
 z46:=sizeOf277
 v46:=zeroValue277
 t51:=underlying289
 a51:=isAgg289
 z51:=sizeOf289
 v51:=zeroValue289
 t146:=underlying290
 a146:=isAgg290
 z146:=sizeOf290
 v146:=zeroValue290
 g1:=by kernel_rfl }
open Go.RowKit Go.Lib in
theorem Tryz.strings_Contains_one (s:ByteArray)(c:UInt8)(w:World) :
 Calls Tryz.prog 156 #[.string s,.string ⟨#[c]⟩] w fun e w'=>e=.returned (.bool (decide (0≤Lib.indexByte s.data.toList c)))∧w'=w:=Any.strings_Contains_one Tryz.lays144 s c w
def Tryz.GK:Go.Shelf.Ren:=⟨fun|145=>172|220=>224|219=>222|217=>254|225=>262|224=>263|267=>264|266=>279|314=>280|n=>n,fun|9=>9|4=>4|59=>214|3=>3|5=>5|46=>277|146=>290|51=>289|n=>n,fun|1=>0|n=>n⟩
theorem Tryz.lays145:Go.Proofs.Lays.n145 Tryz.prog Tryz.GK:={
 mixed:=by kernel_rfl
 f145:=func172.trans (congrArg some QE)
 f217:=func254.trans (congrArg some QE)
 f219:=func222.trans (congrArg some QE)
 f220:=func224.trans (congrArg some QE)
 f224:=func263.trans (congrArg some QE)
 f225:=func262.trans (congrArg some QE)
 f266:=func279.trans (congrArg some QE)
 f267:=func264.trans (congrArg some QE)
 f314:=func280.trans (congrArg some QE)
 t3:=underlying3
 a3:=isAgg3
 z3:=sizeOf3
 v3:=zeroValue3
 t4:=underlying4
 a4:=isAgg4
 z4:=sizeOf4
 v4:=zeroValue4
 t5:=underlying5
 a5:=isAgg5
 z5:=sizeOf5
 v5:=zeroValue5
 t9:=underlying9
 a9:=isAgg9
 z9:=sizeOf9
 v9:=zeroValue9
 t46:=underlying277
 a46:=isAgg277
 z46:=sizeOf277
 v46:=zeroValue277
 t51:=underlying289
 a51:=isAgg289
 z51:=sizeOf289
 v51:=zeroValue289
 t59:=underlying214
 a59:=isAgg214
 z59:=sizeOf214
 v59:=zeroValue214
 t146:=underlying290
 a146:=isAgg290
 z146:=sizeOf290
 v146:=zeroValue290
 g1:=by kernel_rfl }
open Go.RowKit Go.Lib in
theorem Tryz.strings_Cut (s sep:ByteArray)(m:Int)(w:World)(hs:s.size<4294967281)(hm:w.cell? ⟨0,0,none⟩=some (.int .i64 m)) :
 Calls Tryz.prog 172 #[.string s,.string sep] w fun e w'=>e=.returned (.tuple #[.string ⟨(Lib.cut s.data.toList sep.data.toList).1.toArray⟩,.string ⟨(Lib.cut s.data.toList sep.data.toList).2.1.toArray⟩,.bool (Lib.cut s.data.toList sep.data.toList).2.2])∧∃ n,w'=w.drewN n:=Any.strings_Cut Tryz.lays145 s sep m w hs hm
def Tryz.lays222_ren:Go.Shelf.Ren:=⟨fun|222=>260|n=>n,fun|9=>9|5=>5|3=>3|4=>4|n=>n,fun|n=>n⟩
def Tryz.GI:Go.Shelf.Ren:=⟨fun|149=>214|222=>260|n=>n,fun|9=>9|5=>5|3=>3|4=>4|n=>n,fun|n=>n⟩
theorem Tryz.lays149:Go.Proofs.Lays.n149 Tryz.prog Tryz.GI:={
 mixed:=by kernel_rfl
 f149:=func214.trans (congrArg some QE)
 f222:=func260.trans (congrArg some QE)
 t3:=underlying3
 a3:=isAgg3
 z3:=sizeOf3
 v3:=zeroValue3
 t4:=underlying4
 a4:=isAgg4
 z4:=sizeOf4
 v4:=zeroValue4
 t5:=underlying5
 a5:=isAgg5
 z5:=sizeOf5
 v5:=zeroValue5
 t9:=underlying9
 a9:=isAgg9
 z9:=sizeOf9
 v9:=zeroValue9 }
open Go.RowKit Go.Lib in
theorem Tryz.strings_LastIndexByte (s:ByteArray)(c:Int)(hs:s.size<4611686018427387904)(w:World) :
 Calls Tryz.prog 214 #[.string s,.int .u8 c] w fun e w'=>e=.returned (.int .i64 (Lib.lastIndexByte s c))∧w'=w:=Any.strings_LastIndexByte Tryz.lays149 s c hs w
def Tryz.Jr:Go.Shelf.Ren:=⟨fun|99=>115|206=>186|n=>n,fun|9=>9|4=>4|3=>3|n=>n,fun|n=>n⟩
theorem Tryz.lays99:Go.Proofs.Lays.n99 Tryz.prog Tryz.Jr:={
 mixed:=by kernel_rfl
 f99:=func115.trans (congrArg some QE)
 f206:=func186.trans (congrArg some QE)
 t3:=underlying3
 a3:=isAgg3
 z3:=sizeOf3
 v3:=zeroValue3
 t4:=underlying4
 a4:=isAgg4
 z4:=sizeOf4
 v4:=zeroValue4
 t9:=underlying9
 a9:=isAgg9
 z9:=sizeOf9
 v9:=zeroValue9 }
open Go.RowKit Go.Lib in
theorem Tryz.strings_HasPrefix (s p:ByteArray)(w:World) :
 Calls Tryz.prog 115 #[.string s,.string p] w fun e w'=>e=.returned (.bool (Lib.hasPrefix s.data.toList p.data.toList))∧w'=w:=Any.strings_HasPrefix Tryz.lays99 s p w
def Tryz.GQ:Go.Shelf.Ren:=⟨fun|101=>213|208=>259|206=>186|n=>n,fun|9=>9|4=>4|3=>3|n=>n,fun|n=>n⟩
theorem Tryz.lays101:Go.Proofs.Lays.n101 Tryz.prog Tryz.GQ:={
 mixed:=by kernel_rfl
 f101:=func213.trans (congrArg some QE)
 f206:=func186.trans (congrArg some QE)
 f208:=func259.trans (congrArg some QE)
 t3:=underlying3
 a3:=isAgg3
 z3:=sizeOf3
 v3:=zeroValue3
 t4:=underlying4
 a4:=isAgg4
 z4:=sizeOf4
 v4:=zeroValue4
 t9:=underlying9
 a9:=isAgg9
 z9:=sizeOf9
 v9:=zeroValue9 }
open Go.RowKit Go.Lib in
theorem Tryz.strings_TrimPrefix (s p:ByteArray)(w:World) :
 Calls Tryz.prog 213 #[.string s,.string p] w fun e w'=>e=.returned (.string ⟨(Lib.trimPrefix s.data.toList p.data.toList).toArray⟩)∧w'=w:=Any.strings_TrimPrefix Tryz.lays101 s p w
def Tryz.lays221_ren:Go.Shelf.Ren:=⟨fun|221=>268|268=>283|138=>284|143=>169|195=>290|197=>291|218=>292|219=>222|260=>295|217=>254|225=>262|224=>263|267=>264|266=>279|314=>280|n=>n,fun|9=>9|3=>3|31=>76|4=>4|0=>0|105=>299|21=>21|5=>5|46=>277|119=>302|139=>305|138=>304|146=>290|51=>289|n=>n,fun|1=>0|3=>1|4=>2|n=>n⟩
def Tryz.GJ:Go.Shelf.Ren:=⟨fun|146=>234|221=>268|268=>283|138=>284|143=>169|195=>290|197=>291|218=>292|219=>222|260=>295|217=>254|225=>262|224=>263|267=>264|266=>279|314=>280|n=>n,fun|9=>9|31=>76|3=>3|4=>4|0=>0|105=>299|21=>21|5=>5|46=>277|119=>302|139=>305|138=>304|146=>290|51=>289|n=>n,fun|1=>0|3=>1|4=>2|n=>n⟩
theorem Tryz.lays146:Go.Proofs.Lays.n146 Tryz.prog Tryz.GJ:={
 mixed:=by kernel_rfl
 f138:=func284.trans (congrArg some QE)
 f143:=func169.trans (congrArg some QE)
 f146:=func234.trans (congrArg some QE)
 f195:=func290.trans (congrArg some QE)
 f197:=func291.trans (congrArg some QE)
 f217:=func254.trans (congrArg some QE)
 f218:=func292.trans (congrArg some QE)
 f219:=func222.trans (congrArg some QE)
 f221:=func268.trans (congrArg some QE)
 f224:=func263.trans (congrArg some QE)
 f225:=func262.trans (congrArg some QE)
 f260:=func295.trans (congrArg some QE)
 f266:=func279.trans (congrArg some QE)
 f267:=func264.trans (congrArg some QE)
 f268:=func283.trans (congrArg some QE)
 f314:=func280.trans (congrArg some QE)
 t0:=underlying0
 a0:=isAgg0
 z0:=sizeOf0
 v0:=zeroValue0
 t3:=underlying3
 a3:=isAgg3
 z3:=sizeOf3
 v3:=zeroValue3
 t4:=underlying4
 a4:=isAgg4
 z4:=sizeOf4
 v4:=zeroValue4
 t5:=underlying5
 a5:=isAgg5
 z5:=sizeOf5
 v5:=zeroValue5
 t9:=underlying9
 a9:=isAgg9
 z9:=sizeOf9
 v9:=zeroValue9
 t21:=underlying21
 a21:=isAgg21
 z21:=sizeOf21
 v21:=zeroValue21
 t31:=underlying76
 a31:=isAgg76
 z31:=sizeOf76
 v31:=zeroValue76
 t46:=underlying277
 a46:=isAgg277
 z46:=sizeOf277
 v46:=zeroValue277
 t51:=underlying289
 a51:=isAgg289
 z51:=sizeOf289
 v51:=zeroValue289
 t105:=underlying299
 a105:=isAgg299
 z105:=sizeOf299
 v105:=zeroValue299
 t119:=underlying302
 a119:=isAgg302
 z119:=sizeOf302
 t138:=underlying304
 a138:=isAgg304
 z138:=sizeOf304
 v138:=zeroValue304
 t139:=underlying305
 a139:=isAgg305
 z139:=sizeOf305
 v139:=zeroValue305
 t146:=underlying290
 a146:=isAgg290
 z146:=sizeOf290
 v146:=zeroValue290
 g1:=by kernel_rfl
 g3:=by kernel_rfl
 g4:=by kernel_rfl }
open Go.RowKit Go.Lib in
theorem Tryz.strings_Split (s sep:ByteArray)(m:Int)(w:World)(hs:s.size<4294967281)(hm:w.cell? ⟨0,0,none⟩=some (.int .i64 m))(h1:1≤sep.size) :
 Calls Tryz.prog 234 #[.string s,.string sep] w fun e w' =>
  e=.returned (.slice (some ⟨w.heap.size,0,none⟩) (Lib.countB s sep+1) (Lib.countB s sep+1))∧w'=w.alloc (.cells ((Lib.splitB sep 0 (Lib.countB s sep) s).map Value.string).toArray 9):=Any.strings_Split Tryz.lays146 QE s sep m w hs hm h1
def Tryz.GH:Go.Shelf.Ren:=⟨fun|152=>247|137=>209|119=>278|224=>263|225=>262|217=>254|266=>279|n=>n,fun|9=>9|21=>21|3=>3|4=>4|5=>5|0=>0|46=>277|n=>n,fun|n=>n⟩
theorem Tryz.lays152:Go.Proofs.Lays.n152 Tryz.prog Tryz.GH:={
 mixed:=by kernel_rfl
 f119:=func278.trans (congrArg some QE)
 f137:=func209.trans (congrArg some QE)
 f152:=func247.trans (congrArg some QE)
 f217:=func254.trans (congrArg some QE)
 f224:=func263.trans (congrArg some QE)
 f225:=func262.trans (congrArg some QE)
 f266:=func279.trans (congrArg some QE)
 t0:=underlying0
 a0:=isAgg0
 z0:=sizeOf0
 v0:=zeroValue0
 t3:=underlying3
 a3:=isAgg3
 z3:=sizeOf3
 v3:=zeroValue3
 t4:=underlying4
 a4:=isAgg4
 z4:=sizeOf4
 v4:=zeroValue4
 t5:=underlying5
 a5:=isAgg5
 z5:=sizeOf5
 v5:=zeroValue5
 t9:=underlying9
 a9:=isAgg9
 z9:=sizeOf9
 v9:=zeroValue9
 t21:=underlying21
 a21:=isAgg21
 z21:=sizeOf21
 v21:=zeroValue21
 t46:=underlying277
 a46:=isAgg277
 z46:=sizeOf277
 v46:=zeroValue277 }
open Go.RowKit Go.Lib in
theorem Tryz.strings_IndexRune_ascii (s:ByteArray)(r:Int)(w:World)(h0:0≤r)(h1:r<128) :
 Calls Tryz.prog 247 #[.string s,.int .i32 r] w fun e w'=>e=.returned (.int .i64 (Lib.indexByte s.data.toList r.toNat.toUInt8))∧w'=w:=Any.strings_IndexRune_ascii Tryz.lays152 s r w h0 h1
def Tryz.GD:Go.Shelf.Ren:=⟨fun|226=>248|n=>n,fun|3=>3|4=>4|n=>n,fun|n=>n⟩
theorem Tryz.lays226:Go.Proofs.Lays.n226 Tryz.prog Tryz.GD:={
 mixed:=by kernel_rfl
 f226:=func248.trans (congrArg some QE)
 t3:=underlying3
 a3:=isAgg3
 z3:=sizeOf3
 v3:=zeroValue3
 t4:=underlying4
 a4:=isAgg4
 z4:=sizeOf4
 v4:=zeroValue4 }
open Go.RowKit Go.Lib in
theorem Tryz.strings_shouldUseASCIISet (n:Int)(w:World) :
 Calls Tryz.prog 248 #[.int .i64 n] w fun e w'=>e=.returned (.bool (decide (8<n)))∧w'=w:=Any.strings_shouldUseASCIISet Tryz.lays226 n w
def Tryz.GG:Go.Shelf.Ren:=⟨fun|153=>206|152=>247|226=>248|227=>249|228=>250|137=>209|119=>278|224=>263|225=>262|217=>254|266=>279|n=>n,fun|9=>9|3=>3|4=>4|5=>5|21=>21|117=>275|116=>274|0=>0|46=>277|124=>288|n=>n,fun|n=>n⟩
theorem Tryz.KE:Go.Proofs.Lays.n153 Tryz.prog Tryz.GG:={
 mixed:=by kernel_rfl
 f119:=func278.trans (congrArg some QE)
 f137:=func209.trans (congrArg some QE)
 f152:=func247.trans (congrArg some QE)
 f153:=func206.trans (congrArg some QE)
 f217:=func254.trans (congrArg some QE)
 f224:=func263.trans (congrArg some QE)
 f225:=func262.trans (congrArg some QE)
 f226:=func248.trans (congrArg some QE)
 f227:=func249.trans (congrArg some QE)
 f228:=func250.trans (congrArg some QE)
 f266:=func279.trans (congrArg some QE)
 t0:=underlying0
 a0:=isAgg0
 z0:=sizeOf0
 v0:=zeroValue0
 t3:=underlying3
 a3:=isAgg3
 z3:=sizeOf3
 v3:=zeroValue3
 t4:=underlying4
 a4:=isAgg4
 z4:=sizeOf4
 v4:=zeroValue4
 t5:=underlying5
 a5:=isAgg5
 z5:=sizeOf5
 v5:=zeroValue5
 t9:=underlying9
 a9:=isAgg9
 z9:=sizeOf9
 v9:=zeroValue9
 t21:=underlying21
 a21:=isAgg21
 z21:=sizeOf21
 v21:=zeroValue21
 t46:=underlying277
 a46:=isAgg277
 z46:=sizeOf277
 v46:=zeroValue277
 t116:=underlying274
 a116:=isAgg274
 z116:=sizeOf274
 t117:=underlying275
 a117:=isAgg275
 z117:=sizeOf275
 v117:=zeroValue275
 t124:=underlying288
 a124:=isAgg288
 z124:=sizeOf288
 v124:=zeroValue288 }
open Go.RowKit Go.Lib in
theorem Tryz.strings_IndexAny_long (OQ:∀ w,(zeroValue 274).run Tryz.prog w=.ok (.agg (Array.replicate 256 (.bool false))) w)(s chars:ByteArray)(w:World)(h2:2≤chars.size)(h8:8<s.size)(hs:s.size<4294967281)(hcs:chars.size<4294967281)(hascii:∀ (j:Nat) b,chars.data.toList[j]? = some b→b.toNat<128) :
 Calls Tryz.prog 206 #[.string s,.string chars] w fun e w'=>e=.returned (.int .i64 (Lib.indexAny s.data.toList chars.data.toList))∧w'=((w.alloc (.cells (Lib.setCells chars.data.toList) 274)).alloc (.cells (Lib.setCells chars.data.toList) 274)):=Any.strings_IndexAny_long Tryz.KE OQ QE s chars w h2 h8 hs hcs hascii
open Go.RowKit Go.Lib in
theorem Tryz.strings_IndexAny (OQ:∀ w,(zeroValue 274).run Tryz.prog w=.ok (.agg (Array.replicate 256 (.bool false))) w)(s chars:ByteArray)(w:World)(hs:s.size<4294967281)(hcs:chars.size<4294967281)(has:∀ (j:Nat) b,s.data.toList[j]? = some b→b.toNat<128)(hac:∀ (j:Nat) b,chars.data.toList[j]? = some b→b.toNat<128) :
 Calls Tryz.prog 206 #[.string s,.string chars] w fun e w'=>e=.returned (.int .i64 (Lib.indexAny s.data.toList chars.data.toList))∧Below w.heap.size w w':=Any.strings_IndexAny Tryz.KE OQ QE s chars w hs hcs has hac
end Go.Proofs
namespace Wf
open Go Go.RowKit
theorem index_one (c:UInt8)(s:Bytes):Lib.index s [c]=Lib.indexByte s c:=by
 induction s with
 | nil=>rfl
 | cons b l ih =>
   rw[Lib.index,Lib.indexByte,ih];have:[c].isPrefixOf (b::l)=(b==c):=by simp[List.isPrefixOf];exact Bool.beq_comm
   rw[this]
def aL (c:UInt8)(s:Bytes):Bytes × Bytes × Bool :=
 if pre (·==c) s<s.length then(s.take (pre (·==c) s),s.drop (pre (·==c) s+1),true) else(s,[],false)
theorem jB (c:UInt8)(s:Bytes):(aL c s).1.length≤s.length∧(aL c s).2.1.length≤s.length:=by
 unfold aL;split
 ·simp;omega
 ·simp
theorem cut_one (c:UInt8)(s:Bytes):Lib.cut s [c]=aL c s:=by
 unfold Lib.cut aL;rw[index_one,eR];by_cases h:pre (·==c) s<s.length
 ·simp[h]
 ·simp[h]
def aD (c:UInt8):Bytes→List Bytes
 | []=>[[]]
 | x::r=>if x==c then []::aD c r else match aD c r with
   | h::t=>(x::h)::t
   | []=>[[x]]
theorem dC {c:UInt8}{s:Bytes}(h:¬ pre (·==c) s<s.length):aD c s=[s]:=by
 induction s with
 | nil=>rfl
 | cons x r ih =>
   rw[bY]at h;rw[aD];cases hx:x==c
   ·rw[hx]at h
    simp at h
    rw[ih QA];rfl
   ·rw[hx]at h;simp at h
theorem dO {c:UInt8}{s:Bytes}(h:pre (·==c) s<s.length):aD c s=s.take (pre (·==c) s)::aD c (s.drop (pre (·==c) s+1)):=by
 induction s with
 | nil=>simp at h
 | cons x r ih =>
   rw[bY]at h ⊢;rw[aD];cases hx:x==c
   ·rw[hx]at h
    simp at h
    rw[ih h];simp
   ·simp
theorem rL (c:UInt8)(s:Bytes):aD c s≠[]:=by
 by_cases h:pre (·==c) s<s.length
 ·rw[dO h];simp
 ·rw[dC h];simp
theorem lz {c:UInt8}{s:Bytes}(h:pre (·==c) s<s.length):s.count c=(s.drop (pre (·==c) s+1)).count c+1:=by
 induction s with
 | nil=>simp at h
 | cons x r ih =>
   rw[bY]at h ⊢;cases hx:x==c
   ·rw[hx]at h
    simp at h
    rw[List.count_cons,hx,ih h];simp
   ·simp[List.count_cons,hx]
theorem tP {c:UInt8}{s:Bytes}(h:¬ pre (·==c) s<s.length):s.count c=0:=by
 induction s with
 | nil=>rfl
 | cons x r ih =>
   rw[bY]at h;cases hx:x==c
   ·rw[hx]at h
    simp at h
    rw[List.count_cons,hx,ih QA];rfl
   ·rw[hx]at h;simp at h
theorem yW (c:UInt8):∀ (k:Nat)(s:Bytes),s.count c=k→Lib.splitK [c] 0 k s=aD c s:=by
 intro k;induction k with
 | zero =>
   intro s h;by_cases hp:pre (·==c) s<s.length
   ·rw[lz hp]at h;omega
   ·rw[dC hp];rfl
 | succ k ih =>
   intro s h;by_cases hp:pre (·==c) s<s.length
   ·rw[dO hp,Lib.splitK,index_one,eR,if_pos hp,if_neg QB]
    rw[lz hp]at h;have:=ih (s.drop (pre (·==c) s+1)) QA
    simp[this]
   ·rw[tP hp]at h;omega
theorem gF (c:UInt8)(s:Bytes):(aD c s).length=s.count c+1:=by
 suffices ∀ k,∀ s:Bytes,s.count c=k→(aD c s).length=k+1 from this _ s rfl
 intro k;induction k with
 | zero =>
   intro s h;by_cases hp:pre (·==c) s<s.length
   ·rw[lz hp]at h;omega
   ·rw[dC hp];rfl
 | succ k ih =>
   intro s h;by_cases hp:pre (·==c) s<s.length
   ·rw[dO hp]
    rw[lz hp]at h;simp[ih _ (by omega:(s.drop (pre (·==c) s+1)).count c=k)]
   ·rw[tP hp]at h;omega
theorem iK (c:UInt8)(s:Bytes):∀ x∈aD c s,x.length≤s.length:=by
 suffices ∀ k,∀ s:Bytes,s.count c=k→∀ x∈aD c s,x.length≤s.length from this _ s rfl
 intro k;induction k with
 | zero =>
   intro s h;by_cases hp:pre (·==c) s<s.length
   ·rw[lz hp]at h;omega
   ·rw[dC hp];simp
 | succ k ih =>
   intro s h;by_cases hp:pre (·==c) s<s.length
   ·rw[dO hp]
    rw[lz hp]at h;intro x hx;rcases zQB.1 hx with rfl|hx
    ·simp;omega
    ·have:=ih _ (by omega:(s.drop (pre (·==c) s+1)).count c=k) x hx
     simp at this;omega
   ·rw[tP hp]at h;omega
def oL (l:Bytes):Value:=.string ⟨zQA l⟩
theorem IT (c:UInt8)(s:Bytes):(Lib.splitB ⟨#[c]⟩ 0 (Lib.countB ⟨zQA s⟩ ⟨#[c]⟩) ⟨zQA s⟩).map Value.string=(aD c s).map oL:=by
 have h:=Lib.splitB_data ⟨#[c]⟩ 0 (Lib.countB ⟨zQA s⟩ ⟨#[c]⟩) ⟨zQA s⟩;have hk:Lib.splitK [c] 0 (Lib.countB ⟨zQA s⟩ ⟨#[c]⟩) s=aD c s:=yW c _ s (Lib.count_one c s).symm;have h2:(Lib.splitB ⟨#[c]⟩ 0 (Lib.countB ⟨zQA s⟩ ⟨#[c]⟩) ⟨zQA s⟩).map (·.data.toList)=aD c s:=h.trans hk;rw[← h2,List.map_map];apply List.map_congr_left
 intro x _;rfl
theorem J2 (c:UInt8)(s:Bytes):Lib.countB ⟨zQA s⟩ ⟨#[c]⟩+1=(aD c s).length:=by
 rw[gF];exact congrArg (·+1) (Lib.count_one c s)
open Go Go.RowKit
structure Uri where
 scheme:Bytes
 authority:Bytes
 path:Bytes
 query:Bytes
 fragment:Bytes
 bU:Bool
 bc:Bool
 aJ:Bool
 a8:Bool
 deriving DecidableEq
def Uri.none:Uri:=⟨[],[],[],[],[],false,false,false,false⟩
def Uri.cells (u:Uri):Array Value:=#[oL u.scheme,oL u.authority,oL u.path,oL u.query,oL u.fragment,.bool u.bU,.bool u.bc,.bool u.aJ,.bool u.a8]
def Uri.val (u:Uri):Value:=.agg u.cells
def gJ (c:UInt8):Bool:=isAlpha c||isDigit c||[43,45,46].contains c
def dI (s:Bytes):Bool:=match s with
 | []=>false
 | c::r=>isAlpha c&&r.all gJ
def ay (c:UInt8):Bool:=[58,47].contains c
def aG (s:Bytes):Bytes × Bool × Bytes:=match s with
 | 47::47::r=>(r.take (pre (·==47) r),true,r.drop (pre (·==47) r))
 | s=>([],false,s)
def aT (s frag query:Bytes)(a8 aJ:Bool):Uri × Int :=
 if (s.drop (pre ay s)).head? = some 58 then
  if dI (s.take (pre ay s)) then
   (⟨s.take (pre ay s),(aG (s.drop (pre ay s+1))).1,(aG (s.drop (pre ay s+1))).2.2,query,frag,true,(aG (s.drop (pre ay s+1))).2.1,aJ,a8⟩,0)
  else(Uri.none,6)
 else(⟨[],(aG s).1,(aG s).2.2,query,frag,false,(aG s).2.1,aJ,a8⟩,0)
def aP (s:Bytes):Uri × Int :=
 if 16384<s.length then(Uri.none,5)
 else aT (aL 63 (aL 35 s).1).1 (aL 35 s).2.1 (aL 63 (aL 35 s).1).2.1 (aL 35 s).2.2 (aL 63 (aL 35 s).1).2.2
def fg (u:Uri):Bytes :=
 (if u.bU then u.scheme++[58] else [])++(if u.bc then [47,47]++u.authority else [])++u.path++(if u.aJ then [63]++u.query else [])++(if u.a8 then [35]++u.fragment else [])
def ep (out:Bytes):Bytes:=(out.reverse.dropWhile (· != 47)).drop 1 |>.reverse
def dF (path out:Bytes):Bytes × Bytes :=
 if [46,46,47].isPrefixOf path then(path.drop 3,out)
 else if [46,47].isPrefixOf path then(path.drop 2,out)
 else if [47,46,47].isPrefixOf path then(path.drop 2,out)
 else if path=[47,46] then([47],out)
 else if [47,46,46,47].isPrefixOf path then(path.drop 3,ep out)
 else if path=[47,46,46] then([47],ep out)
 else if path=[46]∨path=[46,46] then([],out)
 else(path.drop (1+pre (·==47) (path.drop 1)),out++path.take (1+pre (·==47) (path.drop 1)))
def fR:Nat→Bytes→Bytes→Bytes
 | 0,_,out=>out
 | f+1,path,out=>if path=[] then out else fR f (dF path out).1 (dF path out).2
def aS (path:Bytes):Bytes:=fR path.length path []
def cL (s:Bytes):Nat:=(s.reverse.dropWhile (· != 47)).length
def gR (base ref:Uri):Bytes :=
 if ref.path.head? = some 47 then ref.path
 else if base.bc∧base.path=[] then 47::ref.path
 else base.path.take (cL base.path)++ref.path
def eI (base ref:Uri):Uri :=
 if ref.bU then { ref with path:=aS ref.path }
 else if ref.bc then { ref with path:=aS ref.path,scheme:=base.scheme,bU:=base.bU }
 else if ref.path=[] then
  if ref.aJ then { ref with path:=base.path,scheme:=base.scheme,bU:=base.bU,authority:=base.authority,bc:=base.bc }
  else { ref with path:=base.path,query:=base.query,aJ:=base.aJ,scheme:=base.scheme,bU:=base.bU,authority:=base.authority,bc:=base.bc }
 else { ref with path:=aS (gR base ref),scheme:=base.scheme,bU:=base.bU,authority:=base.authority,bc:=base.bc }
open Go Go.RowKit
def iu (c:UInt8):Bool:=isAlpha c||isDigit c||([45,46,95,126]:Bytes).contains c
def jH (n:Nat):UInt8:=if n<10 then(48+n).toUInt8 else(55+n).toUInt8
def nP (c:UInt8):Bytes:=[37,jH (c.toNat / 16),jH (c.toNat % 16)]
def unhex (a b:UInt8):UInt8:=(bo a * 16+bo b).toUInt8
inductive PU where
 | lit (c:UInt8) | hex (a b:UInt8) | bad
 deriving DecidableEq
def ez:Bytes→Option (UInt8 × UInt8 × Bytes)
 | a::b::r=>if aR a&&aR b then some (a,b,r) else none
 | _=>none
theorem ey {s r:Bytes}{a b:UInt8}(h:ez s=some (a,b,r)):s=a::b::r∧aR a=true∧aR b=true:=by
 unfold ez at h;split at h
 ·split at h
  ·rename_i hx
   simp only[Bool.and_eq_true]at hx;cases h
   exact⟨rfl,hx⟩
  ·cases h
 ·cases h
def cE:Nat→Bytes→List PU
 | 0,_=>[]
 | _+1,[]=>[]
 | f+1,c::r=>if c=37 then(match ez r with
    | some (a,b,r)=>.hex a b::cE f r
    | none=>[.bad]) else .lit c::cE f r
def aI (s:Bytes):List PU:=cE s.length s
theorem oG:∀ (f g:Nat)(s:Bytes),s.length≤f→s.length≤g→cE f s=cE g s
 | 0,0,_,_,_=>rfl
 | 0,g+1,s,h,_=>by obtain rfl:=List.length_eq_zero_iff.1 (Nat.le_zero.1 h);rfl
 | f+1,0,s,_,h=>by obtain rfl:=List.length_eq_zero_iff.1 (Nat.le_zero.1 h);rfl
 | f+1,g+1,[],_,_=>rfl
 | f+1,g+1,c::r,h,h'=>by
   simp only[zQE]at h h';rw[cE,cE];split
   ·cases hp:ez r with
    | none=>rfl
    | some x =>
      obtain⟨a,b,r'⟩:=x;obtain⟨rfl,-,-⟩:=ey hp;simp only[zQE]at h h' ⊢;rw[oG f g r' QA QA]
   ·rw[oG f g r QA QA]
theorem gE:aI []=[]:=rfl
theorem eC {c:UInt8}(h:c≠37)(r:Bytes):aI (c::r)=.lit c::aI r:=by
 unfold aI;rw[zQE,cE,if_neg h]
theorem hZ {a b:UInt8}(ha:aR a=true)(hb:aR b=true)(r:Bytes):aI (37::a::b::r)=.hex a b::aI r:=by
 unfold aI;rw[zQE,cE,if_pos rfl,show ez (a::b::r)=some (a,b,r) by simp[ez,ha,hb]];simp only[zQE];rw[oG _ r.length r QA (Nat.le_refl _)]
theorem vO {s:Bytes}(h:ez s=none):aI (37::s)=[.bad]:=by
 unfold aI;rw[zQE,cE,if_pos rfl,h]
theorem iB:∀ n,n<16→aR (jH n)=true:=by decide
theorem lq (c:UInt8):unhex (jH (c.toNat / 16)) (jH (c.toNat % 16))=c:=by
 have:=du (p:=fun c=>unhex (jH (c.toNat / 16)) (jH (c.toNat % 16))==c) (by decide +kernel) c
 simpa using this
theorem Ce (c:UInt8)(r:Bytes):aI (nP c++r)=.hex (jH (c.toNat / 16)) (jH (c.toNat % 16))::aI r :=
 hZ (iB _ (by have:=c.toNat_lt;omega)) (iB _ QA) r
def PU.val:PU→UInt8
 | .lit c=>c
 | .hex a b=>unhex a b
 | .bad=>0
def aC (s:Bytes):Bytes × Int:=if 16384<s.length then([],5) else if PU.bad∈aI s then([],2) else((aI s).map PU.val,0)
def ox (keep:Bytes)(c:UInt8):Bytes:=if iu c||(c != 37&&keep.contains c) then [c] else nP c
def aH (keep s:Bytes):Bytes:=s.flatMap (ox keep)
def fG (also:Bytes)(c:UInt8):Bool:=iu c||also.contains c
def qV (c:UInt8):Bytes:=if iu c then [c] else nP c
def comb (d:Bytes)(x:Bytes × Int):Bytes × Int:=if x.2=0 then(d++x.1,0) else([],x.2)
def cg (also:Bytes):List PU→Bytes × Int
 | []=>([],0)
 | .bad::_=>([],2)
 | .lit c::r=>if fG also c then comb [c] (cg also r) else([],1)
 | .hex a b::r=>comb (qV (unhex a b)) (cg also r)
def bM (also s:Bytes):Bytes × Int:=if 16384<s.length then([],5) else cg also (aI s)
theorem AL (x:Bytes × Int)(h:x.2≠0→x.1=[]):comb [] x=x:=by
 obtain⟨x,e⟩:=x;unfold comb;simp only at h ⊢;split
 ·rename_i h0;subst h0;rfl
 ·rename_i h0;rw[h h0]
theorem lE (a b:Bytes)(x:Bytes × Int):comb a (comb b x)=comb (a++b) x:=by
 unfold comb;by_cases h:x.2=0
 ·simp[h]
 ·simp[h]
theorem CC (also:Bytes):∀ l,(cg also l).2≠0→(cg also l).1=[]
 | [],h=>by simp[cg]at h
 | .bad::_,_=>rfl
 | .lit c::r,h=>by
   rw[cg]at h ⊢;split
   ·rename_i hk
    rw[if_pos hk]at h;unfold comb at h ⊢;split
    ·rename_i h0;rw[if_pos h0]at h;simp at h
    ·rfl
   ·rfl
 | .hex a b::r,h=>by
   rw[cg]at h ⊢;unfold comb at h ⊢;split
   ·rename_i h0;rw[if_pos h0]at h;simp at h
   ·rfl
theorem Fg {c:UInt8}(h:iu c=true):c≠37:=by
 rintro rfl;revert h;decide
def P7 (also:Bytes):PU→Prop
 | .lit c=>fG also c=true∧c≠37
 | .hex a b=>iu (unhex a b)=false∧a=jH ((unhex a b).toNat / 16)∧b=jH ((unhex a b).toNat % 16)∧aR a=true∧aR b=true
 | .bad=>False
def PU.str:PU→Bytes
 | .lit c=>[c]
 | .hex a b=>[37,a,b]
 | .bad=>[]
theorem rJ (also:Bytes):∀ (l:List PU),(∀ x∈l,P7 also x)→aI (l.flatMap PU.str)=l
 | [],_=>rfl
 | .lit c::r,h=>by
   have h1:=h _ zQC;rw[List.flatMap_cons,PU.str,List.singleton_append,eC h1.2,rJ also r (fun x hx=>h x (zQD _ hx))]
 | .hex a b::r,h=>by
   have h1:=h _ zQC;rw[List.flatMap_cons,PU.str];simp only[List.cons_append,List.nil_append];rw[hZ h1.2.2.2.1 h1.2.2.2.2,rJ also r (fun x hx=>h x (zQD _ hx))]
 | .bad::r,h=>(h _ zQC).elim
theorem wA (also:Bytes):∀ (l:List PU),(∀ x∈l,P7 also x)→cg also l=(l.flatMap PU.str,0)
 | [],_=>rfl
 | .lit c::r,h=>by
   have h1:=h _ zQC;rw[cg,if_pos h1.1,wA also r (fun x hx=>h x (zQD _ hx))];rfl
 | .hex a b::r,h=>by
   have h1:=h _ zQC;rw[cg,wA also r (fun x hx=>h x (zQD _ hx))];unfold comb qV nP;simp only[h1.1,← h1.2.1,← h1.2.2.1,Bool.false_eq_true,if_false,if_true];rfl
 | .bad::r,h=>(h _ zQC).elim
theorem qU (also:Bytes):∀ (l:List PU),(∀ c,PU.lit c∈l→c≠37)→(cg also l).2=0→∃ l':List PU,(cg also l).1=l'.flatMap PU.str∧(∀ x∈l',P7 also x)∧(∀ x∈l,x≠.bad)∧l'.map PU.val=l.map PU.val
 | [],_,_=>⟨[],rfl,QB,QB,rfl⟩
 | .bad::_,_,h=>by simp[cg]at h
 | .lit c::r,hl,h=>by
   rw[cg]at h ⊢;split at h
   ·rename_i hk
    rw[if_pos hk];unfold comb at h ⊢;split at h
    ·rename_i h0
     rw[if_pos h0];obtain⟨l',e,h1,h2,h3⟩:=qU also r (fun d hd=>hl d (zQD _ hd)) h0;refine⟨.lit c::l',by simp[e,PU.str],?_,?_,by simp[h3,PU.val]⟩
     ·intro x hx
      simp only[zQB]at hx;rcases hx with rfl|hx
      ·exact⟨hk,hl c zQC⟩
      ·exact h1 x hx
     ·intro x hx
      simp only[zQB]at hx;rcases hx with rfl|hx
      ·simp
      ·exact h2 x hx
    ·rename_i h0;exact absurd h h0
   ·simp at h
 | .hex a b::r,hl,h=>by
   rw[cg]at h ⊢;unfold comb at h ⊢;split at h
   ·rename_i h0
    rw[if_pos h0];obtain⟨l',e,h1,h2,h3⟩:=qU also r (fun d hd=>hl d (zQD _ hd)) h0;have dc:∀ x∈PU.hex a b::r,x≠.bad:=fun x hx=>by
     simp only[zQB]at hx;rcases hx with rfl|hx
     ·simp
     ·exact h2 x hx
    by_cases hu:iu (unhex a b)=true
    ·refine⟨.lit (unhex a b)::l',by simp[e,PU.str,qV,hu],?_,dc,by simp[h3,PU.val]⟩
     intro x hx;simp only[zQB]at hx;rcases hx with rfl|hx
     ·exact⟨by simp[fG,hu],Fg hu⟩
     ·exact h1 x hx
    ·have hu':iu (unhex a b)=false:=by simpa using hu
     have hn:=(unhex a b).toNat_lt;have hv:=lq (unhex a b);refine⟨.hex (jH ((unhex a b).toNat / 16)) (jH ((unhex a b).toNat % 16))::l',by simp[e,PU.str,qV,hu',nP],?_,dc,by simp[h3,PU.val,hv]⟩;intro x hx;simp only[zQB]at hx;rcases hx with rfl|hx
     ·exact⟨by rw[hv];exact hu',by rw[hv],by rw[hv],iB _ QA,iB _ QA⟩
     ·exact h1 x hx
   ·rename_i h0;exact absurd h h0
theorem qz:∀ (f:Nat)(s:Bytes)(c:UInt8),PU.lit c∈cE f s→c≠37
 | 0,_,_,h=>by simp[cE]at h
 | _+1,[],_,h=>by simp[cE]at h
 | f+1,d::r,c,h=>by
   rw[cE]at h;split at h
   ·split at h
    ·simp only[zQB,reduceCtorEq,false_or]at h
     exact qz f _ c h
    ·simp at h
   ·rename_i hd
    simp only[zQB,PU.lit.injEq]at h;rcases h with rfl|h
    ·exact hd
    ·exact qz f _ c h
theorem xj (s:Bytes)(c:UInt8)(h:PU.lit c∈aI s):c≠37:=qz _ s c h
theorem qA:∀ (f:Nat)(s:Bytes),((cE f s).flatMap PU.str).length≤s.length
 | 0,_=>by simp[cE]
 | _+1,[]=>by simp[cE]
 | f+1,d::r=>by
   rw[cE];split
   ·cases hp:ez r with
    | none=>simp[PU.str]
    | some x =>
      obtain⟨a,b,r'⟩:=x;obtain⟨rfl,-,-⟩:=ey hp;have:=qA f r'
      simp[PU.str]at this ⊢;omega
   ·have:=qA f r
    simp[PU.str]at this ⊢;omega
theorem wz (also:Bytes):∀ (l:List PU),(cg also l).1.length≤(l.flatMap PU.str).length
 | []=>by simp[cg]
 | .bad::_=>by simp[cg]
 | .lit c::r=>by
   have:=wz also r
   rw[cg];split
   ·unfold comb;split
    ·simp[PU.str]at this ⊢;omega
    ·simp
   ·simp
 | .hex a b::r=>by
   have:=wz also r
   rw[cg];unfold comb qV;split
   ·split
    ·simp[PU.str]at this ⊢;omega
    ·simp[PU.str,nP]at this ⊢;omega
   ·simp
theorem gS (also s:Bytes):(bM also s).1.length≤s.length:=by
 unfold bM;split
 ·simp
 ·exact Nat.le_trans (wz also _) (qA _ s)
theorem kR (keep:Bytes):∀ (s:Bytes),(aI (aH keep s)).map PU.val=s∧PU.bad ∉ aI (aH keep s)
 | []=>⟨rfl,by simp[aH,gE]⟩
 | c::s=>by
   obtain⟨h1,h2⟩:=kR keep s;have e:aH keep (c::s)=ox keep c++aH keep s:=rfl;rw[e];unfold ox;split
   ·rename_i hc
    have bF:c≠37:=by
     rintro rfl;simp at hc
     exact absurd hc QD
    rw[List.singleton_append,eC bF];exact⟨by simp[PU.val,h1],by simpa using h2⟩
   ·rw[Ce]
    exact⟨by simp[PU.val,h1,lq],by simpa using h2⟩
theorem wo (keep s:Bytes)(hl:(aH keep s).length≤16384):aC (aH keep s)=(s,0):=by
 obtain⟨h1,h2⟩:=kR keep s;unfold aC;rw[if_neg QA,if_neg h2,h1]
theorem eO (keep s:Bytes):(aH keep s).length≤3 * s.length:=by
 induction s with
 | nil=>simp[aH]
 | cons c s ih =>
   have e:aH keep (c::s)=ox keep c++aH keep s:=rfl;have:(ox keep c).length≤3:=by unfold ox nP;split <;> simp
   rw[e,List.length_append,zQE];omega
open Go Go.RowKit
def yG (c:UInt8):Bool:=isAlpha c||isDigit c||c==45
def bW (s:Bytes):Bool:=!s.isEmpty&&decide (s.length≤63)&&!(s.head?==some 45)&&!(s.getLast?==some 45)&&s.all yG
def pZ:List Bytes→Bool
 | []=>true
 | [x]=>bW x&&!bj x
 | x::y::r=>bW x&&pZ (y::r)
def gg (s:Bytes):Bool:=pZ (aD 46 s)
def gM (s:Bytes):Bool:=(aV 255 s).2==0
def ipv4 (s:Bytes):Bool:=(aD 46 s).length==4&&(aD 46 s).all gM
def cp (s:Bytes):Bytes × Int :=
 if s.isEmpty then([],3) else if 253<s.length then([],5) else if !ipv4 s&&!gg s then([],50) else(lower s,0)
def kK (s:Bytes):Int × Int :=
 if (aV 65535 s).2≠0∨(aV 65535 s).1=0 then(0,51) else((aV 65535 s).1,0)
def db (h:Bytes × Int)(colon:Bool)(p:Int × Int):(Bytes × Int) × Int :=
 if h.2≠0 then(([],0),h.2)
 else if colon then if p.2≠0 then(([],0),p.2) else((h.1,if p.1=443 then 0 else p.1),0)
 else((h.1,0),0)
def aN (s:Bytes):(Bytes × Int) × Int:=db (cp (aL 58 s).1) (aL 58 s).2.2 (kK (aL 58 s).2.1)
def bu (h:Bytes)(p:Int):Bytes:=if p=0 then h else if p<0 then h++[58,45]++cf p.natAbs else h++[58]++cf p.natAbs
open Go Go.RowKit
structure bN where
 host:Bytes
 port:Int
 path:Bytes
 query:Bytes
 fragment:Bytes
 aJ:Bool
 a8:Bool
 deriving DecidableEq
def bN.none:bN:=⟨[],0,[],[],[],false,false⟩
def dP:Bytes:=[33,36,38,39,40,41,42,43,44,59,61,58,64,47]
def dE:Bytes:=[33,36,38,39,40,41,42,43,44,59,61,58,64,47,63]
def dX:Bytes:=[104,116,116,112,115]
def bK (u:bN):Bytes:=if u.aJ then u.path++[63]++u.query else u.path
def bh (u:bN):Bytes:=[104,116,116,112,115,58,47,47]++bu u.host u.port++bK u++(if u.a8 then [35]++u.fragment else [])
def oF (h:Bytes × Int)(p q f:Bytes)(hq hf:Bool):bN × Int :=
 if 4096<(bh ⟨h.1,h.2,if aS p=[] then [47] else aS p,q,f,hq,hf⟩).length then(bN.none,5)
 else(⟨h.1,h.2,if aS p=[] then [47] else aS p,q,f,hq,hf⟩,0)
def n9 (r:Uri):bN × Int :=
 if (aN r.authority).2≠0 then(bN.none,(aN r.authority).2)
 else if (bM dP r.path).2≠0 then(bN.none,(bM dP r.path).2)
 else if (bM dE r.query).2≠0 then(bN.none,(bM dE r.query).2)
 else if (bM dE r.fragment).2≠0 then(bN.none,(bM dE r.fragment).2)
 else oF (aN r.authority).1 (bM dP r.path).1 (bM dE r.query).1 (bM dE r.fragment).1 r.aJ r.a8
def xh (r:Uri):bN × Int :=
 if r.bU=false∨lower r.scheme≠dX then(bN.none,60)
 else if r.bc=false then(bN.none,71)
 else if (64:UInt8)∈r.authority then(bN.none,70)
 else n9 r
def bz (s:Bytes):bN × Int :=
 if 4096<s.length then(bN.none,5)
 else if (aP s).2≠0 then(bN.none,(aP s).2)
 else xh (aP s).1
def bX (u:bN):Bool:=decide (bz (bh u)=(u,0))
def cC (b:bN)(ref:Bytes):bN × Int :=
 if bX b=false then(bN.none,8)
 else if (aP ref).2≠0 then(bN.none,(aP ref).2)
 else if lower (eI (aP (bh b)).1 (aP ref).1).scheme≠dX then(bN.none,253)
 else bz (fg (eI (aP (bh b)).1 (aP ref).1))
end Wf
namespace Go.Proofs
open Go.Shelf Go.RowKit
def Tryz.GR:Go.Shelf.Ren:=⟨fun|240=>267|166=>230|276=>282|n=>n,fun|0=>0|3=>3|4=>4|5=>5|9=>9|20=>20|37=>22|70=>251|72=>253|75=>260|80=>213|164=>292|n=>n,fun|n=>n⟩
theorem Tryz.Js:Go.Proofs.Lays.n166 Tryz.prog Tryz.GR:={
 mixed:=by kernel_rfl
 f166:=func230.trans (congrArg some QE)
 f240:=func267.trans (congrArg some QE)
 f276:=func282.trans (congrArg some QE)
 t0:=underlying0
 a0:=isAgg0
 z0:=sizeOf0
 v0:=zeroValue0
 t3:=underlying3
 a3:=isAgg3
 z3:=sizeOf3
 v3:=zeroValue3
 t4:=underlying4
 a4:=isAgg4
 z4:=sizeOf4
 v4:=zeroValue4
 t9:=underlying9
 a9:=isAgg9
 z9:=sizeOf9
 v9:=zeroValue9
 t20:=underlying20
 a20:=isAgg20
 z20:=sizeOf20
 v20:=zeroValue20
 t37:=underlying22
 a37:=isAgg22
 z37:=sizeOf22
 v37:=zeroValue22
 t70:=underlying251
 a70:=isAgg251
 z70:=sizeOf251
 v70:=zeroValue251
 t72:=underlying253
 a72:=isAgg253
 z72:=sizeOf253
 v72:=zeroValue253
 t75:=underlying260
 a75:=isAgg260
 z75:=sizeOf260
 v75:=zeroValue260
 t164:=underlying292
 a164:=isAgg292
 z164:=sizeOf292
 v164:=zeroValue292 }
theorem Tryz.vp:Builder.Extra Tryz.prog Tryz.GR:={
 sizeBuilder:=by kernel_rfl
 liesBuilder:=by kernel_rfl
 t5:=underlying5
 a5:=isAgg5
 z5:=sizeOf5
 v5:=zeroValue5
 infoByte:=by kernel_rfl
 cellsByte:=by kernel_rfl
 sizeByte:=by kernel_rfl
 neB5:=by decide }
end Go.Proofs
namespace Go.Proofs.YtnmlimehgifadaaGreatDoor
open Go.RowKit Wf
structure Fr (own:Nat→Prop) (w w':World):Prop where
 os:w'.os=w.os
 tape:w'.tape=w.tape
 output:w'.output=w.output
 size:w.heap.size≤w'.heap.size
 block:∀ k,k<w.heap.size→¬ own k→w'.heap[k]? = w.heap[k]?
theorem Fr.below {own:Nat→Prop}{B:Nat}{w w':World}(h:Fr own w w')(ho:∀ k,own k→B≤k)(hB:B≤w.heap.size):Below B w w' :=
 ⟨h.os,h.tape,h.output,h.size,fun k hk=>h.block k QA (fun e=>by have:=ho k e;omega)⟩
theorem Fr.kg {own:Nat→Prop}{B:Nat}{w w':World}(h:Below B w w')(ho:∀ k,B≤k→k<w.heap.size→own k):Fr own w w' :=
 ⟨h.os,h.tape,h.output,h.size,fun k hk hn=>h.block k (by
  rcases Nat.lt_or_ge k B with h' | h'
  ·exact h'
  ·exact absurd (ho k h' hk) hn)⟩
theorem Fr.refl (own:Nat→Prop)(w:World):Fr own w w:=⟨rfl,rfl,rfl,Nat.le_refl _,fun _ _ _=>rfl⟩
theorem Fr.trans {own:Nat→Prop}{a b c:World}(h:Fr own a b)(k:Fr own b c):Fr own a c :=
 ⟨k.os.trans h.os,k.tape.trans h.tape,k.output.trans h.output,Nat.le_trans h.size k.size,fun i hi hn=>(k.block i (by have:=h.size;omega) hn).trans (h.block i hi hn)⟩
theorem Fr.drew {own:Nat→Prop}{a w:World}(h:Fr own a w):Fr own a w.drew:=⟨h.os,h.tape,h.output,h.size,h.block⟩
theorem Fr.setCell {own:Nat→Prop}{a w:World}(h:Fr own a w){b o:Nat}(hb:own b)(v:Value):Fr own a (w.setCell ⟨b,o,none⟩ v) :=
 h.trans ⟨rfl,rfl,rfl,by simp[World.setCell],fun k _ hn=>Below.heap_setCell _ _ _ _ (by rintro rfl;exact hn hb)⟩
theorem Fr.LA {b o:Nat}(w:World)(v:Value):Fr (·=b) w (w.setCell ⟨b,o,none⟩ v):=(Fr.refl _ w).setCell (own:=(·=b)) rfl v
theorem heap_set {w:World}{b o:Nat}{cs:Array Value}{T:TypeId}{fz:Nat × Nat}(h:w.heap[b]? = some (.cells cs T fz))(v:Value):(w.setCell ⟨b,o,none⟩ v).heap[b]? = some (.cells (cs.setIfInBounds o v) T fz):=by
 simp[World.setCell,Array.getElem?_modify,h]
theorem cW {w:World}{b:Nat}{x:Obj}(h:w.heap[b]? = some x):b<w.heap.size:=(Array.getElem?_eq_some_iff.1 h).1
theorem Fr.kept {b:Nat}{w w':World}(h2:Lib.OthersKept 5 (some b) w w'){k:Nat}{cs:Array Value}{T:TypeId}{fz:Nat × Nat}(hk:w.heap[k]? = some (.cells cs T fz))(bF:k≠b)(hT:T≠5):w'.heap[k]? = some (.cells cs T fz) :=
 h2 k _ hk (by simpa using bF) (by rintro c f Pk;injection Pk with _ hT' _;exact hT hT')
def xc (b:Nat)(l:Bytes)(w:World):Prop:=Lib.IsBuilderF 253 5 b b (Lib.byteCells l) w
theorem xc.lt {b:Nat}{l:Bytes}{w:World}(h:xc b l w):b<w.heap.size:=by
 have:∀ p,Lib.BuilderAtF 253 5 b b p (Lib.byteCells l) w→b<w.heap.size:=by
  rintro p ⟨_,v,hb,_⟩;rcases Nat.lt_or_ge b w.heap.size with h' | h'
  ·exact h'
  ·simp[Array.getElem?_eq_none h']at hb
 rcases h with h|h <;> exact this _ h
theorem xc.alloc {b:Nat}{l:Bytes}{w:World}(h:xc b l w)(o:Obj):xc b l (w.alloc o):=Lib.IsBuilderF.alloc h o
theorem xc.fr {b cb:Nat}{l:Bytes}{w w':World}{cs:Array Value}{T:TypeId}{fz:Nat × Nat}(h:xc b l w)(hf:Fr (·=cb) w w')(hc:w.heap[cb]? = some (.cells cs T fz))(hT:T≠5)(bF:b≠cb):xc b l w':=by
 have key:∀ p,Lib.BuilderAtF 253 5 b b p (Lib.byteCells l) w→Lib.BuilderAtF 253 5 b b p (Lib.byteCells l) w':=by
  rintro p ⟨hB,v,hb,r6,hv⟩;refine⟨hB,v,?_,?_,hv⟩
  ·rw[hf.block b (cW hb) bF];exact hb
  ·exact r6.kept (row:=some cb) ⟨hf.os,hf.tape,hf.output,hf.size,fun k hk hn=>hf.block k hk (fun e=>hn (by rw[e]))⟩ (Or.inr (Lib.ownBlock_neF r6 hc hT))
 rcases h with h|h
 ·exact Or.inl (key _ h)
 ·exact Or.inr (key _ h)
theorem xc.fresh (w:World):xc w.heap.size [] (w.alloc (.cells #[.pointer none,.slice none 0 0] 253)) :=
 Lib.IsBuilderF.of (Lib.fresh_isBuilder _ _ w)
theorem sf (b:Nat)(l s:Bytes)(w:World)(h:xc b l w)(hlen:l.length+s.length≤140737488355328) :
 Calls Tryz.prog 230 #[.pointer (some ⟨b,0,none⟩),(Value.string ⟨zQA (s)⟩)] w fun e w'=>e=.returned (.tuple #[.int .i64 s.length,.nilIface])∧xc b (l++s) w'∧Below b w w'∧Lib.OthersKept 5 (some b) w w':=by
 refine(Any.Builder_WriteString_k Tryz.Js Tryz.vp b b (Lib.byteCells l) ⟨zQA s⟩ w h (by rw[Lib.byteCells_length];exact hlen) (Nat.le_of_lt (xc.lt h))).mono ?_;rintro e w' ⟨rfl,h1,h2,h3⟩;refine⟨rfl,?_,h2,h3⟩;right
 rw[Lib.byteCells_append];exact h1
theorem AV (b:Nat)(l:Bytes)(w:World)(h:xc b l w) :
 Calls Tryz.prog 233 #[.pointer (some ⟨b,0,none⟩)] w fun e w'=>e=.returned (Value.string ⟨zQA (l)⟩)∧xc b l w'∧Below b w w'∧Lib.OthersKept 5 (some b) w w' :=
 Tryz.Builder_String_any_k b b l w h (Nat.le_of_lt (xc.lt h))
theorem rD (b:Nat)(l:Bytes)(w:World)(h:xc b l w) :
 Calls Tryz.prog 229 #[.pointer (some ⟨b,0,none⟩)] w fun e w'=>e=.returned (.int .i64 l.length)∧w=w':=by
 refine(Tryz.Builder_Len_f b b _ w h).mono ?_;rintro e w' ⟨rfl,rfl⟩;exact⟨by rw[Lib.byteCells_length],rfl⟩
open Go.RowKit Wf
def Env (w:World):Prop:=∃ m,w.cell? ⟨0,0,none⟩=some (.int .i64 m)
theorem Env.lt {w:World}(h:Env w):0<w.heap.size:=by
 obtain⟨m,hm⟩:=h;unfold World.cell? at hm;rcases Nat.lt_or_ge 0 w.heap.size with h' | h'
 ·exact h'
 ·simp[Array.getElem?_eq_none h']at hm
theorem Env.below {w w':World}(h:Env w)(hb:Below w.heap.size w w'):Env w':=by
 have:=h.lt
 obtain⟨m,hm⟩:=h;exact⟨m,(hb.cell (p:=⟨0,0,none⟩) this).trans hm⟩
theorem eM (l:Bytes)(c:UInt8)(w:World) :
 Calls Tryz.prog 209 #[(Value.string ⟨zQA (l)⟩),.int .u8 c.toNat] w fun e w'=>e=.returned (.int .i64 (Lib.indexByte l c))∧w=w':=by
 refine(Tryz.strings_IndexByte ⟨zQA l⟩ c.toNat w).mono ?_;rintro e w' ⟨rfl,rfl⟩;exact⟨by rw[show ((c.toNat:Int)).toNat.toUInt8=c from by simp],rfl⟩
theorem FW (l p:Bytes)(w:World) :
 Calls Tryz.prog 115 #[(Value.string ⟨zQA (l)⟩),(Value.string ⟨zQA (p)⟩)] w fun e w'=>e=.returned (.bool (Lib.hasPrefix l p))∧w=w':=by
 refine(Tryz.strings_HasPrefix ⟨zQA l⟩ ⟨zQA p⟩ w).mono ?_;rintro e w' ⟨rfl,rfl⟩;exact⟨rfl,rfl⟩
theorem FY (l p:Bytes)(w:World) :
 Calls Tryz.prog 208 #[(Value.string ⟨zQA (l)⟩),(Value.string ⟨zQA (p)⟩)] w fun e w'=>e=.returned (.tuple #[(Value.string ⟨zQA (Lib.trimPrefix l p)⟩),.bool (Lib.hasPrefix l p)])∧w=w':=by
 refine(Tryz.strings_CutPrefix ⟨zQA l⟩ ⟨zQA p⟩ w).mono ?_;rintro e w' ⟨rfl,rfl⟩;exact⟨rfl,rfl⟩
theorem DF (l p:Bytes)(w:World) :
 Calls Tryz.prog 213 #[(Value.string ⟨zQA (l)⟩),(Value.string ⟨zQA (p)⟩)] w fun e w'=>e=.returned (Value.string ⟨zQA (Lib.trimPrefix l p)⟩)∧w=w':=by
 refine(Tryz.strings_TrimPrefix ⟨zQA l⟩ ⟨zQA p⟩ w).mono ?_;rintro e w' ⟨rfl,rfl⟩;exact⟨rfl,rfl⟩
theorem Kk (l:Bytes)(c:UInt8)(w:World)(hE:Env w)(hl:l.length<4294967281) :
 Calls Tryz.prog 172 #[(Value.string ⟨zQA (l)⟩),(Value.string ⟨zQA ([c])⟩)] w fun e w'=>e=.returned (.tuple #[(Value.string ⟨zQA ((aL c l).1)⟩),(Value.string ⟨zQA ((aL c l).2.1)⟩),.bool (aL c l).2.2])∧∃ n,w'=w.drewN n:=by
 obtain⟨m,hm⟩:=hE;refine(Tryz.strings_Cut ⟨zQA l⟩ ⟨#[c]⟩ m w hl hm).mono ?_;rintro e w' ⟨rfl,hw⟩;have:=cut_one c l
 exact⟨by rw[← this],hw⟩
theorem s_Split (l:Bytes)(c:UInt8)(w:World)(hE:Env w)(hl:l.length<4294967281) :
 Calls Tryz.prog 234 #[(Value.string ⟨zQA (l)⟩),(Value.string ⟨zQA ([c])⟩)] w fun e w'=>e=.returned (.slice (some ⟨w.heap.size,0,none⟩) (aD c l).length (aD c l).length)∧w'=w.alloc (.cells ((aD c l).map oL).toArray 9):=by
 obtain⟨m,hm⟩:=hE;refine(Tryz.strings_Split ⟨zQA l⟩ ⟨#[c]⟩ m w hl hm (Nat.le_refl 1)).mono ?_;rintro e w' ⟨rfl,rfl⟩;rw[J2,IT];exact⟨rfl,rfl⟩
def EW (w:World)(b:Nat)(l:List Bytes):Prop:=∀ i (h:i<l.length),w.cell? ⟨b,i,none⟩=some (Value.string ⟨zQA (l[i])⟩)
theorem EW.alloc (w:World)(l:List Bytes)(rest:List Value)(T:TypeId):EW (w.alloc (.cells (l.map oL++rest).toArray T)) w.heap.size l:=by
 intro i h;rw[Lib.cell_of_heap (eK _ _) i];simp[List.getElem?_append_left,h,oL]
end Go.Proofs.YtnmlimehgifadaaGreatDoor
namespace Go.Proofs
open Go Vc Go.Proofs.YtnmlimehgifadaaGreatDoor
noncomputable def QH:Vc.Cx where
 P:=Tryz.prog
 Γ:=Tryz.Γ
 E:=Env
 G:=0+1
 K7:=fun _ h=>h.lt
 PO:=fun w _ ⟨m,hm⟩ hk _=>⟨m,(World.cell?_of_block (w:=w) (hk _ (Nat.lt_succ_self _))).trans hm⟩
 kF:=Tryz.kF
 mixed:=by kernel_rfl
 M:=fun _ _=>none
 mok:=fun _ _ _ h=>by cases h
theorem Tryz.VΓ:QH.Γ=Tryz.Γ:=rfl
end Go.Proofs
