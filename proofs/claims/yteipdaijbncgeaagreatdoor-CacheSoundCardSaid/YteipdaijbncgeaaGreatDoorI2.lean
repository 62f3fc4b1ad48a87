/- Texts of this claim, laid together: Ty, Shelf, Plain, Small, V, VcN. -/
import Derived.Test.YteipdaijbncgeaaGreatDoorProg
import Derived.Shelf.Strings.Builder1
import Derived.Shelf.Strings.Builder2
import Derived.Shelf.Small.Utf8
import Derived.Shelf.Small.Strs
import Derived.Shelf.Small.Wraps
import Derived.Shelf.Strings.BuilderF
import Derived.Shelf.Strings.BuilderK
import Derived.Shelf.Strings.Search1
import Derived.Shelf.Strings.Search2
import Derived.Shelf.Strings.Search3
import Derived.Shelf.Strings.Cut
import Derived.Shelf.Strings.Count
import Derived.Shelf.LaysM
import Derived.Shelf.Strings.Shaped
import Derived.Shelf.Strings.LastIndex
import Derived.Shelf.Strings.Prefix
import Derived.Shelf.Strings.Split
import Derived.Shelf.Strings.Replace
import Derived.Shelf.Strings.SplitShaped
import Derived.Shelf.Strings.Runes
import Derived.Shelf.Strings.IndexAny
import Derived.Shelf.Strings.AsciiSet
import Derived.Shelf.Strings.IndexAnyAll
import Derived.Shelf.Unicode.DecodeSlow
import Derived.Lib.IndexMore
import Derived.Lib.Split
import Derived.Lib.SplitLaws
import Derived.Lib.CutLaws
import Derived.Lib.ConvBytes
import Derived.Laws.IdiomStrings
import Derived.Laws.BytesArg
import Derived.Great.BuildSlice
import Derived.Test.YteipdaijbncgeaaGreatDoorI1
open List renaming toArray → zJw, length_append → zJx, length_cons → zJz, getElem?_eq_some_iff → zJA, mem_cons → zJB, eq_nil_of_length_eq_zero → zJF, mem_cons_of_mem → zJG, map_append → zJI
open Nat renaming le_refl → zJy, add_mul → zJC, mul_le_mul_right → zJD, lt_succ_self → zJE
open Array renaming ext' → zJH
set_option linter.all false
set_option maxHeartbeats 16000000
set_option maxRecDepth 20000
namespace Go.Proofs
open Go Vc
set_option maxRecDepth 100000
def Tryz.Γl:List (Nat × Vc.TI):=[(3,⟨1,8,false,[.int .i64 0],.int .i64,false⟩),(4,⟨1,1,false,[.bool false],.bool,false⟩),(5,⟨1,1,false,[.int .u8 0],.int .u8,false⟩),(9,⟨1,16,false,[.str []],.str,false⟩),(22,⟨1,24,false,[.aI],.slice 43,false⟩),(24,⟨2,32,true,[.int .i64 0,.aI],.struct [(0,3),(1,22)],false⟩),(25,⟨1,24,false,[.aI],.slice 5,false⟩),(28,⟨1,8,false,[.int .i64 0],.int .i64,false⟩),(31,⟨1,8,false,[.int .u64 0],.int .u64,false⟩),(36,⟨4,48,true,[.int .i64 0,.str [],.str [],.int .i64 0],.struct [(0,3),(1,9),(2,9),(3,3)],true⟩),(38,⟨2,16,true,[.bool false,.int .u64 0],.struct [(0,4),(1,31)],true⟩),(39,⟨1,24,false,[.aI],.slice 93,false⟩),(41,⟨12,144,true,[.int .i64 0,.int .i64 0,.str [],.str [],.int .i64 0,.int .i64 0,.str [],.str [],.int .i64 0,.bool false,.int .u64 0,.aI],.struct [(0,28),(1,36),(5,36),(9,38),(11,39)],false⟩),(43,⟨14,160,true,[.int .i64 0,.int .i64 0,.str [],.str [],.int .i64 0,.int .i64 0,.str [],.str [],.int .i64 0,.bool false,.int .u64 0,.aI,.int .u64 0,.int .u64 0],.struct [(0,41),(12,31),(13,31)],false⟩),(51,⟨1,24,false,[.aI],.slice 41,false⟩),(76,⟨1,24,true,[.aI],.struct [(0,25)],false⟩),(80,⟨2,32,true,[.str [],.str []],.struct [(0,9),(1,9)],true⟩),(85,⟨2,32,true,[.str [],.str []],.struct [(0,9),(1,9)],true⟩),(91,⟨7,80,true,[.str [],.int .i64 0,.str [],.str [],.str [],.bool false,.bool false],.struct [(0,9),(1,3),(2,9),(3,9),(4,9),(5,4),(6,4)],true⟩),(93,⟨9,96,true,[.str [],.int .i64 0,.str [],.str [],.str [],.bool false,.bool false,.int .i64 0,.int .i64 0],.struct [(0,91),(7,3),(8,28)],true⟩),(96,⟨1,8,false,[.v (.pointer none)],.ptr 99,false⟩),(97,⟨1,24,false,[.aI],.slice 3,false⟩),(99,⟨2,48,true,[.aI,.aI],.struct [(0,22),(1,97)],false⟩),(123,⟨2,32,true,[.str [],.str []],.struct [(0,9),(1,9)],true⟩),(128,⟨2,24,true,[.str [],.int .i64 0],.struct [(0,9),(1,3)],true⟩),(132,⟨1,8,false,[.int .u64 0],.int .u64,false⟩),(142,⟨1,24,false,[.aI],.slice 9,false⟩),(147,⟨9,88,true,[.str [],.str [],.str [],.str [],.str [],.bool false,.bool false,.bool false,.bool false],.struct [(0,9),(1,9),(2,9),(3,9),(4,9),(5,4),(6,4),(7,4),(8,4)],true⟩),(174,⟨1,24,false,[.aI],.slice 5,false⟩),(179,⟨1,8,true,[.int .i64 0],.struct [(0,28)],true⟩),(191,⟨1,8,false,[.v (.pointer none)],.ptr 193,false⟩),(193,⟨2,32,true,[.v (.pointer none),.aI],.struct [(0,191),(1,25)],false⟩)]
def Tryz.Γ:TypeId→Option Vc.TI:=fun T=>(Tryz.Γl.find? (fun p=>p.1==T)).map (·.2)
theorem Tryz.Γs:Tryz.Γ 3=some ⟨1,8,false,[.int .i64 0],.int .i64,false⟩∧Tryz.Γ 4=some ⟨1,1,false,[.bool false],.bool,false⟩∧Tryz.Γ 5=some ⟨1,1,false,[.int .u8 0],.int .u8,false⟩∧Tryz.Γ 9=some ⟨1,16,false,[.str []],.str,false⟩∧Tryz.Γ 22=some ⟨1,24,false,[.aI],.slice 43,false⟩∧Tryz.Γ 24=some ⟨2,32,true,[.int .i64 0,.aI],.struct [(0,3),(1,22)],false⟩∧Tryz.Γ 25=some ⟨1,24,false,[.aI],.slice 5,false⟩∧Tryz.Γ 28=some ⟨1,8,false,[.int .i64 0],.int .i64,false⟩∧Tryz.Γ 31=some ⟨1,8,false,[.int .u64 0],.int .u64,false⟩∧Tryz.Γ 36=some ⟨4,48,true,[.int .i64 0,.str [],.str [],.int .i64 0],.struct [(0,3),(1,9),(2,9),(3,3)],true⟩∧Tryz.Γ 38=some ⟨2,16,true,[.bool false,.int .u64 0],.struct [(0,4),(1,31)],true⟩∧Tryz.Γ 39=some ⟨1,24,false,[.aI],.slice 93,false⟩∧Tryz.Γ 41=some ⟨12,144,true,[.int .i64 0,.int .i64 0,.str [],.str [],.int .i64 0,.int .i64 0,.str [],.str [],.int .i64 0,.bool false,.int .u64 0,.aI],.struct [(0,28),(1,36),(5,36),(9,38),(11,39)],false⟩∧Tryz.Γ 43=some ⟨14,160,true,[.int .i64 0,.int .i64 0,.str [],.str [],.int .i64 0,.int .i64 0,.str [],.str [],.int .i64 0,.bool false,.int .u64 0,.aI,.int .u64 0,.int .u64 0],.struct [(0,41),(12,31),(13,31)],false⟩∧Tryz.Γ 51=some ⟨1,24,false,[.aI],.slice 41,false⟩∧Tryz.Γ 76=some ⟨1,24,true,[.aI],.struct [(0,25)],false⟩∧Tryz.Γ 80=some ⟨2,32,true,[.str [],.str []],.struct [(0,9),(1,9)],true⟩∧Tryz.Γ 85=some ⟨2,32,true,[.str [],.str []],.struct [(0,9),(1,9)],true⟩∧Tryz.Γ 91=some ⟨7,80,true,[.str [],.int .i64 0,.str [],.str [],.str [],.bool false,.bool false],.struct [(0,9),(1,3),(2,9),(3,9),(4,9),(5,4),(6,4)],true⟩∧Tryz.Γ 93=some ⟨9,96,true,[.str [],.int .i64 0,.str [],.str [],.str [],.bool false,.bool false,.int .i64 0,.int .i64 0],.struct [(0,91),(7,3),(8,28)],true⟩∧Tryz.Γ 96=some ⟨1,8,false,[.v (.pointer none)],.ptr 99,false⟩∧Tryz.Γ 97=some ⟨1,24,false,[.aI],.slice 3,false⟩∧Tryz.Γ 99=some ⟨2,48,true,[.aI,.aI],.struct [(0,22),(1,97)],false⟩∧Tryz.Γ 123=some ⟨2,32,true,[.str [],.str []],.struct [(0,9),(1,9)],true⟩∧Tryz.Γ 128=some ⟨2,24,true,[.str [],.int .i64 0],.struct [(0,9),(1,3)],true⟩∧Tryz.Γ 132=some ⟨1,8,false,[.int .u64 0],.int .u64,false⟩∧Tryz.Γ 142=some ⟨1,24,false,[.aI],.slice 9,false⟩∧Tryz.Γ 147=some ⟨9,88,true,[.str [],.str [],.str [],.str [],.str [],.bool false,.bool false,.bool false,.bool false],.struct [(0,9),(1,9),(2,9),(3,9),(4,9),(5,4),(6,4),(7,4),(8,4)],true⟩∧Tryz.Γ 174=some ⟨1,24,false,[.aI],.slice 5,false⟩∧Tryz.Γ 179=some ⟨1,8,true,[.int .i64 0],.struct [(0,28)],true⟩∧Tryz.Γ 191=some ⟨1,8,false,[.v (.pointer none)],.ptr 193,false⟩∧Tryz.Γ 193=some ⟨2,32,true,[.v (.pointer none),.aI],.struct [(0,191),(1,25)],false⟩ :=
 ⟨by kernel_rfl,by kernel_rfl,by kernel_rfl,by kernel_rfl,by kernel_rfl,by kernel_rfl,by kernel_rfl,by kernel_rfl,by kernel_rfl,by kernel_rfl,by kernel_rfl,by kernel_rfl,by kernel_rfl,by kernel_rfl,by kernel_rfl,by kernel_rfl,by kernel_rfl,by kernel_rfl,by kernel_rfl,by kernel_rfl,by kernel_rfl,by kernel_rfl,by kernel_rfl,by kernel_rfl,by kernel_rfl,by kernel_rfl,by kernel_rfl,by kernel_rfl,by kernel_rfl,by kernel_rfl,by kernel_rfl,by kernel_rfl⟩
theorem Tryz.all_cons {α:Type}{P:α→Prop}{a:α}{l:List α}(h:P a)(t:∀ x∈l,P x):∀ x∈a::l,P x:=fun x hx=>by
 rcases zJB.1 hx with rfl|hx
 ·exact h
 ·exact t x hx
theorem Tryz.mkN {T:TypeId}{sz y:Nat}{ag:Bool}{zr:List SV}{kd:Kd}{z:Value}{d:TypeDesc}(h1:∀ w,(Go.sizeOf T).run Tryz.prog w=Result.ok sz w)(h2:∀ w,(isAgg T).run Tryz.prog w=Result.ok ag w)(h3:∀ w,(zeroValue T).run Tryz.prog w=Result.ok z w)(h4:Tryz.prog.underlying T=some d)(i:TypeInfo)(h5:Tryz.prog.info? T=some i:=by kernel_rfl)(h6:i.zero=some z:=by rfl)(h7:i.size=sz:=by rfl)(h8:i.bytes=y:=by rfl)(e1:z.cells=(zr.map (ah kH)).toArray:=by simp[ah,Value.cells])(e2:∀ β,zr.map (ah β)=zr.map (ah kH):=by intro;simp[ah])(e3:zr.length=sz:=by rfl)(e4:ck kd d:=by first|trivial|rfl)(e5:∀ fs,kd≠.struct fs:=by intro _ h;cases h):Gb Tryz.prog T ⟨sz,y,ag,zr,kd,false⟩:=⟨h1,h2,fun w=>⟨_,h3 w,e1⟩,e2,e3,⟨_,h4,e4⟩,fun fs h=>absurd h (e5 fs),fun h=>(by cases h),⟨i,z,h5,h6,h7,h8,e1⟩⟩
theorem Tryz.mkS {T : TypeId} {sz y : Nat} {zr : List SV} {fs : List (Nat × TypeId)} {z : Value} {d : TypeDesc} {cm : Bool} (h1 : ∀ w, (Go.sizeOf T).run Tryz.prog w = Result.ok sz w) (h2 : ∀ w, (isAgg T).run Tryz.prog w = Result.ok true w) (h3 : ∀ w, (zeroValue T).run Tryz.prog w = Result.ok z w) (h4 : Tryz.prog.underlying T = some d) (i : TypeInfo) (hf : ∀ f ∈ fs, ∃ n, ∀ w, (Go.sizeOf f.2).run Tryz.prog w = Result.ok n w) (h5 : Tryz.prog.info? T = some i := by kernel_rfl) (h6 : i.zero = some z := by rfl) (h7 : i.size = sz := by rfl) (h8 : i.bytes = y := by rfl) (e1 : z.cells = (zr.map (ah kH)).toArray := by simp [ah, Value.cells]) (e2 : ∀ β, zr.map (ah β) = zr.map (ah kH) := by intro; simp [ah]) (e3 : zr.length = sz := by rfl) (e4 : ck (.struct fs) d := by exact ⟨_, rfl, rfl⟩) (c : cm = true → Tryz.prog.stoodInHeld T = false ∧ Tryz.prog.eqGuardType Tryz.prog.depth T = false ∧ (Tryz.prog.fieldsOf T).all (fun f => f.name != "_") = true := by first | (intro h; cases h; done) | exact fun _ => ⟨by kernel_rfl, by kernel_rfl, by kernel_rfl⟩) : Gb Tryz.prog T ⟨sz, y, true, zr, .struct fs, cm⟩ := ⟨h1, h2, fun w => ⟨_, h3 w, e1⟩, e2, e3, ⟨_, h4, e4⟩, fun fs h f hm => (by cases h; exact hf f hm), c, ⟨i, z, h5, h6, h7, h8, e1⟩⟩
theorem Tryz.fl {f:Nat × TypeId}{fs:List (Nat × TypeId)}{n:Nat}(h:∀ w,(Go.sizeOf f.2).run Tryz.prog w=Result.ok n w)(r:∀ f∈fs,∃ n,∀ w,(Go.sizeOf f.2).run Tryz.prog w=Result.ok n w):∀ g∈f::fs,∃ n,∀ w,(Go.sizeOf g.2).run Tryz.prog w=Result.ok n w:=fun g hg=>by
 rcases zJB.1 hg with rfl|hg
 ·exact⟨n,h⟩
 ·exact r g hg
theorem Tryz.fz:∀ g∈([]:List (Nat × TypeId)),∃ n,∀ w,(Go.sizeOf g.2).run Tryz.prog w=Result.ok n w:=fun g hg=>by cases hg
theorem Tryz.ty43:Gb Tryz.prog 43 ⟨14,160,true,[.int .i64 0,.int .i64 0,.str [],.str [],.int .i64 0,.int .i64 0,.str [],.str [],.int .i64 0,.bool false,.int .u64 0,.aI,.int .u64 0,.int .u64 0],.struct [(0,41),(12,31),(13,31)],false⟩:=Tryz.mkS Tryz.sizeOf43 Tryz.isAgg43 Tryz.zeroValue43 Tryz.underlying43 Tryz.t43 (Tryz.fl Tryz.sizeOf41 (Tryz.fl Tryz.sizeOf31 (Tryz.fl Tryz.sizeOf31 Tryz.fz)))
theorem Tryz.ty93:Gb Tryz.prog 93 ⟨9,96,true,[.str [],.int .i64 0,.str [],.str [],.str [],.bool false,.bool false,.int .i64 0,.int .i64 0],.struct [(0,91),(7,3),(8,28)],true⟩:=Tryz.mkS Tryz.sizeOf93 Tryz.isAgg93 Tryz.zeroValue93 Tryz.underlying93 Tryz.t93 (Tryz.fl Tryz.sizeOf91 (Tryz.fl Tryz.sizeOf3 (Tryz.fl Tryz.sizeOf28 Tryz.fz)))
theorem Tryz.gokl:∀ p∈Tryz.Γl,Vc.Gb Tryz.prog p.1 p.2:=by
 unfold Tryz.Γl
 refine Tryz.all_cons (Tryz.mkN Tryz.sizeOf3 Tryz.isAgg3 Tryz.zeroValue3 Tryz.underlying3 Tryz.t3) ?_
 refine Tryz.all_cons (Tryz.mkN Tryz.sizeOf4 Tryz.isAgg4 Tryz.zeroValue4 Tryz.underlying4 Tryz.t4) ?_
 refine Tryz.all_cons (Tryz.mkN Tryz.sizeOf5 Tryz.isAgg5 Tryz.zeroValue5 Tryz.underlying5 Tryz.t5) ?_
 refine Tryz.all_cons (Tryz.mkN Tryz.sizeOf9 Tryz.isAgg9 Tryz.zeroValue9 Tryz.underlying9 Tryz.t9) ?_
 refine Tryz.all_cons (Tryz.mkN Tryz.sizeOf22 Tryz.isAgg22 Tryz.zeroValue22 Tryz.underlying22 Tryz.t22) ?_
 refine Tryz.all_cons (Tryz.mkS Tryz.sizeOf24 Tryz.isAgg24 Tryz.zeroValue24 Tryz.underlying24 Tryz.t24 (Tryz.fl Tryz.sizeOf3 (Tryz.fl Tryz.sizeOf22 Tryz.fz))) ?_
 refine Tryz.all_cons (Tryz.mkN Tryz.sizeOf25 Tryz.isAgg25 Tryz.zeroValue25 Tryz.underlying25 Tryz.t25) ?_
 refine Tryz.all_cons (Tryz.mkN Tryz.sizeOf28 Tryz.isAgg28 Tryz.zeroValue28 Tryz.underlying28 Tryz.t28) ?_
 refine Tryz.all_cons (Tryz.mkN Tryz.sizeOf31 Tryz.isAgg31 Tryz.zeroValue31 Tryz.underlying31 Tryz.t31) ?_
 refine Tryz.all_cons (Tryz.mkS Tryz.sizeOf36 Tryz.isAgg36 Tryz.zeroValue36 Tryz.underlying36 Tryz.t36 (Tryz.fl Tryz.sizeOf3 (Tryz.fl Tryz.sizeOf9 (Tryz.fl Tryz.sizeOf9 (Tryz.fl Tryz.sizeOf3 Tryz.fz))))) ?_
 refine Tryz.all_cons (Tryz.mkS Tryz.sizeOf38 Tryz.isAgg38 Tryz.zeroValue38 Tryz.underlying38 Tryz.t38 (Tryz.fl Tryz.sizeOf4 (Tryz.fl Tryz.sizeOf31 Tryz.fz))) ?_
 refine Tryz.all_cons (Tryz.mkN Tryz.sizeOf39 Tryz.isAgg39 Tryz.zeroValue39 Tryz.underlying39 Tryz.t39) ?_
 refine Tryz.all_cons (Tryz.mkS Tryz.sizeOf41 Tryz.isAgg41 Tryz.zeroValue41 Tryz.underlying41 Tryz.t41 (Tryz.fl Tryz.sizeOf28 (Tryz.fl Tryz.sizeOf36 (Tryz.fl Tryz.sizeOf36 (Tryz.fl Tryz.sizeOf38 (Tryz.fl Tryz.sizeOf39 Tryz.fz)))))) ?_
 refine Tryz.all_cons (Tryz.mkS Tryz.sizeOf43 Tryz.isAgg43 Tryz.zeroValue43 Tryz.underlying43 Tryz.t43 (Tryz.fl Tryz.sizeOf41 (Tryz.fl Tryz.sizeOf31 (Tryz.fl Tryz.sizeOf31 Tryz.fz)))) ?_
 refine Tryz.all_cons (Tryz.mkN Tryz.sizeOf51 Tryz.isAgg51 Tryz.zeroValue51 Tryz.underlying51 Tryz.t51) ?_
 refine Tryz.all_cons (Tryz.mkS Tryz.sizeOf76 Tryz.isAgg76 Tryz.zeroValue76 Tryz.underlying76 Tryz.t76 (Tryz.fl Tryz.sizeOf25 Tryz.fz)) ?_
 refine Tryz.all_cons (Tryz.mkS Tryz.sizeOf80 Tryz.isAgg80 Tryz.zeroValue80 Tryz.underlying80 Tryz.t80 (Tryz.fl Tryz.sizeOf9 (Tryz.fl Tryz.sizeOf9 Tryz.fz))) ?_
 refine Tryz.all_cons (Tryz.mkS Tryz.sizeOf85 Tryz.isAgg85 Tryz.zeroValue85 Tryz.underlying85 Tryz.t85 (Tryz.fl Tryz.sizeOf9 (Tryz.fl Tryz.sizeOf9 Tryz.fz))) ?_
 refine Tryz.all_cons (Tryz.mkS Tryz.sizeOf91 Tryz.isAgg91 Tryz.zeroValue91 Tryz.underlying91 Tryz.t91 (Tryz.fl Tryz.sizeOf9 (Tryz.fl Tryz.sizeOf3 (Tryz.fl Tryz.sizeOf9 (Tryz.fl Tryz.sizeOf9 (Tryz.fl Tryz.sizeOf9 (Tryz.fl Tryz.sizeOf4 (Tryz.fl Tryz.sizeOf4 Tryz.fz)))))))) ?_
 refine Tryz.all_cons (Tryz.mkS Tryz.sizeOf93 Tryz.isAgg93 Tryz.zeroValue93 Tryz.underlying93 Tryz.t93 (Tryz.fl Tryz.sizeOf91 (Tryz.fl Tryz.sizeOf3 (Tryz.fl Tryz.sizeOf28 Tryz.fz)))) ?_
 refine Tryz.all_cons (Tryz.mkN Tryz.sizeOf96 Tryz.isAgg96 Tryz.zeroValue96 Tryz.underlying96 Tryz.t96) ?_
 refine Tryz.all_cons (Tryz.mkN Tryz.sizeOf97 Tryz.isAgg97 Tryz.zeroValue97 Tryz.underlying97 Tryz.t97) ?_
 refine Tryz.all_cons (Tryz.mkS Tryz.sizeOf99 Tryz.isAgg99 Tryz.zeroValue99 Tryz.underlying99 Tryz.t99 (Tryz.fl Tryz.sizeOf22 (Tryz.fl Tryz.sizeOf97 Tryz.fz))) ?_
 refine Tryz.all_cons (Tryz.mkS Tryz.sizeOf123 Tryz.isAgg123 Tryz.zeroValue123 Tryz.underlying123 Tryz.t123 (Tryz.fl Tryz.sizeOf9 (Tryz.fl Tryz.sizeOf9 Tryz.fz))) ?_
 refine Tryz.all_cons (Tryz.mkS Tryz.sizeOf128 Tryz.isAgg128 Tryz.zeroValue128 Tryz.underlying128 Tryz.t128 (Tryz.fl Tryz.sizeOf9 (Tryz.fl Tryz.sizeOf3 Tryz.fz))) ?_
 refine Tryz.all_cons (Tryz.mkN Tryz.sizeOf132 Tryz.isAgg132 Tryz.zeroValue132 Tryz.underlying132 Tryz.t132) ?_
 refine Tryz.all_cons (Tryz.mkN Tryz.sizeOf142 Tryz.isAgg142 Tryz.zeroValue142 Tryz.underlying142 Tryz.t142) ?_
 refine Tryz.all_cons (Tryz.mkS Tryz.sizeOf147 Tryz.isAgg147 Tryz.zeroValue147 Tryz.underlying147 Tryz.t147 (Tryz.fl Tryz.sizeOf9 (Tryz.fl Tryz.sizeOf9 (Tryz.fl Tryz.sizeOf9 (Tryz.fl Tryz.sizeOf9 (Tryz.fl Tryz.sizeOf9 (Tryz.fl Tryz.sizeOf4 (Tryz.fl Tryz.sizeOf4 (Tryz.fl Tryz.sizeOf4 (Tryz.fl Tryz.sizeOf4 Tryz.fz)))))))))) ?_
 refine Tryz.all_cons (Tryz.mkN Tryz.sizeOf174 Tryz.isAgg174 Tryz.zeroValue174 Tryz.underlying174 Tryz.t174) ?_
 refine Tryz.all_cons (Tryz.mkS Tryz.sizeOf179 Tryz.isAgg179 Tryz.zeroValue179 Tryz.underlying179 Tryz.t179 (Tryz.fl Tryz.sizeOf28 Tryz.fz)) ?_
 refine Tryz.all_cons (Tryz.mkN Tryz.sizeOf191 Tryz.isAgg191 Tryz.zeroValue191 Tryz.underlying191 Tryz.t191) ?_
 refine Tryz.all_cons (Tryz.mkS Tryz.sizeOf193 Tryz.isAgg193 Tryz.zeroValue193 Tryz.underlying193 Tryz.t193 (Tryz.fl Tryz.sizeOf191 (Tryz.fl Tryz.sizeOf25 Tryz.fz))) ?_
 exact fun x hx=>by cases hx
theorem Tryz.gZ:Vc.Cl Tryz.prog Tryz.Γ:=by
 intro T t h
 unfold Tryz.Γ at h
 obtain⟨p,hp,rfl⟩:=Option.map_eq_some_iff.1 h
 have h1:=List.find?_some hp
 have h2:=List.mem_of_find?_eq_some hp
 obtain rfl:p.1=T:=by simpa using h1
 exact Tryz.gokl p h2
end Go.Proofs
namespace Go.Proofs
open Go.Shelf
def Tryz.Ba:Go.Shelf.Ren:=⟨fun|119=>207|n=>n,fun|21=>21|4=>4|n=>n,fun|n=>n⟩
theorem Tryz.lays119:Go.Proofs.Lays.n119 Tryz.prog Tryz.Ba:={
 mixed:=by kernel_rfl
 f119:=Tryz.func207.trans (congrArg some (by kernel_rfl))
 t4:=Tryz.underlying4
 a4:=Tryz.isAgg4
 z4:=Tryz.sizeOf4
 v4:=Tryz.zeroValue4
 t21:=Tryz.underlying21
 a21:=Tryz.isAgg21
 z21:=Tryz.sizeOf21
 v21:=Tryz.zeroValue21 }
theorem Tryz.utf8_ValidRune (r:Int)(w:World) :
 Calls Tryz.prog 207 #[.int .i32 r] w fun e w'=>e=.returned (.bool (Lib.validRune r))∧w'=w:=Any.utf8_ValidRune Tryz.lays119 r w
def Tryz.lays213_ren:Go.Shelf.Ren:=⟨fun|213=>82|265=>111|n=>n,fun|9=>9|3=>3|n=>n,fun|n=>n⟩
def Tryz.Bb:Go.Shelf.Ren:=⟨fun|106=>58|213=>82|265=>111|n=>n,fun|9=>9|3=>3|n=>n,fun|n=>n⟩
theorem Tryz.lays106:Go.Proofs.Lays.n106 Tryz.prog Tryz.Bb:={
 mixed:=by kernel_rfl
 f106:=Tryz.func58.trans (congrArg some (by kernel_rfl))
 f213:=Tryz.func82.trans (congrArg some (by kernel_rfl))
 f265:=Tryz.func111.trans (congrArg some (by kernel_rfl))
 t3:=Tryz.underlying3
 a3:=Tryz.isAgg3
 z3:=Tryz.sizeOf3
 v3:=Tryz.zeroValue3
 t9:=Tryz.underlying9
 a9:=Tryz.isAgg9
 z9:=Tryz.sizeOf9
 v9:=Tryz.zeroValue9 }
open Go.RowKit in
theorem Tryz.strings_Compare (a b:ByteArray)(w:World) :
 Calls Tryz.prog 58 #[.string a,.string b] w fun e w'=>e=.returned (.int .i64 (Lib.compareBytes a.data.toList b.data.toList))∧w'=w:=Any.strings_Compare Tryz.lays106 a b w
def Tryz.A9:Go.Shelf.Ren:=⟨fun|137=>144|217=>134|266=>163|n=>n,fun|9=>9|5=>5|3=>3|n=>n,fun|n=>n⟩
theorem Tryz.lays137:Go.Proofs.Lays.n137 Tryz.prog Tryz.A9:={
 mixed:=by kernel_rfl
 f137:=Tryz.func144.trans (congrArg some (by kernel_rfl))
 f217:=Tryz.func134.trans (congrArg some (by kernel_rfl))
 f266:=Tryz.func163.trans (congrArg some (by kernel_rfl))
 t3:=Tryz.underlying3
 a3:=Tryz.isAgg3
 z3:=Tryz.sizeOf3
 v3:=Tryz.zeroValue3
 t5:=Tryz.underlying5
 a5:=Tryz.isAgg5
 z5:=Tryz.sizeOf5
 v5:=Tryz.zeroValue5
 t9:=Tryz.underlying9
 a9:=Tryz.isAgg9
 z9:=Tryz.sizeOf9
 v9:=Tryz.zeroValue9 }
open Go.RowKit in
theorem Tryz.strings_IndexByte (s:ByteArray)(c:Int)(w:World) :
 Calls Tryz.prog 144 #[.string s,.int .u8 c] w fun e w'=>e=.returned (.int .i64 (Lib.indexByte s.data.toList c.toNat.toUInt8))∧w'=w:=Any.strings_IndexByte Tryz.lays137 s c w
def Tryz.lays210_ren:Go.Shelf.Ren:=⟨fun|210=>181|206=>200|n=>n,fun|9=>9|4=>4|3=>3|n=>n,fun|n=>n⟩
def Tryz.Bc:Go.Shelf.Ren:=⟨fun|103=>156|210=>181|206=>200|n=>n,fun|9=>9|4=>4|24=>168|3=>3|n=>n,fun|n=>n⟩
theorem Tryz.lays103:Go.Proofs.Lays.n103 Tryz.prog Tryz.Bc:={
 mixed:=by kernel_rfl
 f103:=Tryz.func156.trans (congrArg some (by kernel_rfl))
 f206:=Tryz.func200.trans (congrArg some (by kernel_rfl))
 f210:=Tryz.func181.trans (congrArg some (by kernel_rfl))
 t3:=Tryz.underlying3
 a3:=Tryz.isAgg3
 z3:=Tryz.sizeOf3
 v3:=Tryz.zeroValue3
 t4:=Tryz.underlying4
 a4:=Tryz.isAgg4
 z4:=Tryz.sizeOf4
 v4:=Tryz.zeroValue4
 t9:=Tryz.underlying9
 a9:=Tryz.isAgg9
 z9:=Tryz.sizeOf9
 v9:=Tryz.zeroValue9
 t24:=Tryz.underlying168
 a24:=Tryz.isAgg168
 z24:=Tryz.sizeOf168
 v24:=Tryz.zeroValue168 }
open Go.RowKit in
theorem Tryz.strings_CutPrefix (s p:ByteArray)(w:World) :
 Calls Tryz.prog 156 #[.string s,.string p] w fun e w'=>e=.returned (.tuple #[.string ⟨(Lib.trimPrefix s.data.toList p.data.toList).toArray⟩,.bool (Lib.hasPrefix s.data.toList p.data.toList)])∧w'=w:=Any.strings_CutPrefix Tryz.lays103 s p w
def Tryz.lays219_ren:Go.Shelf.Ren:=⟨fun|219=>113|217=>134|225=>135|224=>136|267=>137|266=>163|314=>164|n=>n,fun|9=>9|3=>3|4=>4|5=>5|46=>132|146=>172|51=>171|n=>n,fun|1=>0|n=>n⟩
def Tryz.A8:Go.Shelf.Ren:=⟨fun|144=>150|143=>175|219=>113|217=>134|225=>135|224=>136|267=>137|266=>163|314=>164|n=>n,fun|9=>9|4=>4|3=>3|5=>5|46=>132|146=>172|51=>171|n=>n,fun|1=>0|n=>n⟩
theorem Tryz.lays144:Go.Proofs.Lays.n144 Tryz.prog Tryz.A8:={
 mixed:=by kernel_rfl
 f143:=Tryz.func175.trans (congrArg some (by kernel_rfl))
 f144:=Tryz.func150.trans (congrArg some (by kernel_rfl))
 f217:=Tryz.func134.trans (congrArg some (by kernel_rfl))
 f219:=Tryz.func113.trans (congrArg some (by kernel_rfl))
 f224:=Tryz.func136.trans (congrArg some (by kernel_rfl))
 f225:=Tryz.func135.trans (congrArg some (by kernel_rfl))
 f266:=Tryz.func163.trans (congrArg some (by kernel_rfl))
 f267:=Tryz.func137.trans (congrArg some (by kernel_rfl))
 f314:=Tryz.func164.trans (congrArg some (by kernel_rfl))
 t3:=Tryz.underlying3
 a3:=Tryz.isAgg3
 z3:=Tryz.sizeOf3
 v3:=Tryz.zeroValue3
 t4:=Tryz.underlying4
 a4:=Tryz.isAgg4
 z4:=Tryz.sizeOf4
 v4:=Tryz.zeroValue4
 t5:=Tryz.underlying5
 a5:=Tryz.isAgg5
 z5:=Tryz.sizeOf5
 v5:=Tryz.zeroValue5
 t9:=Tryz.underlying9
 a9:=Tryz.isAgg9
 z9:=Tryz.sizeOf9
 v9:=Tryz.zeroValue9
 t46:=Tryz.underlying132
 a46:=Tryz.isAgg132
 z46:=Tryz.sizeOf132
 v46:=Tryz.zeroValue132
 t51:=Tryz.underlying171
 a51:=Tryz.isAgg171
 z51:=Tryz.sizeOf171
 v51:=Tryz.zeroValue171
 t146:=Tryz.underlying172
 a146:=Tryz.isAgg172
 z146:=Tryz.sizeOf172
 v146:=Tryz.zeroValue172
 g1:=by kernel_rfl }
open Go.RowKit Go.Lib in
theorem Tryz.strings_Contains_one (s:ByteArray)(c:UInt8)(w:World) :
 Calls Tryz.prog 150 #[.string s,.string ⟨#[c]⟩] w fun e w'=>e=.returned (.bool (decide (0≤Lib.indexByte s.data.toList c)))∧w'=w:=Any.strings_Contains_one Tryz.lays144 s c w
def Tryz.A7:Go.Shelf.Ren:=⟨fun|145=>64|220=>85|219=>113|217=>134|225=>135|224=>136|267=>137|266=>163|314=>164|n=>n,fun|9=>9|4=>4|59=>105|3=>3|5=>5|46=>132|146=>172|51=>171|n=>n,fun|1=>0|n=>n⟩
theorem Tryz.lays145:Go.Proofs.Lays.n145 Tryz.prog Tryz.A7:={
 mixed:=by kernel_rfl
 f145:=Tryz.func64.trans (congrArg some (by kernel_rfl))
 f217:=Tryz.func134.trans (congrArg some (by kernel_rfl))
 f219:=Tryz.func113.trans (congrArg some (by kernel_rfl))
 f220:=Tryz.func85.trans (congrArg some (by kernel_rfl))
 f224:=Tryz.func136.trans (congrArg some (by kernel_rfl))
 f225:=Tryz.func135.trans (congrArg some (by kernel_rfl))
 f266:=Tryz.func163.trans (congrArg some (by kernel_rfl))
 f267:=Tryz.func137.trans (congrArg some (by kernel_rfl))
 f314:=Tryz.func164.trans (congrArg some (by kernel_rfl))
 t3:=Tryz.underlying3
 a3:=Tryz.isAgg3
 z3:=Tryz.sizeOf3
 v3:=Tryz.zeroValue3
 t4:=Tryz.underlying4
 a4:=Tryz.isAgg4
 z4:=Tryz.sizeOf4
 v4:=Tryz.zeroValue4
 t5:=Tryz.underlying5
 a5:=Tryz.isAgg5
 z5:=Tryz.sizeOf5
 v5:=Tryz.zeroValue5
 t9:=Tryz.underlying9
 a9:=Tryz.isAgg9
 z9:=Tryz.sizeOf9
 v9:=Tryz.zeroValue9
 t46:=Tryz.underlying132
 a46:=Tryz.isAgg132
 z46:=Tryz.sizeOf132
 v46:=Tryz.zeroValue132
 t51:=Tryz.underlying171
 a51:=Tryz.isAgg171
 z51:=Tryz.sizeOf171
 v51:=Tryz.zeroValue171
 t59:=Tryz.underlying105
 a59:=Tryz.isAgg105
 z59:=Tryz.sizeOf105
 v59:=Tryz.zeroValue105
 t146:=Tryz.underlying172
 a146:=Tryz.isAgg172
 z146:=Tryz.sizeOf172
 v146:=Tryz.zeroValue172
 g1:=by kernel_rfl }
open Go.RowKit Go.Lib in
theorem Tryz.strings_Cut (s sep:ByteArray)(m:Int)(w:World)(hs:s.size<4294967281)(hm:w.cell? ⟨0,0,none⟩=some (.int .i64 m)) :
 Calls Tryz.prog 64 #[.string s,.string sep] w fun e w'=>e=.returned (.tuple #[.string ⟨(Lib.cut s.data.toList sep.data.toList).1.toArray⟩,.string ⟨(Lib.cut s.data.toList sep.data.toList).2.1.toArray⟩,.bool (Lib.cut s.data.toList sep.data.toList).2.2])∧∃ n,w'=w.drewN n:=Any.strings_Cut Tryz.lays145 s sep m w hs hm
def Tryz.lays222_ren:Go.Shelf.Ren:=⟨fun|222=>202|n=>n,fun|9=>9|5=>5|3=>3|4=>4|n=>n,fun|n=>n⟩
def Tryz.A5:Go.Shelf.Ren:=⟨fun|149=>179|222=>202|n=>n,fun|9=>9|5=>5|3=>3|4=>4|n=>n,fun|n=>n⟩
theorem Tryz.lays149:Go.Proofs.Lays.n149 Tryz.prog Tryz.A5:={
 mixed:=by kernel_rfl
 f149:=Tryz.func179.trans (congrArg some (by kernel_rfl))
 f222:=Tryz.func202.trans (congrArg some (by kernel_rfl))
 t3:=Tryz.underlying3
 a3:=Tryz.isAgg3
 z3:=Tryz.sizeOf3
 v3:=Tryz.zeroValue3
 t4:=Tryz.underlying4
 a4:=Tryz.isAgg4
 z4:=Tryz.sizeOf4
 v4:=Tryz.zeroValue4
 t5:=Tryz.underlying5
 a5:=Tryz.isAgg5
 z5:=Tryz.sizeOf5
 v5:=Tryz.zeroValue5
 t9:=Tryz.underlying9
 a9:=Tryz.isAgg9
 z9:=Tryz.sizeOf9
 v9:=Tryz.zeroValue9 }
open Go.RowKit Go.Lib in
theorem Tryz.strings_LastIndexByte (s:ByteArray)(c:Int)(hs:s.size<4611686018427387904)(w:World) :
 Calls Tryz.prog 179 #[.string s,.int .u8 c] w fun e w'=>e=.returned (.int .i64 (Lib.lastIndexByte s c))∧w'=w:=Any.strings_LastIndexByte Tryz.lays149 s c hs w
def Tryz.Di:Go.Shelf.Ren:=⟨fun|99=>177|206=>200|n=>n,fun|9=>9|4=>4|3=>3|n=>n,fun|n=>n⟩
theorem Tryz.lays99:Go.Proofs.Lays.n99 Tryz.prog Tryz.Di:={
 mixed:=by kernel_rfl
 f99:=Tryz.func177.trans (congrArg some (by kernel_rfl))
 f206:=Tryz.func200.trans (congrArg some (by kernel_rfl))
 t3:=Tryz.underlying3
 a3:=Tryz.isAgg3
 z3:=Tryz.sizeOf3
 v3:=Tryz.zeroValue3
 t4:=Tryz.underlying4
 a4:=Tryz.isAgg4
 z4:=Tryz.sizeOf4
 v4:=Tryz.zeroValue4
 t9:=Tryz.underlying9
 a9:=Tryz.isAgg9
 z9:=Tryz.sizeOf9
 v9:=Tryz.zeroValue9 }
open Go.RowKit Go.Lib in
theorem Tryz.strings_HasPrefix (s p:ByteArray)(w:World) :
 Calls Tryz.prog 177 #[.string s,.string p] w fun e w'=>e=.returned (.bool (Lib.hasPrefix s.data.toList p.data.toList))∧w'=w:=Any.strings_HasPrefix Tryz.lays99 s p w
def Tryz.Be:Go.Shelf.Ren:=⟨fun|100=>159|207=>184|n=>n,fun|9=>9|4=>4|3=>3|n=>n,fun|n=>n⟩
theorem Tryz.lays100:Go.Proofs.Lays.n100 Tryz.prog Tryz.Be:={
 mixed:=by kernel_rfl
 f100:=Tryz.func159.trans (congrArg some (by kernel_rfl))
 f207:=Tryz.func184.trans (congrArg some (by kernel_rfl))
 t3:=Tryz.underlying3
 a3:=Tryz.isAgg3
 z3:=Tryz.sizeOf3
 v3:=Tryz.zeroValue3
 t4:=Tryz.underlying4
 a4:=Tryz.isAgg4
 z4:=Tryz.sizeOf4
 v4:=Tryz.zeroValue4
 t9:=Tryz.underlying9
 a9:=Tryz.isAgg9
 z9:=Tryz.sizeOf9
 v9:=Tryz.zeroValue9 }
open Go.RowKit Go.Lib in
theorem Tryz.strings_HasSuffix (s p:ByteArray)(w:World)(hs:s.size≤9223372036854775807) :
 Calls Tryz.prog 159 #[.string s,.string p] w fun e w'=>e=.returned (.bool (Lib.hasSuffix s.data.toList p.data.toList))∧w'=w:=Any.strings_HasSuffix Tryz.lays100 s p w hs
def Tryz.Bd:Go.Shelf.Ren:=⟨fun|101=>178|208=>201|206=>200|n=>n,fun|9=>9|4=>4|3=>3|n=>n,fun|n=>n⟩
theorem Tryz.lays101:Go.Proofs.Lays.n101 Tryz.prog Tryz.Bd:={
 mixed:=by kernel_rfl
 f101:=Tryz.func178.trans (congrArg some (by kernel_rfl))
 f206:=Tryz.func200.trans (congrArg some (by kernel_rfl))
 f208:=Tryz.func201.trans (congrArg some (by kernel_rfl))
 t3:=Tryz.underlying3
 a3:=Tryz.isAgg3
 z3:=Tryz.sizeOf3
 v3:=Tryz.zeroValue3
 t4:=Tryz.underlying4
 a4:=Tryz.isAgg4
 z4:=Tryz.sizeOf4
 v4:=Tryz.zeroValue4
 t9:=Tryz.underlying9
 a9:=Tryz.isAgg9
 z9:=Tryz.sizeOf9
 v9:=Tryz.zeroValue9 }
open Go.RowKit Go.Lib in
theorem Tryz.strings_TrimPrefix (s p:ByteArray)(w:World) :
 Calls Tryz.prog 178 #[.string s,.string p] w fun e w'=>e=.returned (.string ⟨(Lib.trimPrefix s.data.toList p.data.toList).toArray⟩)∧w'=w:=Any.strings_TrimPrefix Tryz.lays101 s p w
def Tryz.lays221_ren:Go.Shelf.Ren:=⟨fun|221=>198|268=>208|138=>209|143=>175|195=>214|197=>212|218=>215|219=>113|260=>218|217=>134|225=>135|224=>136|267=>137|266=>163|314=>164|n=>n,fun|9=>9|3=>3|31=>142|4=>4|0=>0|105=>206|21=>21|5=>5|46=>132|119=>214|139=>217|138=>216|146=>172|51=>171|n=>n,fun|1=>0|3=>1|4=>2|n=>n⟩
def Tryz.A6:Go.Shelf.Ren:=⟨fun|146=>172|221=>198|268=>208|138=>209|143=>175|195=>214|197=>212|218=>215|219=>113|260=>218|217=>134|225=>135|224=>136|267=>137|266=>163|314=>164|n=>n,fun|9=>9|31=>142|3=>3|4=>4|0=>0|105=>206|21=>21|5=>5|46=>132|119=>214|139=>217|138=>216|146=>172|51=>171|n=>n,fun|1=>0|3=>1|4=>2|n=>n⟩
theorem Tryz.lays146:Go.Proofs.Lays.n146 Tryz.prog Tryz.A6:={
 mixed:=by kernel_rfl
 f138:=Tryz.func209.trans (congrArg some (by kernel_rfl))
 f143:=Tryz.func175.trans (congrArg some (by kernel_rfl))
 f146:=Tryz.func172.trans (congrArg some (by kernel_rfl))
 f195:=Tryz.func214.trans (congrArg some (by kernel_rfl))
 f197:=Tryz.func212.trans (congrArg some (by kernel_rfl))
 f217:=Tryz.func134.trans (congrArg some (by kernel_rfl))
 f218:=Tryz.func215.trans (congrArg some (by kernel_rfl))
 f219:=Tryz.func113.trans (congrArg some (by kernel_rfl))
 f221:=Tryz.func198.trans (congrArg some (by kernel_rfl))
 f224:=Tryz.func136.trans (congrArg some (by kernel_rfl))
 f225:=Tryz.func135.trans (congrArg some (by kernel_rfl))
 f260:=Tryz.func218.trans (congrArg some (by kernel_rfl))
 f266:=Tryz.func163.trans (congrArg some (by kernel_rfl))
 f267:=Tryz.func137.trans (congrArg some (by kernel_rfl))
 f268:=Tryz.func208.trans (congrArg some (by kernel_rfl))
 f314:=Tryz.func164.trans (congrArg some (by kernel_rfl))
 t0:=Tryz.underlying0
 a0:=Tryz.isAgg0
 z0:=Tryz.sizeOf0
 v0:=Tryz.zeroValue0
 t3:=Tryz.underlying3
 a3:=Tryz.isAgg3
 z3:=Tryz.sizeOf3
 v3:=Tryz.zeroValue3
 t4:=Tryz.underlying4
 a4:=Tryz.isAgg4
 z4:=Tryz.sizeOf4
 v4:=Tryz.zeroValue4
 t5:=Tryz.underlying5
 a5:=Tryz.isAgg5
 z5:=Tryz.sizeOf5
 v5:=Tryz.zeroValue5
 t9:=Tryz.underlying9
 a9:=Tryz.isAgg9
 z9:=Tryz.sizeOf9
 v9:=Tryz.zeroValue9
 t21:=Tryz.underlying21
 a21:=Tryz.isAgg21
 z21:=Tryz.sizeOf21
 v21:=Tryz.zeroValue21
 t31:=Tryz.underlying142
 a31:=Tryz.isAgg142
 z31:=Tryz.sizeOf142
 v31:=Tryz.zeroValue142
 t46:=Tryz.underlying132
 a46:=Tryz.isAgg132
 z46:=Tryz.sizeOf132
 v46:=Tryz.zeroValue132
 t51:=Tryz.underlying171
 a51:=Tryz.isAgg171
 z51:=Tryz.sizeOf171
 v51:=Tryz.zeroValue171
 t105:=Tryz.underlying206
 a105:=Tryz.isAgg206
 z105:=Tryz.sizeOf206
 v105:=Tryz.zeroValue206
 t119:=Tryz.underlying214
 a119:=Tryz.isAgg214
 z119:=Tryz.sizeOf214
 t138:=Tryz.underlying216
 a138:=Tryz.isAgg216
 z138:=Tryz.sizeOf216
 v138:=Tryz.zeroValue216
 t139:=Tryz.underlying217
 a139:=Tryz.isAgg217
 z139:=Tryz.sizeOf217
 v139:=Tryz.zeroValue217
 t146:=Tryz.underlying172
 a146:=Tryz.isAgg172
 z146:=Tryz.sizeOf172
 v146:=Tryz.zeroValue172
 g1:=by kernel_rfl
 g3:=by kernel_rfl
 g4:=by kernel_rfl }
open Go.RowKit Go.Lib in
theorem Tryz.strings_Split (s sep:ByteArray)(m:Int)(w:World)(hs:s.size<4294967281)(hm:w.cell? ⟨0,0,none⟩=some (.int .i64 m))(h1:1≤sep.size) :
 Calls Tryz.prog 172 #[.string s,.string sep] w fun e w' =>
  e=.returned (.slice (some ⟨w.heap.size,0,none⟩) (Lib.countB s sep+1) (Lib.countB s sep+1))∧w'=w.alloc (.cells ((Lib.splitB sep 0 (Lib.countB s sep) s).map Value.string).toArray 9):=Any.strings_Split Tryz.lays146 (by kernel_rfl) s sep m w hs hm h1
def Tryz.lays154_ren:Go.Shelf.Ren:=⟨fun|154=>203|138=>209|165=>211|143=>175|166=>204|197=>212|169=>205|195=>214|218=>215|240=>213|241=>217|219=>113|260=>218|276=>219|277=>220|217=>134|225=>135|224=>136|267=>137|266=>163|314=>164|n=>n,fun|9=>9|3=>3|4=>4|72=>193|0=>0|76=>196|105=>206|21=>21|5=>5|70=>191|20=>20|37=>25|75=>195|127=>208|164=>211|46=>132|119=>214|139=>217|138=>216|146=>172|51=>171|80=>198|n=>n,fun|1=>0|3=>1|4=>2|n=>n⟩
def Tryz.su:Go.Shelf.Ren:=⟨fun|155=>183|154=>203|138=>209|165=>211|143=>175|166=>204|197=>212|169=>205|195=>214|218=>215|240=>213|241=>217|219=>113|260=>218|276=>219|277=>220|217=>134|225=>135|224=>136|267=>137|266=>163|314=>164|n=>n,fun|9=>9|3=>3|4=>4|72=>193|0=>0|76=>196|105=>206|21=>21|5=>5|70=>191|20=>20|37=>25|75=>195|127=>208|164=>211|46=>132|119=>214|139=>217|138=>216|146=>172|51=>171|80=>198|n=>n,fun|1=>0|3=>1|4=>2|n=>n⟩
theorem Tryz.lays155:Go.Proofs.Lays.n155 Tryz.prog Tryz.su:={
 mixed:=by kernel_rfl
 f138:=Tryz.func209.trans (congrArg some (by kernel_rfl))
 f143:=Tryz.func175.trans (congrArg some (by kernel_rfl))
 f154:=Tryz.func203.trans (congrArg some (by kernel_rfl))
 f155:=Tryz.func183.trans (congrArg some (by kernel_rfl))
 f165:=Tryz.func211.trans (congrArg some (by kernel_rfl))
 f166:=Tryz.func204.trans (congrArg some (by kernel_rfl))
 f169:=Tryz.func205.trans (congrArg some (by kernel_rfl))
 f195:=Tryz.func214.trans (congrArg some (by kernel_rfl))
 f197:=Tryz.func212.trans (congrArg some (by kernel_rfl))
 f217:=Tryz.func134.trans (congrArg some (by kernel_rfl))
 f218:=Tryz.func215.trans (congrArg some (by kernel_rfl))
 f219:=Tryz.func113.trans (congrArg some (by kernel_rfl))
 f224:=Tryz.func136.trans (congrArg some (by kernel_rfl))
 f225:=Tryz.func135.trans (congrArg some (by kernel_rfl))
 f240:=Tryz.func213.trans (congrArg some (by kernel_rfl))
 f241:=Tryz.func217.trans (congrArg some (by kernel_rfl))
 f260:=Tryz.func218.trans (congrArg some (by kernel_rfl))
 f266:=Tryz.func163.trans (congrArg some (by kernel_rfl))
 f267:=Tryz.func137.trans (congrArg some (by kernel_rfl))
 f276:=Tryz.func219.trans (congrArg some (by kernel_rfl))
 f277:=Tryz.func220.trans (congrArg some (by kernel_rfl))
 f314:=Tryz.func164.trans (congrArg some (by kernel_rfl))
 t0:=Tryz.underlying0
 a0:=Tryz.isAgg0
 z0:=Tryz.sizeOf0
 v0:=Tryz.zeroValue0
 t3:=Tryz.underlying3
 a3:=Tryz.isAgg3
 z3:=Tryz.sizeOf3
 v3:=Tryz.zeroValue3
 t4:=Tryz.underlying4
 a4:=Tryz.isAgg4
 z4:=Tryz.sizeOf4
 v4:=Tryz.zeroValue4
 t5:=Tryz.underlying5
 a5:=Tryz.isAgg5
 z5:=Tryz.sizeOf5
 v5:=Tryz.zeroValue5
 t9:=Tryz.underlying9
 a9:=Tryz.isAgg9
 z9:=Tryz.sizeOf9
 v9:=Tryz.zeroValue9
 t20:=Tryz.underlying20
 a20:=Tryz.isAgg20
 z20:=Tryz.sizeOf20
 v20:=Tryz.zeroValue20
 t21:=Tryz.underlying21
 a21:=Tryz.isAgg21
 z21:=Tryz.sizeOf21
 v21:=Tryz.zeroValue21
 t37:=Tryz.underlying25
 a37:=Tryz.isAgg25
 z37:=Tryz.sizeOf25
 v37:=Tryz.zeroValue25
 t46:=Tryz.underlying132
 a46:=Tryz.isAgg132
 z46:=Tryz.sizeOf132
 v46:=Tryz.zeroValue132
 t51:=Tryz.underlying171
 a51:=Tryz.isAgg171
 z51:=Tryz.sizeOf171
 v51:=Tryz.zeroValue171
 t70:=Tryz.underlying191
 a70:=Tryz.isAgg191
 z70:=Tryz.sizeOf191
 v70:=Tryz.zeroValue191
 t72:=Tryz.underlying193
 a72:=Tryz.isAgg193
 z72:=Tryz.sizeOf193
 v72:=Tryz.zeroValue193
 t75:=Tryz.underlying195
 a75:=Tryz.isAgg195
 z75:=Tryz.sizeOf195
 v75:=Tryz.zeroValue195
 t76:=Tryz.underlying196
 a76:=Tryz.isAgg196
 z76:=Tryz.sizeOf196
 v76:=Tryz.zeroValue196
 t105:=Tryz.underlying206
 a105:=Tryz.isAgg206
 z105:=Tryz.sizeOf206
 v105:=Tryz.zeroValue206
 t119:=Tryz.underlying214
 a119:=Tryz.isAgg214
 z119:=Tryz.sizeOf214
 t127:=Tryz.underlying208
 a127:=Tryz.isAgg208
 z127:=Tryz.sizeOf208
 v127:=Tryz.zeroValue208
 t138:=Tryz.underlying216
 a138:=Tryz.isAgg216
 z138:=Tryz.sizeOf216
 v138:=Tryz.zeroValue216
 t139:=Tryz.underlying217
 a139:=Tryz.isAgg217
 z139:=Tryz.sizeOf217
 v139:=Tryz.zeroValue217
 t146:=Tryz.underlying172
 a146:=Tryz.isAgg172
 z146:=Tryz.sizeOf172
 v146:=Tryz.zeroValue172
 t164:=Tryz.underlying211
 a164:=Tryz.isAgg211
 z164:=Tryz.sizeOf211
 v164:=Tryz.zeroValue211
 g1:=by kernel_rfl
 g3:=by kernel_rfl
 g4:=by kernel_rfl }
theorem Tryz.qM:Builder.Extra Tryz.prog Tryz.su:={
 sizeBuilder:=by kernel_rfl
 liesBuilder:=by kernel_rfl
 t5:=Tryz.underlying5
 a5:=Tryz.isAgg5
 z5:=Tryz.sizeOf5
 v5:=Tryz.zeroValue5
 infoByte:=by kernel_rfl
 cellsByte:=by kernel_rfl
 sizeByte:=by kernel_rfl
 neB5:=by decide }
open Go.RowKit Go.Lib in
theorem Tryz.strings_ReplaceAll (s old new:ByteArray)(m:Int)(w:World)(hs:s.size<4294967281)(hm:w.cell? ⟨0,0,none⟩=some (.int .i64 m))(h1:1≤old.size)(hlen:s.size+Lib.countB s old * new.size≤140737488355328) :
 Calls Tryz.prog 183 #[.string s,.string old,.string new] w fun e w' =>
  e=.returned (.string ⟨(Lib.replaceAll s.data.toList old.data.toList new.data.toList).toArray⟩)∧Below w.heap.size w w':=Any.strings_ReplaceAll Tryz.lays155 Tryz.qM s old new m w hs hm h1 hlen
def Tryz.A4:Go.Shelf.Ren:=⟨fun|152=>193|137=>144|119=>207|224=>136|225=>135|217=>134|266=>163|n=>n,fun|9=>9|21=>21|3=>3|4=>4|5=>5|0=>0|46=>132|n=>n,fun|n=>n⟩
theorem Tryz.lays152:Go.Proofs.Lays.n152 Tryz.prog Tryz.A4:={
 mixed:=by kernel_rfl
 f119:=Tryz.func207.trans (congrArg some (by kernel_rfl))
 f137:=Tryz.func144.trans (congrArg some (by kernel_rfl))
 f152:=Tryz.func193.trans (congrArg some (by kernel_rfl))
 f217:=Tryz.func134.trans (congrArg some (by kernel_rfl))
 f224:=Tryz.func136.trans (congrArg some (by kernel_rfl))
 f225:=Tryz.func135.trans (congrArg some (by kernel_rfl))
 f266:=Tryz.func163.trans (congrArg some (by kernel_rfl))
 t0:=Tryz.underlying0
 a0:=Tryz.isAgg0
 z0:=Tryz.sizeOf0
 v0:=Tryz.zeroValue0
 t3:=Tryz.underlying3
 a3:=Tryz.isAgg3
 z3:=Tryz.sizeOf3
 v3:=Tryz.zeroValue3
 t4:=Tryz.underlying4
 a4:=Tryz.isAgg4
 z4:=Tryz.sizeOf4
 v4:=Tryz.zeroValue4
 t5:=Tryz.underlying5
 a5:=Tryz.isAgg5
 z5:=Tryz.sizeOf5
 v5:=Tryz.zeroValue5
 t9:=Tryz.underlying9
 a9:=Tryz.isAgg9
 z9:=Tryz.sizeOf9
 v9:=Tryz.zeroValue9
 t21:=Tryz.underlying21
 a21:=Tryz.isAgg21
 z21:=Tryz.sizeOf21
 v21:=Tryz.zeroValue21
 t46:=Tryz.underlying132
 a46:=Tryz.isAgg132
 z46:=Tryz.sizeOf132
 v46:=Tryz.zeroValue132 }
open Go.RowKit Go.Lib in
theorem Tryz.strings_IndexRune_ascii (s:ByteArray)(r:Int)(w:World)(h0:0≤r)(h1:r<128) :
 Calls Tryz.prog 193 #[.string s,.int .i32 r] w fun e w'=>e=.returned (.int .i64 (Lib.indexByte s.data.toList r.toNat.toUInt8))∧w'=w:=Any.strings_IndexRune_ascii Tryz.lays152 s r w h0 h1
def Tryz.A2:Go.Shelf.Ren:=⟨fun|226=>194|n=>n,fun|3=>3|4=>4|n=>n,fun|n=>n⟩
theorem Tryz.lays226:Go.Proofs.Lays.n226 Tryz.prog Tryz.A2:={
 mixed:=by kernel_rfl
 f226:=Tryz.func194.trans (congrArg some (by kernel_rfl))
 t3:=Tryz.underlying3
 a3:=Tryz.isAgg3
 z3:=Tryz.sizeOf3
 v3:=Tryz.zeroValue3
 t4:=Tryz.underlying4
 a4:=Tryz.isAgg4
 z4:=Tryz.sizeOf4
 v4:=Tryz.zeroValue4 }
open Go.RowKit Go.Lib in
theorem Tryz.strings_shouldUseASCIISet (n:Int)(w:World) :
 Calls Tryz.prog 194 #[.int .i64 n] w fun e w'=>e=.returned (.bool (decide (8<n)))∧w'=w:=Any.strings_shouldUseASCIISet Tryz.lays226 n w
def Tryz.A3:Go.Shelf.Ren:=⟨fun|153=>168|152=>193|226=>194|227=>195|228=>196|137=>144|119=>207|224=>136|225=>135|217=>134|266=>163|n=>n,fun|9=>9|3=>3|4=>4|5=>5|21=>21|117=>186|116=>185|0=>0|46=>132|124=>202|n=>n,fun|n=>n⟩
theorem Tryz.Eh:Go.Proofs.Lays.n153 Tryz.prog Tryz.A3:={
 mixed:=by kernel_rfl
 f119:=Tryz.func207.trans (congrArg some (by kernel_rfl))
 f137:=Tryz.func144.trans (congrArg some (by kernel_rfl))
 f152:=Tryz.func193.trans (congrArg some (by kernel_rfl))
 f153:=Tryz.func168.trans (congrArg some (by kernel_rfl))
 f217:=Tryz.func134.trans (congrArg some (by kernel_rfl))
 f224:=Tryz.func136.trans (congrArg some (by kernel_rfl))
 f225:=Tryz.func135.trans (congrArg some (by kernel_rfl))
 f226:=Tryz.func194.trans (congrArg some (by kernel_rfl))
 f227:=Tryz.func195.trans (congrArg some (by kernel_rfl))
 f228:=Tryz.func196.trans (congrArg some (by kernel_rfl))
 f266:=Tryz.func163.trans (congrArg some (by kernel_rfl))
 t0:=Tryz.underlying0
 a0:=Tryz.isAgg0
 z0:=Tryz.sizeOf0
 v0:=Tryz.zeroValue0
 t3:=Tryz.underlying3
 a3:=Tryz.isAgg3
 z3:=Tryz.sizeOf3
 v3:=Tryz.zeroValue3
 t4:=Tryz.underlying4
 a4:=Tryz.isAgg4
 z4:=Tryz.sizeOf4
 v4:=Tryz.zeroValue4
 t5:=Tryz.underlying5
 a5:=Tryz.isAgg5
 z5:=Tryz.sizeOf5
 v5:=Tryz.zeroValue5
 t9:=Tryz.underlying9
 a9:=Tryz.isAgg9
 z9:=Tryz.sizeOf9
 v9:=Tryz.zeroValue9
 t21:=Tryz.underlying21
 a21:=Tryz.isAgg21
 z21:=Tryz.sizeOf21
 v21:=Tryz.zeroValue21
 t46:=Tryz.underlying132
 a46:=Tryz.isAgg132
 z46:=Tryz.sizeOf132
 v46:=Tryz.zeroValue132
 t116:=Tryz.underlying185
 a116:=Tryz.isAgg185
 z116:=Tryz.sizeOf185
 t117:=Tryz.underlying186
 a117:=Tryz.isAgg186
 z117:=Tryz.sizeOf186
 v117:=Tryz.zeroValue186
 t124:=Tryz.underlying202
 a124:=Tryz.isAgg202
 z124:=Tryz.sizeOf202
 v124:=Tryz.zeroValue202 }
open Go.RowKit Go.Lib in
theorem Tryz.strings_IndexAny_long (HT:∀ w,(zeroValue 185).run Tryz.prog w=.ok (.agg (Array.replicate 256 (.bool false))) w)(s chars:ByteArray)(w:World)(h2:2≤chars.size)(h8:8<s.size)(hs:s.size<4294967281)(hcs:chars.size<4294967281)(hascii:∀ (j:Nat) b,chars.data.toList[j]? = some b→b.toNat<128) :
 Calls Tryz.prog 168 #[.string s,.string chars] w fun e w'=>e=.returned (.int .i64 (Lib.indexAny s.data.toList chars.data.toList))∧w'=((w.alloc (.cells (Lib.setCells chars.data.toList) 185)).alloc (.cells (Lib.setCells chars.data.toList) 185)):=Any.strings_IndexAny_long Tryz.Eh HT (by kernel_rfl) s chars w h2 h8 hs hcs hascii
open Go.RowKit Go.Lib in
theorem Tryz.strings_IndexAny (HT:∀ w,(zeroValue 185).run Tryz.prog w=.ok (.agg (Array.replicate 256 (.bool false))) w)(s chars:ByteArray)(w:World)(hs:s.size<4294967281)(hcs:chars.size<4294967281)(has:∀ (j:Nat) b,s.data.toList[j]? = some b→b.toNat<128)(hac:∀ (j:Nat) b,chars.data.toList[j]? = some b→b.toNat<128) :
 Calls Tryz.prog 168 #[.string s,.string chars] w fun e w'=>e=.returned (.int .i64 (Lib.indexAny s.data.toList chars.data.toList))∧Below w.heap.size w w':=Any.strings_IndexAny Tryz.Eh HT (by kernel_rfl) s chars w hs hcs has hac
end Go.Proofs
namespace Wf
open Go Go.RowKit
theorem index_one (c:UInt8)(s:Bytes):Lib.index s [c]=Lib.indexByte s c:=by
 induction s with
 | nil=>rfl
 | cons b l ih =>
   rw[Lib.index,Lib.indexByte,ih]
   have:[c].isPrefixOf (b::l)=(b==c):=by simp[List.isPrefixOf];exact Bool.beq_comm
   rw[this]
def aG (c:UInt8)(s:Bytes):Bytes × Bytes × Bool :=
 if pre (·==c) s<s.length then(s.take (pre (·==c) s),s.drop (pre (·==c) s+1),true) else(s,[],false)
theorem eb (c:UInt8)(s:Bytes):(aG c s).1.length≤s.length∧(aG c s).2.1.length≤s.length:=by
 unfold aG
 split
 ·simp;omega
 ·simp
theorem cut_one (c:UInt8)(s:Bytes):Lib.cut s [c]=aG c s:=by
 unfold Lib.cut aG
 rw[index_one,cY]
 by_cases h:pre (·==c) s<s.length
 ·simp[h]
 ·simp[h]
def aA (c:UInt8):Bytes→List Bytes
 | []=>[[]]
 | x::r=>if x==c then []::aA c r else match aA c r with
   | h::t=>(x::h)::t
   | []=>[[x]]
theorem bZ {c:UInt8}{s:Bytes}(h:¬ pre (·==c) s<s.length):aA c s=[s]:=by
 induction s with
 | nil=>rfl
 | cons x r ih =>
   rw[cf]at h
   rw[aA]
   cases hx:x==c
   ·rw[hx]at h
    simp at h
    rw[ih (by omega)]
    rfl
   ·rw[hx]at h;simp at h
theorem cG {c:UInt8}{s:Bytes}(h:pre (·==c) s<s.length):aA c s=s.take (pre (·==c) s)::aA c (s.drop (pre (·==c) s+1)):=by
 induction s with
 | nil=>simp at h
 | cons x r ih =>
   rw[cf]at h ⊢
   rw[aA]
   cases hx:x==c
   ·rw[hx]at h
    simp at h
    rw[ih h]
    simp
   ·simp
theorem qZ (c:UInt8)(s:Bytes):aA c s≠[]:=by
 by_cases h:pre (·==c) s<s.length
 ·rw[cG h];simp
 ·rw[bZ h];simp
theorem iv {c:UInt8}{s:Bytes}(h:pre (·==c) s<s.length):s.count c=(s.drop (pre (·==c) s+1)).count c+1:=by
 induction s with
 | nil=>simp at h
 | cons x r ih =>
   rw[cf]at h ⊢
   cases hx:x==c
   ·rw[hx]at h
    simp at h
    rw[List.count_cons,hx,ih h]
    simp
   ·simp[List.count_cons,hx]
theorem lZ {c:UInt8}{s:Bytes}(h:¬ pre (·==c) s<s.length):s.count c=0:=by
 induction s with
 | nil=>rfl
 | cons x r ih =>
   rw[cf]at h
   cases hx:x==c
   ·rw[hx]at h
    simp at h
    rw[List.count_cons,hx,ih (by omega)];rfl
   ·rw[hx]at h;simp at h
theorem tL (c:UInt8):∀ (k:Nat)(s:Bytes),s.count c=k→Lib.splitK [c] 0 k s=aA c s:=by
 intro k
 induction k with
 | zero =>
   intro s h
   by_cases hp:pre (·==c) s<s.length
   ·rw[iv hp]at h;omega
   ·rw[bZ hp];rfl
 | succ k ih =>
   intro s h
   by_cases hp:pre (·==c) s<s.length
   ·rw[cG hp,Lib.splitK,index_one,cY,if_pos hp,if_neg (by simp)]
    rw[iv hp]at h
    have:=ih (s.drop (pre (·==c) s+1)) (by omega)
    simp[this]
   ·rw[lZ hp]at h;omega
theorem iw (c:UInt8)(s:Bytes):(aA c s).length=s.count c+1:=by
 suffices ∀ k,∀ s:Bytes,s.count c=k→(aA c s).length=k+1 from this _ s rfl
 intro k
 induction k with
 | zero =>
   intro s h
   by_cases hp:pre (·==c) s<s.length
   ·rw[iv hp]at h;omega
   ·rw[bZ hp];rfl
 | succ k ih =>
   intro s h
   by_cases hp:pre (·==c) s<s.length
   ·rw[cG hp]
    rw[iv hp]at h
    simp[ih _ (by omega:(s.drop (pre (·==c) s+1)).count c=k)]
   ·rw[lZ hp]at h;omega
theorem ib (c:UInt8)(s:Bytes):∀ x∈aA c s,x.length≤s.length:=by
 suffices ∀ k,∀ s:Bytes,s.count c=k→∀ x∈aA c s,x.length≤s.length from this _ s rfl
 intro k
 induction k with
 | zero =>
   intro s h
   by_cases hp:pre (·==c) s<s.length
   ·rw[iv hp]at h;omega
   ·rw[bZ hp];simp
 | succ k ih =>
   intro s h
   by_cases hp:pre (·==c) s<s.length
   ·rw[cG hp]
    rw[iv hp]at h
    intro x hx
    rcases zJB.1 hx with rfl|hx
    ·simp;omega
    ·have:=ih _ (by omega:(s.drop (pre (·==c) s+1)).count c=k) x hx
     simp at this;omega
   ·rw[lZ hp]at h;omega
def lF (l:Bytes):Value:=.string ⟨zJw l⟩
theorem CG (c:UInt8)(s:Bytes):(Lib.splitB ⟨#[c]⟩ 0 (Lib.countB ⟨zJw s⟩ ⟨#[c]⟩) ⟨zJw s⟩).map Value.string=(aA c s).map lF:=by
 have h:=Lib.splitB_data ⟨#[c]⟩ 0 (Lib.countB ⟨zJw s⟩ ⟨#[c]⟩) ⟨zJw s⟩
 have hk:Lib.splitK [c] 0 (Lib.countB ⟨zJw s⟩ ⟨#[c]⟩) s=aA c s:=tL c _ s (Lib.count_one c s).symm
 have h2:(Lib.splitB ⟨#[c]⟩ 0 (Lib.countB ⟨zJw s⟩ ⟨#[c]⟩) ⟨zJw s⟩).map (·.data.toList)=aA c s:=h.trans hk
 rw[← h2,List.map_map]
 apply List.map_congr_left
 intro x _
 rfl
theorem DM (c:UInt8)(s:Bytes):Lib.countB ⟨zJw s⟩ ⟨#[c]⟩+1=(aA c s).length:=by
 rw[iw]
 exact congrArg (·+1) (Lib.count_one c s)
open Go Go.RowKit
structure Uri where
 scheme:Bytes
 authority:Bytes
 path:Bytes
 query:Bytes
 fragment:Bytes
 ik:Bool
 dI:Bool
 bl:Bool
 bE:Bool
 deriving DecidableEq
def Uri.none:Uri:=⟨[],[],[],[],[],false,false,false,false⟩
def Uri.cells (u:Uri):Array Value:=#[lF u.scheme,lF u.authority,lF u.path,lF u.query,lF u.fragment,.bool u.ik,.bool u.dI,.bool u.bl,.bool u.bE]
def Uri.val (u:Uri):Value:=.agg u.cells
def eY (c:UInt8):Bool:=isAlpha c||isDigit c||[43,45,46].contains c
def cH (s:Bytes):Bool:=match s with
 | []=>false
 | c::r=>isAlpha c&&r.all eY
def aq (c:UInt8):Bool:=[58,47].contains c
def aB (s:Bytes):Bytes × Bool × Bytes:=match s with
 | 47::47::r=>(r.take (pre (·==47) r),true,r.drop (pre (·==47) r))
 | s=>([],false,s)
def aF (s frag query:Bytes)(bE bl:Bool):Uri × Int :=
 if (s.drop (pre aq s)).head? = some 58 then
  if cH (s.take (pre aq s)) then
   (⟨s.take (pre aq s),(aB (s.drop (pre aq s+1))).1,(aB (s.drop (pre aq s+1))).2.2,query,frag,true,(aB (s.drop (pre aq s+1))).2.1,bl,bE⟩,0)
  else(Uri.none,6)
 else(⟨[],(aB s).1,(aB s).2.2,query,frag,false,(aB s).2.1,bl,bE⟩,0)
def bd (s:Bytes):Uri × Int :=
 if 16384<s.length then(Uri.none,5)
 else aF (aG 63 (aG 35 s).1).1 (aG 35 s).2.1 (aG 63 (aG 35 s).1).2.1 (aG 35 s).2.2 (aG 63 (aG 35 s).1).2.2
def uriJoin (u:Uri):Bytes :=
 (if u.ik then u.scheme++[58] else [])++(if u.dI then [47,47]++u.authority else [])++u.path++(if u.bl then [63]++u.query else [])++(if u.bE then [35]++u.fragment else [])
def cX (out:Bytes):Bytes:=(out.reverse.dropWhile (· != 47)).drop 1 |>.reverse
def cD (path out:Bytes):Bytes × Bytes :=
 if [46,46,47].isPrefixOf path then(path.drop 3,out)
 else if [46,47].isPrefixOf path then(path.drop 2,out)
 else if [47,46,47].isPrefixOf path then(path.drop 2,out)
 else if path=[47,46] then([47],out)
 else if [47,46,46,47].isPrefixOf path then(path.drop 3,cX out)
 else if path=[47,46,46] then([47],cX out)
 else if path=[46]∨path=[46,46] then([],out)
 else(path.drop (1+pre (·==47) (path.drop 1)),out++path.take (1+pre (·==47) (path.drop 1)))
def dZ:Nat→Bytes→Bytes→Bytes
 | 0,_,out=>out
 | f+1,path,out=>if path=[] then out else dZ f (cD path out).1 (cD path out).2
def aN (path:Bytes):Bytes:=dZ path.length path []
def dC (s:Bytes):Nat:=(s.reverse.dropWhile (· != 47)).length
open Go Go.RowKit
def eX (c:UInt8):Bool:=isAlpha c||isDigit c||([45,46,95,126]:Bytes).contains c
def gY (n:Nat):UInt8:=if n<10 then(48+n).toUInt8 else(55+n).toUInt8
def jQ (c:UInt8):Bytes:=[37,gY (c.toNat / 16),gY (c.toNat % 16)]
def unhex (a b:UInt8):UInt8:=(cw a * 16+cw b).toUInt8
inductive PU where
 | lit (c:UInt8) | hex (a b:UInt8) | bad
 deriving DecidableEq
def cZ:Bytes→Option (UInt8 × UInt8 × Bytes)
 | a::b::r=>if bt a&&bt b then some (a,b,r) else none
 | _=>none
theorem cS {s r:Bytes}{a b:UInt8}(h:cZ s=some (a,b,r)):s=a::b::r∧bt a=true∧bt b=true:=by
 unfold cZ at h
 split at h
 ·split at h
  ·rename_i hx
   simp only[Bool.and_eq_true]at hx
   cases h
   exact⟨rfl,hx⟩
  ·cases h
 ·cases h
def bH:Nat→Bytes→List PU
 | 0,_=>[]
 | _+1,[]=>[]
 | f+1,c::r=>if c=37 then(match cZ r with
    | some (a,b,r)=>.hex a b::bH f r
    | none=>[.bad]) else .lit c::bH f r
def ay (s:Bytes):List PU:=bH s.length s
theorem lD:∀ (f g:Nat)(s:Bytes),s.length≤f→s.length≤g→bH f s=bH g s
 | 0,0,_,_,_=>rfl
 | 0,g+1,s,h,_=>by obtain rfl:=List.length_eq_zero_iff.1 (Nat.le_zero.1 h);rfl
 | f+1,0,s,_,h=>by obtain rfl:=List.length_eq_zero_iff.1 (Nat.le_zero.1 h);rfl
 | f+1,g+1,[],_,_=>rfl
 | f+1,g+1,c::r,h,h'=>by
   simp only[zJz]at h h'
   rw[bH,bH]
   split
   ·cases hp:cZ r with
    | none=>rfl
    | some x =>
      obtain⟨a,b,r'⟩:=x
      obtain⟨rfl,-,-⟩:=cS hp
      simp only[zJz]at h h' ⊢
      rw[lD f g r' (by omega) (by omega)]
   ·rw[lD f g r (by omega) (by omega)]
theorem dU:ay []=[]:=rfl
theorem df {c:UInt8}(h:c≠37)(r:Bytes):ay (c::r)=.lit c::ay r:=by
 unfold ay;rw[zJz,bH,if_neg h]
theorem fC {a b:UInt8}(ha:bt a=true)(hb:bt b=true)(r:Bytes):ay (37::a::b::r)=.hex a b::ay r:=by
 unfold ay
 rw[zJz,bH,if_pos rfl,show cZ (a::b::r)=some (a,b,r) by simp[cZ,ha,hb]]
 simp only[zJz]
 rw[lD _ r.length r (by omega) (zJy _)]
theorem qU {s:Bytes}(h:cZ s=none):ay (37::s)=[.bad]:=by
 unfold ay;rw[zJz,bH,if_pos rfl,h]
theorem fR:∀ n,n<16→bt (gY n)=true:=by decide
theorem jo (c:UInt8):unhex (gY (c.toNat / 16)) (gY (c.toNat % 16))=c:=by
 have:=dy (p:=fun c=>unhex (gY (c.toNat / 16)) (gY (c.toNat % 16))==c) (by decide +kernel) c
 simpa using this
theorem wQ (c:UInt8)(r:Bytes):ay (jQ c++r)=.hex (gY (c.toNat / 16)) (gY (c.toNat % 16))::ay r :=
 fC (fR _ (by have:=c.toNat_lt;omega)) (fR _ (by omega)) r
def PU.val:PU→UInt8
 | .lit c=>c
 | .hex a b=>unhex a b
 | .bad=>0
def ak (s:Bytes):Bytes × Int:=if 16384<s.length then([],5) else if PU.bad∈ay s then([],2) else((ay s).map PU.val,0)
def iu (keep:Bytes)(c:UInt8):Bytes:=if eX c||(c != 37&&keep.contains c) then [c] else jQ c
def aD (keep s:Bytes):Bytes:=s.flatMap (iu keep)
def dp (also:Bytes)(c:UInt8):Bool:=eX c||also.contains c
def kM (c:UInt8):Bytes:=if eX c then [c] else jQ c
def comb (d:Bytes)(x:Bytes × Int):Bytes × Int:=if x.2=0 then(d++x.1,0) else([],x.2)
def bD (also:Bytes):List PU→Bytes × Int
 | []=>([],0)
 | .bad::_=>([],2)
 | .lit c::r=>if dp also c then comb [c] (bD also r) else([],1)
 | .hex a b::r=>comb (kM (unhex a b)) (bD also r)
def aX (also s:Bytes):Bytes × Int:=if 16384<s.length then([],5) else bD also (ay s)
theorem qC (x:Bytes × Int)(h:x.2≠0→x.1=[]):comb [] x=x:=by
 obtain⟨x,e⟩:=x
 unfold comb
 simp only at h ⊢
 split
 ·rename_i h0;subst h0;rfl
 ·rename_i h0;rw[h h0]
theorem gv (a b:Bytes)(x:Bytes × Int):comb a (comb b x)=comb (a++b) x:=by
 unfold comb
 by_cases h:x.2=0
 ·simp[h]
 ·simp[h]
theorem xq (also:Bytes):∀ l,(bD also l).2≠0→(bD also l).1=[]
 | [],h=>by simp[bD]at h
 | .bad::_,_=>rfl
 | .lit c::r,h=>by
   rw[bD]at h ⊢
   split
   ·rename_i hk
    rw[if_pos hk]at h
    unfold comb at h ⊢
    split
    ·rename_i h0;rw[if_pos h0]at h;simp at h
    ·rfl
   ·rfl
 | .hex a b::r,h=>by
   rw[bD]at h ⊢
   unfold comb at h ⊢
   split
   ·rename_i h0;rw[if_pos h0]at h;simp at h
   ·rfl
theorem zM {c:UInt8}(h:eX c=true):c≠37:=by
 rintro rfl;revert h;decide
def canU (also:Bytes):PU→Prop
 | .lit c=>dp also c=true∧c≠37
 | .hex a b=>eX (unhex a b)=false∧a=gY ((unhex a b).toNat / 16)∧b=gY ((unhex a b).toNat % 16)∧bt a=true∧bt b=true
 | .bad=>False
def PU.str:PU→Bytes
 | .lit c=>[c]
 | .hex a b=>[37,a,b]
 | .bad=>[]
theorem qT (also:Bytes):∀ (l:List PU),(∀ x∈l,canU also x)→ay (l.flatMap PU.str)=l
 | [],_=>rfl
 | .lit c::r,h=>by
   have h1:=h _ List.mem_cons_self
   rw[List.flatMap_cons,PU.str,List.singleton_append,df h1.2,qT also r (fun x hx=>h x (zJG _ hx))]
 | .hex a b::r,h=>by
   have h1:=h _ List.mem_cons_self
   rw[List.flatMap_cons,PU.str]
   simp only[List.cons_append,List.nil_append]
   rw[fC h1.2.2.2.1 h1.2.2.2.2,qT also r (fun x hx=>h x (zJG _ hx))]
 | .bad::r,h=>(h _ List.mem_cons_self).elim
theorem ni (also:Bytes):∀ (l:List PU),(∀ c,PU.lit c∈l→c≠37)→(bD also l).2=0→∃ l':List PU,(bD also l).1=l'.flatMap PU.str∧(∀ x∈l',canU also x)∧(∀ x∈l,x≠.bad)∧l'.map PU.val=l.map PU.val
 | [],_,_=>⟨[],rfl,by simp,by simp,rfl⟩
 | .bad::_,_,h=>by simp[bD]at h
 | .lit c::r,hl,h=>by
   rw[bD]at h ⊢
   split at h
   ·rename_i hk
    rw[if_pos hk]
    unfold comb at h ⊢
    split at h
    ·rename_i h0
     rw[if_pos h0]
     obtain⟨l',e,h1,h2,h3⟩:=ni also r (fun d hd=>hl d (zJG _ hd)) h0
     refine⟨.lit c::l',by simp[e,PU.str],?_,?_,by simp[h3,PU.val]⟩
     ·intro x hx
      simp only[zJB]at hx
      rcases hx with rfl|hx
      ·exact⟨hk,hl c List.mem_cons_self⟩
      ·exact h1 x hx
     ·intro x hx
      simp only[zJB]at hx
      rcases hx with rfl|hx
      ·simp
      ·exact h2 x hx
    ·rename_i h0;exact absurd h h0
   ·simp at h
 | .hex a b::r,hl,h=>by
   rw[bD]at h ⊢
   unfold comb at h ⊢
   split at h
   ·rename_i h0
    rw[if_pos h0]
    obtain⟨l',e,h1,h2,h3⟩:=ni also r (fun d hd=>hl d (zJG _ hd)) h0
    have jF:∀ x∈PU.hex a b::r,x≠.bad:=fun x hx=>by
     simp only[zJB]at hx
     rcases hx with rfl|hx
     ·simp
     ·exact h2 x hx
    by_cases hu:eX (unhex a b)=true
    ·refine⟨.lit (unhex a b)::l',by simp[e,PU.str,kM,hu],?_,jF,by simp[h3,PU.val]⟩
     intro x hx
     simp only[zJB]at hx
     rcases hx with rfl|hx
     ·exact⟨by simp[dp,hu],zM hu⟩
     ·exact h1 x hx
    ·have hu':eX (unhex a b)=false:=by simpa using hu
     have hn:=(unhex a b).toNat_lt
     have hv:=jo (unhex a b)
     refine⟨.hex (gY ((unhex a b).toNat / 16)) (gY ((unhex a b).toNat % 16))::l',by simp[e,PU.str,kM,hu',jQ],?_,jF,by simp[h3,PU.val,hv]⟩
     intro x hx
     simp only[zJB]at hx
     rcases hx with rfl|hx
     ·exact⟨by rw[hv];exact hu',by rw[hv],by rw[hv],fR _ (by omega),fR _ (by omega)⟩
     ·exact h1 x hx
   ·rename_i h0;exact absurd h h0
theorem mM:∀ (f:Nat)(s:Bytes)(c:UInt8),PU.lit c∈bH f s→c≠37
 | 0,_,_,h=>by simp[bH]at h
 | _+1,[],_,h=>by simp[bH]at h
 | f+1,d::r,c,h=>by
   rw[bH]at h
   split at h
   ·split at h
    ·simp only[zJB,reduceCtorEq,false_or]at h
     exact mM f _ c h
    ·simp at h
   ·rename_i hd
    simp only[zJB,PU.lit.injEq]at h
    rcases h with rfl|h
    ·exact hd
    ·exact mM f _ c h
theorem rV (s:Bytes)(c:UInt8)(h:PU.lit c∈ay s):c≠37:=mM _ s c h
theorem mN:∀ (f:Nat)(s:Bytes),((bH f s).flatMap PU.str).length≤s.length
 | 0,_=>by simp[bH]
 | _+1,[]=>by simp[bH]
 | f+1,d::r=>by
   rw[bH]
   split
   ·cases hp:cZ r with
    | none=>simp[PU.str]
    | some x =>
      obtain⟨a,b,r'⟩:=x
      obtain⟨rfl,-,-⟩:=cS hp
      have:=mN f r'
      simp[PU.str]at this ⊢;omega
   ·have:=mN f r
    simp[PU.str]at this ⊢;omega
theorem rr (also:Bytes):∀ (l:List PU),(bD also l).1.length≤(l.flatMap PU.str).length
 | []=>by simp[bD]
 | .bad::_=>by simp[bD]
 | .lit c::r=>by
   have:=rr also r
   rw[bD]
   split
   ·unfold comb;split
    ·simp[PU.str]at this ⊢;omega
    ·simp
   ·simp
 | .hex a b::r=>by
   have:=rr also r
   rw[bD]
   unfold comb kM;split
   ·split
    ·simp[PU.str]at this ⊢;omega
    ·simp[PU.str,jQ]at this ⊢;omega
   ·simp
theorem dF (also s:Bytes):(aX also s).1.length≤s.length:=by
 unfold aX
 split
 ·simp
 ·exact Nat.le_trans (rr also _) (mN _ s)
theorem lC (keep:Bytes):∀ (s:Bytes),(ay (aD keep s)).map PU.val=s∧PU.bad ∉ ay (aD keep s)
 | []=>⟨rfl,by simp[aD,dU]⟩
 | c::s=>by
   obtain⟨h1,h2⟩:=lC keep s
   have e:aD keep (c::s)=iu keep c++aD keep s:=rfl
   rw[e]
   unfold iu
   split
   ·rename_i hc
    have bp:c≠37:=by
     rintro rfl
     simp at hc
     exact absurd hc (by decide)
    rw[List.singleton_append,df bp]
    exact⟨by simp[PU.val,h1],by simpa using h2⟩
   ·rw[wQ]
    exact⟨by simp[PU.val,h1,jo],by simpa using h2⟩
theorem dM (keep s:Bytes):(aD keep s).length≤3 * s.length:=by
 induction s with
 | nil=>simp[aD]
 | cons c s ih =>
   have e:aD keep (c::s)=iu keep c++aD keep s:=rfl
   have:(iu keep c).length≤3:=by unfold iu jQ;split <;> simp
   rw[e,zJx,zJz];omega
open Go Go.RowKit
def vF (c:UInt8):Bool:=isAlpha c||isDigit c||c==45
def bz (s:Bytes):Bool:=!s.isEmpty&&decide (s.length≤63)&&!(s.head?==some 45)&&!(s.getLast?==some 45)&&s.all vF
def mq:List Bytes→Bool
 | []=>true
 | [x]=>bz x&&!cg x
 | x::y::r=>bz x&&mq (y::r)
def eA (s:Bytes):Bool:=mq (aA 46 s)
def eZ (s:Bytes):Bool:=(aV 255 s).2==0
def ipv4 (s:Bytes):Bool:=(aA 46 s).length==4&&(aA 46 s).all eZ
def bB (s:Bytes):Bytes × Int :=
 if s.isEmpty then([],3) else if 253<s.length then([],5) else if !ipv4 s&&!eA s then([],50) else(lower s,0)
def iX (s:Bytes):Int × Int :=
 if (aV 65535 s).2≠0∨(aV 65535 s).1=0 then(0,51) else((aV 65535 s).1,0)
def cr (h:Bytes × Int)(colon:Bool)(p:Int × Int):(Bytes × Int) × Int :=
 if h.2≠0 then(([],0),h.2)
 else if colon then if p.2≠0 then(([],0),p.2) else((h.1,if p.1=443 then 0 else p.1),0)
 else((h.1,0),0)
def aE (s:Bytes):(Bytes × Int) × Int:=cr (bB (aG 58 s).1) (aG 58 s).2.2 (iX (aG 58 s).2.1)
def bf (h:Bytes)(p:Int):Bytes:=if p=0 then h else if p<0 then h++[58,45]++cJ p.natAbs else h++[58]++cJ p.natAbs
open Go Go.RowKit
structure fc where
 host:Bytes
 port:Int
 path:Bytes
 query:Bytes
 fragment:Bytes
 bl:Bool
 bE:Bool
 deriving DecidableEq
def fc.none:fc:=⟨[],0,[],[],[],false,false⟩
def cQ:Bytes:=[33,36,38,39,40,41,42,43,44,59,61,58,64,47]
def cP:Bytes:=[33,36,38,39,40,41,42,43,44,59,61,58,64,47,63]
def di:Bytes:=[104,116,116,112,115]
def eQ (u:fc):Bytes:=if u.bl then u.path++[63]++u.query else u.path
def cB (u:fc):Bytes:=[104,116,116,112,115,58,47,47]++bf u.host u.port++eQ u++(if u.bE then [35]++u.fragment else [])
def tF (h:Bytes × Int)(p q f:Bytes)(hq hf:Bool):fc × Int :=
 if 4096<(cB ⟨h.1,h.2,if aN p=[] then [47] else aN p,q,f,hq,hf⟩).length then(fc.none,5)
 else(⟨h.1,h.2,if aN p=[] then [47] else aN p,q,f,hq,hf⟩,0)
def pA (r:Uri):fc × Int :=
 if (aE r.authority).2≠0 then(fc.none,(aE r.authority).2)
 else if (aX cQ r.path).2≠0 then(fc.none,(aX cQ r.path).2)
 else if (aX cP r.query).2≠0 then(fc.none,(aX cP r.query).2)
 else if (aX cP r.fragment).2≠0 then(fc.none,(aX cP r.fragment).2)
 else tF (aE r.authority).1 (aX cQ r.path).1 (aX cP r.query).1 (aX cP r.fragment).1 r.bl r.bE
def wP (r:Uri):fc × Int :=
 if r.ik=false∨lower r.scheme≠di then(fc.none,60)
 else if r.dI=false then(fc.none,71)
 else if (64:UInt8)∈r.authority then(fc.none,70)
 else pA r
def bG (s:Bytes):fc × Int :=
 if 4096<s.length then(fc.none,5)
 else if (bd s).2≠0 then(fc.none,(bd s).2)
 else wP (bd s).1
def fO (u:fc):Bool:=decide (bG (cB u)=(u,0))
end Wf
namespace Go.Proofs
open Go.Shelf Go.RowKit
def Tryz.Bf:Go.Shelf.Ren:=⟨fun|240=>213|166=>204|276=>219|n=>n,fun|0=>0|3=>3|4=>4|5=>5|9=>9|20=>20|37=>25|70=>191|72=>193|75=>195|80=>198|164=>211|n=>n,fun|n=>n⟩
theorem Tryz.Hu:Go.Proofs.Lays.n166 Tryz.prog Tryz.Bf:={
 mixed:=by kernel_rfl
 f166:=Tryz.func204.trans (congrArg some (by kernel_rfl))
 f240:=Tryz.func213.trans (congrArg some (by kernel_rfl))
 f276:=Tryz.func219.trans (congrArg some (by kernel_rfl))
 t0:=Tryz.underlying0
 a0:=Tryz.isAgg0
 z0:=Tryz.sizeOf0
 v0:=Tryz.zeroValue0
 t3:=Tryz.underlying3
 a3:=Tryz.isAgg3
 z3:=Tryz.sizeOf3
 v3:=Tryz.zeroValue3
 t4:=Tryz.underlying4
 a4:=Tryz.isAgg4
 z4:=Tryz.sizeOf4
 v4:=Tryz.zeroValue4
 t9:=Tryz.underlying9
 a9:=Tryz.isAgg9
 z9:=Tryz.sizeOf9
 v9:=Tryz.zeroValue9
 t20:=Tryz.underlying20
 a20:=Tryz.isAgg20
 z20:=Tryz.sizeOf20
 v20:=Tryz.zeroValue20
 t37:=Tryz.underlying25
 a37:=Tryz.isAgg25
 z37:=Tryz.sizeOf25
 v37:=Tryz.zeroValue25
 t70:=Tryz.underlying191
 a70:=Tryz.isAgg191
 z70:=Tryz.sizeOf191
 v70:=Tryz.zeroValue191
 t72:=Tryz.underlying193
 a72:=Tryz.isAgg193
 z72:=Tryz.sizeOf193
 v72:=Tryz.zeroValue193
 t75:=Tryz.underlying195
 a75:=Tryz.isAgg195
 z75:=Tryz.sizeOf195
 v75:=Tryz.zeroValue195
 t164:=Tryz.underlying211
 a164:=Tryz.isAgg211
 z164:=Tryz.sizeOf211
 v164:=Tryz.zeroValue211 }
theorem Tryz.uZ:Builder.Extra Tryz.prog Tryz.Bf:={
 sizeBuilder:=by kernel_rfl
 liesBuilder:=by kernel_rfl
 t5:=Tryz.underlying5
 a5:=Tryz.isAgg5
 z5:=Tryz.sizeOf5
 v5:=Tryz.zeroValue5
 infoByte:=by kernel_rfl
 cellsByte:=by kernel_rfl
 sizeByte:=by kernel_rfl
 neB5:=by decide }
end Go.Proofs
namespace Go.Proofs.YteipdaijbncgeaaGreatDoor
open Go.RowKit Wf
structure Fr (own:Nat→Prop) (w w':World):Prop where
 os:w'.os=w.os
 tape:w'.tape=w.tape
 output:w'.output=w.output
 size:w.heap.size≤w'.heap.size
 block:∀ k,k<w.heap.size→¬ own k→w'.heap[k]? = w.heap[k]?
theorem Fr.below {own:Nat→Prop}{B:Nat}{w w':World}(h:Fr own w w')(ho:∀ k,own k→B≤k)(hB:B≤w.heap.size):Below B w w' :=
 ⟨h.os,h.tape,h.output,h.size,fun k hk=>h.block k (by omega) (fun e=>by have:=ho k e;omega)⟩
theorem Fr.jA {own:Nat→Prop}{B:Nat}{w w':World}(h:Below B w w')(ho:∀ k,B≤k→k<w.heap.size→own k):Fr own w w' :=
 ⟨h.os,h.tape,h.output,h.size,fun k hk hn=>h.block k (by
  rcases Nat.lt_or_ge k B with h' | h'
  ·exact h'
  ·exact absurd (ho k h' hk) hn)⟩
theorem Fr.trans {own:Nat→Prop}{a b c:World}(h:Fr own a b)(k:Fr own b c):Fr own a c :=
 ⟨k.os.trans h.os,k.tape.trans h.tape,k.output.trans h.output,Nat.le_trans h.size k.size,fun i hi hn=>(k.block i (by have:=h.size;omega) hn).trans (h.block i hi hn)⟩
theorem Fr.setCell {own:Nat→Prop}{a w:World}(h:Fr own a w){b o:Nat}(hb:own b)(v:Value):Fr own a (w.setCell ⟨b,o,none⟩ v) :=
 h.trans ⟨rfl,rfl,rfl,by simp[World.setCell],fun k _ hn=>Below.heap_setCell _ _ _ _ (by rintro rfl;exact hn hb)⟩
theorem heap_set {w:World}{b o:Nat}{cs:Array Value}{T:TypeId}{fz:Nat × Nat}(h:w.heap[b]? = some (.cells cs T fz))(v:Value):(w.setCell ⟨b,o,none⟩ v).heap[b]? = some (.cells (cs.setIfInBounds o v) T fz):=by
 simp[World.setCell,Array.getElem?_modify,h]
theorem bQ {w:World}{b:Nat}{x:Obj}(h:w.heap[b]? = some x):b<w.heap.size:=(Array.getElem?_eq_some_iff.1 h).1
theorem Fr.kept {b:Nat}{w w':World}(h2:Lib.OthersKept 5 (some b) w w'){k:Nat}{cs:Array Value}{T:TypeId}{fz:Nat × Nat}(hk:w.heap[k]? = some (.cells cs T fz))(bp:k≠b)(hT:T≠5):w'.heap[k]? = some (.cells cs T fz) :=
 h2 k _ hk (by simpa using bp) (by rintro c f It;injection It with _ hT' _;exact hT hT')
def Bld (b:Nat)(l:Bytes)(w:World):Prop:=Lib.IsBuilderF 193 5 b b (Lib.byteCells l) w
theorem Bld.lt {b:Nat}{l:Bytes}{w:World}(h:Bld b l w):b<w.heap.size:=by
 have:∀ p,Lib.BuilderAtF 193 5 b b p (Lib.byteCells l) w→b<w.heap.size:=by
  rintro p ⟨_,v,hb,_⟩
  rcases Nat.lt_or_ge b w.heap.size with h' | h'
  ·exact h'
  ·simp[Array.getElem?_eq_none h']at hb
 rcases h with h|h <;> exact this _ h
theorem Bld.alloc {b:Nat}{l:Bytes}{w:World}(h:Bld b l w)(o:Obj):Bld b l (w.alloc o):=Lib.IsBuilderF.alloc h o
theorem Bld.fr {b cb:Nat}{l:Bytes}{w w':World}{cs:Array Value}{T:TypeId}{fz:Nat × Nat}(h:Bld b l w)(hf:Fr (·=cb) w w')(hc:w.heap[cb]? = some (.cells cs T fz))(hT:T≠5)(bp:b≠cb):Bld b l w':=by
 have key:∀ p,Lib.BuilderAtF 193 5 b b p (Lib.byteCells l) w→Lib.BuilderAtF 193 5 b b p (Lib.byteCells l) w':=by
  rintro p ⟨hB,v,hb,od,hv⟩
  refine⟨hB,v,?_,?_,hv⟩
  ·rw[hf.block b (bQ hb) bp];exact hb
  ·exact od.kept (row:=some cb) ⟨hf.os,hf.tape,hf.output,hf.size,fun k hk hn=>hf.block k hk (fun e=>hn (by rw[e]))⟩ (Or.inr (Lib.ownBlock_neF od hc hT))
 rcases h with h|h
 ·exact Or.inl (key _ h)
 ·exact Or.inr (key _ h)
open Go.RowKit Wf
def Env (w:World):Prop:=∃ m,w.cell? ⟨0,0,none⟩=some (.int .i64 m)
theorem Env.lt {w:World}(h:Env w):0<w.heap.size:=by
 obtain⟨m,hm⟩:=h
 unfold World.cell? at hm
 rcases Nat.lt_or_ge 0 w.heap.size with h' | h'
 ·exact h'
 ·simp[Array.getElem?_eq_none h']at hm
theorem Env.below {w w':World}(h:Env w)(hb:Below w.heap.size w w'):Env w':=by
 have:=h.lt
 obtain⟨m,hm⟩:=h
 exact⟨m,(hb.cell (p:=⟨0,0,none⟩) this).trans hm⟩
theorem gj (l:Bytes)(c:UInt8)(w:World) :
 Calls Tryz.prog 144 #[(Value.string ⟨zJw (l)⟩),.int .u8 c.toNat] w fun e w'=>e=.returned (.int .i64 (Lib.indexByte l c))∧w=w':=by
 refine(Tryz.strings_IndexByte ⟨zJw l⟩ c.toNat w).mono ?_
 rintro e w' ⟨rfl,rfl⟩
 exact⟨by rw[show ((c.toNat:Int)).toNat.toUInt8=c from by simp],rfl⟩
theorem An (l p:Bytes)(w:World) :
 Calls Tryz.prog 177 #[(Value.string ⟨zJw (l)⟩),(Value.string ⟨zJw (p)⟩)] w fun e w'=>e=.returned (.bool (Lib.hasPrefix l p))∧w=w':=by
 refine(Tryz.strings_HasPrefix ⟨zJw l⟩ ⟨zJw p⟩ w).mono ?_
 rintro e w' ⟨rfl,rfl⟩
 exact⟨rfl,rfl⟩
theorem Ao (l p:Bytes)(w:World) :
 Calls Tryz.prog 156 #[(Value.string ⟨zJw (l)⟩),(Value.string ⟨zJw (p)⟩)] w fun e w'=>e=.returned (.tuple #[(Value.string ⟨zJw (Lib.trimPrefix l p)⟩),.bool (Lib.hasPrefix l p)])∧w=w':=by
 refine(Tryz.strings_CutPrefix ⟨zJw l⟩ ⟨zJw p⟩ w).mono ?_
 rintro e w' ⟨rfl,rfl⟩
 exact⟨rfl,rfl⟩
theorem yk (l p:Bytes)(w:World) :
 Calls Tryz.prog 178 #[(Value.string ⟨zJw (l)⟩),(Value.string ⟨zJw (p)⟩)] w fun e w'=>e=.returned (Value.string ⟨zJw (Lib.trimPrefix l p)⟩)∧w=w':=by
 refine(Tryz.strings_TrimPrefix ⟨zJw l⟩ ⟨zJw p⟩ w).mono ?_
 rintro e w' ⟨rfl,rfl⟩
 exact⟨rfl,rfl⟩
theorem D4 (l:Bytes)(c:UInt8)(w:World)(hE:Env w)(hl:l.length<4294967281) :
 Calls Tryz.prog 64 #[(Value.string ⟨zJw (l)⟩),(Value.string ⟨zJw ([c])⟩)] w fun e w'=>e=.returned (.tuple #[(Value.string ⟨zJw ((aG c l).1)⟩),(Value.string ⟨zJw ((aG c l).2.1)⟩),.bool (aG c l).2.2])∧∃ n,w'=w.drewN n:=by
 obtain⟨m,hm⟩:=hE
 refine(Tryz.strings_Cut ⟨zJw l⟩ ⟨#[c]⟩ m w hl hm).mono ?_
 rintro e w' ⟨rfl,hw⟩
 have:=cut_one c l
 exact⟨by rw[← this],hw⟩
theorem s_Split (l:Bytes)(c:UInt8)(w:World)(hE:Env w)(hl:l.length<4294967281) :
 Calls Tryz.prog 172 #[(Value.string ⟨zJw (l)⟩),(Value.string ⟨zJw ([c])⟩)] w fun e w'=>e=.returned (.slice (some ⟨w.heap.size,0,none⟩) (aA c l).length (aA c l).length)∧w'=w.alloc (.cells ((aA c l).map lF).toArray 9):=by
 obtain⟨m,hm⟩:=hE
 refine(Tryz.strings_Split ⟨zJw l⟩ ⟨#[c]⟩ m w hl hm (zJy 1)).mono ?_
 rintro e w' ⟨rfl,rfl⟩
 rw[DM,CG]
 exact⟨rfl,rfl⟩
def zu (w:World)(b:Nat)(l:List Bytes):Prop:=∀ i (h:i<l.length),w.cell? ⟨b,i,none⟩=some (Value.string ⟨zJw (l[i])⟩)
theorem zu.alloc (w:World)(l:List Bytes)(rest:List Value)(T:TypeId):zu (w.alloc (.cells (l.map lF++rest).toArray T)) w.heap.size l:=by
 intro i h
 rw[Lib.cell_of_heap (cz _ _) i]
 simp[List.getElem?_append_left,h,lF]
end Go.Proofs.YteipdaijbncgeaaGreatDoor
namespace Go.Proofs
open Go Vc Go.Proofs.YteipdaijbncgeaaGreatDoor
noncomputable def Tryz.V:Vc.Cx where
 P:=Tryz.prog
 Γ:=Tryz.Γ
 E:=Env
 G:=0+1
 oB:=fun _ h=>h.lt
 nD:=fun w _ ⟨m,hm⟩ hk _=>⟨m,(World.cell?_of_block (w:=w) (hk _ (zJE _))).trans hm⟩
 gZ:=Tryz.gZ
 mixed:=by kernel_rfl
 M := fun T name => if T = 96 then (if name = "Len" then some 237 else if name = "Less" then some 238 else if name = "Swap" then some 240 else if name = "Push" then some 239 else none) else none
 mok:=fun T name f h=>by
  split at h
  ·rename_i hT
   subst hT
   split at h
   ·rename_i hn
    subst hn
    cases h
    intro x args w
    kernel_rfl
   split at h
   ·rename_i hn
    subst hn
    cases h
    intro x args w
    kernel_rfl
   split at h
   ·rename_i hn
    subst hn
    cases h
    intro x args w
    kernel_rfl
   split at h
   ·rename_i hn
    subst hn
    cases h
    intro x args w
    kernel_rfl
   cases h
  ·cases h
theorem Tryz.VΓ:Tryz.V.Γ=Tryz.Γ:=rfl
end Go.Proofs
namespace Vc
open Go Go.RowKit Wf
def da (b:UInt8):SV:=.int .u8 b.toNat
def Dk:SV→Bool
 | .int .u8 n=>decide (0≤n∧n<256)
 | _=>false
def vM:SV→UInt8
 | .int _ n=>n.toNat.toUInt8
 | _=>0
theorem gD (l:Bytes):(l.map da).map vM=l:=by
 rw[List.map_map]
 conv=>rhs;rw[← List.map_id l]
 apply List.map_congr_left
 intro b _
 simp[da,vM]
theorem gN (l:Bytes):(l.map da).all Dk=true:=by
 rw[List.all_map,List.all_eq_true]
 intro b _
 have:=b.toNat_lt
 simp[da,Dk]
 omega
theorem F5 (β:Nat→Bt){x:SV}(h:Dk x=true):ah β x=.int .u8 (vM x).toNat:=by
 unfold Dk at h
 split at h
 ·rename_i n
  simp only[decide_eq_true_eq]at h
  simp only[ah,vM]
  congr 1
  simp
  omega
 ·cases h
def zZ (bs:List aw)(s:Nat):SV→Option (Nat × List SV)
 | .aI=>some (0,[])
 | .str l=>if s=1 then some (l.length,l.map da) else none
 | .o j m=>match bs[j]? with
   | some (.own c _ s' n _)=>if s'=s∧n=m then some (m,c) else none
   | _=>none
 | _=>none
def tf (bs:List aw)(e s:Nat):SV→Option (Nat × List SV × List aw)
 | .aI=>some (0,[],bs)
 | .o j m=>match bs[j]? with
   | some (.own c e' s' n true)=>if e'=e∧s'=s∧n=m then some (m,c,bs.set j .gone) else none
   | _=>none
 | .f j m=>match bs[j]? with
   | some (.own c e' s' n _)=>if e'=e∧s'=s∧n=m then some (m,c,bs) else none
   | _=>none
 | _=>none
def capB:SV→Bool
 | .f _ _=>true
 | _=>false
def XP:Kd→Bool
 | .str=>true
 | .slice _=>true
 | _=>false
def Xm (V:Cx)(dst:Option Tmp)(args:List Operand)(ts:List TypeId)(σ:St):Option (Prop × St):=match args with
 | [s,x]=>match ts with
   | [t,u]=>match kd V.Γ t with
     | some (.slice e)=>match kd V.Γ u with
       | some ku=>match V.Γ e with
         | some ti=>match ev σ.t s with
           | some s=>match ev σ.t x with
             | some x=>match tf σ.b e ti.size s with
               | some (n,c,bs)=>match zZ σ.b ti.size x with
                 | some (m,xs)=>some ((capB s=true→0<m)∧XP ku=true∧0<ti.size∧xs.all one=true∧n+m≤maxLen∧(n+m) * ti.bytes≤140737488355328,⟨put dst (.o σ.b.length (n+m)) σ.t,bs++[.own (c++xs) e ti.size (n+m) true]⟩)
                 | none=>none
               | none=>none
             | none=>none
           | none=>none
         | none=>none
       | none=>none
     | _=>none
   | _=>none
 | _=>none
def CS (z:List SV):Nat→List SV
 | 0=>[]
 | n+1=>z++CS z n
def Yn (V:Cx)(dst:Option Tmp)(t:TypeId)(l c:Operand)(σ:St):Option (Prop × St):=match kd V.Γ t with
 | some (.slice e)=>match V.Γ e with
   | some ti=>match ev σ.t l with
     | some (.int _ l)=>match ev σ.t c with
       | some (.int _ c)=>some (0≤l∧l≤c∧(ti.bytes:Int) * c≤281474976710656∧c≤9223372036854775807∧0<ti.size,⟨put dst (.o σ.b.length l.toNat) σ.t,σ.b++[.own (CS ti.zero l.toNat) e ti.size l.toNat true]⟩)
       | _=>none
     | _=>none
   | none=>none
 | _=>none
def Yi (s:Nat):Nat→List (Nat × SV)→Option (List SV)
 | _,[]=>some []
 | k,(i,x)::r=>if i=k∧HH x=false∧(cells x).length=s then match Yi s (k+1) r with
    | some c=>some (cells x++c)
    | none=>none
   else none
def Xa (V:Cx)(dst:Option Tmp)(t:TypeId)(n:Nat)(ps:List (Nat × Operand))(σ:St):Option (Prop × St):=match kd V.Γ t with
 | some (.slice e)=>match V.Γ e with
   | some ti=>match Xl σ.t ps with
     | some ps=>match Yi ti.size 0 ps with
       | some c=>some (ps.length=n∧n * ti.size≤16777216∧0<ti.size,⟨put dst (.o σ.b.length n) σ.t,σ.b++[.own c e ti.size n true]⟩)
       | none=>none
     | none=>none
   | none=>none
 | _=>none
def Ym (bs:List aw)(k:Int):SV→Option (Prop × SV)
 | .o i n=>match bs[i]? with
   | some (.own _ _ s n' _)=>some (n'=n∧0<s∧0≤k∧k<n,.p i (k.toNat * s))
   | _=>none
 | _=>none
def Xc (V:Cx)(dst:Option Tmp)(t:TypeId)(x i:Operand)(σ:St):Option (Prop × St):=match kd V.Γ t with
 | some (.slice e)=>match sz V.Γ e with
   | some s=>match ev σ.t x with
     | some x=>match ev σ.t i with
       | some (.int _ k)=>match Ym σ.b k x with
         | some (c,y)=>some (c∧lH σ.b x s,⟨put dst y σ.t,σ.b⟩)
         | none=>none
       | _=>none
     | none=>none
   | none=>none
 | _=>none
where lH (bs:List aw) (x:SV) (s:Nat):Prop:=match x with
 | .o i _=>match bs[i]? with
   | some (.own _ _ s' _ _)=>s'=s
   | _=>False
 | _=>False
def reS (bs:List aw)(lo hi:Option SV):SV→Option (Prop × Nat × List aw)
 | .o i n=>match bs[i]? with
   | some (.own c e s n' m)=>match vz n lo hi with
     | some (k,f,u)=>match lo with
       | none=>match m with
         | true=>some (k∧n'=n∧0<s,u,bs.set i .gone++[.own (c.take (u * s)) e s u true])
         | false=>some (k∧n'=n∧0<s,u,bs++[.own (c.take (u * s)) e s u false])
       | some _=>some (k∧n'=n∧0<s,u - f,bs.set i (.own c e s n' false)++[.own ((c.take (u * s)).drop (f * s)) e s (u - f) false])
     | none=>none
   | _=>none
 | _=>none
def Xj (V:Cx)(dst:Option Tmp)(t:TypeId)(x:Operand)(lo hi:Option Operand)(σ:St):Option (Prop × St):=match kd V.Γ t with
 | some (.slice e)=>match sz V.Γ e with
   | some s=>match ev σ.t x with
     | some x=>match oO σ.t lo with
       | some lo=>match oO σ.t hi with
         | some hi=>match reS σ.b lo hi x with
           | some (c,n,bs)=>some (c∧Xc.lH σ.b x s,⟨put dst (.o σ.b.length n) σ.t,bs⟩)
           | none=>none
         | none=>none
       | none=>none
     | none=>none
   | none=>none
 | _=>none
def B7 (bs:List aw)(s:Nat)(hi mx:Int):SV→Option (Prop × SV)
 | .o i n=>match bs[i]? with
   | some (.own _ _ s' n' _)=>some (n'=n∧s'=s∧hi=(n:Int)∧mx=(n:Int),.f i n)
   | _=>none
 | .aI=>some (hi=0∧mx=0,.aI)
 | _=>none
def Dg (V:Cx)(dst:Option Tmp)(t:TypeId)(x hi mx:Operand)(σ:St):Option (Prop × St):=match kd V.Γ t with
 | some (.slice e)=>match sz V.Γ e with
   | some s=>match ev σ.t x with
     | some x=>match ev σ.t hi with
       | some (.int _ hi)=>match ev σ.t mx with
         | some (.int _ mx)=>match B7 σ.b s hi mx x with
           | some (c,y)=>some (c,⟨put dst y σ.t,σ.b⟩)
           | none=>none
         | _=>none
       | _=>none
     | none=>none
   | none=>none
 | _=>none
def Yb (V:Cx)(dst:Option Tmp)(src d:TypeId)(x:Operand)(σ:St):Option (Prop × St):=match kd V.Γ src with
 | some .str=>match kd V.Γ d with
   | some (.slice e)=>match kd V.Γ e with
     | some (.int .u8)=>match ev σ.t x with
       | some (.str l)=>some (l.length≤maxLen,⟨put dst (.o σ.b.length l.length) σ.t,σ.b++[.own (l.map da) e 1 l.length true]⟩)
       | _=>none
     | _=>none
   | _=>none
 | some (.slice e)=>match kd V.Γ d with
   | some .str=>match kd V.Γ e with
     | some (.int .u8)=>match ev σ.t x with
       | some .aI=>some (True,⟨put dst (.str []) σ.t,σ.b⟩)
       | some (.o i n)=>match σ.b[i]? with
         | some (.own c _ s n' _)=>some (n'=n∧s=1∧c.all Dk=true,⟨put dst (.str (c.map vM)) σ.t,σ.b⟩)
         | _=>none
       | _=>none
     | _=>none
   | _=>none
 | _=>none
def mmS (min:Bool):SV→SV→Option SV
 | .int k x,.int _ y=>some (.int k (if min then(if y<x then y else x) else(if x<y then y else x)))
 | _,_=>none
def Xq (min:Bool)(dst:Option Tmp)(args:List Operand)(σ:St):Option (Prop × St):=match args with
 | [x,y]=>match ev σ.t x with
   | some x=>match ev σ.t y with
     | some y=>(mmS min x y).map fun z=>(True,⟨put dst z σ.t,σ.b⟩)
     | none=>none
   | none=>none
 | _=>none
def Yl (V:Cx)(dst:Option Tmp):Op→St→Option (Prop × St)
 | .call ⟨.builtin .append,args,ts⟩,σ=>Xm V dst args.toList ts.toList σ
 | .call ⟨.builtin .min,args,_⟩,σ=>Xq true dst args.toList σ
 | .call ⟨.builtin .max,args,_⟩,σ=>Xq false dst args.toList σ
 | .makeSlice t l c,σ=>Yn V dst t l c σ
 | .buildSlice t n ps,σ=>Xa V dst t n ps.toList σ
 | .indexAddr t x i,σ=>Xc V dst t x i σ
 | .slice t x lo hi none,σ=>Xj V dst t x lo hi σ
 | .slice t x none (some hi) (some mx),σ=>Dg V dst t x hi mx σ
 | .convert s d x,σ=>Yb V dst s d x σ
 | _,_=>none
section
variable {V:Cx} {F:Fx V} {β:Nat→Bt} {fp:Nat→Nat→Prop} {bs:List aw} {w:World} {t:List (Nat × SV)} {a:Act}
theorem Wd.own (h:Wd F β fp bs w){i n s e:Nat}{c:List SV}{m:Bool}(hi:bs[i]? = some (.own c e s n m)){β':Nat→Bt}(hβ:bC bs.length β β'):Holds β' (β' i) (fp i) w (.own c e s n m):=(h.bx β' hβ).holds i _ hi
theorem own_len (h:Wd F β fp bs w){i n s e:Nat}{c:List SV}{m:Bool}(hi:bs[i]? = some (.own c e s n m)):c.length=n * s:=by
 rcases h.own hi (bC.refl _ β) with⟨-,rfl,rfl,-⟩|⟨-,-,-,h4,-⟩
 ·simp
 ·exact h4
theorem IL {P:Program}{w:World}(s:Nat)(A:Option Addr)(n c:Nat):(Builtin.firstCells s 0 (.slice A n c)).run P w=Result.ok #[] w:=by
 cases A with
 | none=>simp[Builtin.firstCells]
 | some a=>simp[Builtin.firstCells,loadCells,loadCellsFrom]
theorem CF (h:Wd F β fp bs w){s:Nat}(hs:0<s){x:SV}{m:Nat}{xs:List SV}(hx:zZ bs s x=some (m,xs)){β':Nat→Bt}(hβ:bC bs.length β β')(w':World)(hw':w'.heap=w.heap)(P:Program) :
 (Builtin.lenOf (ah β' x)).run P w'=Result.ok m w'∧(Builtin.firstCells s m (ah β' x)).run P w'=Result.ok (xs.map (ah β')).toArray w'∧xs.length=m * s:=by
 unfold zZ at hx
 split at hx
 ·cases hx
  simp[ah,Builtin.lenOf,Builtin.firstCells]
 ·rename_i l
  split at hx
  ·rename_i Cr
   cases hx
   subst Cr
   refine⟨by simp[ah,Builtin.lenOf];rfl,?_,by simp⟩
   simp only[ah,Builtin.firstCells,Sem.run_pure]
   congr 1
   apply zJH
   have e:(⟨zJw l⟩:ByteArray).extract 0 l.length=⟨zJw l⟩:=by rw[fH];simp
   rw[e]
   simp[da,ah,Function.comp_def]
  ·cases hx
 ·rename_i j m'
  split at hx
  ·rename_i c e s' n mn hj
   split at hx
   ·rename_i hc
    obtain⟨rfl,rfl⟩:=hc
    cases hx
    have hl:=own_len h hj
    have ho:=h.own hj hβ
    refine⟨?_,?_,hl⟩
    ·simp only[ah,oV];split <;> simp[Builtin.lenOf]
    ·simp only[ah,oV]
     rcases ho with⟨h1,h2,h3,-⟩|⟨h1,-,-,-,h5,-⟩
     ·rw[if_pos h1];subst h2 h3
      rw[IL];rfl
     ·rw[if_neg h1]
      refine run_firstCells_some (P:=P) w' _ _ _ _ _ _ (by simpa using hl) (fun j v hv=>?_)
      rw[dj]
      have:=h5 j v hv
      rw[← this]
      exact World.cell?_of_block (w:=w) (by rw[hw'])
   ·cases hx
  ·cases hx
 ·cases hx
theorem lI {P:Program}(w:World)(t u ty e:TypeId)(i:TypeInfo)(ht:P.underlying t=some (.slice e)){d:TypeDesc}(hu:P.underlying u=some d)(hd:d=.string∨∃ e',d=.slice e')(hi:P.info? e=some i)
 (g iR sCap m:Nat) (x:Value) (news:List Value) (hlen:(Builtin.lenOf x).run P w=Result.ok m w) (hf:(Builtin.firstCells i.size m x).run P w=Result.ok news.toArray w) (gn:iR+m≤sCap) {w':World}
 (oZ:(storeCells ⟨g,iR * i.size,none⟩ news).run P w=Result.ok () w') :
 (Builtin.append_ #[t,u] ty #[.slice (some ⟨g,0,none⟩) iR sCap,x]).run P w=Result.ok (.slice (some ⟨g,0,none⟩) (iR+m) sCap) w':=by
 rcases hd with rfl|⟨e',rfl⟩ <;> simp[Builtin.append_,run_underlying ht,run_underlying hu,Go.sizeOf,typeInfo,hi,hlen,gn,hf,dj,oZ]
theorem pJ {P:Program}(w:World)(t u ty e:TypeId)(i:TypeInfo)(z:Value)(ht:P.underlying t=some (.slice e)){d:TypeDesc}(hu:P.underlying u=some d)(hd:d=.string∨∃ e',d=.slice e')(hi:P.info? e=some i)(hz:i.zero=some z)
 (b:Option Addr) (iR sCap m:Nat) (x:Value) (olds news:List Value) (hlen:(Builtin.lenOf x).run P w=Result.ok m w) (hf:(Builtin.firstCells i.size m x).run P w.drew=Result.ok news.toArray w.drew)
 (ho:(Builtin.firstCells i.size iR (.slice b iR sCap)).run P w.drew=Result.ok olds.toArray w.drew)
 (hg:sCap<iR+m) (tc:iR+m≤maxLen) (rF:(iR+m) * i.bytes≤140737488355328) :
 (Builtin.append_ #[t,u] ty #[.slice b iR sCap,x]).run P w =
  Result.ok (.slice (some ⟨w.heap.size,0,none⟩) (iR+m) (grownCap w (iR+m) sCap e)) (w.drew.alloc (.cells ((olds++news).toArray++Builtin.zeroCells z.cells (grownCap w (iR+m) sCap e - (iR+m))) e)):=by
 have hn:¬ (iR+m≤sCap):=by omega
 have h63':¬ (9223372036854775807<((iR:Int)+(m:Int))):=by unfold maxLen at tc;omega
 have h48':¬ (281474976710656<Builtin.nextslicecap (iR+m) sCap * i.bytes):=by have:=growslice_fits hg rF;omega
 rcases hd with rfl|⟨e',rfl⟩ <;> simp[Builtin.append_,run_underlying ht,run_underlying hu,Go.sizeOf,typeInfo,zeroValue,hi,hz,hlen,hn,h63',h48',Question.forced,hf,ho,newRow,grownCap]
 all_goals
  congr 2
  apply zJH
  simp
theorem dY {w:World}{g cap e s n:Nat}{c:List SV}{β':Nat→Bt}{rest:List Value}{fz:Nat × Nat}(hh:w.heap[g]? = some (.cells (c.map (ah β')++rest).toArray e fz))(wD:c.length+rest.length<fz.1∨fz.2≤fz.1∨s=1∧c.length+rest.length≤fz.1)(hc:c.length=n * s)(hn:n≤cap)(lg:cap≤maxLen)(kS:c.length+rest.length=cap * s) :
 Holds β' ⟨g,0,cap+1⟩ (·=g) w (.own c e s n true):=by
 have hd:Head w g e (c.map (ah β')) rest fz:=⟨hh,by simp;omega⟩
 exact .inr ⟨by simp,hn,lg,hc,hd.sS,fun _=>⟨rfl,rest,fz,hd,wD,kS⟩,fun k=>Iff.rfl⟩
theorem holds_nil {w:World}{e s:Nat}{β':Nat→Bt}{m:Bool}:Holds β' ⟨0,0,0⟩ (fun _=>False) w (.own [] e s 0 m):=.inl ⟨rfl,rfl,rfl,by simp,fun _=>rfl⟩
theorem EL {e s:Nat}{sv:SV}{n:Nat}{c:List SV}{bs2:List aw}(h:tf bs e s sv=some (n,c,bs2)):bs2.length=bs.length:=by
 unfold tf at h
 split at h
 ·cases h;rfl
 ·split at h
  ·split at h
   ·cases h;simp
   ·cases h
  ·cases h
 ·split at h
  ·split at h
   ·cases h;rfl
   ·cases h
  ·cases h
 ·cases h
theorem zc {w:World}{b:Nat}{x:Obj}(h:w.heap[b]? = some x):b<w.heap.size:=(Array.getElem?_eq_some_iff.1 h).1
theorem EK (h:Wd F β fp bs w){e s:Nat}{sv:SV}{n:Nat}{c:List SV}{bs2:List aw}(hs:tf bs e s sv=some (n,c,bs2)){w':World}(hb:Below w.heap.size w w')(r:aw)(b:Bt)(f:Nat→Prop)
 (hr:∀ β',bC (bs.length+1) (nO β bs.length b) β'→Holds β' b f w' r) (hf:∀ k,f k→w.heap.size≤k∧k<w'.heap.size):∃ fp₂,Wd F (nO β bs.length b) fp₂ (bs2++[r]) w':=by
 unfold tf at hs
 split at hs
 ·cases hs;exact⟨_,h.more hb r b f hr hf⟩
 ·split at hs
  ·rename_i hj
   split at hs
   ·cases hs
    exact⟨_,h.swap hj rfl (mJ.jA hb) r b f hr (fun k hk=>⟨.inr (hf k hk).1,(hf k hk).2⟩)⟩
   ·cases hs
  ·cases hs
 ·split at hs
  ·split at hs
   ·cases hs;exact⟨_,h.more hb r b f hr hf⟩
   ·cases hs
  ·cases hs
 ·cases hs
theorem app_ok (h:Wd F β fp bs w){t u e s:Nat}(ht:V.P.underlying t=some (.slice e)){d:TypeDesc}(hu:V.P.underlying u=some d)(hd:d=.string∨∃ e',d=.slice e'){ti:TI}(iS:V.Γ e=some ti)(kS:ti.size=s)(fe:0<s)
 {sv xv:SV} {n m:Nat} {c xs:List SV} {bs2:List aw} (hs:tf bs e s sv=some (n,c,bs2)) (hx:zZ bs s xv=some (m,xs)) (hxv:∀ β',bC bs.length β β'→ah β xv=ah β' xv) (h1:xs.all one=true) (tc:n+m≤maxLen) (Iu:(n+m) * ti.bytes≤140737488355328) (h0m:capB sv=true→0<m) (ty:TypeId) :
 ∃ b fp₂ w',(Builtin.append_ #[t,u] ty #[ah β sv,ah β xv]).run V.P w=Result.ok (oV b (n+m)) w'∧Wd F (nO β bs.length b) fp₂ (bs2++[.own (c++xs) e s (n+m) true]) w':=by
 obtain⟨i,z,hi,hz,rB,Ie,Gj⟩:=(V.gZ e ti iS).info
 have Co:=(V.gZ e ti iS).len
 have hiss:i.size=s:=rB.trans kS
 obtain⟨ny,zB,zz⟩:=CF h fe hx (bC.refl _ β) w rfl V.P
 obtain⟨gW,Gq,-⟩:=CF h fe hx (bC.refl _ β) w.drew rfl V.P
 have hxa:∀ β',bC bs.length β β'→xs.map (ah β)=xs.map (ah β'):=fun β' hβ=>by
  have h2:=(CF h fe hx hβ w rfl V.P).2.1
  rw[← hxv β' hβ,zB]at h2
  injection h2 with h2
  simpa using h2
 rw[← hiss]at zB Gq
 have xD:z.cells.size=s:=by rw[Gj];simp[Co,kS]
 -- a new row
 have grow:∀ (b:Option Addr) (cap:Nat) (hca:∀ β',bC bs.length β β'→c.map (ah β)=c.map (ah β')) (eg:c.length=n * s),(Builtin.firstCells i.size n (.slice b n cap)).run V.P w.drew=Result.ok (c.map (ah β)).toArray w.drew→cap<n+m →
  ∃ b' fp₂ w',(Builtin.append_ #[t,u] ty #[.slice b n cap,ah β xv]).run V.P w=Result.ok (oV b' (n+m)) w'∧Wd F (nO β bs.length b') fp₂ (bs2++[.own (c++xs) e s (n+m) true]) w':=fun b cap hca eg ho hg=>by
  have bJ:=pJ (P:=V.P) w t u ty e i z ht hu hd hi hz b n cap m (ah β xv) (c.map (ah β)) (xs.map (ah β)) ny Gq ho hg tc (by rw[Ie];exact Iu)
  have rC:=grownCap_ge w (n+m) cap e
  have hle:=grownCap_le_maxLen w (n+m) cap e tc
  generalize grownCap w (n+m) cap e=cap' at bJ rC hle
  have hwd0:∃ fp₂,Wd F (nO β bs.length ⟨w.heap.size,0,cap'+1⟩) fp₂ (bs2++[.own (c++xs) e s (n+m) true]) (w.drew.alloc (.cells ((c.map (ah β)++xs.map (ah β)).toArray++Builtin.zeroCells z.cells (cap' - (n+m))) e)):=by
   refine EK h hs (((Below.refl _ _).drew).alloc (zJy _) _) (.own (c++xs) e s (n+m) true) ⟨w.heap.size,0,cap'+1⟩ (·=w.heap.size) (fun β' hβ=>?_) (fun k hk=>?_)
   ·refine dY (rest:=(Builtin.zeroCells z.cells (cap' - (n+m))).toList) (fz:=(0,0)) ?_ (.inr (.inl (zJy _))) (by rw[zJx,eg,zz,zJC]) rC hle ?_
    ·have e1:=cz w.drew (.cells ((c.map (ah β)++xs.map (ah β)).toArray++Builtin.zeroCells z.cells (cap' - (n+m))) e)
     have e2:w.drew.heap.size=w.heap.size:=rfl
     rw[e2]at e1
     rw[e1,hca β' hβ.dz,hxa β' hβ.dz]
     congr 2
     apply zJH
     simp
    ·rw[zJx,eg,zz]
     simp only[Array.length_toList,size_zeroCells,xD]
     rw[← zJC,← zJC]
     congr 1
     omega
   ·subst hk
    exact⟨zJy _,by rw[size_alloc];exact zJE _⟩
  obtain⟨fp₂,mB⟩:=hwd0
  exact⟨⟨w.heap.size,0,cap'+1⟩,fp₂,_,by rw[bJ];simp[oV],mB⟩
 -- nothing at all
 have none0:∀ b0:Bt,b0.cap=0→(m=0→b0.cK=0)→c=[]→n=0→∃ b' fp₂ w',(Builtin.append_ #[t,u] ty #[.slice (mA b0) 0 0,ah β xv]).run V.P w=Result.ok (oV b' (n+m)) w'∧Wd F (nO β bs.length b') fp₂ (bs2++[.own (c++xs) e s (n+m) true]) w':=fun b0 fB hbk fG xJ=>by
  subst fG xJ
  by_cases hm:m=0
  ·subst hm
   have hxs:xs=[]:=zJF (by rw[zz];simp)
   subst hxs
   obtain⟨fp₂,mB⟩:=EK h hs (Below.refl _ w) (.own [] e s 0 true) b0 (fun _=>False) (fun β' _=>.inl ⟨fB,rfl,rfl,by simp,fun _=>hbk rfl⟩) (fun k hk=>hk.elim)
   refine⟨b0,fp₂,w,?_,mB⟩
   unfold oV
   rw[if_pos fB]
   cases mA b0 <;> rcases hd with rfl|⟨e',rfl⟩ <;> simp[Builtin.append_,run_underlying ht,run_underlying hu,Go.sizeOf,typeInfo,hi,ny,zB,storeCells]
  ·exact grow (mA b0) 0 (fun _ _=>rfl) (by simp) (by rw[IL];rfl) (by omega)
 have hs':=hs
 unfold tf at hs'
 split at hs'
 ·cases hs'
  simpa[ah,mA] using none0 ⟨0,0,0⟩ rfl (fun _=>rfl) rfl rfl
 ·rename_i j n0
  split at hs'
  ·rename_i c0 e0 s0 n1 hj
   split at hs'
   ·rename_i lf
    obtain⟨rfl,rfl,rfl⟩:=lf
    cases hs'
    have ho:=h.own hj (bC.refl _ β)
    rcases ho with⟨k1,k2,k3,-,k8⟩|⟨k1,k2,k3,k4,k5,k6,k7⟩
    ·have:=none0 _ k1 (fun _=>k8 rfl) k3 k2
     simp only[ah,oV,if_pos k1]
     rw[k2]at this ⊢
     exact this
    ·obtain⟨k8,rest,fz,k9,k10,k11⟩:=k6 rfl
     have hjlt:j<bs.length:=(zJA.1 hj).1
     have hgj:iH bs j=some (c,e0,true):=by simp[iH,hj]
     simp only[ah,oV,if_neg k1]
     by_cases gn:n+m≤(β j).cap - 1
     ·have eg:(c.map (ah β)).length=n * s0:=by simpa using k4
      have hmul:n * s0+m * s0≤((β j).cap - 1) * s0:=by rw[← zJC];exact zJD _ gn
      have oZ:=bP (P:=V.P) (β j).cK (n * s0) e0 fz (xs.map (ah β)) 0 _ w k9.1 (by simp;omega) (by simp;omega) (fun v hv=>by
       simp only[List.mem_map]at hv
       obtain⟨x,hx',rfl⟩:=hv
       exact gm (List.all_eq_true.1 h1 x hx') β)
      have e1:(List.take (n * s0+0) (c.map (ah β)++rest)++xs.map (ah β)++List.drop (n * s0+0+(xs.map (ah β)).length) (c.map (ah β)++rest))=(c++xs).map (ah β)++rest.drop (m * s0):=by
       simp only[Nat.add_zero,zJI]
       rw[List.take_append_of_le_length (by omega),List.take_of_length_le (by omega),List.drop_append,List.drop_of_length_le (by simp;omega)]
       simp[zz,k4]
      simp only[e1]at oZ
      have bJ:=lI (P:=V.P) w t u ty e0 i ht hu hd hi (β j).cK n ((β j).cap - 1) m (ah β xv) (xs.map (ah β)) ny zB gn (by rw[hiss];exact oZ)
      have gX:=setRow_heap w (β j).cK _ ((c++xs).map (ah β)++rest.drop (m * s0)).toArray _ _ k9.1
      have hcb:(β j).cap - 1+1=(β j).cap:=by omega
      have mB:=h.swap hj rfl (w':=w.setRow (β j).cK ((c++xs).map (ah β)++rest.drop (m * s0)).toArray) ⟨rfl,rfl,rfl,by simp,fun k hk hn=>setRow_other _ _ _ _ (fun ek=>hn ((k7 k).2 ek))⟩ (.own (c++xs) e0 s0 (n+m) true) ⟨(β j).cK,0,(β j).cap - 1+1⟩ (·=(β j).cK) (fun β' hβ=>?_) (fun k hk=>?_)
      ·refine⟨⟨(β j).cK,0,(β j).cap - 1+1⟩,_,_,?_,mB⟩
       rw[k8,bJ]
       simp[oV]
      ·refine dY (rest:=rest.drop (m * s0)) (fz:=fz) ?_ ?_ (by rw[zJx,k4,zz,zJC]) gn k3 ?_
       ·rw[gX,zJI,h.zE hgj hβ.dz,hxa β' hβ.dz,← zJI]
       ·simp only[zJx,List.length_drop]
        rcases k10 with k10|k10|⟨e1,k10⟩
        ·left;omega
        ·exact .inr (.inl k10)
        ·right;right;exact⟨e1,by omega⟩
       ·simp only[zJx,List.length_drop]
        omega
      ·subst hk
       refine⟨.inl ((k7 _).2 rfl),?_⟩
       rw[setRow_size]
       exact zc k9.1
     ·refine grow _ _ (fun β' hβ=>h.zE hgj hβ) k4 ?_ (by omega)
      rw[hiss]
      refine run_firstCells_some (P:=V.P) w.drew s0 n _ n _ (c.map (ah β)) (by simpa using k4) (fun q v hv=>?_)
      rw[dj]
      exact k5 q v hv
   ·cases hs'
  ·cases hs'
 ·rename_i j n0
  split at hs'
  ·rename_i c0 e0 s0 n1 m1 hj
   split at hs'
   ·rename_i lf
    obtain⟨rfl,rfl,rfl⟩:=lf
    cases hs'
    have hm0:0<m:=h0m rfl
    have hgj:iH bs j=some (c,e0,m1):=by simp[iH,hj]
    have ho:=h.own hj (bC.refl _ β)
    rcases ho with⟨k1,k2,k3,-⟩|⟨k1,k2,k3,k4,k5,k6,k7⟩
    ·have:=none0 _ k1 (fun hm=>absurd hm (by omega)) k3 k2
     simp only[ah,fV,if_pos k1]
     rw[k2]at this ⊢
     exact this
    ·simp only[ah,fV,if_neg k1]
     refine grow _ _ (fun β' hβ=>h.zE hgj hβ) k4 ?_ (by omega)
     rw[hiss]
     refine run_firstCells_some (P:=V.P) w.drew s0 n _ n _ (c.map (ah β)) (by simpa using k4) (fun q v hv=>?_)
     rw[dj]
     exact k5 q v hv
   ·cases hs'
  ·cases hs'
 ·cases hs'
theorem Wd.split (h:Wd F β fp bs w){i:Nat}{r0:aw}(hi:bs[i]? = some r0)(r1 r:aw)(b:Bt)(f1 f:Nat→Prop)(h1:∀ β',bC bs.length β β'→Holds β' (β' i) f1 w r1)(Dw:r1.cC=false)(zB:∀ k,f1 k→fp i k)
 (hr:∀ β',bC (bs.length+1) (nO β bs.length b) β'→Holds β' b f w r) (hf:∀ k,f k→fp i k) (hm:r.cC=true→r0.cC=true∧∀ k,¬ f1 k) :
 Wd F (nO β bs.length b) (fun j k=>if j=bs.length then f k else if j=i then f1 k else fp j k) (bs.set i r1++[r]) w:=by
 have sX:i<bs.length:=(zJA.1 hi).1
 have old:∀ {j:Nat} {r':aw},(bs.set i r1++[r])[j]? = some r'→(j<bs.length∧j≠i∧bs[j]? = some r')∨(j=i∧r'=r1)∨(j=bs.length∧r'=r):=fun {j r'} hj=>by
  rcases Nat.lt_or_ge j bs.length with aC|rC
  ·rw[List.getElem?_append_left (by simpa using aC)]at hj
   by_cases lR:j=i
   ·subst lR
    rw[List.getElem?_set_self sX]at hj
    exact .inr (.inl ⟨rfl,by simpa using hj.symm⟩)
   ·rw[List.getElem?_set_ne (fun e=>lR e.symm)]at hj
    exact .inl ⟨aC,lR,hj⟩
  ·have hj':j=bs.length:=by
    have:=(zJA.1 hj).1
    rw[zJx,List.length_singleton,List.length_set]at this
    omega
   subst hj'
   rw[List.getElem?_append_right (by simp)]at hj
   simp at hj
   exact .inr (.inr ⟨rfl,hj.symm⟩)
 have fB:=h.bx β (bC.refl _ _)
 have fo:∀ {j:Nat},j<bs.length→j≠i→(fun k=>if j=bs.length then f k else if j=i then f1 k else fp j k)=fp j:=fun {j} hj bp=>by funext k;simp[show j≠bs.length by omega,bp]
 have fi:(fun k=>if i=bs.length then f k else if i=i then f1 k else fp i k)=f1:=by funext k;simp[show i≠bs.length by omega]
 have fn:(fun k=>if bs.length=bs.length then f k else if bs.length=i then f1 k else fp bs.length k)=f:=by funext k;simp
 refine⟨h.fr,fun β' hβ=>?_,fun j r' hj hm' k hk=>?_,?_,fun j r' hj k hk=>?_⟩
 ·rw[zJx,List.length_singleton,List.length_set]at hβ
  have hb':=h.bx β' hβ.dz
  have kV:β' bs.length=b:=by rw[← hβ bs.length (by omega),fZ]
  refine⟨fun j r' hj=>?_,fun j r' hj k hk=>?_,fun j l r2 r3 hj hl bp iY k hk hk'=>?_⟩
  ·rcases old hj with⟨aC,bp,ij⟩|⟨ej,e2⟩|⟨ej,e2⟩
   ·simp only[fo aC bp];exact hb'.holds j r' ij
   ·subst ej e2
    rw[fi]
    exact h1 β' hβ.dz
   ·subst ej e2
    rw[fn,kV]
    exact hr β' hβ
  ·rcases old hj with⟨aC,bp,ij⟩|⟨ej,e2⟩|⟨ej,e2⟩
   ·simp only[if_neg (show j≠bs.length by omega),if_neg bp]at hk
    exact fB.lt j r' ij k hk
   ·subst ej
    simp only[if_neg (show j≠bs.length by omega),if_true]at hk
    exact fB.lt j r0 hi k (zB k hk)
   ·subst ej
    simp only[if_true]at hk
    exact fB.lt i r0 hi k (hf k hk)
  ·rcases old hj with⟨aC,hnj,ij⟩|⟨ej,e2⟩|⟨ej,e2⟩
   ·simp only[if_neg (show j≠bs.length by omega),if_neg hnj]at hk
    rcases old hl with⟨hlt',sA,gW⟩|⟨el,e3⟩|⟨el,e3⟩
    ·simp only[if_neg (show l≠bs.length by omega),if_neg sA]at hk'
     exact fB.sep j l r2 r3 ij gW bp iY k hk hk'
    ·subst el e3
     simp only[if_neg (show l≠bs.length by omega),if_true]at hk'
     rcases iY with iY|iY
     ·exact fB.sep j l r2 r0 ij hi hnj (.inl iY) k hk (zB k hk')
     ·rw[Dw]at iY;cases iY
    ·subst el e3
     simp only[if_true]at hk'
     rcases iY with iY|iY
     ·exact fB.sep j i r2 r0 ij hi hnj (.inl iY) k hk (hf k hk')
     ·exact fB.sep j i r2 r0 ij hi hnj (.inr (hm iY).1) k hk (hf k hk')
   ·subst ej e2
    simp only[if_neg (show j≠bs.length by omega),if_true]at hk
    rcases old hl with⟨hlt',sA,gW⟩|⟨el,e3⟩|⟨el,e3⟩
    ·simp only[if_neg (show l≠bs.length by omega),if_neg sA]at hk'
     rcases iY with iY|iY
     ·rw[Dw]at iY;cases iY
     ·exact fB.sep l j r3 r0 gW hi sA (.inl iY) k hk' (zB k hk)
    ·exact bp el.symm
    ·subst el e3
     rcases iY with iY|iY
     ·rw[Dw]at iY;cases iY
     ·exact(hm iY).2 k hk
   ·subst ej e2
    simp only[if_true]at hk
    rcases old hl with⟨hlt',sA,gW⟩|⟨el,e3⟩|⟨el,e3⟩
    ·simp only[if_neg (show l≠bs.length by omega),if_neg sA]at hk'
     rcases iY with iY|iY
     ·exact fB.sep l i r3 r0 gW hi sA (.inr (hm iY).1) k hk' (hf k hk)
     ·exact fB.sep l i r3 r0 gW hi sA (.inl iY) k hk' (hf k hk)
    ·subst el e3
     simp only[if_neg (show l≠bs.length by omega),if_true]at hk'
     rcases iY with iY|iY
     ·exact(hm iY).2 k hk'
     ·rw[Dw]at iY;cases iY
    ·exact bp el.symm
 ·rcases old hj with⟨aC,bp,ij⟩|⟨ej,e2⟩|⟨ej,e2⟩
  ·simp only[if_neg (show j≠bs.length by omega),if_neg bp]at hk
   exact h.cC j r' ij hm' k hk
  ·subst e2;rw[Dw]at hm';cases hm'
  ·subst ej e2
   simp only[if_true]at hk
   exact h.cC i r0 hi (hm hm').1 k (hf k hk)
 ·have hl:=h.tv.len
  exact⟨fun j hj=>(h.tv.zE j hj).trans (ez β _ _ j (by omega)),by rw[zJx,List.length_set];omega⟩
 ·rcases old hj with⟨aC,bp,ij⟩|⟨ej,e2⟩|⟨ej,e2⟩
  ·simp only[if_neg (show j≠bs.length by omega),if_neg bp]at hk
   exact h.lU j r' ij k hk
  ·subst ej
   simp only[if_neg (show j≠bs.length by omega),if_true]at hk
   exact h.lU j r0 hi k (zB k hk)
  ·subst ej
   simp only[if_true]at hk
   exact h.lU i r0 hi k (hf k hk)
theorem Cd {n cap:Nat}(hle:n≤cap){lo hi:Option SV}{c:Prop}{f u:Nat}{β:Nat→Bt}(h:vz n lo hi=some (c,f,u))(hc:c)(P:Program)(w:World) :
 (Instr.sliceBounds true n cap (lo.map (ah β)) (hi.map (ah β)) none).run P w=Result.ok (f,u,cap) w∧f≤u∧u≤n∧(lo=none→f=0):=by
 unfold vz at h
 split at h <;> simp only[Option.some.injEq,Prod.mk.injEq,reduceCtorEq]at h
 all_goals
  obtain⟨rfl,rfl,rfl⟩:=h
  refine⟨?_,by omega,by omega,by simp⟩
  simp[ah,Instr.sliceBounds,Instr.sliceBound,asIntOf,go_sem]
  try omega
 rw[if_pos (by omega),if_pos (by omega)]
theorem GC {e s:Nat}(hs:sz V.Γ e=some s)(w:World):(Go.sizeOf e).run V.P w=Result.ok s w:=by
 unfold sz at hs
 cases uJ:V.Γ e with
 | none=>simp[uJ]at hs
 | some ti=>simp[uJ]at hs;rw[← hs];exact(V.gZ e ti uJ).size w
theorem FC {w:World}{b off:Nat}{vs:List Value}(h:mF w b off vs)(k j:Nat):mF w b (off+k) ((vs.take j).drop k):=fun q v hv=>by
 have h1:=h (k+q) v (by
  rw[List.getElem?_drop]at hv
  rw[List.getElem?_take]at hv
  split at hv
  ·exact hv
  ·cases hv)
 rw[Nat.add_assoc]
 exact h1
theorem re_ok (h:Wd F β fp bs w){t e s:Nat}(ht:V.P.underlying t=some (.slice e))(hz:(Go.sizeOf e).run V.P w=Result.ok s w){lo hi:Option SV}{x:SV}{c0:Prop}{n0:Nat}{bs2:List aw}(ha:reS bs lo hi x=some (c0,n0,bs2))(hc:c0)(hsi:Xc.lH bs x s) :
 ∃ b fp₂,(Instr.sliceAt t (ah β x) (lo.map (ah β)) (hi.map (ah β)) none).run V.P w=Result.ok (oV b n0) w∧bs2.length=bs.length+1∧Wd F (nO β bs.length b) fp₂ bs2 w:=by
 unfold reS at ha
 split at ha
 ·rename_i i n
  split at ha
  ·rename_i c e' s' n' m hi'
   simp only[Xc.lH,hi']at hsi
   subst hsi
   have sX:i<bs.length:=(zJA.1 hi').1
   split at ha
   ·rename_i k f u hb
    have HX:k∧n'=n∧0<s':=by
     (repeat' split at ha) <;> (cases ha;exact hc)
    obtain⟨hk,rfl,fe⟩:=HX
    have ho:=h.own hi' (bC.refl _ β)
    have hgi:iH bs i=some (c,e',m):=by simp[iH,hi']
    -- the new slice, as a thing that may only be read
    have gX:∃ b,(Instr.sliceAt t (ah β (.o i n')) (lo.map (ah β)) (hi.map (ah β)) none).run V.P w=Result.ok (oV b (u - f)) w∧f≤u∧u≤n'∧(lo=none→f=0) ∧
     (∀ m',(m'=true→m=true∧lo=none)→∀ β',bC (bs.length+1) (nO β bs.length b) β'→Holds β' b (fp i) w (.own ((c.take (u * s')).drop (f * s')) e' s' (u - f) m')):=by
     rcases ho with⟨h1,h2,h3,h4⟩|⟨h1,h2,h3,h4,h5,h6,h7⟩
     ·subst h2 h3
      obtain⟨hsb,hfu,HU,Gm⟩:=Cd (β:=β) (zJy 0) hb hk V.P w
      have hu:u=0:=by omega
      have hf:f=0:=by omega
      subst hu hf
      refine⟨β i,?_,zJy _,zJy _,fun _=>rfl,fun m' hm' β' hβ=>.inl ⟨h1,rfl,by simp,h4.1,fun hm=>h4.2 (hm' hm).1⟩⟩
      simp only[ah,oV,if_pos h1]
      cases mA (β i) <;> simp[Instr.sliceAt,Instr.slice,run_underlying ht,hsb,hz,Addr.add]
     ·obtain⟨hsb,hfu,HU,Gm⟩:=Cd (β:=β) h2 hb hk V.P w
      refine⟨⟨(β i).cK,if (β i).cap - 1=f then(β i).off else(β i).off+f * s',(β i).cap - 1 - f+1⟩,?_,hfu,HU,Gm,fun m' hm' β' hβ=>.inr ⟨by simp,by simp;omega,by simp;omega,?_,?_,fun hm=>?_,h7⟩⟩
      ·simp only[ah,oV,if_neg h1]
       simp only[Instr.sliceAt,Instr.slice,run_underlying ht,hsb,hz,Sem.run_bind,Result.andThen_ok,Sem.run_pure,Option.map_some,dj]
       simp
       split <;> rfl
      ·rw[List.length_drop,List.length_take,h4,Nat.min_eq_left (zJD _ HU),Nat.sub_mul]
      ·have:=FC h5 (f * s') (u * s')
       rw[h.zE hgi hβ.dz]at this
       rw[List.map_drop,List.map_take]
       by_cases It:(β i).cap - 1=f
       ·have:u=f:=by omega
        subst this
        intro q v hv
        rw[List.drop_of_length_le (by rw[List.length_take];exact Nat.min_le_left _ _)]at hv
        cases hv
       ·simp only[if_neg It]
        exact this
      ·obtain⟨Dw,hlo1⟩:=hm' hm
       have hf0:=Gm hlo1
       subst hf0
       obtain⟨h8,rest,fz,h9,fm,IA⟩:=h6 Dw
       have hus:u * s'≤c.length:=by rw[h4];exact zJD _ HU
       refine⟨by simp[h8],(c.drop (u * s')).map (ah β')++rest,fz,⟨?_,?_⟩,?_,?_⟩
       ·rw[h9.1,Nat.zero_mul,List.drop_zero,← List.append_assoc,← zJI,List.take_append_drop,h.zE hgi hβ.dz]
       ·have:=h9.2
        simp at this ⊢
        omega
       ·simp
        omega
       ·simp
        omega
    obtain⟨b,bJ,hfu,HU,Gm,hnw⟩:=gX
    cases lo with
    | none =>
      have hf0:=Gm rfl
      subst hf0
      have hnw':=hnw m (fun hm=>⟨hm,rfl⟩)
      simp only[Nat.zero_mul,List.drop_zero,Nat.sub_zero]at hnw' bJ
      cases m with
      | false =>
        cases ha
        have jD:bs.set i (.own c e' s' n' false)=bs:=by
         apply List.ext_getElem?
         intro q
         rw[List.getElem?_set]
         split
         ·rename_i hq
          subst hq
          first|exact hi'.symm | (rw[if_pos sX];exact hi'.symm)
         ·rfl
        have hs:=h.split hi' (.own c e' s' n' false) _ b (fp i) (fp i) (fun β' hβ=>h.own hi' hβ) rfl (fun k hk=>hk) hnw' (fun k hk=>hk) (fun hm=>by cases hm)
        rw[jD]at hs
        exact⟨b,_,bJ,by simp,hs⟩
      | true =>
      cases ha
      exact⟨b,_,bJ,by simp,h.split hi' .gone _ b (fun _=>False) (fp i) (fun β' hβ k hk=>hk) rfl (fun k hk=>hk.elim) hnw' (fun k hk=>hk) (fun hm=>⟨hm,fun k hk=>hk⟩)⟩
    | some l =>
      cases ha
      refine⟨b,_,bJ,by simp,h.split hi' (.own c e' s' n' false) _ b (fp i) (fp i) (fun β' hβ=>?_) rfl (fun k hk=>hk) (hnw false (by simp)) (fun k hk=>hk) (fun hm=>by cases hm)⟩
      rcases h.own hi' hβ with hh|⟨h1,h2,h3,h4,h5,-,h7⟩
      ·exact .inl ⟨hh.1,hh.2.1,hh.2.2.1,hh.2.2.2.1,fun e=>by cases e⟩
      ·exact .inr ⟨h1,h2,h3,h4,h5,(by simp),h7⟩
   ·cases ha
  ·cases ha
 ·cases ha
theorem cap_ok (h:Wd F β fp bs w){t e s:Nat}(ht:V.P.underlying t=some (.slice e))(hz:(Go.sizeOf e).run V.P w=Result.ok s w){kh km:IntKind}{hi mx:Int}{x y:SV}{c0:Prop}(ha:B7 bs s hi mx x=some (c0,y))(hc:c0) :
 (Instr.sliceAt t (ah β x) none (some (.int kh hi)) (some (.int km mx))).run V.P w=Result.ok (ah β y) w∧(∀ β',bC bs.length β β'→ah β y=ah β' y):=by
 unfold B7 at ha
 split at ha
 ·rename_i i n
  split at ha
  ·rename_i c e' s' n' m hi'
   cases ha
   obtain⟨rfl,rfl,rfl,rfl⟩:=hc
   have sX:i<bs.length:=(zJA.1 hi').1
   refine⟨?_,fun β' hβ=>by simp only[ah];rw[hβ i sX]⟩
   rcases h.own hi' (bC.refl _ β) with⟨h1,h2,h3,h4⟩|⟨h1,h2,h3,h4,h5,h6,h7⟩
   ·subst h2 h3
    simp only[ah,oV,fV,if_pos h1]
    cases mA (β i) <;> simp[Instr.sliceAt,Instr.slice,Instr.sliceBounds,Instr.sliceBound,asIntOf,run_underlying ht,hz,go_sem,Addr.add]
   ·simp only[ah,oV,fV,if_neg h1]
    simp[Instr.sliceAt,Instr.slice,Instr.sliceBounds,Instr.sliceBound,asIntOf,run_underlying ht,hz,go_sem,h2,dj]
  ·cases ha
 ·cases ha
  obtain⟨rfl,rfl⟩:=hc
  exact⟨by simp[ah,Instr.sliceAt,Instr.slice,Instr.sliceBounds,Instr.sliceBound,asIntOf,run_underlying ht,hz,go_sem],fun β' _=>rfl⟩
 ·cases ha
theorem nV {s:Nat}:∀ {ps:List (Nat × SV)}{k:Nat}{c:List SV},Yi s k ps=some c→c.length=ps.length * s
 | [],k,c,h=>by cases h;simp
 | (i,x)::r,k,c,h=>by
  simp only[Yi]at h
  split at h
  ·rename_i hc
   split at h
   ·rename_i c1 h1
    cases h
    rw[zJx,nV h1,hc.2.2,zJz,zJC]
    omega
   ·cases h
  ·cases h
theorem uY (β:Nat→Bt)(s:Nat):∀ (ps:List (Nat × SV))(k:Nat)(c:List SV),Yi s k ps=some c→∀ (cs:Array Value),(k+ps.length) * s≤cs.size →
 Instr.fill (fun i=>some (i * s,s)) cs (ps.map fun p=>(p.1,ah β p.2))=some (cs.toList.take (k * s)++c.map (ah β)++cs.toList.drop ((k+ps.length) * s)).toArray
 | [],k,c,h,cs,hcs=>by
   cases h
   simp[Instr.fill]
 | (i,x)::r,k,c,h,cs,hcs=>by
  simp only[Yi]at h
  split at h
  ·rename_i hc
   obtain⟨rfl,hv,hl⟩:=hc
   split at h
   ·rename_i c1 h1
    cases h
    have gd:=fy β x hv
    rw[zJz]at hcs
    have e0:(i+(r.length+1)) * s=(i+1+r.length) * s:=by congr 1;omega
    rw[e0]at hcs
    have e1:(i+1) * s=i * s+s:=by rw[zJC,Nat.one_mul]
    have e2:(i+1) * s≤(i+1+r.length) * s:=zJD _ (by omega)
    simp only[List.map_cons,Instr.fill,gd,List.size_toArray,List.length_map]
    rw[if_neg (by simp[hl];omega)]
    have hz:=pw (i * s) ((cells x).map (ah β)) 0 cs (by simp;omega)
    rw[← Array.foldl_toList,Array.toList_zipIdx]
    simp only[Nat.add_zero,List.length_map]at hz
    rw[hz,uY β s r (i+1) c1 h1 _ (by simp[hl];omega)]
    congr 2
    rw[zJz,e0]
    simp only[zJI,hl]
    have l1:(cs.toList.take (i * s)).length=i * s:=by simp;omega
    have l2:(cs.toList.take (i * s)++(cells x).map (ah β)).length=(i+1) * s:=by rw[zJx,l1,List.length_map,hl,e1]
    rw[List.take_append_of_le_length (by omega),List.take_of_length_le (by omega),List.drop_append,List.drop_of_length_le (by omega),List.nil_append,l2,List.drop_drop]
    have e3:i * s+s+((i+1+r.length) * s - (i+1) * s)=(i+1+r.length) * s:=by omega
    rw[e3]
    simp
   ·cases h
  ·cases h
def pM:List Value→Nat→List Value
 | _,0=>[]
 | z,n+1=>z++pM z n
theorem jU (z:List Value):∀ n,(pM z n).length=n * z.length
 | 0=>by simp[pM]
 | n+1=>by simp[pM,jU z n,zJC,Nat.add_comm]
theorem At (z:List Value):∀ (n j:Nat),j<n * z.length→(pM z n)[j]? = z[j % z.length]?
 | 0,j,h=>by simp at h
 | n+1,j,h=>by
   simp only[pM]
   by_cases hj:j<z.length
   ·rw[List.getElem?_append_left hj,Nat.mod_eq_of_lt hj]
   ·rw[List.getElem?_append_right (by omega),At z n (j - z.length) (by rw[zJC]at h;omega)]
    congr 1
    rw[Nat.mod_eq_sub_mod (by omega:j ≥ z.length)]
theorem Hm (z:Array Value)(n:Nat)(hz:0<z.size):(madeCells z (n * z.size)).toList=pM z.toList n:=by
 apply List.ext_getElem?
 intro j
 by_cases hj:j<n * z.size
 ·rw[At _ _ _ (by simpa using hj)]
  have hm:j % z.size<z.size:=Nat.mod_lt _ hz
  simp[madeCells,hj,hm]
 ·rw[List.getElem?_eq_none (by simp[madeCells];omega),List.getElem?_eq_none (by rw[jU];simpa using hj)]
theorem wY (z:List Value):∀ (n k:Nat),k≤n→pM z k=(pM z n).take (k * z.length)
 | _,0,_=>by simp[pM]
 | 0,k+1,h=>by omega
 | n+1,k+1,h=>by
   simp only[pM]
   rw[zJC,Nat.one_mul,Nat.add_comm,List.take_length_add_append,← wY z n k (by omega)]
theorem tS (z:List SV)(β:Nat→Bt):∀ n,(CS z n).map (ah β)=pM (z.map (ah β)) n
 | 0=>rfl
 | n+1=>by simp[CS,pM,tS z β n]
theorem wpv {o:Oper}{v:Value}{w w':World}{K:St→Prop}{Q:Exit→Act→World→Prop}(h:(execOp a.eval o).run V.P w=Result.ok (.value v) w'){σ:St}(hK:K σ)(hr:Rel F σ (a.put o.dst v) w'):o.wp V.P a w (fun a w=>∃ σ,K σ∧Rel F σ a w) Q :=
 wp_of_value h ⟨σ,hK,hr⟩
theorem zT {dst:Option Tmp}{op:Op}{σ σ':St}{c:Prop}{K:St→Prop}(bU:fits F.n dst=true)(h:Yl V dst op σ=some (c,σ'))(hc:c)(hK:K σ'){a:Act}{w:World}(hr:Rel F σ a w)(ty:TypeId)(pos:String)(after:Array Edge)(guard:Option (Nat × Bool))(Q:Exit→Act→World→Prop) :
 (⟨dst,op,ty,pos,after,guard⟩:Oper).wp V.P a w (fun a w=>∃ σ,K σ∧Rel F σ a w) Q:=by
 obtain⟨β,fp,hf,hw⟩:=hr
 have mm:∀ (min:Bool) (args:Array Operand) (ts:Array TypeId),Xq min dst args.toList σ=some (c,σ')→(⟨dst,.call ⟨.builtin (if min then .min else .max),args,ts⟩,ty,pos,after,guard⟩:Oper).wp V.P a w (fun a w=>∃ σ,K σ∧Rel F σ a w) Q:=fun min args ts h=>by
  unfold Xq at h
  split at h
  ·rename_i x y hxy
   split at h
   ·rename_i x' hx
    split at h
    ·rename_i y' hy
     simp only[Option.map_eq_some_iff,Prod.mk.injEq]at h
     obtain⟨z,hz,-,rfl⟩:=h
     have ea:args=#[x,y]:=by apply zJH;simpa using hxy
     subst ea
     have h1:=hf.ev hx (bC.refl _ β)
     have h2:=hf.ev hy (bC.refl _ β)
     unfold mmS at hz
     split at hz
     ·cases hz
      simp only[ah]at h1 h2
      refine wpv (v:=_) (w':=w) ?_ hK ⟨β,fp,hf.put bU (fun β' _=>rfl),hw⟩
      cases min
      ·simp only[Bool.false_eq_true,if_false,execOp,resolve,invoke,builtin,Builtin.max_,Builtin.max2,ah]
       generalize a.eval=ρ at h1 h2
       simp[h1,h2,Builtin.max_,Builtin.max2]
      ·simp only[if_true,execOp,resolve,invoke,builtin,Builtin.min_,Builtin.min2,ah]
       generalize a.eval=ρ at h1 h2
       simp[h1,h2,Builtin.min_,Builtin.min2]
     ·cases hz
    ·cases h
   ·cases h
  ·cases h
 cases op <;> simp only[Yl,reduceCtorEq]at h
 case call cl =>
  obtain⟨callee,args,ts⟩:=cl
  cases callee <;> (try simp only[reduceCtorEq]at h)
  rename_i bi
  cases bi <;> (try simp only[reduceCtorEq]at h)
  case append =>
   unfold Xm at h
   (repeat' split at h) <;> try (cases h;done)
   rename_i s x hN _ t u hts _ e ht _ ku hu _ ti iS _ sv hs _ xv hx _ n c0 bs2 hd _ m xs FG
   cases h
   obtain⟨h0m,hku,fe,h1,tc,Iu⟩:=hc
   have ea:args=#[s,x]:=by apply zJH;simpa using hN
   have et:ts=#[t,u]:=by apply zJH;simpa using hts
   subst ea et
   obtain⟨d1,qv,iB⟩:=bY V.gZ ht
   obtain⟨d2,oe,fQ⟩:=bY V.gZ hu
   simp only[ck]at iB
   subst iB
   have hdd:d2=.string∨∃ e',d2=.slice e':=by
    cases ku <;> simp[XP]at hku <;> simp only[ck]at fQ
    ·exact .inl fQ
    ·exact .inr ⟨_,fQ⟩
   obtain⟨b,fp₂,w',bJ,mB⟩:=app_ok hw qv oe hdd iS rfl fe hd FG (fun β' hβ=>by rw[← hf.ev hx (bC.refl _ β),← hf.ev hx hβ]) h1 tc Iu h0m ty
   rw[← hf.ev hs (bC.refl _ β),← hf.ev hx (bC.refl _ β)]at bJ
   refine wpv (v:=oV b (n+m)) (w':=w') ?_ hK ⟨_,fp₂,(hf.more (by simp[EL hd]) (ez _ _ _)).put bU (fun β' hβ=>?_),mB⟩
   ·show Sem.run V.P (do let d ← resolve a.eval ⟨.builtin .append,#[s,x],#[t,u]⟩ ty;invoke d.target d.args) w=_
    simp only[resolve,Sem.run_bind,Sem.run_pure,Result.andThen_ok,invoke,builtin,List.map_toArray,List.map_cons,List.map_nil,bJ]
   ·simp only[ah]
    rw[← hβ σ.b.length (by simp[EL hd]),fZ]
  case min=>exact mm true args ts h
  case max=>exact mm false args ts h
 case makeSlice ts l c' =>
  unfold Yn at h
  (repeat' split at h) <;> try (cases h;done)
  rename_i _ e ht _ ti iS _ kl l' hl _ kc c' hc'
  cases h
  obtain⟨h0,hlc,Iu,tc,fe⟩:=hc
  obtain⟨d1,qv,iB⟩:=bY V.gZ ht
  simp only[ck]at iB
  subst iB
  obtain⟨i,z,hi,hz,rB,Ie,Gj⟩:=(V.gZ e ti iS).info
  have Co:=(V.gZ e ti iS).len
  have mH:=(V.gZ e ti iS).flat
  have bJ:=run_make (P:=V.P) w ts e i z qv hi hz kl kc l' c' h0 hlc (by rw[Ie];exact Iu) tc
  have e1:=hf.ev hl (bC.refl _ β)
  have e2:=hf.ev hc' (bC.refl _ β)
  simp only[ah]at e1 e2
  rw[← e1,← e2]at bJ
  have hnn:l'.toNat≤c'.toNat:=by omega
  have xD:z.cells.size=ti.size:=by rw[Gj];simp[Co]
  have hzt:z.cells.toList=ti.zero.map (ah kH):=by rw[Gj]
  have hM:(madeCells z.cells (c'.toNat * i.size)).toList=pM (ti.zero.map (ah kH)) c'.toNat:=by
   rw[rB,← xD,Hm _ _ (by omega),hzt]
  have hlz:(ti.zero.map (ah kH)).length=ti.size:=by simpa using Co
  have zA:(CS ti.zero l'.toNat).length=l'.toNat * ti.size:=by
   have:=congrArg List.length (tS ti.zero kH l'.toNat)
   rw[jU,hlz]at this
   simpa using this
  have hmade:∀ β',(madeCells z.cells (c'.toNat * i.size)).toList=(CS ti.zero l'.toNat).map (ah β')++(madeCells z.cells (c'.toNat * i.size)).toList.drop (l'.toNat * ti.size):=fun β'=>by
   rw[hM,tS,mH β',wY _ _ _ hnn,hlz,List.take_append_drop]
  have mB:=hw.more (w':=w.alloc (.cells (madeCells z.cells (c'.toNat * i.size)) e)) ((Below.refl _ _).alloc (zJy _) _) (.own (CS ti.zero l'.toNat) e ti.size l'.toNat true) ⟨w.heap.size,0,c'.toNat+1⟩ (·=w.heap.size) (fun β' hβ=>dY (rest:=(madeCells z.cells (c'.toNat * i.size)).toList.drop (l'.toNat * ti.size)) (fz:=(0,0)) (by
   rw[cz,← hmade β']) (.inr (.inl (zJy _))) zA hnn (by unfold maxLen;omega) (by
   rw[zA,List.length_drop,hM,jU,hlz]
   have:l'.toNat * ti.size≤c'.toNat * ti.size:=zJD _ hnn
   omega)) (fun k hk=>by subst hk;exact⟨zJy _,by rw[size_alloc];exact zJE _⟩)
  refine wpv (bO bJ) hK ⟨_,_,(hf.more (by simp) (ez _ _ _)).put bU (fun β' hβ=>?_),mB⟩
  simp only[ah]
  rw[← hβ σ.b.length (by simp),fZ]
  simp[oV]
 case indexAddr ts x i =>
  unfold Xc at h
  (repeat' split at h) <;> try (cases h;done)
  rename_i _ e ht _ s hs _ x' hx _ k kk hi _ c0 y ha
  cases h
  unfold Ym at ha
  split at ha
  ·rename_i j n
   split at ha
   ·rename_i cc ee ss nn mm' hj
    cases ha
    obtain⟨⟨rfl,hss,sW,Gp⟩,kS⟩:=hc
    simp only[Xc.lH,hj]at kS
    subst kS
    obtain⟨d1,qv,iB⟩:=bY V.gZ ht
    simp only[ck]at iB
    subst iB
    have hz:(Go.sizeOf e).run V.P w=Result.ok ss w:=by
     unfold sz at hs
     cases uJ:V.Γ e with
     | none=>simp[uJ]at hs
     | some ti=>simp[uJ]at hs;rw[← hs];exact(V.gZ e ti uJ).size w
    have hnz:(β j).cap≠0:=by
     rcases hw.own hj (bC.refl _ β) with⟨-,h2,-⟩|⟨h2,-⟩
     ·subst h2;omega
     ·exact h2
    have e1:=hf.ev hx (bC.refl _ β)
    have e2:=hf.ev hi (bC.refl _ β)
    simp only[ah,oV,if_neg hnz]at e1 e2
    refine wpv (v:=ah β (.p j (kk.toNat * ss))) (w':=w) ?_ hK ⟨β,fp,hf.put bU (fun β' hβ=>?_),hw⟩
    ·refine bO ?_
     rw[e1,e2]
     simp[Instr.indexAt,asIntOf,run_underlying qv,sW,Gp,hz,ah,dj]
    ·simp only[ah]
     rw[hβ j (zJA.1 hj).1]
   ·cases ha
  ·cases ha
 case slice ts x lo hi mx =>
  cases mx with
  | some mx =>
    cases lo <;> cases hi <;> simp only[reduceCtorEq]at h
    rename_i hi
    unfold Dg at h
    (repeat' split at h) <;> try (cases h;done)
    rename_i _ e ht _ s hs _ x' hx _ kh vh hh _ km vm hm _ c0 y ha
    cases h
    obtain⟨d1,qv,iB⟩:=bY V.gZ ht
    simp only[ck]at iB
    subst iB
    obtain⟨bJ,hy⟩:=cap_ok (kh:=kh) (km:=km) hw qv (GC hs w) ha hc
    have e1:=hf.ev hx (bC.refl _ β)
    have e2:=hf.ev hh (bC.refl _ β)
    have e3:=hf.ev hm (bC.refl _ β)
    simp only[ah]at e2 e3
    have hv:(execOp a.eval (⟨dst,.slice ts x none (some hi) (some mx),ty,pos,after,guard⟩:Oper)).run V.P w=Result.ok (.value (ah β y)) w:=by
     refine bO ?_
     simp only[Option.map_some,Option.map_none,e1,e2,e3]
     exact bJ
    exact wpv hv hK ⟨β,fp,hf.put bU (fun β' hβ=>hy β' hβ),hw⟩
  | none =>
  simp only at h
  unfold Xj at h
  (repeat' split at h) <;> try (cases h;done)
  rename_i _ e ht _ s hs _ x' hx _ lo' Gm _ hi' hhi _ c0 n0 bs2 ha
  cases h
  obtain⟨hc,hsi⟩:=hc
  obtain⟨d1,qv,iB⟩:=bY V.gZ ht
  simp only[ck]at iB
  subst iB
  have hz:(Go.sizeOf e).run V.P w=Result.ok s w:=GC hs w
  obtain⟨b,fp₂,bJ,hlen,mB⟩:=re_ok hw qv hz ha hc hsi
  have hv:(execOp a.eval (⟨dst,.slice ts x lo hi none,ty,pos,after,guard⟩:Oper)).run V.P w=Result.ok (.value (oV b n0)) w:=by
   refine bO ?_
   rw[hf.ev hx (bC.refl _ β),tn (hf.ok β (bC.refl _ _)) Gm,tn (hf.ok β (bC.refl _ _)) hhi]
   exact bJ
  refine wpv hv hK ⟨_,fp₂,(hf.more (by rw[hlen];exact Nat.le_succ _) (ez _ _ _)).put bU (fun β' hβ=>?_),mB⟩
  simp only[ah]
  rw[← hβ σ.b.length (by rw[hlen];exact zJE _),fZ]
 case convert ts td x =>
  unfold Yb at h
  (repeat' split at h) <;> try (cases h;done)
  ·rename_i _ hts _ e htd _ hte _ l hx
   cases h
   obtain⟨d1,qv,iB⟩:=bY V.gZ hts
   obtain⟨d2,oe,fQ⟩:=bY V.gZ htd
   obtain⟨d3,Il,kF⟩:=bY V.gZ hte
   simp only[ck]at iB fQ kF
   subst iB fQ kF
   have bJ:=Lib.run_convert_string_bytes w ts td e ⟨zJw l⟩ qv oe Il
   have hss:(⟨zJw l⟩:ByteArray).size=l.length:=rfl
   rw[hss]at bJ
   have rC:=grownCap_ge w l.length 0 e
   have hle:=grownCap_le_maxLen w l.length 0 e hc
   have hbc:Lib.bytesCells w e ⟨zJw l⟩=((l.map da).map (ah β)++List.replicate (grownCap w l.length 0 e - l.length) (Value.int .u8 0)).toArray:=by
    apply zJH
    simp[Lib.bytesCells,da,ah,Function.comp_def,hss]
   have gX:=Lib.bytesWorld_at_new w e ⟨zJw l⟩
   have uV:Below w.heap.size w (Lib.bytesWorld w e ⟨zJw l⟩):=⟨by simp[Lib.bytesWorld,World.freeze];rfl,rfl,rfl,by rw[Lib.bytesWorld_size];omega,fun k hk=>Lib.bytesWorld_at_old _ _ _ k hk⟩
   have hsize:=Lib.bytesWorld_size w e ⟨zJw l⟩
   rw[hbc]at gX
   generalize Lib.bytesWorld w e ⟨zJw l⟩=w1 at bJ gX uV hsize
   generalize grownCap w l.length 0 e=cap' at bJ gX rC hle
   have mB:=hw.more uV (.own (l.map da) e 1 l.length true) ⟨w.heap.size,0,cap'+1⟩ (·=w.heap.size) (fun β' hβ=>dY (by
    rw[gX]
    congr 3
    rw[List.map_map,List.map_map]
    rfl) (by right;right;exact⟨rfl,by simp⟩) (by simp) rC hle (by simp;omega)) (fun k hk=>by subst hk;exact⟨zJy _,by rw[hsize];exact zJE _⟩)
   have e1:=hf.ev hx (bC.refl _ β)
   simp only[ah]at e1
   rw[← e1]at bJ
   refine wpv (bO bJ) hK ⟨_,_,(hf.more (by simp) (ez _ _ _)).put bU (fun β' hβ=>?_),mB⟩
   simp only[ah]
   rw[← hβ σ.b.length (by simp),fZ]
   simp[oV]
  ·rename_i _ e hts _ htd _ hte _ hx
   cases h
   obtain⟨d1,qv,iB⟩:=bY V.gZ hts
   obtain⟨d2,oe,fQ⟩:=bY V.gZ htd
   obtain⟨d3,Il,kF⟩:=bY V.gZ hte
   simp only[ck]at iB fQ kF
   subst iB fQ kF
   have e1:=hf.ev hx (bC.refl _ β)
   simp only[ah]at e1
   have bJ:=run_convert_bytes_nil w ts e qv Il 0 0 td oe
   rw[← e1]at bJ
   exact wpv (bO bJ) hK ⟨β,fp,hf.put bU (fun β' hβ=>by simp[ah];rfl),hw⟩
  ·rename_i _ e hts _ htd _ hte _ i n hx _ c0 ee s n' mm' hi
   cases h
   obtain⟨rfl,rfl,aP⟩:=hc
   obtain⟨d1,qv,iB⟩:=bY V.gZ hts
   obtain⟨d2,oe,fQ⟩:=bY V.gZ htd
   obtain⟨d3,Il,kF⟩:=bY V.gZ hte
   simp only[ck]at iB fQ kF
   subst iB fQ kF
   have e1:=hf.ev hx (bC.refl _ β)
   simp only[ah,oV]at e1
   have bJ:(convert ts td (a.eval x)).run V.P w=Result.ok (.string ⟨zJw (c0.map vM)⟩) w:=by
    rw[e1]
    rcases hw.own hi (bC.refl _ β) with⟨h1,rfl,rfl,-⟩|⟨h1,h2,h3,h4,h5,-⟩
    ·rw[if_pos h1]
     cases mA (β i) with
     | none=>exact run_convert_bytes_nil w ts e qv Il 0 0 td oe
     | some A=>exact run_convert_bytes_back w ts td e A 0 [] qv Il oe (fun j hj=>by simp at hj)
    ·rw[if_neg h1]
     have hl:n'=(c0.map vM).length:=by simpa using h4.symm
     rw[hl]
     refine run_convert_bytes_back w ts td e _ _ (c0.map vM) qv Il oe (fun j hj=>?_)
     rw[dj]
     have hj':j<c0.length:=by simpa using hj
     refine h5 j _ ?_
     simp only[List.getElem?_map,List.getElem?_eq_getElem hj',Option.map_some,List.getElem_map]
     rw[F5 β (List.all_eq_true.1 aP _ (List.getElem_mem hj'))]
   exact wpv (bO bJ) hK ⟨β,fp,hf.put bU (fun β' hβ=>by simp[ah]),hw⟩
 case buildSlice ts n ps =>
  unfold Xa at h
  (repeat' split at h) <;> try (cases h;done)
  rename_i _ e ht _ ti iS _ l hl _ c0 mH
  cases h
  obtain⟨FH,h24,fe⟩:=hc
  obtain⟨d1,qv,iB⟩:=bY V.gZ ht
  simp only[ck]at iB
  subst iB
  obtain⟨i,z,hi,hz,rB,Ie,Gj⟩:=(V.gZ e ti iS).info
  have hps:=fun β' hβ=>lV (β':=β') hf hβ hl
  have eg:=nV mH
  rw[FH]at eg
  have qs:=fun β'=>uY β' ti.size l 0 c0 mH ((Array.range (n * i.size)).map (z.cells[· % z.cells.size]!)) (by rw[Nat.zero_add,FH];simp[rB])
  have bJ:∀ β',bC σ.b.length β β'→(Instr.buildSlice ts n (ps.map fun p=>(p.1,a.eval p.2))).run V.P w=Result.ok (.slice (some ⟨w.heap.size,0,none⟩) n n) (w.alloc (.cells (c0.map (ah β')).toArray e)):=fun β' hβ=>by
   have e2:=hps β' hβ
   by_cases hn:n=0
   ·subst hn
    have hl0:l=[]:=zJF FH
    subst hl0
    have fG:c0=[]:=zJF (by rw[eg];simp)
    subst fG
    have e3:(ps.toList.map fun p=>(p.1,a.eval p.2))=[]:=e2
    have e4:Array.range 0=#[]:=rfl
    simp[Instr.buildSlice,run_underlying qv,Go.sizeOf,typeInfo,hi,e3,Instr.fill,newRow,e4]
   ·refine run_buildSlice (P:=V.P) w ts e n (ps.map fun p=>(p.1,a.eval p.2)) (c0.map (ah β')).toArray i z qv hi hz (by rw[rB];omega) (by rw[rB];exact Nat.ne_of_gt (Nat.mul_pos (by omega) fe)) ?_
    have e3:=qs β'
    rw[← rB]at e3
    rw[Array.toList_map,e2,e3]
    congr 1
    apply zJH
    rw[Nat.zero_add,FH]
    simp
  have FP:∀ β',bC σ.b.length β β'→c0.map (ah β)=c0.map (ah β'):=fun β' hβ=>by
   have h1:=bJ β (bC.refl _ _)
   rw[bJ β' hβ]at h1
   injection h1 with _ h1
   have h2:=congrArg (fun w':World=>w'.heap[w.heap.size]?) h1
   simp only[cz]at h2
   have h3:=(Obj.cells.inj (Option.some.inj h2)).1
   have h4:=congrArg Array.toList h3
   exact h4.symm
  have mB:=hw.more (w':=w.alloc (.cells (c0.map (ah β)).toArray e)) ((Below.refl _ _).alloc (zJy _) _) (.own c0 e ti.size n true) ⟨w.heap.size,0,n+1⟩ (·=w.heap.size) (fun β' hβ=>dY (rest:=[]) (fz:=(0,0)) (by
   rw[cz,FP β' hβ.dz,List.append_nil]) (.inr (.inl (zJy _))) eg (zJy _) (by unfold maxLen;have:n * 1≤n * ti.size:=Nat.mul_le_mul_left _ fe;omega) (by simpa using eg)) (fun k hk=>by subst hk;exact⟨zJy _,by rw[size_alloc];exact zJE _⟩)
  refine wpv (bO (bJ β (bC.refl _ _))) hK ⟨_,_,(hf.more (by simp) (ez _ _ _)).put bU (fun β' hβ=>?_),mB⟩
  simp only[ah]
  rw[← hβ σ.b.length (by simp),fZ]
  simp[oV]
end
end Vc
