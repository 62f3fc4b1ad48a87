/- The types of this program, for the calculus of conditions. -/
import Derived.Test.YtjponbpdlioocaaVc
import Derived.Test.YtjponbpdlioocaaProg
set_option linter.all false
namespace Go.Proofs
open Go Vc
set_option maxRecDepth 100000
set_option linter.unusedSimpArgs false
theorem Try.ty1 : Vc.TyOK Try.prog 1 ⟨1, 8, false, [.v .nilFunc], .other, false⟩ := ⟨Try.sizeOf1, Try.isAgg1, fun w => ⟨_, Try.zeroValue1 w, by simp [Vc.conc, Value.cells]⟩, fun _ => by simp [Vc.conc], rfl, ⟨_, Try.underlying1, trivial⟩, (fun _ h => (by cases h)), (fun h => (by cases h)), ⟨Try.t1, _, by kernel_rfl, rfl, rfl, rfl, by simp [Vc.conc, Value.cells]⟩⟩
theorem Try.ty2 : Vc.TyOK Try.prog 2 ⟨1, 8, false, [.int .i64 0], .int .i64, false⟩ := ⟨Try.sizeOf2, Try.isAgg2, fun w => ⟨_, Try.zeroValue2 w, by simp [Vc.conc, Value.cells]⟩, fun _ => by simp [Vc.conc], rfl, ⟨_, Try.underlying2, rfl⟩, (fun _ h => (by cases h)), (fun h => (by cases h)), ⟨Try.t2, _, by kernel_rfl, rfl, rfl, rfl, by simp [Vc.conc, Value.cells]⟩⟩
theorem Try.ty3 : Vc.TyOK Try.prog 3 ⟨1, 8, false, [.int .i64 0], .int .i64, false⟩ := ⟨Try.sizeOf3, Try.isAgg3, fun w => ⟨_, Try.zeroValue3 w, by simp [Vc.conc, Value.cells]⟩, fun _ => by simp [Vc.conc], rfl, ⟨_, Try.underlying3, rfl⟩, (fun _ h => (by cases h)), (fun h => (by cases h)), ⟨Try.t3, _, by kernel_rfl, rfl, rfl, rfl, by simp [Vc.conc, Value.cells]⟩⟩
theorem Try.ty4 : Vc.TyOK Try.prog 4 ⟨1, 1, false, [.bool false], .bool, false⟩ := ⟨Try.sizeOf4, Try.isAgg4, fun w => ⟨_, Try.zeroValue4 w, by simp [Vc.conc, Value.cells]⟩, fun _ => by simp [Vc.conc], rfl, ⟨_, Try.underlying4, rfl⟩, (fun _ h => (by cases h)), (fun h => (by cases h)), ⟨Try.t4, _, by kernel_rfl, rfl, rfl, rfl, by simp [Vc.conc, Value.cells]⟩⟩
theorem Try.ty5 : Vc.TyOK Try.prog 5 ⟨1, 1, false, [.int .u8 0], .int .u8, false⟩ := ⟨Try.sizeOf5, Try.isAgg5, fun w => ⟨_, Try.zeroValue5 w, by simp [Vc.conc, Value.cells]⟩, fun _ => by simp [Vc.conc], rfl, ⟨_, Try.underlying5, rfl⟩, (fun _ h => (by cases h)), (fun h => (by cases h)), ⟨Try.t5, _, by kernel_rfl, rfl, rfl, rfl, by simp [Vc.conc, Value.cells]⟩⟩
theorem Try.ty6 : Vc.TyOK Try.prog 6 ⟨1, 1, false, [.int .u8 0], .int .u8, false⟩ := ⟨Try.sizeOf6, Try.isAgg6, fun w => ⟨_, Try.zeroValue6 w, by simp [Vc.conc, Value.cells]⟩, fun _ => by simp [Vc.conc], rfl, ⟨_, Try.underlying6, rfl⟩, (fun _ h => (by cases h)), (fun h => (by cases h)), ⟨Try.t6, _, by kernel_rfl, rfl, rfl, rfl, by simp [Vc.conc, Value.cells]⟩⟩
theorem Try.ty7 : Vc.TyOK Try.prog 7 ⟨4, 24, true, [.int .i64 0, .int .i64 0, .bool false, .int .u8 0], .struct [(0, 2), (1, 3), (2, 4), (3, 6)], false⟩ := ⟨Try.sizeOf7, Try.isAgg7, fun w => ⟨_, Try.zeroValue7 w, by simp [Vc.conc, Value.cells]⟩, fun _ => by simp [Vc.conc], rfl, ⟨_, Try.underlying7, ⟨_, rfl, rfl⟩⟩, (fun fs h f hf => by cases h; simp only [List.mem_cons, List.not_mem_nil, or_false] at hf; rcases hf with rfl | rfl | rfl | rfl <;> first | exact ⟨_, Try.sizeOf2⟩ | exact ⟨_, Try.sizeOf3⟩ | exact ⟨_, Try.sizeOf4⟩ | exact ⟨_, Try.sizeOf6⟩), (fun h => (by cases h)), ⟨Try.t7, _, by kernel_rfl, rfl, rfl, rfl, by simp [Vc.conc, Value.cells]⟩⟩
theorem Try.ty8 : Vc.TyOK Try.prog 8 ⟨4, 24, true, [.int .i64 0, .int .i64 0, .bool false, .int .u8 0], .struct [(0, 2), (1, 3), (2, 4), (3, 6)], false⟩ := ⟨Try.sizeOf8, Try.isAgg8, fun w => ⟨_, Try.zeroValue8 w, by simp [Vc.conc, Value.cells]⟩, fun _ => by simp [Vc.conc], rfl, ⟨_, Try.underlying8, ⟨_, rfl, rfl⟩⟩, (fun fs h f hf => by cases h; simp only [List.mem_cons, List.not_mem_nil, or_false] at hf; rcases hf with rfl | rfl | rfl | rfl <;> first | exact ⟨_, Try.sizeOf2⟩ | exact ⟨_, Try.sizeOf3⟩ | exact ⟨_, Try.sizeOf4⟩ | exact ⟨_, Try.sizeOf6⟩), (fun h => (by cases h)), ⟨Try.t8, _, by kernel_rfl, rfl, rfl, rfl, by simp [Vc.conc, Value.cells]⟩⟩
theorem Try.ty9 : Vc.TyOK Try.prog 9 ⟨1, 16, false, [.str []], .str, false⟩ := ⟨Try.sizeOf9, Try.isAgg9, fun w => ⟨_, Try.zeroValue9 w, by simp [Vc.conc, Value.cells]⟩, fun _ => by simp [Vc.conc], rfl, ⟨_, Try.underlying9, rfl⟩, (fun _ h => (by cases h)), (fun h => (by cases h)), ⟨Try.t9, _, by kernel_rfl, rfl, rfl, rfl, by simp [Vc.conc, Value.cells]⟩⟩
theorem Try.ty10 : Vc.TyOK Try.prog 10 ⟨1, 16, false, [.str []], .str, false⟩ := ⟨Try.sizeOf10, Try.isAgg10, fun w => ⟨_, Try.zeroValue10 w, by simp [Vc.conc, Value.cells]⟩, fun _ => by simp [Vc.conc], rfl, ⟨_, Try.underlying10, rfl⟩, (fun _ h => (by cases h)), (fun h => (by cases h)), ⟨Try.t10, _, by kernel_rfl, rfl, rfl, rfl, by simp [Vc.conc, Value.cells]⟩⟩
theorem Try.ty11 : Vc.TyOK Try.prog 11 ⟨1, 16, false, [.str []], .str, false⟩ := ⟨Try.sizeOf11, Try.isAgg11, fun w => ⟨_, Try.zeroValue11 w, by simp [Vc.conc, Value.cells]⟩, fun _ => by simp [Vc.conc], rfl, ⟨_, Try.underlying11, rfl⟩, (fun _ h => (by cases h)), (fun h => (by cases h)), ⟨Try.t11, _, by kernel_rfl, rfl, rfl, rfl, by simp [Vc.conc, Value.cells]⟩⟩
theorem Try.ty12 : Vc.TyOK Try.prog 12 ⟨1, 8, false, [.int .u64 0], .int .u64, false⟩ := ⟨Try.sizeOf12, Try.isAgg12, fun w => ⟨_, Try.zeroValue12 w, by simp [Vc.conc, Value.cells]⟩, fun _ => by simp [Vc.conc], rfl, ⟨_, Try.underlying12, rfl⟩, (fun _ h => (by cases h)), (fun h => (by cases h)), ⟨Try.t12, _, by kernel_rfl, rfl, rfl, rfl, by simp [Vc.conc, Value.cells]⟩⟩
theorem Try.ty13 : Vc.TyOK Try.prog 13 ⟨2, 24, true, [.str [], .int .u64 0], .struct [(0, 9), (1, 12)], false⟩ := ⟨Try.sizeOf13, Try.isAgg13, fun w => ⟨_, Try.zeroValue13 w, by simp [Vc.conc, Value.cells]⟩, fun _ => by simp [Vc.conc], rfl, ⟨_, Try.underlying13, ⟨_, rfl, rfl⟩⟩, (fun fs h f hf => by cases h; simp only [List.mem_cons, List.not_mem_nil, or_false] at hf; rcases hf with rfl | rfl <;> first | exact ⟨_, Try.sizeOf9⟩ | exact ⟨_, Try.sizeOf12⟩), (fun h => (by cases h)), ⟨Try.t13, _, by kernel_rfl, rfl, rfl, rfl, by simp [Vc.conc, Value.cells]⟩⟩
theorem Try.ty14 : Vc.TyOK Try.prog 14 ⟨2, 24, true, [.str [], .int .u64 0], .struct [(0, 9), (1, 12)], false⟩ := ⟨Try.sizeOf14, Try.isAgg14, fun w => ⟨_, Try.zeroValue14 w, by simp [Vc.conc, Value.cells]⟩, fun _ => by simp [Vc.conc], rfl, ⟨_, Try.underlying14, ⟨_, rfl, rfl⟩⟩, (fun fs h f hf => by cases h; simp only [List.mem_cons, List.not_mem_nil, or_false] at hf; rcases hf with rfl | rfl <;> first | exact ⟨_, Try.sizeOf9⟩ | exact ⟨_, Try.sizeOf12⟩), (fun h => (by cases h)), ⟨Try.t14, _, by kernel_rfl, rfl, rfl, rfl, by simp [Vc.conc, Value.cells]⟩⟩
theorem Try.ty15 : Vc.TyOK Try.prog 15 ⟨1, 8, false, [.v (.pointer none)], .ptr 69, false⟩ := ⟨Try.sizeOf15, Try.isAgg15, fun w => ⟨_, Try.zeroValue15 w, by simp [Vc.conc, Value.cells]⟩, fun _ => by simp [Vc.conc], rfl, ⟨_, Try.underlying15, rfl⟩, (fun _ h => (by cases h)), (fun h => (by cases h)), ⟨Try.t15, _, by kernel_rfl, rfl, rfl, rfl, by simp [Vc.conc, Value.cells]⟩⟩
theorem Try.ty16 : Vc.TyOK Try.prog 16 ⟨1, 8, false, [.v (.pointer none)], .ptr 72, false⟩ := ⟨Try.sizeOf16, Try.isAgg16, fun w => ⟨_, Try.zeroValue16 w, by simp [Vc.conc, Value.cells]⟩, fun _ => by simp [Vc.conc], rfl, ⟨_, Try.underlying16, rfl⟩, (fun _ h => (by cases h)), (fun h => (by cases h)), ⟨Try.t16, _, by kernel_rfl, rfl, rfl, rfl, by simp [Vc.conc, Value.cells]⟩⟩
theorem Try.ty17 : Vc.TyOK Try.prog 17 ⟨1, 8, false, [.v (.pointer none)], .ptr 80, false⟩ := ⟨Try.sizeOf17, Try.isAgg17, fun w => ⟨_, Try.zeroValue17 w, by simp [Vc.conc, Value.cells]⟩, fun _ => by simp [Vc.conc], rfl, ⟨_, Try.underlying17, rfl⟩, (fun _ h => (by cases h)), (fun h => (by cases h)), ⟨Try.t17, _, by kernel_rfl, rfl, rfl, rfl, by simp [Vc.conc, Value.cells]⟩⟩
theorem Try.ty18 : Vc.TyOK Try.prog 18 ⟨1, 8, true, [.v (.pointer none)], .struct [(0, 17)], false⟩ := ⟨Try.sizeOf18, Try.isAgg18, fun w => ⟨_, Try.zeroValue18 w, by simp [Vc.conc, Value.cells]⟩, fun _ => by simp [Vc.conc], rfl, ⟨_, Try.underlying18, ⟨_, rfl, rfl⟩⟩, (fun fs h f hf => by cases h; simp only [List.mem_cons, List.not_mem_nil, or_false] at hf; rcases hf with rfl <;> first | exact ⟨_, Try.sizeOf17⟩), (fun h => (by cases h)), ⟨Try.t18, _, by kernel_rfl, rfl, rfl, rfl, by simp [Vc.conc, Value.cells]⟩⟩
theorem Try.ty19 : Vc.TyOK Try.prog 19 ⟨1, 8, true, [.v (.pointer none)], .struct [(0, 17)], false⟩ := ⟨Try.sizeOf19, Try.isAgg19, fun w => ⟨_, Try.zeroValue19 w, by simp [Vc.conc, Value.cells]⟩, fun _ => by simp [Vc.conc], rfl, ⟨_, Try.underlying19, ⟨_, rfl, rfl⟩⟩, (fun fs h f hf => by cases h; simp only [List.mem_cons, List.not_mem_nil, or_false] at hf; rcases hf with rfl <;> first | exact ⟨_, Try.sizeOf17⟩), (fun h => (by cases h)), ⟨Try.t19, _, by kernel_rfl, rfl, rfl, rfl, by simp [Vc.conc, Value.cells]⟩⟩
theorem Try.ty20 : Vc.TyOK Try.prog 20 ⟨1, 16, false, [.v .nilIface], .other, false⟩ := ⟨Try.sizeOf20, Try.isAgg20, fun w => ⟨_, Try.zeroValue20 w, by simp [Vc.conc, Value.cells]⟩, fun _ => by simp [Vc.conc], rfl, ⟨_, Try.underlying20, trivial⟩, (fun _ h => (by cases h)), (fun h => (by cases h)), ⟨Try.t20, _, by kernel_rfl, rfl, rfl, rfl, by simp [Vc.conc, Value.cells]⟩⟩
theorem Try.ty21 : Vc.TyOK Try.prog 21 ⟨1, 4, false, [.int .i32 0], .int .i32, false⟩ := ⟨Try.sizeOf21, Try.isAgg21, fun w => ⟨_, Try.zeroValue21 w, by simp [Vc.conc, Value.cells]⟩, fun _ => by simp [Vc.conc], rfl, ⟨_, Try.underlying21, rfl⟩, (fun _ h => (by cases h)), (fun h => (by cases h)), ⟨Try.t21, _, by kernel_rfl, rfl, rfl, rfl, by simp [Vc.conc, Value.cells]⟩⟩
theorem Try.ty22 : Vc.TyOK Try.prog 22 ⟨1, 24, false, [.nils], .slice 9, false⟩ := ⟨Try.sizeOf22, Try.isAgg22, fun w => ⟨_, Try.zeroValue22 w, by simp [Vc.conc, Value.cells]⟩, fun _ => by simp [Vc.conc], rfl, ⟨_, Try.underlying22, rfl⟩, (fun _ h => (by cases h)), (fun h => (by cases h)), ⟨Try.t22, _, by kernel_rfl, rfl, rfl, rfl, by simp [Vc.conc, Value.cells]⟩⟩
theorem Try.ty23 : Vc.TyOK Try.prog 23 ⟨1, 8, false, [.v .nilFunc], .other, false⟩ := ⟨Try.sizeOf23, Try.isAgg23, fun w => ⟨_, Try.zeroValue23 w, by simp [Vc.conc, Value.cells]⟩, fun _ => by simp [Vc.conc], rfl, ⟨_, Try.underlying23, trivial⟩, (fun _ h => (by cases h)), (fun h => (by cases h)), ⟨Try.t23, _, by kernel_rfl, rfl, rfl, rfl, by simp [Vc.conc, Value.cells]⟩⟩
theorem Try.ty24 : Vc.TyOK Try.prog 24 ⟨1, 8, false, [.v .nilFunc], .other, false⟩ := ⟨Try.sizeOf24, Try.isAgg24, fun w => ⟨_, Try.zeroValue24 w, by simp [Vc.conc, Value.cells]⟩, fun _ => by simp [Vc.conc], rfl, ⟨_, Try.underlying24, trivial⟩, (fun _ h => (by cases h)), (fun h => (by cases h)), ⟨Try.t24, _, by kernel_rfl, rfl, rfl, rfl, by simp [Vc.conc, Value.cells]⟩⟩
theorem Try.ty25 : Vc.TyOK Try.prog 25 ⟨1, 8, false, [.v .nilFunc], .other, false⟩ := ⟨Try.sizeOf25, Try.isAgg25, fun w => ⟨_, Try.zeroValue25 w, by simp [Vc.conc, Value.cells]⟩, fun _ => by simp [Vc.conc], rfl, ⟨_, Try.underlying25, trivial⟩, (fun _ h => (by cases h)), (fun h => (by cases h)), ⟨Try.t25, _, by kernel_rfl, rfl, rfl, rfl, by simp [Vc.conc, Value.cells]⟩⟩
theorem Try.ty26 : Vc.TyOK Try.prog 26 ⟨1, 8, false, [.int .i64 0], .int .i64, false⟩ := ⟨Try.sizeOf26, Try.isAgg26, fun w => ⟨_, Try.zeroValue26 w, by simp [Vc.conc, Value.cells]⟩, fun _ => by simp [Vc.conc], rfl, ⟨_, Try.underlying26, rfl⟩, (fun _ h => (by cases h)), (fun h => (by cases h)), ⟨Try.t26, _, by kernel_rfl, rfl, rfl, rfl, by simp [Vc.conc, Value.cells]⟩⟩
theorem Try.ty28 : Vc.TyOK Try.prog 28 ⟨1, 8, false, [.v .nilFunc], .other, false⟩ := ⟨Try.sizeOf28, Try.isAgg28, fun w => ⟨_, Try.zeroValue28 w, by simp [Vc.conc, Value.cells]⟩, fun _ => by simp [Vc.conc], rfl, ⟨_, Try.underlying28, trivial⟩, (fun _ h => (by cases h)), (fun h => (by cases h)), ⟨Try.t28, _, by kernel_rfl, rfl, rfl, rfl, by simp [Vc.conc, Value.cells]⟩⟩
theorem Try.ty29 : Vc.TyOK Try.prog 29 ⟨1, 8, false, [.v .nilFunc], .other, false⟩ := ⟨Try.sizeOf29, Try.isAgg29, fun w => ⟨_, Try.zeroValue29 w, by simp [Vc.conc, Value.cells]⟩, fun _ => by simp [Vc.conc], rfl, ⟨_, Try.underlying29, trivial⟩, (fun _ h => (by cases h)), (fun h => (by cases h)), ⟨Try.t29, _, by kernel_rfl, rfl, rfl, rfl, by simp [Vc.conc, Value.cells]⟩⟩
theorem Try.ty30 : Vc.TyOK Try.prog 30 ⟨1, 8, false, [.v .nilFunc], .other, false⟩ := ⟨Try.sizeOf30, Try.isAgg30, fun w => ⟨_, Try.zeroValue30 w, by simp [Vc.conc, Value.cells]⟩, fun _ => by simp [Vc.conc], rfl, ⟨_, Try.underlying30, trivial⟩, (fun _ h => (by cases h)), (fun h => (by cases h)), ⟨Try.t30, _, by kernel_rfl, rfl, rfl, rfl, by simp [Vc.conc, Value.cells]⟩⟩
theorem Try.ty31 : Vc.TyOK Try.prog 31 ⟨1, 24, false, [.nils], .slice 5, false⟩ := ⟨Try.sizeOf31, Try.isAgg31, fun w => ⟨_, Try.zeroValue31 w, by simp [Vc.conc, Value.cells]⟩, fun _ => by simp [Vc.conc], rfl, ⟨_, Try.underlying31, rfl⟩, (fun _ h => (by cases h)), (fun h => (by cases h)), ⟨Try.t31, _, by kernel_rfl, rfl, rfl, rfl, by simp [Vc.conc, Value.cells]⟩⟩
theorem Try.ty32 : Vc.TyOK Try.prog 32 ⟨1, 8, false, [.v (.pointer none)], .ptr 34, false⟩ := ⟨Try.sizeOf32, Try.isAgg32, fun w => ⟨_, Try.zeroValue32 w, by simp [Vc.conc, Value.cells]⟩, fun _ => by simp [Vc.conc], rfl, ⟨_, Try.underlying32, rfl⟩, (fun _ h => (by cases h)), (fun h => (by cases h)), ⟨Try.t32, _, by kernel_rfl, rfl, rfl, rfl, by simp [Vc.conc, Value.cells]⟩⟩
theorem Try.ty33 : Vc.TyOK Try.prog 33 ⟨2, 32, true, [.v (.pointer none), .nils], .struct [(0, 32), (1, 31)], false⟩ := ⟨Try.sizeOf33, Try.isAgg33, fun w => ⟨_, Try.zeroValue33 w, by simp [Vc.conc, Value.cells]⟩, fun _ => by simp [Vc.conc], rfl, ⟨_, Try.underlying33, ⟨_, rfl, rfl⟩⟩, (fun fs h f hf => by cases h; simp only [List.mem_cons, List.not_mem_nil, or_false] at hf; rcases hf with rfl | rfl <;> first | exact ⟨_, Try.sizeOf31⟩ | exact ⟨_, Try.sizeOf32⟩), (fun h => (by cases h)), ⟨Try.t33, _, by kernel_rfl, rfl, rfl, rfl, by simp [Vc.conc, Value.cells]⟩⟩
theorem Try.ty34 : Vc.TyOK Try.prog 34 ⟨2, 32, true, [.v (.pointer none), .nils], .struct [(0, 32), (1, 31)], false⟩ := ⟨Try.sizeOf34, Try.isAgg34, fun w => ⟨_, Try.zeroValue34 w, by simp [Vc.conc, Value.cells]⟩, fun _ => by simp [Vc.conc], rfl, ⟨_, Try.underlying34, ⟨_, rfl, rfl⟩⟩, (fun fs h f hf => by cases h; simp only [List.mem_cons, List.not_mem_nil, or_false] at hf; rcases hf with rfl | rfl <;> first | exact ⟨_, Try.sizeOf31⟩ | exact ⟨_, Try.sizeOf32⟩), (fun h => (by cases h)), ⟨Try.t34, _, by kernel_rfl, rfl, rfl, rfl, by simp [Vc.conc, Value.cells]⟩⟩
theorem Try.ty35 : Vc.TyOK Try.prog 35 ⟨1, 8, false, [.v (.pointer none)], .ptr 38, false⟩ := ⟨Try.sizeOf35, Try.isAgg35, fun w => ⟨_, Try.zeroValue35 w, by simp [Vc.conc, Value.cells]⟩, fun _ => by simp [Vc.conc], rfl, ⟨_, Try.underlying35, rfl⟩, (fun _ h => (by cases h)), (fun h => (by cases h)), ⟨Try.t35, _, by kernel_rfl, rfl, rfl, rfl, by simp [Vc.conc, Value.cells]⟩⟩
theorem Try.ty36 : Vc.TyOK Try.prog 36 ⟨1, 8, false, [.int .u64 0], .int .u64, false⟩ := ⟨Try.sizeOf36, Try.isAgg36, fun w => ⟨_, Try.zeroValue36 w, by simp [Vc.conc, Value.cells]⟩, fun _ => by simp [Vc.conc], rfl, ⟨_, Try.underlying36, rfl⟩, (fun _ h => (by cases h)), (fun h => (by cases h)), ⟨Try.t36, _, by kernel_rfl, rfl, rfl, rfl, by simp [Vc.conc, Value.cells]⟩⟩
theorem Try.ty37 : Vc.TyOK Try.prog 37 ⟨2, 24, true, [.str [], .int .u64 0], .struct [(0, 9), (1, 36)], false⟩ := ⟨Try.sizeOf37, Try.isAgg37, fun w => ⟨_, Try.zeroValue37 w, by simp [Vc.conc, Value.cells]⟩, fun _ => by simp [Vc.conc], rfl, ⟨_, Try.underlying37, ⟨_, rfl, rfl⟩⟩, (fun fs h f hf => by cases h; simp only [List.mem_cons, List.not_mem_nil, or_false] at hf; rcases hf with rfl | rfl <;> first | exact ⟨_, Try.sizeOf9⟩ | exact ⟨_, Try.sizeOf36⟩), (fun h => (by cases h)), ⟨Try.t37, _, by kernel_rfl, rfl, rfl, rfl, by simp [Vc.conc, Value.cells]⟩⟩
theorem Try.ty38 : Vc.TyOK Try.prog 38 ⟨2, 24, true, [.str [], .int .u64 0], .struct [(0, 9), (1, 36)], true⟩ := ⟨Try.sizeOf38, Try.isAgg38, fun w => ⟨_, Try.zeroValue38 w, by simp [Vc.conc, Value.cells]⟩, fun _ => by simp [Vc.conc], rfl, ⟨_, Try.underlying38, ⟨_, rfl, rfl⟩⟩, (fun fs h f hf => by cases h; simp only [List.mem_cons, List.not_mem_nil, or_false] at hf; rcases hf with rfl | rfl <;> first | exact ⟨_, Try.sizeOf9⟩ | exact ⟨_, Try.sizeOf36⟩), (fun _ => ⟨by kernel_rfl, by kernel_rfl, by kernel_rfl⟩), ⟨Try.t38, _, by kernel_rfl, rfl, rfl, rfl, by simp [Vc.conc, Value.cells]⟩⟩
theorem Try.ty39 : Vc.TyOK Try.prog 39 ⟨1, 8, false, [.v .nilFunc], .other, false⟩ := ⟨Try.sizeOf39, Try.isAgg39, fun w => ⟨_, Try.zeroValue39 w, by simp [Vc.conc, Value.cells]⟩, fun _ => by simp [Vc.conc], rfl, ⟨_, Try.underlying39, trivial⟩, (fun _ h => (by cases h)), (fun h => (by cases h)), ⟨Try.t39, _, by kernel_rfl, rfl, rfl, rfl, by simp [Vc.conc, Value.cells]⟩⟩
theorem Try.ty40 : Vc.TyOK Try.prog 40 ⟨1, 8, false, [.v .nilFunc], .other, false⟩ := ⟨Try.sizeOf40, Try.isAgg40, fun w => ⟨_, Try.zeroValue40 w, by simp [Vc.conc, Value.cells]⟩, fun _ => by simp [Vc.conc], rfl, ⟨_, Try.underlying40, trivial⟩, (fun _ h => (by cases h)), (fun h => (by cases h)), ⟨Try.t40, _, by kernel_rfl, rfl, rfl, rfl, by simp [Vc.conc, Value.cells]⟩⟩
theorem Try.ty41 : Vc.TyOK Try.prog 41 ⟨1, 16, false, [.v .nilIface], .other, false⟩ := ⟨Try.sizeOf41, Try.isAgg41, fun w => ⟨_, Try.zeroValue41 w, by simp [Vc.conc, Value.cells]⟩, fun _ => by simp [Vc.conc], rfl, ⟨_, Try.underlying41, trivial⟩, (fun _ h => (by cases h)), (fun h => (by cases h)), ⟨Try.t41, _, by kernel_rfl, rfl, rfl, rfl, by simp [Vc.conc, Value.cells]⟩⟩
theorem Try.ty42 : Vc.TyOK Try.prog 42 ⟨1, 16, false, [.v .nilIface], .other, false⟩ := ⟨Try.sizeOf42, Try.isAgg42, fun w => ⟨_, Try.zeroValue42 w, by simp [Vc.conc, Value.cells]⟩, fun _ => by simp [Vc.conc], rfl, ⟨_, Try.underlying42, trivial⟩, (fun _ h => (by cases h)), (fun h => (by cases h)), ⟨Try.t42, _, by kernel_rfl, rfl, rfl, rfl, by simp [Vc.conc, Value.cells]⟩⟩
theorem Try.ty44 : Vc.TyOK Try.prog 44 ⟨1, 8, false, [.v .nilFunc], .other, false⟩ := ⟨Try.sizeOf44, Try.isAgg44, fun w => ⟨_, Try.zeroValue44 w, by simp [Vc.conc, Value.cells]⟩, fun _ => by simp [Vc.conc], rfl, ⟨_, Try.underlying44, trivial⟩, (fun _ h => (by cases h)), (fun h => (by cases h)), ⟨Try.t44, _, by kernel_rfl, rfl, rfl, rfl, by simp [Vc.conc, Value.cells]⟩⟩
theorem Try.ty45 : Vc.TyOK Try.prog 45 ⟨1, 8, false, [.v .nilFunc], .other, false⟩ := ⟨Try.sizeOf45, Try.isAgg45, fun w => ⟨_, Try.zeroValue45 w, by simp [Vc.conc, Value.cells]⟩, fun _ => by simp [Vc.conc], rfl, ⟨_, Try.underlying45, trivial⟩, (fun _ h => (by cases h)), (fun h => (by cases h)), ⟨Try.t45, _, by kernel_rfl, rfl, rfl, rfl, by simp [Vc.conc, Value.cells]⟩⟩
theorem Try.ty46 : Vc.TyOK Try.prog 46 ⟨1, 8, false, [.v .nilFunc], .other, false⟩ := ⟨Try.sizeOf46, Try.isAgg46, fun w => ⟨_, Try.zeroValue46 w, by simp [Vc.conc, Value.cells]⟩, fun _ => by simp [Vc.conc], rfl, ⟨_, Try.underlying46, trivial⟩, (fun _ h => (by cases h)), (fun h => (by cases h)), ⟨Try.t46, _, by kernel_rfl, rfl, rfl, rfl, by simp [Vc.conc, Value.cells]⟩⟩
theorem Try.ty47 : Vc.TyOK Try.prog 47 ⟨1, 8, false, [.v .nilFunc], .other, false⟩ := ⟨Try.sizeOf47, Try.isAgg47, fun w => ⟨_, Try.zeroValue47 w, by simp [Vc.conc, Value.cells]⟩, fun _ => by simp [Vc.conc], rfl, ⟨_, Try.underlying47, trivial⟩, (fun _ h => (by cases h)), (fun h => (by cases h)), ⟨Try.t47, _, by kernel_rfl, rfl, rfl, rfl, by simp [Vc.conc, Value.cells]⟩⟩
theorem Try.ty48 : Vc.TyOK Try.prog 48 ⟨1, 8, false, [.v .nilFunc], .other, false⟩ := ⟨Try.sizeOf48, Try.isAgg48, fun w => ⟨_, Try.zeroValue48 w, by simp [Vc.conc, Value.cells]⟩, fun _ => by simp [Vc.conc], rfl, ⟨_, Try.underlying48, trivial⟩, (fun _ h => (by cases h)), (fun h => (by cases h)), ⟨Try.t48, _, by kernel_rfl, rfl, rfl, rfl, by simp [Vc.conc, Value.cells]⟩⟩
theorem Try.ty50 : Vc.TyOK Try.prog 50 ⟨1, 8, false, [.v .nilFunc], .other, false⟩ := ⟨Try.sizeOf50, Try.isAgg50, fun w => ⟨_, Try.zeroValue50 w, by simp [Vc.conc, Value.cells]⟩, fun _ => by simp [Vc.conc], rfl, ⟨_, Try.underlying50, trivial⟩, (fun _ h => (by cases h)), (fun h => (by cases h)), ⟨Try.t50, _, by kernel_rfl, rfl, rfl, rfl, by simp [Vc.conc, Value.cells]⟩⟩
theorem Try.ty51 : Vc.TyOK Try.prog 51 ⟨1, 8, false, [.v .nilFunc], .other, false⟩ := ⟨Try.sizeOf51, Try.isAgg51, fun w => ⟨_, Try.zeroValue51 w, by simp [Vc.conc, Value.cells]⟩, fun _ => by simp [Vc.conc], rfl, ⟨_, Try.underlying51, trivial⟩, (fun _ h => (by cases h)), (fun h => (by cases h)), ⟨Try.t51, _, by kernel_rfl, rfl, rfl, rfl, by simp [Vc.conc, Value.cells]⟩⟩
theorem Try.ty52 : Vc.TyOK Try.prog 52 ⟨1, 8, false, [.v .nilFunc], .other, false⟩ := ⟨Try.sizeOf52, Try.isAgg52, fun w => ⟨_, Try.zeroValue52 w, by simp [Vc.conc, Value.cells]⟩, fun _ => by simp [Vc.conc], rfl, ⟨_, Try.underlying52, trivial⟩, (fun _ h => (by cases h)), (fun h => (by cases h)), ⟨Try.t52, _, by kernel_rfl, rfl, rfl, rfl, by simp [Vc.conc, Value.cells]⟩⟩
theorem Try.ty53 : Vc.TyOK Try.prog 53 ⟨1, 8, false, [.v (.pointer none)], .ptr 5, false⟩ := ⟨Try.sizeOf53, Try.isAgg53, fun w => ⟨_, Try.zeroValue53 w, by simp [Vc.conc, Value.cells]⟩, fun _ => by simp [Vc.conc], rfl, ⟨_, Try.underlying53, rfl⟩, (fun _ h => (by cases h)), (fun h => (by cases h)), ⟨Try.t53, _, by kernel_rfl, rfl, rfl, rfl, by simp [Vc.conc, Value.cells]⟩⟩
theorem Try.ty54 : Vc.TyOK Try.prog 54 ⟨1, 8, false, [.v .nilFunc], .other, false⟩ := ⟨Try.sizeOf54, Try.isAgg54, fun w => ⟨_, Try.zeroValue54 w, by simp [Vc.conc, Value.cells]⟩, fun _ => by simp [Vc.conc], rfl, ⟨_, Try.underlying54, trivial⟩, (fun _ h => (by cases h)), (fun h => (by cases h)), ⟨Try.t54, _, by kernel_rfl, rfl, rfl, rfl, by simp [Vc.conc, Value.cells]⟩⟩
theorem Try.ty56 : Vc.TyOK Try.prog 56 ⟨1, 8, false, [.v .nilFunc], .other, false⟩ := ⟨Try.sizeOf56, Try.isAgg56, fun w => ⟨_, Try.zeroValue56 w, by simp [Vc.conc, Value.cells]⟩, fun _ => by simp [Vc.conc], rfl, ⟨_, Try.underlying56, trivial⟩, (fun _ h => (by cases h)), (fun h => (by cases h)), ⟨Try.t56, _, by kernel_rfl, rfl, rfl, rfl, by simp [Vc.conc, Value.cells]⟩⟩
theorem Try.ty57 : Vc.TyOK Try.prog 57 ⟨1, 8, false, [.v .nilFunc], .other, false⟩ := ⟨Try.sizeOf57, Try.isAgg57, fun w => ⟨_, Try.zeroValue57 w, by simp [Vc.conc, Value.cells]⟩, fun _ => by simp [Vc.conc], rfl, ⟨_, Try.underlying57, trivial⟩, (fun _ h => (by cases h)), (fun h => (by cases h)), ⟨Try.t57, _, by kernel_rfl, rfl, rfl, rfl, by simp [Vc.conc, Value.cells]⟩⟩
theorem Try.ty58 : Vc.TyOK Try.prog 58 ⟨1, 8, false, [.v .nilFunc], .other, false⟩ := ⟨Try.sizeOf58, Try.isAgg58, fun w => ⟨_, Try.zeroValue58 w, by simp [Vc.conc, Value.cells]⟩, fun _ => by simp [Vc.conc], rfl, ⟨_, Try.underlying58, trivial⟩, (fun _ h => (by cases h)), (fun h => (by cases h)), ⟨Try.t58, _, by kernel_rfl, rfl, rfl, rfl, by simp [Vc.conc, Value.cells]⟩⟩
theorem Try.ty62 : Vc.TyOK Try.prog 62 ⟨1, 8, false, [.v .nilFunc], .other, false⟩ := ⟨Try.sizeOf62, Try.isAgg62, fun w => ⟨_, Try.zeroValue62 w, by simp [Vc.conc, Value.cells]⟩, fun _ => by simp [Vc.conc], rfl, ⟨_, Try.underlying62, trivial⟩, (fun _ h => (by cases h)), (fun h => (by cases h)), ⟨Try.t62, _, by kernel_rfl, rfl, rfl, rfl, by simp [Vc.conc, Value.cells]⟩⟩
theorem Try.ty63 : Vc.TyOK Try.prog 63 ⟨1, 8, false, [.v .nilFunc], .other, false⟩ := ⟨Try.sizeOf63, Try.isAgg63, fun w => ⟨_, Try.zeroValue63 w, by simp [Vc.conc, Value.cells]⟩, fun _ => by simp [Vc.conc], rfl, ⟨_, Try.underlying63, trivial⟩, (fun _ h => (by cases h)), (fun h => (by cases h)), ⟨Try.t63, _, by kernel_rfl, rfl, rfl, rfl, by simp [Vc.conc, Value.cells]⟩⟩
theorem Try.ty64 : Vc.TyOK Try.prog 64 ⟨1, 8, false, [.v .nilFunc], .other, false⟩ := ⟨Try.sizeOf64, Try.isAgg64, fun w => ⟨_, Try.zeroValue64 w, by simp [Vc.conc, Value.cells]⟩, fun _ => by simp [Vc.conc], rfl, ⟨_, Try.underlying64, trivial⟩, (fun _ h => (by cases h)), (fun h => (by cases h)), ⟨Try.t64, _, by kernel_rfl, rfl, rfl, rfl, by simp [Vc.conc, Value.cells]⟩⟩
theorem Try.ty65 : Vc.TyOK Try.prog 65 ⟨1, 8, false, [.v .nilFunc], .other, false⟩ := ⟨Try.sizeOf65, Try.isAgg65, fun w => ⟨_, Try.zeroValue65 w, by simp [Vc.conc, Value.cells]⟩, fun _ => by simp [Vc.conc], rfl, ⟨_, Try.underlying65, trivial⟩, (fun _ h => (by cases h)), (fun h => (by cases h)), ⟨Try.t65, _, by kernel_rfl, rfl, rfl, rfl, by simp [Vc.conc, Value.cells]⟩⟩
theorem Try.ty66 : Vc.TyOK Try.prog 66 ⟨1, 8, false, [.int .u64 0], .int .u64, false⟩ := ⟨Try.sizeOf66, Try.isAgg66, fun w => ⟨_, Try.zeroValue66 w, by simp [Vc.conc, Value.cells]⟩, fun _ => by simp [Vc.conc], rfl, ⟨_, Try.underlying66, rfl⟩, (fun _ h => (by cases h)), (fun h => (by cases h)), ⟨Try.t66, _, by kernel_rfl, rfl, rfl, rfl, by simp [Vc.conc, Value.cells]⟩⟩
theorem Try.ty67 : Vc.TyOK Try.prog 67 ⟨1, 8, false, [.v (.pointer none)], .ptr 60, false⟩ := ⟨Try.sizeOf67, Try.isAgg67, fun w => ⟨_, Try.zeroValue67 w, by simp [Vc.conc, Value.cells]⟩, fun _ => by simp [Vc.conc], rfl, ⟨_, Try.underlying67, rfl⟩, (fun _ h => (by cases h)), (fun h => (by cases h)), ⟨Try.t67, _, by kernel_rfl, rfl, rfl, rfl, by simp [Vc.conc, Value.cells]⟩⟩
theorem Try.ty68 : Vc.TyOK Try.prog 68 ⟨4, 40, true, [.v (.pointer none), .v (.pointer none), .v (.pointer none), .str []], .struct [(0, 17), (1, 17), (2, 17), (3, 9)], false⟩ := ⟨Try.sizeOf68, Try.isAgg68, fun w => ⟨_, Try.zeroValue68 w, by simp [Vc.conc, Value.cells]⟩, fun _ => by simp [Vc.conc], rfl, ⟨_, Try.underlying68, ⟨_, rfl, rfl⟩⟩, (fun fs h f hf => by cases h; simp only [List.mem_cons, List.not_mem_nil, or_false] at hf; rcases hf with rfl | rfl | rfl | rfl <;> first | exact ⟨_, Try.sizeOf9⟩ | exact ⟨_, Try.sizeOf17⟩), (fun h => (by cases h)), ⟨Try.t68, _, by kernel_rfl, rfl, rfl, rfl, by simp [Vc.conc, Value.cells]⟩⟩
theorem Try.ty69 : Vc.TyOK Try.prog 69 ⟨4, 40, true, [.v (.pointer none), .v (.pointer none), .v (.pointer none), .str []], .struct [(0, 17), (1, 17), (2, 17), (3, 9)], false⟩ := ⟨Try.sizeOf69, Try.isAgg69, fun w => ⟨_, Try.zeroValue69 w, by simp [Vc.conc, Value.cells]⟩, fun _ => by simp [Vc.conc], rfl, ⟨_, Try.underlying69, ⟨_, rfl, rfl⟩⟩, (fun fs h f hf => by cases h; simp only [List.mem_cons, List.not_mem_nil, or_false] at hf; rcases hf with rfl | rfl | rfl | rfl <;> first | exact ⟨_, Try.sizeOf9⟩ | exact ⟨_, Try.sizeOf17⟩), (fun h => (by cases h)), ⟨Try.t69, _, by kernel_rfl, rfl, rfl, rfl, by simp [Vc.conc, Value.cells]⟩⟩
theorem Try.ty70 : Vc.TyOK Try.prog 70 ⟨0, 0, true, [], .arr 0 16, false⟩ := ⟨Try.sizeOf70, Try.isAgg70, fun w => ⟨_, Try.zeroValue70 w, by simp [Vc.conc, Value.cells]⟩, fun _ => by simp [Vc.conc], rfl, ⟨_, Try.underlying70, rfl⟩, (fun _ h => (by cases h)), (fun h => (by cases h)), ⟨Try.t70, _, by kernel_rfl, rfl, rfl, rfl, by simp [Vc.conc, Value.cells]⟩⟩
theorem Try.ty71 : Vc.TyOK Try.prog 71 ⟨0, 0, true, [], .struct [(0, 70)], false⟩ := ⟨Try.sizeOf71, Try.isAgg71, fun w => ⟨_, Try.zeroValue71 w, by simp [Vc.conc, Value.cells]⟩, fun _ => by simp [Vc.conc], rfl, ⟨_, Try.underlying71, ⟨_, rfl, rfl⟩⟩, (fun fs h f hf => by cases h; simp only [List.mem_cons, List.not_mem_nil, or_false] at hf; rcases hf with rfl <;> first | exact ⟨_, Try.sizeOf70⟩), (fun h => (by cases h)), ⟨Try.t71, _, by kernel_rfl, rfl, rfl, rfl, by simp [Vc.conc, Value.cells]⟩⟩
theorem Try.ty72 : Vc.TyOK Try.prog 72 ⟨0, 0, true, [], .struct [(0, 70)], false⟩ := ⟨Try.sizeOf72, Try.isAgg72, fun w => ⟨_, Try.zeroValue72 w, by simp [Vc.conc, Value.cells]⟩, fun _ => by simp [Vc.conc], rfl, ⟨_, Try.underlying72, ⟨_, rfl, rfl⟩⟩, (fun fs h f hf => by cases h; simp only [List.mem_cons, List.not_mem_nil, or_false] at hf; rcases hf with rfl <;> first | exact ⟨_, Try.sizeOf70⟩), (fun h => (by cases h)), ⟨Try.t72, _, by kernel_rfl, rfl, rfl, rfl, by simp [Vc.conc, Value.cells]⟩⟩
theorem Try.ty73 : Vc.TyOK Try.prog 73 ⟨1, 4, false, [.int .u32 0], .int .u32, false⟩ := ⟨Try.sizeOf73, Try.isAgg73, fun w => ⟨_, Try.zeroValue73 w, by simp [Vc.conc, Value.cells]⟩, fun _ => by simp [Vc.conc], rfl, ⟨_, Try.underlying73, rfl⟩, (fun _ h => (by cases h)), (fun h => (by cases h)), ⟨Try.t73, _, by kernel_rfl, rfl, rfl, rfl, by simp [Vc.conc, Value.cells]⟩⟩
theorem Try.ty74 : Vc.TyOK Try.prog 74 ⟨1, 1, false, [.int .u8 0], .int .u8, false⟩ := ⟨Try.sizeOf74, Try.isAgg74, fun w => ⟨_, Try.zeroValue74 w, by simp [Vc.conc, Value.cells]⟩, fun _ => by simp [Vc.conc], rfl, ⟨_, Try.underlying74, rfl⟩, (fun _ h => (by cases h)), (fun h => (by cases h)), ⟨Try.t74, _, by kernel_rfl, rfl, rfl, rfl, by simp [Vc.conc, Value.cells]⟩⟩
theorem Try.ty75 : Vc.TyOK Try.prog 75 ⟨1, 1, false, [.int .u8 0], .int .u8, false⟩ := ⟨Try.sizeOf75, Try.isAgg75, fun w => ⟨_, Try.zeroValue75 w, by simp [Vc.conc, Value.cells]⟩, fun _ => by simp [Vc.conc], rfl, ⟨_, Try.underlying75, rfl⟩, (fun _ h => (by cases h)), (fun h => (by cases h)), ⟨Try.t75, _, by kernel_rfl, rfl, rfl, rfl, by simp [Vc.conc, Value.cells]⟩⟩
theorem Try.ty76 : Vc.TyOK Try.prog 76 ⟨1, 8, false, [.v .nilFunc], .other, false⟩ := ⟨Try.sizeOf76, Try.isAgg76, fun w => ⟨_, Try.zeroValue76 w, by simp [Vc.conc, Value.cells]⟩, fun _ => by simp [Vc.conc], rfl, ⟨_, Try.underlying76, trivial⟩, (fun _ h => (by cases h)), (fun h => (by cases h)), ⟨Try.t76, _, by kernel_rfl, rfl, rfl, rfl, by simp [Vc.conc, Value.cells]⟩⟩
theorem Try.ty77 : Vc.TyOK Try.prog 77 ⟨1, 4, false, [.int .i32 0], .int .i32, false⟩ := ⟨Try.sizeOf77, Try.isAgg77, fun w => ⟨_, Try.zeroValue77 w, by simp [Vc.conc, Value.cells]⟩, fun _ => by simp [Vc.conc], rfl, ⟨_, Try.underlying77, rfl⟩, (fun _ h => (by cases h)), (fun h => (by cases h)), ⟨Try.t77, _, by kernel_rfl, rfl, rfl, rfl, by simp [Vc.conc, Value.cells]⟩⟩
theorem Try.ty78 : Vc.TyOK Try.prog 78 ⟨1, 4, false, [.int .i32 0], .int .i32, false⟩ := ⟨Try.sizeOf78, Try.isAgg78, fun w => ⟨_, Try.zeroValue78 w, by simp [Vc.conc, Value.cells]⟩, fun _ => by simp [Vc.conc], rfl, ⟨_, Try.underlying78, rfl⟩, (fun _ h => (by cases h)), (fun h => (by cases h)), ⟨Try.t78, _, by kernel_rfl, rfl, rfl, rfl, by simp [Vc.conc, Value.cells]⟩⟩
theorem Try.ty79 : Vc.TyOK Try.prog 79 ⟨11, 48, true, [.int .u64 0, .int .u64 0, .int .u32 0, .int .u8 0, .int .u8 0, .int .u8 0, .int .u8 0, .v .nilFunc, .v (.pointer none), .int .i32 0, .int .i32 0], .struct [(0, 12), (1, 12), (2, 73), (3, 74), (4, 5), (5, 5), (6, 75), (7, 76), (8, 53), (9, 77), (10, 78)], false⟩ := ⟨Try.sizeOf79, Try.isAgg79, fun w => ⟨_, Try.zeroValue79 w, by simp [Vc.conc, Value.cells]⟩, fun _ => by simp [Vc.conc], rfl, ⟨_, Try.underlying79, ⟨_, rfl, rfl⟩⟩, (fun fs h f hf => by cases h; simp only [List.mem_cons, List.not_mem_nil, or_false] at hf; rcases hf with rfl | rfl | rfl | rfl | rfl | rfl | rfl | rfl | rfl | rfl | rfl <;> first | exact ⟨_, Try.sizeOf5⟩ | exact ⟨_, Try.sizeOf12⟩ | exact ⟨_, Try.sizeOf53⟩ | exact ⟨_, Try.sizeOf73⟩ | exact ⟨_, Try.sizeOf74⟩ | exact ⟨_, Try.sizeOf75⟩ | exact ⟨_, Try.sizeOf76⟩ | exact ⟨_, Try.sizeOf77⟩ | exact ⟨_, Try.sizeOf78⟩), (fun h => (by cases h)), ⟨Try.t79, _, by kernel_rfl, rfl, rfl, rfl, by simp [Vc.conc, Value.cells]⟩⟩
theorem Try.ty80 : Vc.TyOK Try.prog 80 ⟨11, 48, true, [.int .u64 0, .int .u64 0, .int .u32 0, .int .u8 0, .int .u8 0, .int .u8 0, .int .u8 0, .v .nilFunc, .v (.pointer none), .int .i32 0, .int .i32 0], .struct [(0, 12), (1, 12), (2, 73), (3, 74), (4, 5), (5, 5), (6, 75), (7, 76), (8, 53), (9, 77), (10, 78)], false⟩ := ⟨Try.sizeOf80, Try.isAgg80, fun w => ⟨_, Try.zeroValue80 w, by simp [Vc.conc, Value.cells]⟩, fun _ => by simp [Vc.conc], rfl, ⟨_, Try.underlying80, ⟨_, rfl, rfl⟩⟩, (fun fs h f hf => by cases h; simp only [List.mem_cons, List.not_mem_nil, or_false] at hf; rcases hf with rfl | rfl | rfl | rfl | rfl | rfl | rfl | rfl | rfl | rfl | rfl <;> first | exact ⟨_, Try.sizeOf5⟩ | exact ⟨_, Try.sizeOf12⟩ | exact ⟨_, Try.sizeOf53⟩ | exact ⟨_, Try.sizeOf73⟩ | exact ⟨_, Try.sizeOf74⟩ | exact ⟨_, Try.sizeOf75⟩ | exact ⟨_, Try.sizeOf76⟩ | exact ⟨_, Try.sizeOf77⟩ | exact ⟨_, Try.sizeOf78⟩), (fun h => (by cases h)), ⟨Try.t80, _, by kernel_rfl, rfl, rfl, rfl, by simp [Vc.conc, Value.cells]⟩⟩
def Try.Γ : TypeId → Option Vc.TI
  | 1 => some ⟨1, 8, false, [.v .nilFunc], .other, false⟩
  | 2 => some ⟨1, 8, false, [.int .i64 0], .int .i64, false⟩
  | 3 => some ⟨1, 8, false, [.int .i64 0], .int .i64, false⟩
  | 4 => some ⟨1, 1, false, [.bool false], .bool, false⟩
  | 5 => some ⟨1, 1, false, [.int .u8 0], .int .u8, false⟩
  | 6 => some ⟨1, 1, false, [.int .u8 0], .int .u8, false⟩
  | 7 => some ⟨4, 24, true, [.int .i64 0, .int .i64 0, .bool false, .int .u8 0], .struct [(0, 2), (1, 3), (2, 4), (3, 6)], false⟩
  | 8 => some ⟨4, 24, true, [.int .i64 0, .int .i64 0, .bool false, .int .u8 0], .struct [(0, 2), (1, 3), (2, 4), (3, 6)], false⟩
  | 9 => some ⟨1, 16, false, [.str []], .str, false⟩
  | 10 => some ⟨1, 16, false, [.str []], .str, false⟩
  | 11 => some ⟨1, 16, false, [.str []], .str, false⟩
  | 12 => some ⟨1, 8, false, [.int .u64 0], .int .u64, false⟩
  | 13 => some ⟨2, 24, true, [.str [], .int .u64 0], .struct [(0, 9), (1, 12)], false⟩
  | 14 => some ⟨2, 24, true, [.str [], .int .u64 0], .struct [(0, 9), (1, 12)], false⟩
  | 15 => some ⟨1, 8, false, [.v (.pointer none)], .ptr 69, false⟩
  | 16 => some ⟨1, 8, false, [.v (.pointer none)], .ptr 72, false⟩
  | 17 => some ⟨1, 8, false, [.v (.pointer none)], .ptr 80, false⟩
  | 18 => some ⟨1, 8, true, [.v (.pointer none)], .struct [(0, 17)], false⟩
  | 19 => some ⟨1, 8, true, [.v (.pointer none)], .struct [(0, 17)], false⟩
  | 20 => some ⟨1, 16, false, [.v .nilIface], .other, false⟩
  | 21 => some ⟨1, 4, false, [.int .i32 0], .int .i32, false⟩
  | 22 => some ⟨1, 24, false, [.nils], .slice 9, false⟩
  | 23 => some ⟨1, 8, false, [.v .nilFunc], .other, false⟩
  | 24 => some ⟨1, 8, false, [.v .nilFunc], .other, false⟩
  | 25 => some ⟨1, 8, false, [.v .nilFunc], .other, false⟩
  | 26 => some ⟨1, 8, false, [.int .i64 0], .int .i64, false⟩
  | 28 => some ⟨1, 8, false, [.v .nilFunc], .other, false⟩
  | 29 => some ⟨1, 8, false, [.v .nilFunc], .other, false⟩
  | 30 => some ⟨1, 8, false, [.v .nilFunc], .other, false⟩
  | 31 => some ⟨1, 24, false, [.nils], .slice 5, false⟩
  | 32 => some ⟨1, 8, false, [.v (.pointer none)], .ptr 34, false⟩
  | 33 => some ⟨2, 32, true, [.v (.pointer none), .nils], .struct [(0, 32), (1, 31)], false⟩
  | 34 => some ⟨2, 32, true, [.v (.pointer none), .nils], .struct [(0, 32), (1, 31)], false⟩
  | 35 => some ⟨1, 8, false, [.v (.pointer none)], .ptr 38, false⟩
  | 36 => some ⟨1, 8, false, [.int .u64 0], .int .u64, false⟩
  | 37 => some ⟨2, 24, true, [.str [], .int .u64 0], .struct [(0, 9), (1, 36)], false⟩
  | 38 => some ⟨2, 24, true, [.str [], .int .u64 0], .struct [(0, 9), (1, 36)], true⟩
  | 39 => some ⟨1, 8, false, [.v .nilFunc], .other, false⟩
  | 40 => some ⟨1, 8, false, [.v .nilFunc], .other, false⟩
  | 41 => some ⟨1, 16, false, [.v .nilIface], .other, false⟩
  | 42 => some ⟨1, 16, false, [.v .nilIface], .other, false⟩
  | 44 => some ⟨1, 8, false, [.v .nilFunc], .other, false⟩
  | 45 => some ⟨1, 8, false, [.v .nilFunc], .other, false⟩
  | 46 => some ⟨1, 8, false, [.v .nilFunc], .other, false⟩
  | 47 => some ⟨1, 8, false, [.v .nilFunc], .other, false⟩
  | 48 => some ⟨1, 8, false, [.v .nilFunc], .other, false⟩
  | 50 => some ⟨1, 8, false, [.v .nilFunc], .other, false⟩
  | 51 => some ⟨1, 8, false, [.v .nilFunc], .other, false⟩
  | 52 => some ⟨1, 8, false, [.v .nilFunc], .other, false⟩
  | 53 => some ⟨1, 8, false, [.v (.pointer none)], .ptr 5, false⟩
  | 54 => some ⟨1, 8, false, [.v .nilFunc], .other, false⟩
  | 56 => some ⟨1, 8, false, [.v .nilFunc], .other, false⟩
  | 57 => some ⟨1, 8, false, [.v .nilFunc], .other, false⟩
  | 58 => some ⟨1, 8, false, [.v .nilFunc], .other, false⟩
  | 62 => some ⟨1, 8, false, [.v .nilFunc], .other, false⟩
  | 63 => some ⟨1, 8, false, [.v .nilFunc], .other, false⟩
  | 64 => some ⟨1, 8, false, [.v .nilFunc], .other, false⟩
  | 65 => some ⟨1, 8, false, [.v .nilFunc], .other, false⟩
  | 66 => some ⟨1, 8, false, [.int .u64 0], .int .u64, false⟩
  | 67 => some ⟨1, 8, false, [.v (.pointer none)], .ptr 60, false⟩
  | 68 => some ⟨4, 40, true, [.v (.pointer none), .v (.pointer none), .v (.pointer none), .str []], .struct [(0, 17), (1, 17), (2, 17), (3, 9)], false⟩
  | 69 => some ⟨4, 40, true, [.v (.pointer none), .v (.pointer none), .v (.pointer none), .str []], .struct [(0, 17), (1, 17), (2, 17), (3, 9)], false⟩
  | 70 => some ⟨0, 0, true, [], .arr 0 16, false⟩
  | 71 => some ⟨0, 0, true, [], .struct [(0, 70)], false⟩
  | 72 => some ⟨0, 0, true, [], .struct [(0, 70)], false⟩
  | 73 => some ⟨1, 4, false, [.int .u32 0], .int .u32, false⟩
  | 74 => some ⟨1, 1, false, [.int .u8 0], .int .u8, false⟩
  | 75 => some ⟨1, 1, false, [.int .u8 0], .int .u8, false⟩
  | 76 => some ⟨1, 8, false, [.v .nilFunc], .other, false⟩
  | 77 => some ⟨1, 4, false, [.int .i32 0], .int .i32, false⟩
  | 78 => some ⟨1, 4, false, [.int .i32 0], .int .i32, false⟩
  | 79 => some ⟨11, 48, true, [.int .u64 0, .int .u64 0, .int .u32 0, .int .u8 0, .int .u8 0, .int .u8 0, .int .u8 0, .v .nilFunc, .v (.pointer none), .int .i32 0, .int .i32 0], .struct [(0, 12), (1, 12), (2, 73), (3, 74), (4, 5), (5, 5), (6, 75), (7, 76), (8, 53), (9, 77), (10, 78)], false⟩
  | 80 => some ⟨11, 48, true, [.int .u64 0, .int .u64 0, .int .u32 0, .int .u8 0, .int .u8 0, .int .u8 0, .int .u8 0, .v .nilFunc, .v (.pointer none), .int .i32 0, .int .i32 0], .struct [(0, 12), (1, 12), (2, 73), (3, 74), (4, 5), (5, 5), (6, 75), (7, 76), (8, 53), (9, 77), (10, 78)], false⟩
  | _ => none
theorem Try.Γs : ((((((Try.Γ 1 = some ⟨1, 8, false, [.v .nilFunc], .other, false⟩) ∧ (Try.Γ 2 = some ⟨1, 8, false, [.int .i64 0], .int .i64, false⟩)) ∧ ((Try.Γ 3 = some ⟨1, 8, false, [.int .i64 0], .int .i64, false⟩) ∧ (Try.Γ 4 = some ⟨1, 1, false, [.bool false], .bool, false⟩))) ∧ (((Try.Γ 5 = some ⟨1, 1, false, [.int .u8 0], .int .u8, false⟩) ∧ (Try.Γ 6 = some ⟨1, 1, false, [.int .u8 0], .int .u8, false⟩)) ∧ ((Try.Γ 7 = some ⟨4, 24, true, [.int .i64 0, .int .i64 0, .bool false, .int .u8 0], .struct [(0, 2), (1, 3), (2, 4), (3, 6)], false⟩) ∧ ((Try.Γ 8 = some ⟨4, 24, true, [.int .i64 0, .int .i64 0, .bool false, .int .u8 0], .struct [(0, 2), (1, 3), (2, 4), (3, 6)], false⟩) ∧ (Try.Γ 9 = some ⟨1, 16, false, [.str []], .str, false⟩))))) ∧ ((((Try.Γ 10 = some ⟨1, 16, false, [.str []], .str, false⟩) ∧ (Try.Γ 11 = some ⟨1, 16, false, [.str []], .str, false⟩)) ∧ ((Try.Γ 12 = some ⟨1, 8, false, [.int .u64 0], .int .u64, false⟩) ∧ (Try.Γ 13 = some ⟨2, 24, true, [.str [], .int .u64 0], .struct [(0, 9), (1, 12)], false⟩))) ∧ (((Try.Γ 14 = some ⟨2, 24, true, [.str [], .int .u64 0], .struct [(0, 9), (1, 12)], false⟩) ∧ (Try.Γ 15 = some ⟨1, 8, false, [.v (.pointer none)], .ptr 69, false⟩)) ∧ ((Try.Γ 16 = some ⟨1, 8, false, [.v (.pointer none)], .ptr 72, false⟩) ∧ ((Try.Γ 17 = some ⟨1, 8, false, [.v (.pointer none)], .ptr 80, false⟩) ∧ (Try.Γ 18 = some ⟨1, 8, true, [.v (.pointer none)], .struct [(0, 17)], false⟩)))))) ∧ (((((Try.Γ 19 = some ⟨1, 8, true, [.v (.pointer none)], .struct [(0, 17)], false⟩) ∧ (Try.Γ 20 = some ⟨1, 16, false, [.v .nilIface], .other, false⟩)) ∧ ((Try.Γ 21 = some ⟨1, 4, false, [.int .i32 0], .int .i32, false⟩) ∧ (Try.Γ 22 = some ⟨1, 24, false, [.nils], .slice 9, false⟩))) ∧ (((Try.Γ 23 = some ⟨1, 8, false, [.v .nilFunc], .other, false⟩) ∧ (Try.Γ 24 = some ⟨1, 8, false, [.v .nilFunc], .other, false⟩)) ∧ ((Try.Γ 25 = some ⟨1, 8, false, [.v .nilFunc], .other, false⟩) ∧ ((Try.Γ 26 = some ⟨1, 8, false, [.int .i64 0], .int .i64, false⟩) ∧ (Try.Γ 28 = some ⟨1, 8, false, [.v .nilFunc], .other, false⟩))))) ∧ ((((Try.Γ 29 = some ⟨1, 8, false, [.v .nilFunc], .other, false⟩) ∧ (Try.Γ 30 = some ⟨1, 8, false, [.v .nilFunc], .other, false⟩)) ∧ ((Try.Γ 31 = some ⟨1, 24, false, [.nils], .slice 5, false⟩) ∧ (Try.Γ 32 = some ⟨1, 8, false, [.v (.pointer none)], .ptr 34, false⟩))) ∧ (((Try.Γ 33 = some ⟨2, 32, true, [.v (.pointer none), .nils], .struct [(0, 32), (1, 31)], false⟩) ∧ (Try.Γ 34 = some ⟨2, 32, true, [.v (.pointer none), .nils], .struct [(0, 32), (1, 31)], false⟩)) ∧ ((Try.Γ 35 = some ⟨1, 8, false, [.v (.pointer none)], .ptr 38, false⟩) ∧ ((Try.Γ 36 = some ⟨1, 8, false, [.int .u64 0], .int .u64, false⟩) ∧ (Try.Γ 37 = some ⟨2, 24, true, [.str [], .int .u64 0], .struct [(0, 9), (1, 36)], false⟩))))))) ∧ ((((((Try.Γ 38 = some ⟨2, 24, true, [.str [], .int .u64 0], .struct [(0, 9), (1, 36)], true⟩) ∧ (Try.Γ 39 = some ⟨1, 8, false, [.v .nilFunc], .other, false⟩)) ∧ ((Try.Γ 40 = some ⟨1, 8, false, [.v .nilFunc], .other, false⟩) ∧ (Try.Γ 41 = some ⟨1, 16, false, [.v .nilIface], .other, false⟩))) ∧ (((Try.Γ 42 = some ⟨1, 16, false, [.v .nilIface], .other, false⟩) ∧ (Try.Γ 44 = some ⟨1, 8, false, [.v .nilFunc], .other, false⟩)) ∧ ((Try.Γ 45 = some ⟨1, 8, false, [.v .nilFunc], .other, false⟩) ∧ ((Try.Γ 46 = some ⟨1, 8, false, [.v .nilFunc], .other, false⟩) ∧ (Try.Γ 47 = some ⟨1, 8, false, [.v .nilFunc], .other, false⟩))))) ∧ ((((Try.Γ 48 = some ⟨1, 8, false, [.v .nilFunc], .other, false⟩) ∧ (Try.Γ 50 = some ⟨1, 8, false, [.v .nilFunc], .other, false⟩)) ∧ ((Try.Γ 51 = some ⟨1, 8, false, [.v .nilFunc], .other, false⟩) ∧ (Try.Γ 52 = some ⟨1, 8, false, [.v .nilFunc], .other, false⟩))) ∧ (((Try.Γ 53 = some ⟨1, 8, false, [.v (.pointer none)], .ptr 5, false⟩) ∧ (Try.Γ 54 = some ⟨1, 8, false, [.v .nilFunc], .other, false⟩)) ∧ ((Try.Γ 56 = some ⟨1, 8, false, [.v .nilFunc], .other, false⟩) ∧ ((Try.Γ 57 = some ⟨1, 8, false, [.v .nilFunc], .other, false⟩) ∧ (Try.Γ 58 = some ⟨1, 8, false, [.v .nilFunc], .other, false⟩)))))) ∧ (((((Try.Γ 62 = some ⟨1, 8, false, [.v .nilFunc], .other, false⟩) ∧ (Try.Γ 63 = some ⟨1, 8, false, [.v .nilFunc], .other, false⟩)) ∧ ((Try.Γ 64 = some ⟨1, 8, false, [.v .nilFunc], .other, false⟩) ∧ (Try.Γ 65 = some ⟨1, 8, false, [.v .nilFunc], .other, false⟩))) ∧ (((Try.Γ 66 = some ⟨1, 8, false, [.int .u64 0], .int .u64, false⟩) ∧ (Try.Γ 67 = some ⟨1, 8, false, [.v (.pointer none)], .ptr 60, false⟩)) ∧ ((Try.Γ 68 = some ⟨4, 40, true, [.v (.pointer none), .v (.pointer none), .v (.pointer none), .str []], .struct [(0, 17), (1, 17), (2, 17), (3, 9)], false⟩) ∧ ((Try.Γ 69 = some ⟨4, 40, true, [.v (.pointer none), .v (.pointer none), .v (.pointer none), .str []], .struct [(0, 17), (1, 17), (2, 17), (3, 9)], false⟩) ∧ (Try.Γ 70 = some ⟨0, 0, true, [], .arr 0 16, false⟩))))) ∧ ((((Try.Γ 71 = some ⟨0, 0, true, [], .struct [(0, 70)], false⟩) ∧ (Try.Γ 72 = some ⟨0, 0, true, [], .struct [(0, 70)], false⟩)) ∧ ((Try.Γ 73 = some ⟨1, 4, false, [.int .u32 0], .int .u32, false⟩) ∧ ((Try.Γ 74 = some ⟨1, 1, false, [.int .u8 0], .int .u8, false⟩) ∧ (Try.Γ 75 = some ⟨1, 1, false, [.int .u8 0], .int .u8, false⟩)))) ∧ (((Try.Γ 76 = some ⟨1, 8, false, [.v .nilFunc], .other, false⟩) ∧ (Try.Γ 77 = some ⟨1, 4, false, [.int .i32 0], .int .i32, false⟩)) ∧ ((Try.Γ 78 = some ⟨1, 4, false, [.int .i32 0], .int .i32, false⟩) ∧ ((Try.Γ 79 = some ⟨11, 48, true, [.int .u64 0, .int .u64 0, .int .u32 0, .int .u8 0, .int .u8 0, .int .u8 0, .int .u8 0, .v .nilFunc, .v (.pointer none), .int .i32 0, .int .i32 0], .struct [(0, 12), (1, 12), (2, 73), (3, 74), (4, 5), (5, 5), (6, 75), (7, 76), (8, 53), (9, 77), (10, 78)], false⟩) ∧ (Try.Γ 80 = some ⟨11, 48, true, [.int .u64 0, .int .u64 0, .int .u32 0, .int .u8 0, .int .u8 0, .int .u8 0, .int .u8 0, .v .nilFunc, .v (.pointer none), .int .i32 0, .int .i32 0], .struct [(0, 12), (1, 12), (2, 73), (3, 74), (4, 5), (5, 5), (6, 75), (7, 76), (8, 53), (9, 77), (10, 78)], false⟩))))))) :=
  ⟨⟨⟨⟨⟨⟨rfl, rfl⟩, ⟨rfl, rfl⟩⟩, ⟨⟨rfl, rfl⟩, ⟨rfl, ⟨rfl, rfl⟩⟩⟩⟩, ⟨⟨⟨rfl, rfl⟩, ⟨rfl, rfl⟩⟩, ⟨⟨rfl, rfl⟩, ⟨rfl, ⟨rfl, rfl⟩⟩⟩⟩⟩, ⟨⟨⟨⟨rfl, rfl⟩, ⟨rfl, rfl⟩⟩, ⟨⟨rfl, rfl⟩, ⟨rfl, ⟨rfl, rfl⟩⟩⟩⟩, ⟨⟨⟨rfl, rfl⟩, ⟨rfl, rfl⟩⟩, ⟨⟨rfl, rfl⟩, ⟨rfl, ⟨rfl, rfl⟩⟩⟩⟩⟩⟩, ⟨⟨⟨⟨⟨rfl, rfl⟩, ⟨rfl, rfl⟩⟩, ⟨⟨rfl, rfl⟩, ⟨rfl, ⟨rfl, rfl⟩⟩⟩⟩, ⟨⟨⟨rfl, rfl⟩, ⟨rfl, rfl⟩⟩, ⟨⟨rfl, rfl⟩, ⟨rfl, ⟨rfl, rfl⟩⟩⟩⟩⟩, ⟨⟨⟨⟨rfl, rfl⟩, ⟨rfl, rfl⟩⟩, ⟨⟨rfl, rfl⟩, ⟨rfl, ⟨rfl, rfl⟩⟩⟩⟩, ⟨⟨⟨rfl, rfl⟩, ⟨rfl, ⟨rfl, rfl⟩⟩⟩, ⟨⟨rfl, rfl⟩, ⟨rfl, ⟨rfl, rfl⟩⟩⟩⟩⟩⟩⟩
theorem Try.gok : Vc.GOK Try.prog Try.Γ := by
  intro T t h
  unfold Try.Γ at h
  split at h
  · cases h; exact Try.ty1
  · cases h; exact Try.ty2
  · cases h; exact Try.ty3
  · cases h; exact Try.ty4
  · cases h; exact Try.ty5
  · cases h; exact Try.ty6
  · cases h; exact Try.ty7
  · cases h; exact Try.ty8
  · cases h; exact Try.ty9
  · cases h; exact Try.ty10
  · cases h; exact Try.ty11
  · cases h; exact Try.ty12
  · cases h; exact Try.ty13
  · cases h; exact Try.ty14
  · cases h; exact Try.ty15
  · cases h; exact Try.ty16
  · cases h; exact Try.ty17
  · cases h; exact Try.ty18
  · cases h; exact Try.ty19
  · cases h; exact Try.ty20
  · cases h; exact Try.ty21
  · cases h; exact Try.ty22
  · cases h; exact Try.ty23
  · cases h; exact Try.ty24
  · cases h; exact Try.ty25
  · cases h; exact Try.ty26
  · cases h; exact Try.ty28
  · cases h; exact Try.ty29
  · cases h; exact Try.ty30
  · cases h; exact Try.ty31
  · cases h; exact Try.ty32
  · cases h; exact Try.ty33
  · cases h; exact Try.ty34
  · cases h; exact Try.ty35
  · cases h; exact Try.ty36
  · cases h; exact Try.ty37
  · cases h; exact Try.ty38
  · cases h; exact Try.ty39
  · cases h; exact Try.ty40
  · cases h; exact Try.ty41
  · cases h; exact Try.ty42
  · cases h; exact Try.ty44
  · cases h; exact Try.ty45
  · cases h; exact Try.ty46
  · cases h; exact Try.ty47
  · cases h; exact Try.ty48
  · cases h; exact Try.ty50
  · cases h; exact Try.ty51
  · cases h; exact Try.ty52
  · cases h; exact Try.ty53
  · cases h; exact Try.ty54
  · cases h; exact Try.ty56
  · cases h; exact Try.ty57
  · cases h; exact Try.ty58
  · cases h; exact Try.ty62
  · cases h; exact Try.ty63
  · cases h; exact Try.ty64
  · cases h; exact Try.ty65
  · cases h; exact Try.ty66
  · cases h; exact Try.ty67
  · cases h; exact Try.ty68
  · cases h; exact Try.ty69
  · cases h; exact Try.ty70
  · cases h; exact Try.ty71
  · cases h; exact Try.ty72
  · cases h; exact Try.ty73
  · cases h; exact Try.ty74
  · cases h; exact Try.ty75
  · cases h; exact Try.ty76
  · cases h; exact Try.ty77
  · cases h; exact Try.ty78
  · cases h; exact Try.ty79
  · cases h; exact Try.ty80
  · cases h
end Go.Proofs
