/- The types of this program, for the calculus of conditions. -/
import Derived.Test.YtnncgbamppaacaaDoorVc
import Derived.Test.YtnncgbamppaacaaDoorProg
set_option linter.all false
namespace Go.Proofs
open Go Vc
set_option maxRecDepth 100000
set_option linter.unusedSimpArgs false
theorem Tryd.ty1 : Vc.TyOK Tryd.prog 1 ⟨1, 8, false, [.v .nilFunc], .other, false⟩ := ⟨Tryd.sizeOf1, Tryd.isAgg1, fun w => ⟨_, Tryd.zeroValue1 w, by simp [Vc.conc, Value.cells]⟩, fun _ => by simp [Vc.conc], rfl, ⟨_, Tryd.underlying1, trivial⟩, (fun _ h => (by cases h)), (fun h => (by cases h)), ⟨Tryd.t1, _, by kernel_rfl, rfl, rfl, rfl, by simp [Vc.conc, Value.cells]⟩⟩
theorem Tryd.ty2 : Vc.TyOK Tryd.prog 2 ⟨1, 8, false, [.int .i64 0], .int .i64, false⟩ := ⟨Tryd.sizeOf2, Tryd.isAgg2, fun w => ⟨_, Tryd.zeroValue2 w, by simp [Vc.conc, Value.cells]⟩, fun _ => by simp [Vc.conc], rfl, ⟨_, Tryd.underlying2, rfl⟩, (fun _ h => (by cases h)), (fun h => (by cases h)), ⟨Tryd.t2, _, by kernel_rfl, rfl, rfl, rfl, by simp [Vc.conc, Value.cells]⟩⟩
theorem Tryd.ty3 : Vc.TyOK Tryd.prog 3 ⟨1, 8, false, [.int .i64 0], .int .i64, false⟩ := ⟨Tryd.sizeOf3, Tryd.isAgg3, fun w => ⟨_, Tryd.zeroValue3 w, by simp [Vc.conc, Value.cells]⟩, fun _ => by simp [Vc.conc], rfl, ⟨_, Tryd.underlying3, rfl⟩, (fun _ h => (by cases h)), (fun h => (by cases h)), ⟨Tryd.t3, _, by kernel_rfl, rfl, rfl, rfl, by simp [Vc.conc, Value.cells]⟩⟩
theorem Tryd.ty4 : Vc.TyOK Tryd.prog 4 ⟨1, 1, false, [.bool false], .bool, false⟩ := ⟨Tryd.sizeOf4, Tryd.isAgg4, fun w => ⟨_, Tryd.zeroValue4 w, by simp [Vc.conc, Value.cells]⟩, fun _ => by simp [Vc.conc], rfl, ⟨_, Tryd.underlying4, rfl⟩, (fun _ h => (by cases h)), (fun h => (by cases h)), ⟨Tryd.t4, _, by kernel_rfl, rfl, rfl, rfl, by simp [Vc.conc, Value.cells]⟩⟩
theorem Tryd.ty5 : Vc.TyOK Tryd.prog 5 ⟨1, 1, false, [.int .u8 0], .int .u8, false⟩ := ⟨Tryd.sizeOf5, Tryd.isAgg5, fun w => ⟨_, Tryd.zeroValue5 w, by simp [Vc.conc, Value.cells]⟩, fun _ => by simp [Vc.conc], rfl, ⟨_, Tryd.underlying5, rfl⟩, (fun _ h => (by cases h)), (fun h => (by cases h)), ⟨Tryd.t5, _, by kernel_rfl, rfl, rfl, rfl, by simp [Vc.conc, Value.cells]⟩⟩
theorem Tryd.ty6 : Vc.TyOK Tryd.prog 6 ⟨1, 1, false, [.int .u8 0], .int .u8, false⟩ := ⟨Tryd.sizeOf6, Tryd.isAgg6, fun w => ⟨_, Tryd.zeroValue6 w, by simp [Vc.conc, Value.cells]⟩, fun _ => by simp [Vc.conc], rfl, ⟨_, Tryd.underlying6, rfl⟩, (fun _ h => (by cases h)), (fun h => (by cases h)), ⟨Tryd.t6, _, by kernel_rfl, rfl, rfl, rfl, by simp [Vc.conc, Value.cells]⟩⟩
theorem Tryd.ty7 : Vc.TyOK Tryd.prog 7 ⟨4, 24, true, [.int .i64 0, .int .i64 0, .bool false, .int .u8 0], .struct [(0, 2), (1, 3), (2, 4), (3, 6)], false⟩ := ⟨Tryd.sizeOf7, Tryd.isAgg7, fun w => ⟨_, Tryd.zeroValue7 w, by simp [Vc.conc, Value.cells]⟩, fun _ => by simp [Vc.conc], rfl, ⟨_, Tryd.underlying7, ⟨_, rfl, rfl⟩⟩, (fun fs h f hf => by cases h; simp only [List.mem_cons, List.not_mem_nil, or_false] at hf; rcases hf with rfl | rfl | rfl | rfl <;> first | exact ⟨_, Tryd.sizeOf2⟩ | exact ⟨_, Tryd.sizeOf3⟩ | exact ⟨_, Tryd.sizeOf4⟩ | exact ⟨_, Tryd.sizeOf6⟩), (fun h => (by cases h)), ⟨Tryd.t7, _, by kernel_rfl, rfl, rfl, rfl, by simp [Vc.conc, Value.cells]⟩⟩
theorem Tryd.ty8 : Vc.TyOK Tryd.prog 8 ⟨4, 24, true, [.int .i64 0, .int .i64 0, .bool false, .int .u8 0], .struct [(0, 2), (1, 3), (2, 4), (3, 6)], false⟩ := ⟨Tryd.sizeOf8, Tryd.isAgg8, fun w => ⟨_, Tryd.zeroValue8 w, by simp [Vc.conc, Value.cells]⟩, fun _ => by simp [Vc.conc], rfl, ⟨_, Tryd.underlying8, ⟨_, rfl, rfl⟩⟩, (fun fs h f hf => by cases h; simp only [List.mem_cons, List.not_mem_nil, or_false] at hf; rcases hf with rfl | rfl | rfl | rfl <;> first | exact ⟨_, Tryd.sizeOf2⟩ | exact ⟨_, Tryd.sizeOf3⟩ | exact ⟨_, Tryd.sizeOf4⟩ | exact ⟨_, Tryd.sizeOf6⟩), (fun h => (by cases h)), ⟨Tryd.t8, _, by kernel_rfl, rfl, rfl, rfl, by simp [Vc.conc, Value.cells]⟩⟩
theorem Tryd.ty9 : Vc.TyOK Tryd.prog 9 ⟨1, 16, false, [.str []], .str, false⟩ := ⟨Tryd.sizeOf9, Tryd.isAgg9, fun w => ⟨_, Tryd.zeroValue9 w, by simp [Vc.conc, Value.cells]⟩, fun _ => by simp [Vc.conc], rfl, ⟨_, Tryd.underlying9, rfl⟩, (fun _ h => (by cases h)), (fun h => (by cases h)), ⟨Tryd.t9, _, by kernel_rfl, rfl, rfl, rfl, by simp [Vc.conc, Value.cells]⟩⟩
theorem Tryd.ty10 : Vc.TyOK Tryd.prog 10 ⟨1, 16, false, [.str []], .str, false⟩ := ⟨Tryd.sizeOf10, Tryd.isAgg10, fun w => ⟨_, Tryd.zeroValue10 w, by simp [Vc.conc, Value.cells]⟩, fun _ => by simp [Vc.conc], rfl, ⟨_, Tryd.underlying10, rfl⟩, (fun _ h => (by cases h)), (fun h => (by cases h)), ⟨Tryd.t10, _, by kernel_rfl, rfl, rfl, rfl, by simp [Vc.conc, Value.cells]⟩⟩
theorem Tryd.ty11 : Vc.TyOK Tryd.prog 11 ⟨1, 16, false, [.str []], .str, false⟩ := ⟨Tryd.sizeOf11, Tryd.isAgg11, fun w => ⟨_, Tryd.zeroValue11 w, by simp [Vc.conc, Value.cells]⟩, fun _ => by simp [Vc.conc], rfl, ⟨_, Tryd.underlying11, rfl⟩, (fun _ h => (by cases h)), (fun h => (by cases h)), ⟨Tryd.t11, _, by kernel_rfl, rfl, rfl, rfl, by simp [Vc.conc, Value.cells]⟩⟩
theorem Tryd.ty12 : Vc.TyOK Tryd.prog 12 ⟨1, 8, false, [.int .u64 0], .int .u64, false⟩ := ⟨Tryd.sizeOf12, Tryd.isAgg12, fun w => ⟨_, Tryd.zeroValue12 w, by simp [Vc.conc, Value.cells]⟩, fun _ => by simp [Vc.conc], rfl, ⟨_, Tryd.underlying12, rfl⟩, (fun _ h => (by cases h)), (fun h => (by cases h)), ⟨Tryd.t12, _, by kernel_rfl, rfl, rfl, rfl, by simp [Vc.conc, Value.cells]⟩⟩
theorem Tryd.ty13 : Vc.TyOK Tryd.prog 13 ⟨2, 24, true, [.str [], .int .u64 0], .struct [(0, 9), (1, 12)], false⟩ := ⟨Tryd.sizeOf13, Tryd.isAgg13, fun w => ⟨_, Tryd.zeroValue13 w, by simp [Vc.conc, Value.cells]⟩, fun _ => by simp [Vc.conc], rfl, ⟨_, Tryd.underlying13, ⟨_, rfl, rfl⟩⟩, (fun fs h f hf => by cases h; simp only [List.mem_cons, List.not_mem_nil, or_false] at hf; rcases hf with rfl | rfl <;> first | exact ⟨_, Tryd.sizeOf9⟩ | exact ⟨_, Tryd.sizeOf12⟩), (fun h => (by cases h)), ⟨Tryd.t13, _, by kernel_rfl, rfl, rfl, rfl, by simp [Vc.conc, Value.cells]⟩⟩
theorem Tryd.ty14 : Vc.TyOK Tryd.prog 14 ⟨2, 24, true, [.str [], .int .u64 0], .struct [(0, 9), (1, 12)], false⟩ := ⟨Tryd.sizeOf14, Tryd.isAgg14, fun w => ⟨_, Tryd.zeroValue14 w, by simp [Vc.conc, Value.cells]⟩, fun _ => by simp [Vc.conc], rfl, ⟨_, Tryd.underlying14, ⟨_, rfl, rfl⟩⟩, (fun fs h f hf => by cases h; simp only [List.mem_cons, List.not_mem_nil, or_false] at hf; rcases hf with rfl | rfl <;> first | exact ⟨_, Tryd.sizeOf9⟩ | exact ⟨_, Tryd.sizeOf12⟩), (fun h => (by cases h)), ⟨Tryd.t14, _, by kernel_rfl, rfl, rfl, rfl, by simp [Vc.conc, Value.cells]⟩⟩
theorem Tryd.ty15 : Vc.TyOK Tryd.prog 15 ⟨1, 8, false, [.v (.pointer none)], .ptr 120, false⟩ := ⟨Tryd.sizeOf15, Tryd.isAgg15, fun w => ⟨_, Tryd.zeroValue15 w, by simp [Vc.conc, Value.cells]⟩, fun _ => by simp [Vc.conc], rfl, ⟨_, Tryd.underlying15, rfl⟩, (fun _ h => (by cases h)), (fun h => (by cases h)), ⟨Tryd.t15, _, by kernel_rfl, rfl, rfl, rfl, by simp [Vc.conc, Value.cells]⟩⟩
theorem Tryd.ty16 : Vc.TyOK Tryd.prog 16 ⟨1, 8, false, [.v (.pointer none)], .ptr 123, false⟩ := ⟨Tryd.sizeOf16, Tryd.isAgg16, fun w => ⟨_, Tryd.zeroValue16 w, by simp [Vc.conc, Value.cells]⟩, fun _ => by simp [Vc.conc], rfl, ⟨_, Tryd.underlying16, rfl⟩, (fun _ h => (by cases h)), (fun h => (by cases h)), ⟨Tryd.t16, _, by kernel_rfl, rfl, rfl, rfl, by simp [Vc.conc, Value.cells]⟩⟩
theorem Tryd.ty17 : Vc.TyOK Tryd.prog 17 ⟨1, 8, false, [.v (.pointer none)], .ptr 130, false⟩ := ⟨Tryd.sizeOf17, Tryd.isAgg17, fun w => ⟨_, Tryd.zeroValue17 w, by simp [Vc.conc, Value.cells]⟩, fun _ => by simp [Vc.conc], rfl, ⟨_, Tryd.underlying17, rfl⟩, (fun _ h => (by cases h)), (fun h => (by cases h)), ⟨Tryd.t17, _, by kernel_rfl, rfl, rfl, rfl, by simp [Vc.conc, Value.cells]⟩⟩
theorem Tryd.ty18 : Vc.TyOK Tryd.prog 18 ⟨1, 8, true, [.v (.pointer none)], .struct [(0, 17)], false⟩ := ⟨Tryd.sizeOf18, Tryd.isAgg18, fun w => ⟨_, Tryd.zeroValue18 w, by simp [Vc.conc, Value.cells]⟩, fun _ => by simp [Vc.conc], rfl, ⟨_, Tryd.underlying18, ⟨_, rfl, rfl⟩⟩, (fun fs h f hf => by cases h; simp only [List.mem_cons, List.not_mem_nil, or_false] at hf; rcases hf with rfl <;> first | exact ⟨_, Tryd.sizeOf17⟩), (fun h => (by cases h)), ⟨Tryd.t18, _, by kernel_rfl, rfl, rfl, rfl, by simp [Vc.conc, Value.cells]⟩⟩
theorem Tryd.ty19 : Vc.TyOK Tryd.prog 19 ⟨1, 8, true, [.v (.pointer none)], .struct [(0, 17)], false⟩ := ⟨Tryd.sizeOf19, Tryd.isAgg19, fun w => ⟨_, Tryd.zeroValue19 w, by simp [Vc.conc, Value.cells]⟩, fun _ => by simp [Vc.conc], rfl, ⟨_, Tryd.underlying19, ⟨_, rfl, rfl⟩⟩, (fun fs h f hf => by cases h; simp only [List.mem_cons, List.not_mem_nil, or_false] at hf; rcases hf with rfl <;> first | exact ⟨_, Tryd.sizeOf17⟩), (fun h => (by cases h)), ⟨Tryd.t19, _, by kernel_rfl, rfl, rfl, rfl, by simp [Vc.conc, Value.cells]⟩⟩
theorem Tryd.ty20 : Vc.TyOK Tryd.prog 20 ⟨1, 16, false, [.v .nilIface], .other, false⟩ := ⟨Tryd.sizeOf20, Tryd.isAgg20, fun w => ⟨_, Tryd.zeroValue20 w, by simp [Vc.conc, Value.cells]⟩, fun _ => by simp [Vc.conc], rfl, ⟨_, Tryd.underlying20, trivial⟩, (fun _ h => (by cases h)), (fun h => (by cases h)), ⟨Tryd.t20, _, by kernel_rfl, rfl, rfl, rfl, by simp [Vc.conc, Value.cells]⟩⟩
theorem Tryd.ty21 : Vc.TyOK Tryd.prog 21 ⟨1, 4, false, [.int .i32 0], .int .i32, false⟩ := ⟨Tryd.sizeOf21, Tryd.isAgg21, fun w => ⟨_, Tryd.zeroValue21 w, by simp [Vc.conc, Value.cells]⟩, fun _ => by simp [Vc.conc], rfl, ⟨_, Tryd.underlying21, rfl⟩, (fun _ h => (by cases h)), (fun h => (by cases h)), ⟨Tryd.t21, _, by kernel_rfl, rfl, rfl, rfl, by simp [Vc.conc, Value.cells]⟩⟩
theorem Tryd.ty22 : Vc.TyOK Tryd.prog 22 ⟨1, 8, false, [.v .nilFunc], .other, false⟩ := ⟨Tryd.sizeOf22, Tryd.isAgg22, fun w => ⟨_, Tryd.zeroValue22 w, by simp [Vc.conc, Value.cells]⟩, fun _ => by simp [Vc.conc], rfl, ⟨_, Tryd.underlying22, trivial⟩, (fun _ h => (by cases h)), (fun h => (by cases h)), ⟨Tryd.t22, _, by kernel_rfl, rfl, rfl, rfl, by simp [Vc.conc, Value.cells]⟩⟩
theorem Tryd.ty23 : Vc.TyOK Tryd.prog 23 ⟨2, 32, true, [.str [], .str []], .struct [(0, 9), (1, 9)], false⟩ := ⟨Tryd.sizeOf23, Tryd.isAgg23, fun w => ⟨_, Tryd.zeroValue23 w, by simp [Vc.conc, Value.cells]⟩, fun _ => by simp [Vc.conc], rfl, ⟨_, Tryd.underlying23, ⟨_, rfl, rfl⟩⟩, (fun fs h f hf => by cases h; simp only [List.mem_cons, List.not_mem_nil, or_false] at hf; rcases hf with rfl | rfl <;> first | exact ⟨_, Tryd.sizeOf9⟩), (fun h => (by cases h)), ⟨Tryd.t23, _, by kernel_rfl, rfl, rfl, rfl, by simp [Vc.conc, Value.cells]⟩⟩
theorem Tryd.ty24 : Vc.TyOK Tryd.prog 24 ⟨2, 32, true, [.str [], .str []], .struct [(0, 9), (1, 9)], true⟩ := ⟨Tryd.sizeOf24, Tryd.isAgg24, fun w => ⟨_, Tryd.zeroValue24 w, by simp [Vc.conc, Value.cells]⟩, fun _ => by simp [Vc.conc], rfl, ⟨_, Tryd.underlying24, ⟨_, rfl, rfl⟩⟩, (fun fs h f hf => by cases h; simp only [List.mem_cons, List.not_mem_nil, or_false] at hf; rcases hf with rfl | rfl <;> first | exact ⟨_, Tryd.sizeOf9⟩), (fun _ => ⟨by kernel_rfl, by kernel_rfl, by kernel_rfl⟩), ⟨Tryd.t24, _, by kernel_rfl, rfl, rfl, rfl, by simp [Vc.conc, Value.cells]⟩⟩
theorem Tryd.ty25 : Vc.TyOK Tryd.prog 25 ⟨1, 8, false, [.int .i64 0], .int .i64, false⟩ := ⟨Tryd.sizeOf25, Tryd.isAgg25, fun w => ⟨_, Tryd.zeroValue25 w, by simp [Vc.conc, Value.cells]⟩, fun _ => by simp [Vc.conc], rfl, ⟨_, Tryd.underlying25, rfl⟩, (fun _ h => (by cases h)), (fun h => (by cases h)), ⟨Tryd.t25, _, by kernel_rfl, rfl, rfl, rfl, by simp [Vc.conc, Value.cells]⟩⟩
theorem Tryd.ty27 : Vc.TyOK Tryd.prog 27 ⟨1, 8, false, [.v .nilFunc], .other, false⟩ := ⟨Tryd.sizeOf27, Tryd.isAgg27, fun w => ⟨_, Tryd.zeroValue27 w, by simp [Vc.conc, Value.cells]⟩, fun _ => by simp [Vc.conc], rfl, ⟨_, Tryd.underlying27, trivial⟩, (fun _ h => (by cases h)), (fun h => (by cases h)), ⟨Tryd.t27, _, by kernel_rfl, rfl, rfl, rfl, by simp [Vc.conc, Value.cells]⟩⟩
theorem Tryd.ty28 : Vc.TyOK Tryd.prog 28 ⟨7, 88, true, [.str [], .str [], .str [], .str [], .str [], .bool false, .bool false], .struct [(0, 24), (2, 9), (3, 9), (4, 9), (5, 4), (6, 4)], false⟩ := ⟨Tryd.sizeOf28, Tryd.isAgg28, fun w => ⟨_, Tryd.zeroValue28 w, by simp [Vc.conc, Value.cells]⟩, fun _ => by simp [Vc.conc], rfl, ⟨_, Tryd.underlying28, ⟨_, rfl, rfl⟩⟩, (fun fs h f hf => by cases h; simp only [List.mem_cons, List.not_mem_nil, or_false] at hf; rcases hf with rfl | rfl | rfl | rfl | rfl | rfl <;> first | exact ⟨_, Tryd.sizeOf4⟩ | exact ⟨_, Tryd.sizeOf9⟩ | exact ⟨_, Tryd.sizeOf24⟩), (fun h => (by cases h)), ⟨Tryd.t28, _, by kernel_rfl, rfl, rfl, rfl, by simp [Vc.conc, Value.cells]⟩⟩
theorem Tryd.ty29 : Vc.TyOK Tryd.prog 29 ⟨7, 88, true, [.str [], .str [], .str [], .str [], .str [], .bool false, .bool false], .struct [(0, 24), (2, 9), (3, 9), (4, 9), (5, 4), (6, 4)], true⟩ := ⟨Tryd.sizeOf29, Tryd.isAgg29, fun w => ⟨_, Tryd.zeroValue29 w, by simp [Vc.conc, Value.cells]⟩, fun _ => by simp [Vc.conc], rfl, ⟨_, Tryd.underlying29, ⟨_, rfl, rfl⟩⟩, (fun fs h f hf => by cases h; simp only [List.mem_cons, List.not_mem_nil, or_false] at hf; rcases hf with rfl | rfl | rfl | rfl | rfl | rfl <;> first | exact ⟨_, Tryd.sizeOf4⟩ | exact ⟨_, Tryd.sizeOf9⟩ | exact ⟨_, Tryd.sizeOf24⟩), (fun _ => ⟨by kernel_rfl, by kernel_rfl, by kernel_rfl⟩), ⟨Tryd.t29, _, by kernel_rfl, rfl, rfl, rfl, by simp [Vc.conc, Value.cells]⟩⟩
theorem Tryd.ty31 : Vc.TyOK Tryd.prog 31 ⟨1, 8, false, [.v .nilFunc], .other, false⟩ := ⟨Tryd.sizeOf31, Tryd.isAgg31, fun w => ⟨_, Tryd.zeroValue31 w, by simp [Vc.conc, Value.cells]⟩, fun _ => by simp [Vc.conc], rfl, ⟨_, Tryd.underlying31, trivial⟩, (fun _ h => (by cases h)), (fun h => (by cases h)), ⟨Tryd.t31, _, by kernel_rfl, rfl, rfl, rfl, by simp [Vc.conc, Value.cells]⟩⟩
theorem Tryd.ty32 : Vc.TyOK Tryd.prog 32 ⟨1, 8, false, [.v .nilFunc], .other, false⟩ := ⟨Tryd.sizeOf32, Tryd.isAgg32, fun w => ⟨_, Tryd.zeroValue32 w, by simp [Vc.conc, Value.cells]⟩, fun _ => by simp [Vc.conc], rfl, ⟨_, Tryd.underlying32, trivial⟩, (fun _ h => (by cases h)), (fun h => (by cases h)), ⟨Tryd.t32, _, by kernel_rfl, rfl, rfl, rfl, by simp [Vc.conc, Value.cells]⟩⟩
theorem Tryd.ty33 : Vc.TyOK Tryd.prog 33 ⟨1, 8, false, [.v .nilFunc], .other, false⟩ := ⟨Tryd.sizeOf33, Tryd.isAgg33, fun w => ⟨_, Tryd.zeroValue33 w, by simp [Vc.conc, Value.cells]⟩, fun _ => by simp [Vc.conc], rfl, ⟨_, Tryd.underlying33, trivial⟩, (fun _ h => (by cases h)), (fun h => (by cases h)), ⟨Tryd.t33, _, by kernel_rfl, rfl, rfl, rfl, by simp [Vc.conc, Value.cells]⟩⟩
theorem Tryd.ty34 : Vc.TyOK Tryd.prog 34 ⟨1, 8, false, [.v .nilFunc], .other, false⟩ := ⟨Tryd.sizeOf34, Tryd.isAgg34, fun w => ⟨_, Tryd.zeroValue34 w, by simp [Vc.conc, Value.cells]⟩, fun _ => by simp [Vc.conc], rfl, ⟨_, Tryd.underlying34, trivial⟩, (fun _ h => (by cases h)), (fun h => (by cases h)), ⟨Tryd.t34, _, by kernel_rfl, rfl, rfl, rfl, by simp [Vc.conc, Value.cells]⟩⟩
theorem Tryd.ty35 : Vc.TyOK Tryd.prog 35 ⟨1, 8, false, [.v .nilFunc], .other, false⟩ := ⟨Tryd.sizeOf35, Tryd.isAgg35, fun w => ⟨_, Tryd.zeroValue35 w, by simp [Vc.conc, Value.cells]⟩, fun _ => by simp [Vc.conc], rfl, ⟨_, Tryd.underlying35, trivial⟩, (fun _ h => (by cases h)), (fun h => (by cases h)), ⟨Tryd.t35, _, by kernel_rfl, rfl, rfl, rfl, by simp [Vc.conc, Value.cells]⟩⟩
theorem Tryd.ty36 : Vc.TyOK Tryd.prog 36 ⟨1, 24, false, [.nils], .slice 24, false⟩ := ⟨Tryd.sizeOf36, Tryd.isAgg36, fun w => ⟨_, Tryd.zeroValue36 w, by simp [Vc.conc, Value.cells]⟩, fun _ => by simp [Vc.conc], rfl, ⟨_, Tryd.underlying36, rfl⟩, (fun _ h => (by cases h)), (fun h => (by cases h)), ⟨Tryd.t36, _, by kernel_rfl, rfl, rfl, rfl, by simp [Vc.conc, Value.cells]⟩⟩
theorem Tryd.ty37 : Vc.TyOK Tryd.prog 37 ⟨1, 8, false, [.v .nilFunc], .other, false⟩ := ⟨Tryd.sizeOf37, Tryd.isAgg37, fun w => ⟨_, Tryd.zeroValue37 w, by simp [Vc.conc, Value.cells]⟩, fun _ => by simp [Vc.conc], rfl, ⟨_, Tryd.underlying37, trivial⟩, (fun _ h => (by cases h)), (fun h => (by cases h)), ⟨Tryd.t37, _, by kernel_rfl, rfl, rfl, rfl, by simp [Vc.conc, Value.cells]⟩⟩
theorem Tryd.ty38 : Vc.TyOK Tryd.prog 38 ⟨1, 8, false, [.v .nilFunc], .other, false⟩ := ⟨Tryd.sizeOf38, Tryd.isAgg38, fun w => ⟨_, Tryd.zeroValue38 w, by simp [Vc.conc, Value.cells]⟩, fun _ => by simp [Vc.conc], rfl, ⟨_, Tryd.underlying38, trivial⟩, (fun _ h => (by cases h)), (fun h => (by cases h)), ⟨Tryd.t38, _, by kernel_rfl, rfl, rfl, rfl, by simp [Vc.conc, Value.cells]⟩⟩
theorem Tryd.ty40 : Vc.TyOK Tryd.prog 40 ⟨1, 8, false, [.v .nilFunc], .other, false⟩ := ⟨Tryd.sizeOf40, Tryd.isAgg40, fun w => ⟨_, Tryd.zeroValue40 w, by simp [Vc.conc, Value.cells]⟩, fun _ => by simp [Vc.conc], rfl, ⟨_, Tryd.underlying40, trivial⟩, (fun _ h => (by cases h)), (fun h => (by cases h)), ⟨Tryd.t40, _, by kernel_rfl, rfl, rfl, rfl, by simp [Vc.conc, Value.cells]⟩⟩
theorem Tryd.ty41 : Vc.TyOK Tryd.prog 41 ⟨1, 8, false, [.v .nilFunc], .other, false⟩ := ⟨Tryd.sizeOf41, Tryd.isAgg41, fun w => ⟨_, Tryd.zeroValue41 w, by simp [Vc.conc, Value.cells]⟩, fun _ => by simp [Vc.conc], rfl, ⟨_, Tryd.underlying41, trivial⟩, (fun _ h => (by cases h)), (fun h => (by cases h)), ⟨Tryd.t41, _, by kernel_rfl, rfl, rfl, rfl, by simp [Vc.conc, Value.cells]⟩⟩
theorem Tryd.ty42 : Vc.TyOK Tryd.prog 42 ⟨1, 8, false, [.v .nilFunc], .other, false⟩ := ⟨Tryd.sizeOf42, Tryd.isAgg42, fun w => ⟨_, Tryd.zeroValue42 w, by simp [Vc.conc, Value.cells]⟩, fun _ => by simp [Vc.conc], rfl, ⟨_, Tryd.underlying42, trivial⟩, (fun _ h => (by cases h)), (fun h => (by cases h)), ⟨Tryd.t42, _, by kernel_rfl, rfl, rfl, rfl, by simp [Vc.conc, Value.cells]⟩⟩
theorem Tryd.ty43 : Vc.TyOK Tryd.prog 43 ⟨1, 8, false, [.v .nilFunc], .other, false⟩ := ⟨Tryd.sizeOf43, Tryd.isAgg43, fun w => ⟨_, Tryd.zeroValue43 w, by simp [Vc.conc, Value.cells]⟩, fun _ => by simp [Vc.conc], rfl, ⟨_, Tryd.underlying43, trivial⟩, (fun _ h => (by cases h)), (fun h => (by cases h)), ⟨Tryd.t43, _, by kernel_rfl, rfl, rfl, rfl, by simp [Vc.conc, Value.cells]⟩⟩
theorem Tryd.ty44 : Vc.TyOK Tryd.prog 44 ⟨1, 8, false, [.v .nilFunc], .other, false⟩ := ⟨Tryd.sizeOf44, Tryd.isAgg44, fun w => ⟨_, Tryd.zeroValue44 w, by simp [Vc.conc, Value.cells]⟩, fun _ => by simp [Vc.conc], rfl, ⟨_, Tryd.underlying44, trivial⟩, (fun _ h => (by cases h)), (fun h => (by cases h)), ⟨Tryd.t44, _, by kernel_rfl, rfl, rfl, rfl, by simp [Vc.conc, Value.cells]⟩⟩
theorem Tryd.ty45 : Vc.TyOK Tryd.prog 45 ⟨2, 32, true, [.str [], .str []], .struct [(0, 9), (1, 9)], false⟩ := ⟨Tryd.sizeOf45, Tryd.isAgg45, fun w => ⟨_, Tryd.zeroValue45 w, by simp [Vc.conc, Value.cells]⟩, fun _ => by simp [Vc.conc], rfl, ⟨_, Tryd.underlying45, ⟨_, rfl, rfl⟩⟩, (fun fs h f hf => by cases h; simp only [List.mem_cons, List.not_mem_nil, or_false] at hf; rcases hf with rfl | rfl <;> first | exact ⟨_, Tryd.sizeOf9⟩), (fun h => (by cases h)), ⟨Tryd.t45, _, by kernel_rfl, rfl, rfl, rfl, by simp [Vc.conc, Value.cells]⟩⟩
theorem Tryd.ty46 : Vc.TyOK Tryd.prog 46 ⟨2, 32, true, [.str [], .str []], .struct [(0, 9), (1, 9)], true⟩ := ⟨Tryd.sizeOf46, Tryd.isAgg46, fun w => ⟨_, Tryd.zeroValue46 w, by simp [Vc.conc, Value.cells]⟩, fun _ => by simp [Vc.conc], rfl, ⟨_, Tryd.underlying46, ⟨_, rfl, rfl⟩⟩, (fun fs h f hf => by cases h; simp only [List.mem_cons, List.not_mem_nil, or_false] at hf; rcases hf with rfl | rfl <;> first | exact ⟨_, Tryd.sizeOf9⟩), (fun _ => ⟨by kernel_rfl, by kernel_rfl, by kernel_rfl⟩), ⟨Tryd.t46, _, by kernel_rfl, rfl, rfl, rfl, by simp [Vc.conc, Value.cells]⟩⟩
theorem Tryd.ty47 : Vc.TyOK Tryd.prog 47 ⟨1, 8, false, [.v .nilFunc], .other, false⟩ := ⟨Tryd.sizeOf47, Tryd.isAgg47, fun w => ⟨_, Tryd.zeroValue47 w, by simp [Vc.conc, Value.cells]⟩, fun _ => by simp [Vc.conc], rfl, ⟨_, Tryd.underlying47, trivial⟩, (fun _ h => (by cases h)), (fun h => (by cases h)), ⟨Tryd.t47, _, by kernel_rfl, rfl, rfl, rfl, by simp [Vc.conc, Value.cells]⟩⟩
theorem Tryd.ty48 : Vc.TyOK Tryd.prog 48 ⟨1, 8, false, [.v .nilFunc], .other, false⟩ := ⟨Tryd.sizeOf48, Tryd.isAgg48, fun w => ⟨_, Tryd.zeroValue48 w, by simp [Vc.conc, Value.cells]⟩, fun _ => by simp [Vc.conc], rfl, ⟨_, Tryd.underlying48, trivial⟩, (fun _ h => (by cases h)), (fun h => (by cases h)), ⟨Tryd.t48, _, by kernel_rfl, rfl, rfl, rfl, by simp [Vc.conc, Value.cells]⟩⟩
theorem Tryd.ty50 : Vc.TyOK Tryd.prog 50 ⟨1, 8, false, [.v .nilFunc], .other, false⟩ := ⟨Tryd.sizeOf50, Tryd.isAgg50, fun w => ⟨_, Tryd.zeroValue50 w, by simp [Vc.conc, Value.cells]⟩, fun _ => by simp [Vc.conc], rfl, ⟨_, Tryd.underlying50, trivial⟩, (fun _ h => (by cases h)), (fun h => (by cases h)), ⟨Tryd.t50, _, by kernel_rfl, rfl, rfl, rfl, by simp [Vc.conc, Value.cells]⟩⟩
theorem Tryd.ty52 : Vc.TyOK Tryd.prog 52 ⟨1, 8, false, [.v .nilFunc], .other, false⟩ := ⟨Tryd.sizeOf52, Tryd.isAgg52, fun w => ⟨_, Tryd.zeroValue52 w, by simp [Vc.conc, Value.cells]⟩, fun _ => by simp [Vc.conc], rfl, ⟨_, Tryd.underlying52, trivial⟩, (fun _ h => (by cases h)), (fun h => (by cases h)), ⟨Tryd.t52, _, by kernel_rfl, rfl, rfl, rfl, by simp [Vc.conc, Value.cells]⟩⟩
theorem Tryd.ty54 : Vc.TyOK Tryd.prog 54 ⟨1, 8, false, [.v .nilFunc], .other, false⟩ := ⟨Tryd.sizeOf54, Tryd.isAgg54, fun w => ⟨_, Tryd.zeroValue54 w, by simp [Vc.conc, Value.cells]⟩, fun _ => by simp [Vc.conc], rfl, ⟨_, Tryd.underlying54, trivial⟩, (fun _ h => (by cases h)), (fun h => (by cases h)), ⟨Tryd.t54, _, by kernel_rfl, rfl, rfl, rfl, by simp [Vc.conc, Value.cells]⟩⟩
theorem Tryd.ty55 : Vc.TyOK Tryd.prog 55 ⟨1, 24, false, [.nils], .slice 9, false⟩ := ⟨Tryd.sizeOf55, Tryd.isAgg55, fun w => ⟨_, Tryd.zeroValue55 w, by simp [Vc.conc, Value.cells]⟩, fun _ => by simp [Vc.conc], rfl, ⟨_, Tryd.underlying55, rfl⟩, (fun _ h => (by cases h)), (fun h => (by cases h)), ⟨Tryd.t55, _, by kernel_rfl, rfl, rfl, rfl, by simp [Vc.conc, Value.cells]⟩⟩
theorem Tryd.ty56 : Vc.TyOK Tryd.prog 56 ⟨1, 8, false, [.v .nilFunc], .other, false⟩ := ⟨Tryd.sizeOf56, Tryd.isAgg56, fun w => ⟨_, Tryd.zeroValue56 w, by simp [Vc.conc, Value.cells]⟩, fun _ => by simp [Vc.conc], rfl, ⟨_, Tryd.underlying56, trivial⟩, (fun _ h => (by cases h)), (fun h => (by cases h)), ⟨Tryd.t56, _, by kernel_rfl, rfl, rfl, rfl, by simp [Vc.conc, Value.cells]⟩⟩
theorem Tryd.ty57 : Vc.TyOK Tryd.prog 57 ⟨1, 8, false, [.v .nilFunc], .other, false⟩ := ⟨Tryd.sizeOf57, Tryd.isAgg57, fun w => ⟨_, Tryd.zeroValue57 w, by simp [Vc.conc, Value.cells]⟩, fun _ => by simp [Vc.conc], rfl, ⟨_, Tryd.underlying57, trivial⟩, (fun _ h => (by cases h)), (fun h => (by cases h)), ⟨Tryd.t57, _, by kernel_rfl, rfl, rfl, rfl, by simp [Vc.conc, Value.cells]⟩⟩
theorem Tryd.ty58 : Vc.TyOK Tryd.prog 58 ⟨1, 8, false, [.v .nilFunc], .other, false⟩ := ⟨Tryd.sizeOf58, Tryd.isAgg58, fun w => ⟨_, Tryd.zeroValue58 w, by simp [Vc.conc, Value.cells]⟩, fun _ => by simp [Vc.conc], rfl, ⟨_, Tryd.underlying58, trivial⟩, (fun _ h => (by cases h)), (fun h => (by cases h)), ⟨Tryd.t58, _, by kernel_rfl, rfl, rfl, rfl, by simp [Vc.conc, Value.cells]⟩⟩
theorem Tryd.ty59 : Vc.TyOK Tryd.prog 59 ⟨1, 8, false, [.v .nilFunc], .other, false⟩ := ⟨Tryd.sizeOf59, Tryd.isAgg59, fun w => ⟨_, Tryd.zeroValue59 w, by simp [Vc.conc, Value.cells]⟩, fun _ => by simp [Vc.conc], rfl, ⟨_, Tryd.underlying59, trivial⟩, (fun _ h => (by cases h)), (fun h => (by cases h)), ⟨Tryd.t59, _, by kernel_rfl, rfl, rfl, rfl, by simp [Vc.conc, Value.cells]⟩⟩
theorem Tryd.ty60 : Vc.TyOK Tryd.prog 60 ⟨1, 8, false, [.v .nilFunc], .other, false⟩ := ⟨Tryd.sizeOf60, Tryd.isAgg60, fun w => ⟨_, Tryd.zeroValue60 w, by simp [Vc.conc, Value.cells]⟩, fun _ => by simp [Vc.conc], rfl, ⟨_, Tryd.underlying60, trivial⟩, (fun _ h => (by cases h)), (fun h => (by cases h)), ⟨Tryd.t60, _, by kernel_rfl, rfl, rfl, rfl, by simp [Vc.conc, Value.cells]⟩⟩
theorem Tryd.ty61 : Vc.TyOK Tryd.prog 61 ⟨1, 8, false, [.v .nilFunc], .other, false⟩ := ⟨Tryd.sizeOf61, Tryd.isAgg61, fun w => ⟨_, Tryd.zeroValue61 w, by simp [Vc.conc, Value.cells]⟩, fun _ => by simp [Vc.conc], rfl, ⟨_, Tryd.underlying61, trivial⟩, (fun _ h => (by cases h)), (fun h => (by cases h)), ⟨Tryd.t61, _, by kernel_rfl, rfl, rfl, rfl, by simp [Vc.conc, Value.cells]⟩⟩
theorem Tryd.ty62 : Vc.TyOK Tryd.prog 62 ⟨1, 8, false, [.v (.pointer none)], .ptr 65, false⟩ := ⟨Tryd.sizeOf62, Tryd.isAgg62, fun w => ⟨_, Tryd.zeroValue62 w, by simp [Vc.conc, Value.cells]⟩, fun _ => by simp [Vc.conc], rfl, ⟨_, Tryd.underlying62, rfl⟩, (fun _ h => (by cases h)), (fun h => (by cases h)), ⟨Tryd.t62, _, by kernel_rfl, rfl, rfl, rfl, by simp [Vc.conc, Value.cells]⟩⟩
theorem Tryd.ty63 : Vc.TyOK Tryd.prog 63 ⟨1, 24, false, [.nils], .slice 5, false⟩ := ⟨Tryd.sizeOf63, Tryd.isAgg63, fun w => ⟨_, Tryd.zeroValue63 w, by simp [Vc.conc, Value.cells]⟩, fun _ => by simp [Vc.conc], rfl, ⟨_, Tryd.underlying63, rfl⟩, (fun _ h => (by cases h)), (fun h => (by cases h)), ⟨Tryd.t63, _, by kernel_rfl, rfl, rfl, rfl, by simp [Vc.conc, Value.cells]⟩⟩
theorem Tryd.ty64 : Vc.TyOK Tryd.prog 64 ⟨2, 32, true, [.v (.pointer none), .nils], .struct [(0, 62), (1, 63)], false⟩ := ⟨Tryd.sizeOf64, Tryd.isAgg64, fun w => ⟨_, Tryd.zeroValue64 w, by simp [Vc.conc, Value.cells]⟩, fun _ => by simp [Vc.conc], rfl, ⟨_, Tryd.underlying64, ⟨_, rfl, rfl⟩⟩, (fun fs h f hf => by cases h; simp only [List.mem_cons, List.not_mem_nil, or_false] at hf; rcases hf with rfl | rfl <;> first | exact ⟨_, Tryd.sizeOf62⟩ | exact ⟨_, Tryd.sizeOf63⟩), (fun h => (by cases h)), ⟨Tryd.t64, _, by kernel_rfl, rfl, rfl, rfl, by simp [Vc.conc, Value.cells]⟩⟩
theorem Tryd.ty65 : Vc.TyOK Tryd.prog 65 ⟨2, 32, true, [.v (.pointer none), .nils], .struct [(0, 62), (1, 63)], false⟩ := ⟨Tryd.sizeOf65, Tryd.isAgg65, fun w => ⟨_, Tryd.zeroValue65 w, by simp [Vc.conc, Value.cells]⟩, fun _ => by simp [Vc.conc], rfl, ⟨_, Tryd.underlying65, ⟨_, rfl, rfl⟩⟩, (fun fs h f hf => by cases h; simp only [List.mem_cons, List.not_mem_nil, or_false] at hf; rcases hf with rfl | rfl <;> first | exact ⟨_, Tryd.sizeOf62⟩ | exact ⟨_, Tryd.sizeOf63⟩), (fun h => (by cases h)), ⟨Tryd.t65, _, by kernel_rfl, rfl, rfl, rfl, by simp [Vc.conc, Value.cells]⟩⟩
theorem Tryd.ty66 : Vc.TyOK Tryd.prog 66 ⟨1, 16, false, [.v .nilIface], .other, false⟩ := ⟨Tryd.sizeOf66, Tryd.isAgg66, fun w => ⟨_, Tryd.zeroValue66 w, by simp [Vc.conc, Value.cells]⟩, fun _ => by simp [Vc.conc], rfl, ⟨_, Tryd.underlying66, trivial⟩, (fun _ h => (by cases h)), (fun h => (by cases h)), ⟨Tryd.t66, _, by kernel_rfl, rfl, rfl, rfl, by simp [Vc.conc, Value.cells]⟩⟩
theorem Tryd.ty67 : Vc.TyOK Tryd.prog 67 ⟨1, 16, false, [.v .nilIface], .other, false⟩ := ⟨Tryd.sizeOf67, Tryd.isAgg67, fun w => ⟨_, Tryd.zeroValue67 w, by simp [Vc.conc, Value.cells]⟩, fun _ => by simp [Vc.conc], rfl, ⟨_, Tryd.underlying67, trivial⟩, (fun _ h => (by cases h)), (fun h => (by cases h)), ⟨Tryd.t67, _, by kernel_rfl, rfl, rfl, rfl, by simp [Vc.conc, Value.cells]⟩⟩
theorem Tryd.ty69 : Vc.TyOK Tryd.prog 69 ⟨1, 8, false, [.v .nilFunc], .other, false⟩ := ⟨Tryd.sizeOf69, Tryd.isAgg69, fun w => ⟨_, Tryd.zeroValue69 w, by simp [Vc.conc, Value.cells]⟩, fun _ => by simp [Vc.conc], rfl, ⟨_, Tryd.underlying69, trivial⟩, (fun _ h => (by cases h)), (fun h => (by cases h)), ⟨Tryd.t69, _, by kernel_rfl, rfl, rfl, rfl, by simp [Vc.conc, Value.cells]⟩⟩
theorem Tryd.ty70 : Vc.TyOK Tryd.prog 70 ⟨1, 8, false, [.v .nilFunc], .other, false⟩ := ⟨Tryd.sizeOf70, Tryd.isAgg70, fun w => ⟨_, Tryd.zeroValue70 w, by simp [Vc.conc, Value.cells]⟩, fun _ => by simp [Vc.conc], rfl, ⟨_, Tryd.underlying70, trivial⟩, (fun _ h => (by cases h)), (fun h => (by cases h)), ⟨Tryd.t70, _, by kernel_rfl, rfl, rfl, rfl, by simp [Vc.conc, Value.cells]⟩⟩
theorem Tryd.ty71 : Vc.TyOK Tryd.prog 71 ⟨1, 8, false, [.v .nilFunc], .other, false⟩ := ⟨Tryd.sizeOf71, Tryd.isAgg71, fun w => ⟨_, Tryd.zeroValue71 w, by simp [Vc.conc, Value.cells]⟩, fun _ => by simp [Vc.conc], rfl, ⟨_, Tryd.underlying71, trivial⟩, (fun _ h => (by cases h)), (fun h => (by cases h)), ⟨Tryd.t71, _, by kernel_rfl, rfl, rfl, rfl, by simp [Vc.conc, Value.cells]⟩⟩
theorem Tryd.ty73 : Vc.TyOK Tryd.prog 73 ⟨1, 8, false, [.v .nilFunc], .other, false⟩ := ⟨Tryd.sizeOf73, Tryd.isAgg73, fun w => ⟨_, Tryd.zeroValue73 w, by simp [Vc.conc, Value.cells]⟩, fun _ => by simp [Vc.conc], rfl, ⟨_, Tryd.underlying73, trivial⟩, (fun _ h => (by cases h)), (fun h => (by cases h)), ⟨Tryd.t73, _, by kernel_rfl, rfl, rfl, rfl, by simp [Vc.conc, Value.cells]⟩⟩
theorem Tryd.ty74 : Vc.TyOK Tryd.prog 74 ⟨1, 8, false, [.v .nilFunc], .other, false⟩ := ⟨Tryd.sizeOf74, Tryd.isAgg74, fun w => ⟨_, Tryd.zeroValue74 w, by simp [Vc.conc, Value.cells]⟩, fun _ => by simp [Vc.conc], rfl, ⟨_, Tryd.underlying74, trivial⟩, (fun _ h => (by cases h)), (fun h => (by cases h)), ⟨Tryd.t74, _, by kernel_rfl, rfl, rfl, rfl, by simp [Vc.conc, Value.cells]⟩⟩
theorem Tryd.ty75 : Vc.TyOK Tryd.prog 75 ⟨1, 8, false, [.v .nilFunc], .other, false⟩ := ⟨Tryd.sizeOf75, Tryd.isAgg75, fun w => ⟨_, Tryd.zeroValue75 w, by simp [Vc.conc, Value.cells]⟩, fun _ => by simp [Vc.conc], rfl, ⟨_, Tryd.underlying75, trivial⟩, (fun _ h => (by cases h)), (fun h => (by cases h)), ⟨Tryd.t75, _, by kernel_rfl, rfl, rfl, rfl, by simp [Vc.conc, Value.cells]⟩⟩
theorem Tryd.ty77 : Vc.TyOK Tryd.prog 77 ⟨1, 8, false, [.v .nilFunc], .other, false⟩ := ⟨Tryd.sizeOf77, Tryd.isAgg77, fun w => ⟨_, Tryd.zeroValue77 w, by simp [Vc.conc, Value.cells]⟩, fun _ => by simp [Vc.conc], rfl, ⟨_, Tryd.underlying77, trivial⟩, (fun _ h => (by cases h)), (fun h => (by cases h)), ⟨Tryd.t77, _, by kernel_rfl, rfl, rfl, rfl, by simp [Vc.conc, Value.cells]⟩⟩
theorem Tryd.ty78 : Vc.TyOK Tryd.prog 78 ⟨1, 8, false, [.v .nilFunc], .other, false⟩ := ⟨Tryd.sizeOf78, Tryd.isAgg78, fun w => ⟨_, Tryd.zeroValue78 w, by simp [Vc.conc, Value.cells]⟩, fun _ => by simp [Vc.conc], rfl, ⟨_, Tryd.underlying78, trivial⟩, (fun _ h => (by cases h)), (fun h => (by cases h)), ⟨Tryd.t78, _, by kernel_rfl, rfl, rfl, rfl, by simp [Vc.conc, Value.cells]⟩⟩
theorem Tryd.ty79 : Vc.TyOK Tryd.prog 79 ⟨1, 8, false, [.v .nilFunc], .other, false⟩ := ⟨Tryd.sizeOf79, Tryd.isAgg79, fun w => ⟨_, Tryd.zeroValue79 w, by simp [Vc.conc, Value.cells]⟩, fun _ => by simp [Vc.conc], rfl, ⟨_, Tryd.underlying79, trivial⟩, (fun _ h => (by cases h)), (fun h => (by cases h)), ⟨Tryd.t79, _, by kernel_rfl, rfl, rfl, rfl, by simp [Vc.conc, Value.cells]⟩⟩
theorem Tryd.ty80 : Vc.TyOK Tryd.prog 80 ⟨1, 24, false, [.nils], .slice 5, false⟩ := ⟨Tryd.sizeOf80, Tryd.isAgg80, fun w => ⟨_, Tryd.zeroValue80 w, by simp [Vc.conc, Value.cells]⟩, fun _ => by simp [Vc.conc], rfl, ⟨_, Tryd.underlying80, rfl⟩, (fun _ h => (by cases h)), (fun h => (by cases h)), ⟨Tryd.t80, _, by kernel_rfl, rfl, rfl, rfl, by simp [Vc.conc, Value.cells]⟩⟩
theorem Tryd.ty81 : Vc.TyOK Tryd.prog 81 ⟨1, 8, false, [.v .nilFunc], .other, false⟩ := ⟨Tryd.sizeOf81, Tryd.isAgg81, fun w => ⟨_, Tryd.zeroValue81 w, by simp [Vc.conc, Value.cells]⟩, fun _ => by simp [Vc.conc], rfl, ⟨_, Tryd.underlying81, trivial⟩, (fun _ h => (by cases h)), (fun h => (by cases h)), ⟨Tryd.t81, _, by kernel_rfl, rfl, rfl, rfl, by simp [Vc.conc, Value.cells]⟩⟩
theorem Tryd.ty82 : Vc.TyOK Tryd.prog 82 ⟨1, 8, false, [.v (.pointer none)], .ptr 5, false⟩ := ⟨Tryd.sizeOf82, Tryd.isAgg82, fun w => ⟨_, Tryd.zeroValue82 w, by simp [Vc.conc, Value.cells]⟩, fun _ => by simp [Vc.conc], rfl, ⟨_, Tryd.underlying82, rfl⟩, (fun _ h => (by cases h)), (fun h => (by cases h)), ⟨Tryd.t82, _, by kernel_rfl, rfl, rfl, rfl, by simp [Vc.conc, Value.cells]⟩⟩
theorem Tryd.ty83 : Vc.TyOK Tryd.prog 83 ⟨1, 8, false, [.v .nilFunc], .other, false⟩ := ⟨Tryd.sizeOf83, Tryd.isAgg83, fun w => ⟨_, Tryd.zeroValue83 w, by simp [Vc.conc, Value.cells]⟩, fun _ => by simp [Vc.conc], rfl, ⟨_, Tryd.underlying83, trivial⟩, (fun _ h => (by cases h)), (fun h => (by cases h)), ⟨Tryd.t83, _, by kernel_rfl, rfl, rfl, rfl, by simp [Vc.conc, Value.cells]⟩⟩
theorem Tryd.ty84 : Vc.TyOK Tryd.prog 84 ⟨1, 8, false, [.v .nilFunc], .other, false⟩ := ⟨Tryd.sizeOf84, Tryd.isAgg84, fun w => ⟨_, Tryd.zeroValue84 w, by simp [Vc.conc, Value.cells]⟩, fun _ => by simp [Vc.conc], rfl, ⟨_, Tryd.underlying84, trivial⟩, (fun _ h => (by cases h)), (fun h => (by cases h)), ⟨Tryd.t84, _, by kernel_rfl, rfl, rfl, rfl, by simp [Vc.conc, Value.cells]⟩⟩
theorem Tryd.ty85 : Vc.TyOK Tryd.prog 85 ⟨1, 8, false, [.v .nilFunc], .other, false⟩ := ⟨Tryd.sizeOf85, Tryd.isAgg85, fun w => ⟨_, Tryd.zeroValue85 w, by simp [Vc.conc, Value.cells]⟩, fun _ => by simp [Vc.conc], rfl, ⟨_, Tryd.underlying85, trivial⟩, (fun _ h => (by cases h)), (fun h => (by cases h)), ⟨Tryd.t85, _, by kernel_rfl, rfl, rfl, rfl, by simp [Vc.conc, Value.cells]⟩⟩
theorem Tryd.ty86 : Vc.TyOK Tryd.prog 86 ⟨1, 8, false, [.int .u64 0], .int .u64, false⟩ := ⟨Tryd.sizeOf86, Tryd.isAgg86, fun w => ⟨_, Tryd.zeroValue86 w, by simp [Vc.conc, Value.cells]⟩, fun _ => by simp [Vc.conc], rfl, ⟨_, Tryd.underlying86, rfl⟩, (fun _ h => (by cases h)), (fun h => (by cases h)), ⟨Tryd.t86, _, by kernel_rfl, rfl, rfl, rfl, by simp [Vc.conc, Value.cells]⟩⟩
theorem Tryd.ty88 : Vc.TyOK Tryd.prog 88 ⟨1, 8, false, [.v .nilFunc], .other, false⟩ := ⟨Tryd.sizeOf88, Tryd.isAgg88, fun w => ⟨_, Tryd.zeroValue88 w, by simp [Vc.conc, Value.cells]⟩, fun _ => by simp [Vc.conc], rfl, ⟨_, Tryd.underlying88, trivial⟩, (fun _ h => (by cases h)), (fun h => (by cases h)), ⟨Tryd.t88, _, by kernel_rfl, rfl, rfl, rfl, by simp [Vc.conc, Value.cells]⟩⟩
theorem Tryd.ty89 : Vc.TyOK Tryd.prog 89 ⟨1, 8, false, [.v .nilFunc], .other, false⟩ := ⟨Tryd.sizeOf89, Tryd.isAgg89, fun w => ⟨_, Tryd.zeroValue89 w, by simp [Vc.conc, Value.cells]⟩, fun _ => by simp [Vc.conc], rfl, ⟨_, Tryd.underlying89, trivial⟩, (fun _ h => (by cases h)), (fun h => (by cases h)), ⟨Tryd.t89, _, by kernel_rfl, rfl, rfl, rfl, by simp [Vc.conc, Value.cells]⟩⟩
theorem Tryd.ty90 : Vc.TyOK Tryd.prog 90 ⟨1, 8, false, [.int .u64 0], .int .u64, false⟩ := ⟨Tryd.sizeOf90, Tryd.isAgg90, fun w => ⟨_, Tryd.zeroValue90 w, by simp [Vc.conc, Value.cells]⟩, fun _ => by simp [Vc.conc], rfl, ⟨_, Tryd.underlying90, rfl⟩, (fun _ h => (by cases h)), (fun h => (by cases h)), ⟨Tryd.t90, _, by kernel_rfl, rfl, rfl, rfl, by simp [Vc.conc, Value.cells]⟩⟩
theorem Tryd.ty91 : Vc.TyOK Tryd.prog 91 ⟨1, 8, false, [.v (.pointer none)], .ptr 80, false⟩ := ⟨Tryd.sizeOf91, Tryd.isAgg91, fun w => ⟨_, Tryd.zeroValue91 w, by simp [Vc.conc, Value.cells]⟩, fun _ => by simp [Vc.conc], rfl, ⟨_, Tryd.underlying91, rfl⟩, (fun _ h => (by cases h)), (fun h => (by cases h)), ⟨Tryd.t91, _, by kernel_rfl, rfl, rfl, rfl, by simp [Vc.conc, Value.cells]⟩⟩
theorem Tryd.ty93 : Vc.TyOK Tryd.prog 93 ⟨1, 8, false, [.v .nilFunc], .other, false⟩ := ⟨Tryd.sizeOf93, Tryd.isAgg93, fun w => ⟨_, Tryd.zeroValue93 w, by simp [Vc.conc, Value.cells]⟩, fun _ => by simp [Vc.conc], rfl, ⟨_, Tryd.underlying93, trivial⟩, (fun _ h => (by cases h)), (fun h => (by cases h)), ⟨Tryd.t93, _, by kernel_rfl, rfl, rfl, rfl, by simp [Vc.conc, Value.cells]⟩⟩
theorem Tryd.ty94 : Vc.TyOK Tryd.prog 94 ⟨1, 8, false, [.v .nilFunc], .other, false⟩ := ⟨Tryd.sizeOf94, Tryd.isAgg94, fun w => ⟨_, Tryd.zeroValue94 w, by simp [Vc.conc, Value.cells]⟩, fun _ => by simp [Vc.conc], rfl, ⟨_, Tryd.underlying94, trivial⟩, (fun _ h => (by cases h)), (fun h => (by cases h)), ⟨Tryd.t94, _, by kernel_rfl, rfl, rfl, rfl, by simp [Vc.conc, Value.cells]⟩⟩
theorem Tryd.ty95 : Vc.TyOK Tryd.prog 95 ⟨1, 8, false, [.v .nilFunc], .other, false⟩ := ⟨Tryd.sizeOf95, Tryd.isAgg95, fun w => ⟨_, Tryd.zeroValue95 w, by simp [Vc.conc, Value.cells]⟩, fun _ => by simp [Vc.conc], rfl, ⟨_, Tryd.underlying95, trivial⟩, (fun _ h => (by cases h)), (fun h => (by cases h)), ⟨Tryd.t95, _, by kernel_rfl, rfl, rfl, rfl, by simp [Vc.conc, Value.cells]⟩⟩
theorem Tryd.ty96 : Vc.TyOK Tryd.prog 96 ⟨1, 8, false, [.v .nilFunc], .other, false⟩ := ⟨Tryd.sizeOf96, Tryd.isAgg96, fun w => ⟨_, Tryd.zeroValue96 w, by simp [Vc.conc, Value.cells]⟩, fun _ => by simp [Vc.conc], rfl, ⟨_, Tryd.underlying96, trivial⟩, (fun _ h => (by cases h)), (fun h => (by cases h)), ⟨Tryd.t96, _, by kernel_rfl, rfl, rfl, rfl, by simp [Vc.conc, Value.cells]⟩⟩
theorem Tryd.ty100 : Vc.TyOK Tryd.prog 100 ⟨1, 8, false, [.v .nilFunc], .other, false⟩ := ⟨Tryd.sizeOf100, Tryd.isAgg100, fun w => ⟨_, Tryd.zeroValue100 w, by simp [Vc.conc, Value.cells]⟩, fun _ => by simp [Vc.conc], rfl, ⟨_, Tryd.underlying100, trivial⟩, (fun _ h => (by cases h)), (fun h => (by cases h)), ⟨Tryd.t100, _, by kernel_rfl, rfl, rfl, rfl, by simp [Vc.conc, Value.cells]⟩⟩
theorem Tryd.ty101 : Vc.TyOK Tryd.prog 101 ⟨1, 8, false, [.v .nilFunc], .other, false⟩ := ⟨Tryd.sizeOf101, Tryd.isAgg101, fun w => ⟨_, Tryd.zeroValue101 w, by simp [Vc.conc, Value.cells]⟩, fun _ => by simp [Vc.conc], rfl, ⟨_, Tryd.underlying101, trivial⟩, (fun _ h => (by cases h)), (fun h => (by cases h)), ⟨Tryd.t101, _, by kernel_rfl, rfl, rfl, rfl, by simp [Vc.conc, Value.cells]⟩⟩
theorem Tryd.ty102 : Vc.TyOK Tryd.prog 102 ⟨1, 8, false, [.v .nilFunc], .other, false⟩ := ⟨Tryd.sizeOf102, Tryd.isAgg102, fun w => ⟨_, Tryd.zeroValue102 w, by simp [Vc.conc, Value.cells]⟩, fun _ => by simp [Vc.conc], rfl, ⟨_, Tryd.underlying102, trivial⟩, (fun _ h => (by cases h)), (fun h => (by cases h)), ⟨Tryd.t102, _, by kernel_rfl, rfl, rfl, rfl, by simp [Vc.conc, Value.cells]⟩⟩
theorem Tryd.ty104 : Vc.TyOK Tryd.prog 104 ⟨1, 8, false, [.v .nilFunc], .other, false⟩ := ⟨Tryd.sizeOf104, Tryd.isAgg104, fun w => ⟨_, Tryd.zeroValue104 w, by simp [Vc.conc, Value.cells]⟩, fun _ => by simp [Vc.conc], rfl, ⟨_, Tryd.underlying104, trivial⟩, (fun _ h => (by cases h)), (fun h => (by cases h)), ⟨Tryd.t104, _, by kernel_rfl, rfl, rfl, rfl, by simp [Vc.conc, Value.cells]⟩⟩
theorem Tryd.ty105 : Vc.TyOK Tryd.prog 105 ⟨1, 8, false, [.v .nilFunc], .other, false⟩ := ⟨Tryd.sizeOf105, Tryd.isAgg105, fun w => ⟨_, Tryd.zeroValue105 w, by simp [Vc.conc, Value.cells]⟩, fun _ => by simp [Vc.conc], rfl, ⟨_, Tryd.underlying105, trivial⟩, (fun _ h => (by cases h)), (fun h => (by cases h)), ⟨Tryd.t105, _, by kernel_rfl, rfl, rfl, rfl, by simp [Vc.conc, Value.cells]⟩⟩
theorem Tryd.ty106 : Vc.TyOK Tryd.prog 106 ⟨1, 8, false, [.v .nilFunc], .other, false⟩ := ⟨Tryd.sizeOf106, Tryd.isAgg106, fun w => ⟨_, Tryd.zeroValue106 w, by simp [Vc.conc, Value.cells]⟩, fun _ => by simp [Vc.conc], rfl, ⟨_, Tryd.underlying106, trivial⟩, (fun _ h => (by cases h)), (fun h => (by cases h)), ⟨Tryd.t106, _, by kernel_rfl, rfl, rfl, rfl, by simp [Vc.conc, Value.cells]⟩⟩
theorem Tryd.ty107 : Vc.TyOK Tryd.prog 107 ⟨1, 8, false, [.v (.pointer none)], .ptr 98, false⟩ := ⟨Tryd.sizeOf107, Tryd.isAgg107, fun w => ⟨_, Tryd.zeroValue107 w, by simp [Vc.conc, Value.cells]⟩, fun _ => by simp [Vc.conc], rfl, ⟨_, Tryd.underlying107, rfl⟩, (fun _ h => (by cases h)), (fun h => (by cases h)), ⟨Tryd.t107, _, by kernel_rfl, rfl, rfl, rfl, by simp [Vc.conc, Value.cells]⟩⟩
theorem Tryd.ty108 : Vc.TyOK Tryd.prog 108 ⟨1, 8, false, [.v .nilFunc], .other, false⟩ := ⟨Tryd.sizeOf108, Tryd.isAgg108, fun w => ⟨_, Tryd.zeroValue108 w, by simp [Vc.conc, Value.cells]⟩, fun _ => by simp [Vc.conc], rfl, ⟨_, Tryd.underlying108, trivial⟩, (fun _ h => (by cases h)), (fun h => (by cases h)), ⟨Tryd.t108, _, by kernel_rfl, rfl, rfl, rfl, by simp [Vc.conc, Value.cells]⟩⟩
theorem Tryd.ty109 : Vc.TyOK Tryd.prog 109 ⟨1, 8, false, [.v .nilFunc], .other, false⟩ := ⟨Tryd.sizeOf109, Tryd.isAgg109, fun w => ⟨_, Tryd.zeroValue109 w, by simp [Vc.conc, Value.cells]⟩, fun _ => by simp [Vc.conc], rfl, ⟨_, Tryd.underlying109, trivial⟩, (fun _ h => (by cases h)), (fun h => (by cases h)), ⟨Tryd.t109, _, by kernel_rfl, rfl, rfl, rfl, by simp [Vc.conc, Value.cells]⟩⟩
theorem Tryd.ty110 : Vc.TyOK Tryd.prog 110 ⟨1, 4, false, [.int .u32 0], .int .u32, false⟩ := ⟨Tryd.sizeOf110, Tryd.isAgg110, fun w => ⟨_, Tryd.zeroValue110 w, by simp [Vc.conc, Value.cells]⟩, fun _ => by simp [Vc.conc], rfl, ⟨_, Tryd.underlying110, rfl⟩, (fun _ h => (by cases h)), (fun h => (by cases h)), ⟨Tryd.t110, _, by kernel_rfl, rfl, rfl, rfl, by simp [Vc.conc, Value.cells]⟩⟩
theorem Tryd.ty112 : Vc.TyOK Tryd.prog 112 ⟨1, 8, false, [.v .nilFunc], .other, false⟩ := ⟨Tryd.sizeOf112, Tryd.isAgg112, fun w => ⟨_, Tryd.zeroValue112 w, by simp [Vc.conc, Value.cells]⟩, fun _ => by simp [Vc.conc], rfl, ⟨_, Tryd.underlying112, trivial⟩, (fun _ h => (by cases h)), (fun h => (by cases h)), ⟨Tryd.t112, _, by kernel_rfl, rfl, rfl, rfl, by simp [Vc.conc, Value.cells]⟩⟩
theorem Tryd.ty113 : Vc.TyOK Tryd.prog 113 ⟨1, 8, false, [.v .nilFunc], .other, false⟩ := ⟨Tryd.sizeOf113, Tryd.isAgg113, fun w => ⟨_, Tryd.zeroValue113 w, by simp [Vc.conc, Value.cells]⟩, fun _ => by simp [Vc.conc], rfl, ⟨_, Tryd.underlying113, trivial⟩, (fun _ h => (by cases h)), (fun h => (by cases h)), ⟨Tryd.t113, _, by kernel_rfl, rfl, rfl, rfl, by simp [Vc.conc, Value.cells]⟩⟩
theorem Tryd.ty114 : Vc.TyOK Tryd.prog 114 ⟨1, 8, false, [.v .nilFunc], .other, false⟩ := ⟨Tryd.sizeOf114, Tryd.isAgg114, fun w => ⟨_, Tryd.zeroValue114 w, by simp [Vc.conc, Value.cells]⟩, fun _ => by simp [Vc.conc], rfl, ⟨_, Tryd.underlying114, trivial⟩, (fun _ h => (by cases h)), (fun h => (by cases h)), ⟨Tryd.t114, _, by kernel_rfl, rfl, rfl, rfl, by simp [Vc.conc, Value.cells]⟩⟩
theorem Tryd.ty116 : Vc.TyOK Tryd.prog 116 ⟨2, 2, true, [.int .u8 0, .int .u8 0], .struct [(0, 5), (1, 5)], false⟩ := ⟨Tryd.sizeOf116, Tryd.isAgg116, fun w => ⟨_, Tryd.zeroValue116 w, by simp [Vc.conc, Value.cells]⟩, fun _ => by simp [Vc.conc], rfl, ⟨_, Tryd.underlying116, ⟨_, rfl, rfl⟩⟩, (fun fs h f hf => by cases h; simp only [List.mem_cons, List.not_mem_nil, or_false] at hf; rcases hf with rfl | rfl <;> first | exact ⟨_, Tryd.sizeOf5⟩), (fun h => (by cases h)), ⟨Tryd.t116, _, by kernel_rfl, rfl, rfl, rfl, by simp [Vc.conc, Value.cells]⟩⟩
theorem Tryd.ty117 : Vc.TyOK Tryd.prog 117 ⟨2, 2, true, [.int .u8 0, .int .u8 0], .struct [(0, 5), (1, 5)], false⟩ := ⟨Tryd.sizeOf117, Tryd.isAgg117, fun w => ⟨_, Tryd.zeroValue117 w, by simp [Vc.conc, Value.cells]⟩, fun _ => by simp [Vc.conc], rfl, ⟨_, Tryd.underlying117, ⟨_, rfl, rfl⟩⟩, (fun fs h f hf => by cases h; simp only [List.mem_cons, List.not_mem_nil, or_false] at hf; rcases hf with rfl | rfl <;> first | exact ⟨_, Tryd.sizeOf5⟩), (fun h => (by cases h)), ⟨Tryd.t117, _, by kernel_rfl, rfl, rfl, rfl, by simp [Vc.conc, Value.cells]⟩⟩
theorem Tryd.ty118 : Vc.TyOK Tryd.prog 118 ⟨32, 32, true, [.int .u8 0, .int .u8 0, .int .u8 0, .int .u8 0, .int .u8 0, .int .u8 0, .int .u8 0, .int .u8 0, .int .u8 0, .int .u8 0, .int .u8 0, .int .u8 0, .int .u8 0, .int .u8 0, .int .u8 0, .int .u8 0, .int .u8 0, .int .u8 0, .int .u8 0, .int .u8 0, .int .u8 0, .int .u8 0, .int .u8 0, .int .u8 0, .int .u8 0, .int .u8 0, .int .u8 0, .int .u8 0, .int .u8 0, .int .u8 0, .int .u8 0, .int .u8 0], .arr 16 117, false⟩ := ⟨Tryd.sizeOf118, Tryd.isAgg118, fun w => ⟨_, Tryd.zeroValue118 w, by simp [Vc.conc, Value.cells]⟩, fun _ => by simp [Vc.conc], rfl, ⟨_, Tryd.underlying118, rfl⟩, (fun _ h => (by cases h)), (fun h => (by cases h)), ⟨Tryd.t118, _, by kernel_rfl, rfl, rfl, rfl, by simp [Vc.conc, Value.cells]⟩⟩
theorem Tryd.ty119 : Vc.TyOK Tryd.prog 119 ⟨4, 40, true, [.v (.pointer none), .v (.pointer none), .v (.pointer none), .str []], .struct [(0, 17), (1, 17), (2, 17), (3, 9)], false⟩ := ⟨Tryd.sizeOf119, Tryd.isAgg119, fun w => ⟨_, Tryd.zeroValue119 w, by simp [Vc.conc, Value.cells]⟩, fun _ => by simp [Vc.conc], rfl, ⟨_, Tryd.underlying119, ⟨_, rfl, rfl⟩⟩, (fun fs h f hf => by cases h; simp only [List.mem_cons, List.not_mem_nil, or_false] at hf; rcases hf with rfl | rfl | rfl | rfl <;> first | exact ⟨_, Tryd.sizeOf9⟩ | exact ⟨_, Tryd.sizeOf17⟩), (fun h => (by cases h)), ⟨Tryd.t119, _, by kernel_rfl, rfl, rfl, rfl, by simp [Vc.conc, Value.cells]⟩⟩
theorem Tryd.ty120 : Vc.TyOK Tryd.prog 120 ⟨4, 40, true, [.v (.pointer none), .v (.pointer none), .v (.pointer none), .str []], .struct [(0, 17), (1, 17), (2, 17), (3, 9)], false⟩ := ⟨Tryd.sizeOf120, Tryd.isAgg120, fun w => ⟨_, Tryd.zeroValue120 w, by simp [Vc.conc, Value.cells]⟩, fun _ => by simp [Vc.conc], rfl, ⟨_, Tryd.underlying120, ⟨_, rfl, rfl⟩⟩, (fun fs h f hf => by cases h; simp only [List.mem_cons, List.not_mem_nil, or_false] at hf; rcases hf with rfl | rfl | rfl | rfl <;> first | exact ⟨_, Tryd.sizeOf9⟩ | exact ⟨_, Tryd.sizeOf17⟩), (fun h => (by cases h)), ⟨Tryd.t120, _, by kernel_rfl, rfl, rfl, rfl, by simp [Vc.conc, Value.cells]⟩⟩
theorem Tryd.ty121 : Vc.TyOK Tryd.prog 121 ⟨0, 0, true, [], .arr 0 16, false⟩ := ⟨Tryd.sizeOf121, Tryd.isAgg121, fun w => ⟨_, Tryd.zeroValue121 w, by simp [Vc.conc, Value.cells]⟩, fun _ => by simp [Vc.conc], rfl, ⟨_, Tryd.underlying121, rfl⟩, (fun _ h => (by cases h)), (fun h => (by cases h)), ⟨Tryd.t121, _, by kernel_rfl, rfl, rfl, rfl, by simp [Vc.conc, Value.cells]⟩⟩
theorem Tryd.ty122 : Vc.TyOK Tryd.prog 122 ⟨0, 0, true, [], .struct [(0, 121)], false⟩ := ⟨Tryd.sizeOf122, Tryd.isAgg122, fun w => ⟨_, Tryd.zeroValue122 w, by simp [Vc.conc, Value.cells]⟩, fun _ => by simp [Vc.conc], rfl, ⟨_, Tryd.underlying122, ⟨_, rfl, rfl⟩⟩, (fun fs h f hf => by cases h; simp only [List.mem_cons, List.not_mem_nil, or_false] at hf; rcases hf with rfl <;> first | exact ⟨_, Tryd.sizeOf121⟩), (fun h => (by cases h)), ⟨Tryd.t122, _, by kernel_rfl, rfl, rfl, rfl, by simp [Vc.conc, Value.cells]⟩⟩
theorem Tryd.ty123 : Vc.TyOK Tryd.prog 123 ⟨0, 0, true, [], .struct [(0, 121)], false⟩ := ⟨Tryd.sizeOf123, Tryd.isAgg123, fun w => ⟨_, Tryd.zeroValue123 w, by simp [Vc.conc, Value.cells]⟩, fun _ => by simp [Vc.conc], rfl, ⟨_, Tryd.underlying123, ⟨_, rfl, rfl⟩⟩, (fun fs h f hf => by cases h; simp only [List.mem_cons, List.not_mem_nil, or_false] at hf; rcases hf with rfl <;> first | exact ⟨_, Tryd.sizeOf121⟩), (fun h => (by cases h)), ⟨Tryd.t123, _, by kernel_rfl, rfl, rfl, rfl, by simp [Vc.conc, Value.cells]⟩⟩
theorem Tryd.ty124 : Vc.TyOK Tryd.prog 124 ⟨1, 1, false, [.int .u8 0], .int .u8, false⟩ := ⟨Tryd.sizeOf124, Tryd.isAgg124, fun w => ⟨_, Tryd.zeroValue124 w, by simp [Vc.conc, Value.cells]⟩, fun _ => by simp [Vc.conc], rfl, ⟨_, Tryd.underlying124, rfl⟩, (fun _ h => (by cases h)), (fun h => (by cases h)), ⟨Tryd.t124, _, by kernel_rfl, rfl, rfl, rfl, by simp [Vc.conc, Value.cells]⟩⟩
theorem Tryd.ty125 : Vc.TyOK Tryd.prog 125 ⟨1, 1, false, [.int .u8 0], .int .u8, false⟩ := ⟨Tryd.sizeOf125, Tryd.isAgg125, fun w => ⟨_, Tryd.zeroValue125 w, by simp [Vc.conc, Value.cells]⟩, fun _ => by simp [Vc.conc], rfl, ⟨_, Tryd.underlying125, rfl⟩, (fun _ h => (by cases h)), (fun h => (by cases h)), ⟨Tryd.t125, _, by kernel_rfl, rfl, rfl, rfl, by simp [Vc.conc, Value.cells]⟩⟩
theorem Tryd.ty126 : Vc.TyOK Tryd.prog 126 ⟨1, 8, false, [.v .nilFunc], .other, false⟩ := ⟨Tryd.sizeOf126, Tryd.isAgg126, fun w => ⟨_, Tryd.zeroValue126 w, by simp [Vc.conc, Value.cells]⟩, fun _ => by simp [Vc.conc], rfl, ⟨_, Tryd.underlying126, trivial⟩, (fun _ h => (by cases h)), (fun h => (by cases h)), ⟨Tryd.t126, _, by kernel_rfl, rfl, rfl, rfl, by simp [Vc.conc, Value.cells]⟩⟩
theorem Tryd.ty127 : Vc.TyOK Tryd.prog 127 ⟨1, 4, false, [.int .i32 0], .int .i32, false⟩ := ⟨Tryd.sizeOf127, Tryd.isAgg127, fun w => ⟨_, Tryd.zeroValue127 w, by simp [Vc.conc, Value.cells]⟩, fun _ => by simp [Vc.conc], rfl, ⟨_, Tryd.underlying127, rfl⟩, (fun _ h => (by cases h)), (fun h => (by cases h)), ⟨Tryd.t127, _, by kernel_rfl, rfl, rfl, rfl, by simp [Vc.conc, Value.cells]⟩⟩
theorem Tryd.ty128 : Vc.TyOK Tryd.prog 128 ⟨1, 4, false, [.int .i32 0], .int .i32, false⟩ := ⟨Tryd.sizeOf128, Tryd.isAgg128, fun w => ⟨_, Tryd.zeroValue128 w, by simp [Vc.conc, Value.cells]⟩, fun _ => by simp [Vc.conc], rfl, ⟨_, Tryd.underlying128, rfl⟩, (fun _ h => (by cases h)), (fun h => (by cases h)), ⟨Tryd.t128, _, by kernel_rfl, rfl, rfl, rfl, by simp [Vc.conc, Value.cells]⟩⟩
theorem Tryd.ty129 : Vc.TyOK Tryd.prog 129 ⟨11, 48, true, [.int .u64 0, .int .u64 0, .int .u32 0, .int .u8 0, .int .u8 0, .int .u8 0, .int .u8 0, .v .nilFunc, .v (.pointer none), .int .i32 0, .int .i32 0], .struct [(0, 12), (1, 12), (2, 110), (3, 124), (4, 5), (5, 5), (6, 125), (7, 126), (8, 82), (9, 127), (10, 128)], false⟩ := ⟨Tryd.sizeOf129, Tryd.isAgg129, fun w => ⟨_, Tryd.zeroValue129 w, by simp [Vc.conc, Value.cells]⟩, fun _ => by simp [Vc.conc], rfl, ⟨_, Tryd.underlying129, ⟨_, rfl, rfl⟩⟩, (fun fs h f hf => by cases h; simp only [List.mem_cons, List.not_mem_nil, or_false] at hf; rcases hf with rfl | rfl | rfl | rfl | rfl | rfl | rfl | rfl | rfl | rfl | rfl <;> first | exact ⟨_, Tryd.sizeOf5⟩ | exact ⟨_, Tryd.sizeOf12⟩ | exact ⟨_, Tryd.sizeOf82⟩ | exact ⟨_, Tryd.sizeOf110⟩ | exact ⟨_, Tryd.sizeOf124⟩ | exact ⟨_, Tryd.sizeOf125⟩ | exact ⟨_, Tryd.sizeOf126⟩ | exact ⟨_, Tryd.sizeOf127⟩ | exact ⟨_, Tryd.sizeOf128⟩), (fun h => (by cases h)), ⟨Tryd.t129, _, by kernel_rfl, rfl, rfl, rfl, by simp [Vc.conc, Value.cells]⟩⟩
theorem Tryd.ty130 : Vc.TyOK Tryd.prog 130 ⟨11, 48, true, [.int .u64 0, .int .u64 0, .int .u32 0, .int .u8 0, .int .u8 0, .int .u8 0, .int .u8 0, .v .nilFunc, .v (.pointer none), .int .i32 0, .int .i32 0], .struct [(0, 12), (1, 12), (2, 110), (3, 124), (4, 5), (5, 5), (6, 125), (7, 126), (8, 82), (9, 127), (10, 128)], false⟩ := ⟨Tryd.sizeOf130, Tryd.isAgg130, fun w => ⟨_, Tryd.zeroValue130 w, by simp [Vc.conc, Value.cells]⟩, fun _ => by simp [Vc.conc], rfl, ⟨_, Tryd.underlying130, ⟨_, rfl, rfl⟩⟩, (fun fs h f hf => by cases h; simp only [List.mem_cons, List.not_mem_nil, or_false] at hf; rcases hf with rfl | rfl | rfl | rfl | rfl | rfl | rfl | rfl | rfl | rfl | rfl <;> first | exact ⟨_, Tryd.sizeOf5⟩ | exact ⟨_, Tryd.sizeOf12⟩ | exact ⟨_, Tryd.sizeOf82⟩ | exact ⟨_, Tryd.sizeOf110⟩ | exact ⟨_, Tryd.sizeOf124⟩ | exact ⟨_, Tryd.sizeOf125⟩ | exact ⟨_, Tryd.sizeOf126⟩ | exact ⟨_, Tryd.sizeOf127⟩ | exact ⟨_, Tryd.sizeOf128⟩), (fun h => (by cases h)), ⟨Tryd.t130, _, by kernel_rfl, rfl, rfl, rfl, by simp [Vc.conc, Value.cells]⟩⟩
def Tryd.Γ : TypeId → Option Vc.TI
  | 1 => some ⟨1, 8, false, [.v .nilFunc], .other, false⟩
  | 2 => some ⟨1, 8, false, [.int .i64 0], .int .i64, false⟩
  | 3 => some ⟨1, 8, false, [.int .i64 0], .int .i64, false⟩
  | 4 => some ⟨1, 1, false, [.bool false], .bool, false⟩
  | 5 => some ⟨1, 1, false, [.int .u8 0], .int .u8, false⟩
  | 6 => some ⟨1, 1, false, [.int .u8 0], .int .u8, false⟩
  | 7 => some ⟨4, 24, true, [.int .i64 0, .int .i64 0, .bool false, .int .u8 0], .struct [(0, 2), (1, 3), (2, 4), (3, 6)], false⟩
  | 8 => some ⟨4, 24, true, [.int .i64 0, .int .i64 0, .bool false, .int .u8 0], .struct [(0, 2), (1, 3), (2, 4), (3, 6)], false⟩
  | 9 => some ⟨1, 16, false, [.str []], .str, false⟩
  | 10 => some ⟨1, 16, false, [.str []], .str, false⟩
  | 11 => some ⟨1, 16, false, [.str []], .str, false⟩
  | 12 => some ⟨1, 8, false, [.int .u64 0], .int .u64, false⟩
  | 13 => some ⟨2, 24, true, [.str [], .int .u64 0], .struct [(0, 9), (1, 12)], false⟩
  | 14 => some ⟨2, 24, true, [.str [], .int .u64 0], .struct [(0, 9), (1, 12)], false⟩
  | 15 => some ⟨1, 8, false, [.v (.pointer none)], .ptr 120, false⟩
  | 16 => some ⟨1, 8, false, [.v (.pointer none)], .ptr 123, false⟩
  | 17 => some ⟨1, 8, false, [.v (.pointer none)], .ptr 130, false⟩
  | 18 => some ⟨1, 8, true, [.v (.pointer none)], .struct [(0, 17)], false⟩
  | 19 => some ⟨1, 8, true, [.v (.pointer none)], .struct [(0, 17)], false⟩
  | 20 => some ⟨1, 16, false, [.v .nilIface], .other, false⟩
  | 21 => some ⟨1, 4, false, [.int .i32 0], .int .i32, false⟩
  | 22 => some ⟨1, 8, false, [.v .nilFunc], .other, false⟩
  | 23 => some ⟨2, 32, true, [.str [], .str []], .struct [(0, 9), (1, 9)], false⟩
  | 24 => some ⟨2, 32, true, [.str [], .str []], .struct [(0, 9), (1, 9)], true⟩
  | 25 => some ⟨1, 8, false, [.int .i64 0], .int .i64, false⟩
  | 27 => some ⟨1, 8, false, [.v .nilFunc], .other, false⟩
  | 28 => some ⟨7, 88, true, [.str [], .str [], .str [], .str [], .str [], .bool false, .bool false], .struct [(0, 24), (2, 9), (3, 9), (4, 9), (5, 4), (6, 4)], false⟩
  | 29 => some ⟨7, 88, true, [.str [], .str [], .str [], .str [], .str [], .bool false, .bool false], .struct [(0, 24), (2, 9), (3, 9), (4, 9), (5, 4), (6, 4)], true⟩
  | 31 => some ⟨1, 8, false, [.v .nilFunc], .other, false⟩
  | 32 => some ⟨1, 8, false, [.v .nilFunc], .other, false⟩
  | 33 => some ⟨1, 8, false, [.v .nilFunc], .other, false⟩
  | 34 => some ⟨1, 8, false, [.v .nilFunc], .other, false⟩
  | 35 => some ⟨1, 8, false, [.v .nilFunc], .other, false⟩
  | 36 => some ⟨1, 24, false, [.nils], .slice 24, false⟩
  | 37 => some ⟨1, 8, false, [.v .nilFunc], .other, false⟩
  | 38 => some ⟨1, 8, false, [.v .nilFunc], .other, false⟩
  | 40 => some ⟨1, 8, false, [.v .nilFunc], .other, false⟩
  | 41 => some ⟨1, 8, false, [.v .nilFunc], .other, false⟩
  | 42 => some ⟨1, 8, false, [.v .nilFunc], .other, false⟩
  | 43 => some ⟨1, 8, false, [.v .nilFunc], .other, false⟩
  | 44 => some ⟨1, 8, false, [.v .nilFunc], .other, false⟩
  | 45 => some ⟨2, 32, true, [.str [], .str []], .struct [(0, 9), (1, 9)], false⟩
  | 46 => some ⟨2, 32, true, [.str [], .str []], .struct [(0, 9), (1, 9)], true⟩
  | 47 => some ⟨1, 8, false, [.v .nilFunc], .other, false⟩
  | 48 => some ⟨1, 8, false, [.v .nilFunc], .other, false⟩
  | 50 => some ⟨1, 8, false, [.v .nilFunc], .other, false⟩
  | 52 => some ⟨1, 8, false, [.v .nilFunc], .other, false⟩
  | 54 => some ⟨1, 8, false, [.v .nilFunc], .other, false⟩
  | 55 => some ⟨1, 24, false, [.nils], .slice 9, false⟩
  | 56 => some ⟨1, 8, false, [.v .nilFunc], .other, false⟩
  | 57 => some ⟨1, 8, false, [.v .nilFunc], .other, false⟩
  | 58 => some ⟨1, 8, false, [.v .nilFunc], .other, false⟩
  | 59 => some ⟨1, 8, false, [.v .nilFunc], .other, false⟩
  | 60 => some ⟨1, 8, false, [.v .nilFunc], .other, false⟩
  | 61 => some ⟨1, 8, false, [.v .nilFunc], .other, false⟩
  | 62 => some ⟨1, 8, false, [.v (.pointer none)], .ptr 65, false⟩
  | 63 => some ⟨1, 24, false, [.nils], .slice 5, false⟩
  | 64 => some ⟨2, 32, true, [.v (.pointer none), .nils], .struct [(0, 62), (1, 63)], false⟩
  | 65 => some ⟨2, 32, true, [.v (.pointer none), .nils], .struct [(0, 62), (1, 63)], false⟩
  | 66 => some ⟨1, 16, false, [.v .nilIface], .other, false⟩
  | 67 => some ⟨1, 16, false, [.v .nilIface], .other, false⟩
  | 69 => some ⟨1, 8, false, [.v .nilFunc], .other, false⟩
  | 70 => some ⟨1, 8, false, [.v .nilFunc], .other, false⟩
  | 71 => some ⟨1, 8, false, [.v .nilFunc], .other, false⟩
  | 73 => some ⟨1, 8, false, [.v .nilFunc], .other, false⟩
  | 74 => some ⟨1, 8, false, [.v .nilFunc], .other, false⟩
  | 75 => some ⟨1, 8, false, [.v .nilFunc], .other, false⟩
  | 77 => some ⟨1, 8, false, [.v .nilFunc], .other, false⟩
  | 78 => some ⟨1, 8, false, [.v .nilFunc], .other, false⟩
  | 79 => some ⟨1, 8, false, [.v .nilFunc], .other, false⟩
  | 80 => some ⟨1, 24, false, [.nils], .slice 5, false⟩
  | 81 => some ⟨1, 8, false, [.v .nilFunc], .other, false⟩
  | 82 => some ⟨1, 8, false, [.v (.pointer none)], .ptr 5, false⟩
  | 83 => some ⟨1, 8, false, [.v .nilFunc], .other, false⟩
  | 84 => some ⟨1, 8, false, [.v .nilFunc], .other, false⟩
  | 85 => some ⟨1, 8, false, [.v .nilFunc], .other, false⟩
  | 86 => some ⟨1, 8, false, [.int .u64 0], .int .u64, false⟩
  | 88 => some ⟨1, 8, false, [.v .nilFunc], .other, false⟩
  | 89 => some ⟨1, 8, false, [.v .nilFunc], .other, false⟩
  | 90 => some ⟨1, 8, false, [.int .u64 0], .int .u64, false⟩
  | 91 => some ⟨1, 8, false, [.v (.pointer none)], .ptr 80, false⟩
  | 93 => some ⟨1, 8, false, [.v .nilFunc], .other, false⟩
  | 94 => some ⟨1, 8, false, [.v .nilFunc], .other, false⟩
  | 95 => some ⟨1, 8, false, [.v .nilFunc], .other, false⟩
  | 96 => some ⟨1, 8, false, [.v .nilFunc], .other, false⟩
  | 100 => some ⟨1, 8, false, [.v .nilFunc], .other, false⟩
  | 101 => some ⟨1, 8, false, [.v .nilFunc], .other, false⟩
  | 102 => some ⟨1, 8, false, [.v .nilFunc], .other, false⟩
  | 104 => some ⟨1, 8, false, [.v .nilFunc], .other, false⟩
  | 105 => some ⟨1, 8, false, [.v .nilFunc], .other, false⟩
  | 106 => some ⟨1, 8, false, [.v .nilFunc], .other, false⟩
  | 107 => some ⟨1, 8, false, [.v (.pointer none)], .ptr 98, false⟩
  | 108 => some ⟨1, 8, false, [.v .nilFunc], .other, false⟩
  | 109 => some ⟨1, 8, false, [.v .nilFunc], .other, false⟩
  | 110 => some ⟨1, 4, false, [.int .u32 0], .int .u32, false⟩
  | 112 => some ⟨1, 8, false, [.v .nilFunc], .other, false⟩
  | 113 => some ⟨1, 8, false, [.v .nilFunc], .other, false⟩
  | 114 => some ⟨1, 8, false, [.v .nilFunc], .other, false⟩
  | 116 => some ⟨2, 2, true, [.int .u8 0, .int .u8 0], .struct [(0, 5), (1, 5)], false⟩
  | 117 => some ⟨2, 2, true, [.int .u8 0, .int .u8 0], .struct [(0, 5), (1, 5)], false⟩
  | 118 => some ⟨32, 32, true, [.int .u8 0, .int .u8 0, .int .u8 0, .int .u8 0, .int .u8 0, .int .u8 0, .int .u8 0, .int .u8 0, .int .u8 0, .int .u8 0, .int .u8 0, .int .u8 0, .int .u8 0, .int .u8 0, .int .u8 0, .int .u8 0, .int .u8 0, .int .u8 0, .int .u8 0, .int .u8 0, .int .u8 0, .int .u8 0, .int .u8 0, .int .u8 0, .int .u8 0, .int .u8 0, .int .u8 0, .int .u8 0, .int .u8 0, .int .u8 0, .int .u8 0, .int .u8 0], .arr 16 117, false⟩
  | 119 => some ⟨4, 40, true, [.v (.pointer none), .v (.pointer none), .v (.pointer none), .str []], .struct [(0, 17), (1, 17), (2, 17), (3, 9)], false⟩
  | 120 => some ⟨4, 40, true, [.v (.pointer none), .v (.pointer none), .v (.pointer none), .str []], .struct [(0, 17), (1, 17), (2, 17), (3, 9)], false⟩
  | 121 => some ⟨0, 0, true, [], .arr 0 16, false⟩
  | 122 => some ⟨0, 0, true, [], .struct [(0, 121)], false⟩
  | 123 => some ⟨0, 0, true, [], .struct [(0, 121)], false⟩
  | 124 => some ⟨1, 1, false, [.int .u8 0], .int .u8, false⟩
  | 125 => some ⟨1, 1, false, [.int .u8 0], .int .u8, false⟩
  | 126 => some ⟨1, 8, false, [.v .nilFunc], .other, false⟩
  | 127 => some ⟨1, 4, false, [.int .i32 0], .int .i32, false⟩
  | 128 => some ⟨1, 4, false, [.int .i32 0], .int .i32, false⟩
  | 129 => some ⟨11, 48, true, [.int .u64 0, .int .u64 0, .int .u32 0, .int .u8 0, .int .u8 0, .int .u8 0, .int .u8 0, .v .nilFunc, .v (.pointer none), .int .i32 0, .int .i32 0], .struct [(0, 12), (1, 12), (2, 110), (3, 124), (4, 5), (5, 5), (6, 125), (7, 126), (8, 82), (9, 127), (10, 128)], false⟩
  | 130 => some ⟨11, 48, true, [.int .u64 0, .int .u64 0, .int .u32 0, .int .u8 0, .int .u8 0, .int .u8 0, .int .u8 0, .v .nilFunc, .v (.pointer none), .int .i32 0, .int .i32 0], .struct [(0, 12), (1, 12), (2, 110), (3, 124), (4, 5), (5, 5), (6, 125), (7, 126), (8, 82), (9, 127), (10, 128)], false⟩
  | _ => none
theorem Tryd.Γs : ((((((Tryd.Γ 1 = some ⟨1, 8, false, [.v .nilFunc], .other, false⟩) ∧ ((Tryd.Γ 2 = some ⟨1, 8, false, [.int .i64 0], .int .i64, false⟩) ∧ (Tryd.Γ 3 = some ⟨1, 8, false, [.int .i64 0], .int .i64, false⟩))) ∧ (((Tryd.Γ 4 = some ⟨1, 1, false, [.bool false], .bool, false⟩) ∧ (Tryd.Γ 5 = some ⟨1, 1, false, [.int .u8 0], .int .u8, false⟩)) ∧ ((Tryd.Γ 6 = some ⟨1, 1, false, [.int .u8 0], .int .u8, false⟩) ∧ (Tryd.Γ 7 = some ⟨4, 24, true, [.int .i64 0, .int .i64 0, .bool false, .int .u8 0], .struct [(0, 2), (1, 3), (2, 4), (3, 6)], false⟩)))) ∧ (((Tryd.Γ 8 = some ⟨4, 24, true, [.int .i64 0, .int .i64 0, .bool false, .int .u8 0], .struct [(0, 2), (1, 3), (2, 4), (3, 6)], false⟩) ∧ ((Tryd.Γ 9 = some ⟨1, 16, false, [.str []], .str, false⟩) ∧ (Tryd.Γ 10 = some ⟨1, 16, false, [.str []], .str, false⟩))) ∧ (((Tryd.Γ 11 = some ⟨1, 16, false, [.str []], .str, false⟩) ∧ (Tryd.Γ 12 = some ⟨1, 8, false, [.int .u64 0], .int .u64, false⟩)) ∧ ((Tryd.Γ 13 = some ⟨2, 24, true, [.str [], .int .u64 0], .struct [(0, 9), (1, 12)], false⟩) ∧ (Tryd.Γ 14 = some ⟨2, 24, true, [.str [], .int .u64 0], .struct [(0, 9), (1, 12)], false⟩))))) ∧ ((((Tryd.Γ 15 = some ⟨1, 8, false, [.v (.pointer none)], .ptr 120, false⟩) ∧ ((Tryd.Γ 16 = some ⟨1, 8, false, [.v (.pointer none)], .ptr 123, false⟩) ∧ (Tryd.Γ 17 = some ⟨1, 8, false, [.v (.pointer none)], .ptr 130, false⟩))) ∧ (((Tryd.Γ 18 = some ⟨1, 8, true, [.v (.pointer none)], .struct [(0, 17)], false⟩) ∧ (Tryd.Γ 19 = some ⟨1, 8, true, [.v (.pointer none)], .struct [(0, 17)], false⟩)) ∧ ((Tryd.Γ 20 = some ⟨1, 16, false, [.v .nilIface], .other, false⟩) ∧ (Tryd.Γ 21 = some ⟨1, 4, false, [.int .i32 0], .int .i32, false⟩)))) ∧ (((Tryd.Γ 22 = some ⟨1, 8, false, [.v .nilFunc], .other, false⟩) ∧ ((Tryd.Γ 23 = some ⟨2, 32, true, [.str [], .str []], .struct [(0, 9), (1, 9)], false⟩) ∧ (Tryd.Γ 24 = some ⟨2, 32, true, [.str [], .str []], .struct [(0, 9), (1, 9)], true⟩))) ∧ (((Tryd.Γ 25 = some ⟨1, 8, false, [.int .i64 0], .int .i64, false⟩) ∧ (Tryd.Γ 27 = some ⟨1, 8, false, [.v .nilFunc], .other, false⟩)) ∧ ((Tryd.Γ 28 = some ⟨7, 88, true, [.str [], .str [], .str [], .str [], .str [], .bool false, .bool false], .struct [(0, 24), (2, 9), (3, 9), (4, 9), (5, 4), (6, 4)], false⟩) ∧ (Tryd.Γ 29 = some ⟨7, 88, true, [.str [], .str [], .str [], .str [], .str [], .bool false, .bool false], .struct [(0, 24), (2, 9), (3, 9), (4, 9), (5, 4), (6, 4)], true⟩)))))) ∧ (((((Tryd.Γ 31 = some ⟨1, 8, false, [.v .nilFunc], .other, false⟩) ∧ ((Tryd.Γ 32 = some ⟨1, 8, false, [.v .nilFunc], .other, false⟩) ∧ (Tryd.Γ 33 = some ⟨1, 8, false, [.v .nilFunc], .other, false⟩))) ∧ (((Tryd.Γ 34 = some ⟨1, 8, false, [.v .nilFunc], .other, false⟩) ∧ (Tryd.Γ 35 = some ⟨1, 8, false, [.v .nilFunc], .other, false⟩)) ∧ ((Tryd.Γ 36 = some ⟨1, 24, false, [.nils], .slice 24, false⟩) ∧ (Tryd.Γ 37 = some ⟨1, 8, false, [.v .nilFunc], .other, false⟩)))) ∧ (((Tryd.Γ 38 = some ⟨1, 8, false, [.v .nilFunc], .other, false⟩) ∧ ((Tryd.Γ 40 = some ⟨1, 8, false, [.v .nilFunc], .other, false⟩) ∧ (Tryd.Γ 41 = some ⟨1, 8, false, [.v .nilFunc], .other, false⟩))) ∧ (((Tryd.Γ 42 = some ⟨1, 8, false, [.v .nilFunc], .other, false⟩) ∧ (Tryd.Γ 43 = some ⟨1, 8, false, [.v .nilFunc], .other, false⟩)) ∧ ((Tryd.Γ 44 = some ⟨1, 8, false, [.v .nilFunc], .other, false⟩) ∧ (Tryd.Γ 45 = some ⟨2, 32, true, [.str [], .str []], .struct [(0, 9), (1, 9)], false⟩))))) ∧ ((((Tryd.Γ 46 = some ⟨2, 32, true, [.str [], .str []], .struct [(0, 9), (1, 9)], true⟩) ∧ ((Tryd.Γ 47 = some ⟨1, 8, false, [.v .nilFunc], .other, false⟩) ∧ (Tryd.Γ 48 = some ⟨1, 8, false, [.v .nilFunc], .other, false⟩))) ∧ (((Tryd.Γ 50 = some ⟨1, 8, false, [.v .nilFunc], .other, false⟩) ∧ (Tryd.Γ 52 = some ⟨1, 8, false, [.v .nilFunc], .other, false⟩)) ∧ ((Tryd.Γ 54 = some ⟨1, 8, false, [.v .nilFunc], .other, false⟩) ∧ (Tryd.Γ 55 = some ⟨1, 24, false, [.nils], .slice 9, false⟩)))) ∧ (((Tryd.Γ 56 = some ⟨1, 8, false, [.v .nilFunc], .other, false⟩) ∧ ((Tryd.Γ 57 = some ⟨1, 8, false, [.v .nilFunc], .other, false⟩) ∧ (Tryd.Γ 58 = some ⟨1, 8, false, [.v .nilFunc], .other, false⟩))) ∧ (((Tryd.Γ 59 = some ⟨1, 8, false, [.v .nilFunc], .other, false⟩) ∧ (Tryd.Γ 60 = some ⟨1, 8, false, [.v .nilFunc], .other, false⟩)) ∧ ((Tryd.Γ 61 = some ⟨1, 8, false, [.v .nilFunc], .other, false⟩) ∧ (Tryd.Γ 62 = some ⟨1, 8, false, [.v (.pointer none)], .ptr 65, false⟩))))))) ∧ ((((((Tryd.Γ 63 = some ⟨1, 24, false, [.nils], .slice 5, false⟩) ∧ ((Tryd.Γ 64 = some ⟨2, 32, true, [.v (.pointer none), .nils], .struct [(0, 62), (1, 63)], false⟩) ∧ (Tryd.Γ 65 = some ⟨2, 32, true, [.v (.pointer none), .nils], .struct [(0, 62), (1, 63)], false⟩))) ∧ (((Tryd.Γ 66 = some ⟨1, 16, false, [.v .nilIface], .other, false⟩) ∧ (Tryd.Γ 67 = some ⟨1, 16, false, [.v .nilIface], .other, false⟩)) ∧ ((Tryd.Γ 69 = some ⟨1, 8, false, [.v .nilFunc], .other, false⟩) ∧ (Tryd.Γ 70 = some ⟨1, 8, false, [.v .nilFunc], .other, false⟩)))) ∧ (((Tryd.Γ 71 = some ⟨1, 8, false, [.v .nilFunc], .other, false⟩) ∧ ((Tryd.Γ 73 = some ⟨1, 8, false, [.v .nilFunc], .other, false⟩) ∧ (Tryd.Γ 74 = some ⟨1, 8, false, [.v .nilFunc], .other, false⟩))) ∧ (((Tryd.Γ 75 = some ⟨1, 8, false, [.v .nilFunc], .other, false⟩) ∧ (Tryd.Γ 77 = some ⟨1, 8, false, [.v .nilFunc], .other, false⟩)) ∧ ((Tryd.Γ 78 = some ⟨1, 8, false, [.v .nilFunc], .other, false⟩) ∧ (Tryd.Γ 79 = some ⟨1, 8, false, [.v .nilFunc], .other, false⟩))))) ∧ ((((Tryd.Γ 80 = some ⟨1, 24, false, [.nils], .slice 5, false⟩) ∧ ((Tryd.Γ 81 = some ⟨1, 8, false, [.v .nilFunc], .other, false⟩) ∧ (Tryd.Γ 82 = some ⟨1, 8, false, [.v (.pointer none)], .ptr 5, false⟩))) ∧ (((Tryd.Γ 83 = some ⟨1, 8, false, [.v .nilFunc], .other, false⟩) ∧ (Tryd.Γ 84 = some ⟨1, 8, false, [.v .nilFunc], .other, false⟩)) ∧ ((Tryd.Γ 85 = some ⟨1, 8, false, [.v .nilFunc], .other, false⟩) ∧ (Tryd.Γ 86 = some ⟨1, 8, false, [.int .u64 0], .int .u64, false⟩)))) ∧ (((Tryd.Γ 88 = some ⟨1, 8, false, [.v .nilFunc], .other, false⟩) ∧ ((Tryd.Γ 89 = some ⟨1, 8, false, [.v .nilFunc], .other, false⟩) ∧ (Tryd.Γ 90 = some ⟨1, 8, false, [.int .u64 0], .int .u64, false⟩))) ∧ (((Tryd.Γ 91 = some ⟨1, 8, false, [.v (.pointer none)], .ptr 80, false⟩) ∧ (Tryd.Γ 93 = some ⟨1, 8, false, [.v .nilFunc], .other, false⟩)) ∧ ((Tryd.Γ 94 = some ⟨1, 8, false, [.v .nilFunc], .other, false⟩) ∧ (Tryd.Γ 95 = some ⟨1, 8, false, [.v .nilFunc], .other, false⟩)))))) ∧ (((((Tryd.Γ 96 = some ⟨1, 8, false, [.v .nilFunc], .other, false⟩) ∧ ((Tryd.Γ 100 = some ⟨1, 8, false, [.v .nilFunc], .other, false⟩) ∧ (Tryd.Γ 101 = some ⟨1, 8, false, [.v .nilFunc], .other, false⟩))) ∧ (((Tryd.Γ 102 = some ⟨1, 8, false, [.v .nilFunc], .other, false⟩) ∧ (Tryd.Γ 104 = some ⟨1, 8, false, [.v .nilFunc], .other, false⟩)) ∧ ((Tryd.Γ 105 = some ⟨1, 8, false, [.v .nilFunc], .other, false⟩) ∧ (Tryd.Γ 106 = some ⟨1, 8, false, [.v .nilFunc], .other, false⟩)))) ∧ (((Tryd.Γ 107 = some ⟨1, 8, false, [.v (.pointer none)], .ptr 98, false⟩) ∧ ((Tryd.Γ 108 = some ⟨1, 8, false, [.v .nilFunc], .other, false⟩) ∧ (Tryd.Γ 109 = some ⟨1, 8, false, [.v .nilFunc], .other, false⟩))) ∧ (((Tryd.Γ 110 = some ⟨1, 4, false, [.int .u32 0], .int .u32, false⟩) ∧ (Tryd.Γ 112 = some ⟨1, 8, false, [.v .nilFunc], .other, false⟩)) ∧ ((Tryd.Γ 113 = some ⟨1, 8, false, [.v .nilFunc], .other, false⟩) ∧ (Tryd.Γ 114 = some ⟨1, 8, false, [.v .nilFunc], .other, false⟩))))) ∧ ((((Tryd.Γ 116 = some ⟨2, 2, true, [.int .u8 0, .int .u8 0], .struct [(0, 5), (1, 5)], false⟩) ∧ ((Tryd.Γ 117 = some ⟨2, 2, true, [.int .u8 0, .int .u8 0], .struct [(0, 5), (1, 5)], false⟩) ∧ (Tryd.Γ 118 = some ⟨32, 32, true, [.int .u8 0, .int .u8 0, .int .u8 0, .int .u8 0, .int .u8 0, .int .u8 0, .int .u8 0, .int .u8 0, .int .u8 0, .int .u8 0, .int .u8 0, .int .u8 0, .int .u8 0, .int .u8 0, .int .u8 0, .int .u8 0, .int .u8 0, .int .u8 0, .int .u8 0, .int .u8 0, .int .u8 0, .int .u8 0, .int .u8 0, .int .u8 0, .int .u8 0, .int .u8 0, .int .u8 0, .int .u8 0, .int .u8 0, .int .u8 0, .int .u8 0, .int .u8 0], .arr 16 117, false⟩))) ∧ (((Tryd.Γ 119 = some ⟨4, 40, true, [.v (.pointer none), .v (.pointer none), .v (.pointer none), .str []], .struct [(0, 17), (1, 17), (2, 17), (3, 9)], false⟩) ∧ (Tryd.Γ 120 = some ⟨4, 40, true, [.v (.pointer none), .v (.pointer none), .v (.pointer none), .str []], .struct [(0, 17), (1, 17), (2, 17), (3, 9)], false⟩)) ∧ ((Tryd.Γ 121 = some ⟨0, 0, true, [], .arr 0 16, false⟩) ∧ (Tryd.Γ 122 = some ⟨0, 0, true, [], .struct [(0, 121)], false⟩)))) ∧ ((((Tryd.Γ 123 = some ⟨0, 0, true, [], .struct [(0, 121)], false⟩) ∧ (Tryd.Γ 124 = some ⟨1, 1, false, [.int .u8 0], .int .u8, false⟩)) ∧ ((Tryd.Γ 125 = some ⟨1, 1, false, [.int .u8 0], .int .u8, false⟩) ∧ (Tryd.Γ 126 = some ⟨1, 8, false, [.v .nilFunc], .other, false⟩))) ∧ (((Tryd.Γ 127 = some ⟨1, 4, false, [.int .i32 0], .int .i32, false⟩) ∧ (Tryd.Γ 128 = some ⟨1, 4, false, [.int .i32 0], .int .i32, false⟩)) ∧ ((Tryd.Γ 129 = some ⟨11, 48, true, [.int .u64 0, .int .u64 0, .int .u32 0, .int .u8 0, .int .u8 0, .int .u8 0, .int .u8 0, .v .nilFunc, .v (.pointer none), .int .i32 0, .int .i32 0], .struct [(0, 12), (1, 12), (2, 110), (3, 124), (4, 5), (5, 5), (6, 125), (7, 126), (8, 82), (9, 127), (10, 128)], false⟩) ∧ (Tryd.Γ 130 = some ⟨11, 48, true, [.int .u64 0, .int .u64 0, .int .u32 0, .int .u8 0, .int .u8 0, .int .u8 0, .int .u8 0, .v .nilFunc, .v (.pointer none), .int .i32 0, .int .i32 0], .struct [(0, 12), (1, 12), (2, 110), (3, 124), (4, 5), (5, 5), (6, 125), (7, 126), (8, 82), (9, 127), (10, 128)], false⟩))))))) :=
  ⟨⟨⟨⟨⟨⟨rfl, ⟨rfl, rfl⟩⟩, ⟨⟨rfl, rfl⟩, ⟨rfl, rfl⟩⟩⟩, ⟨⟨rfl, ⟨rfl, rfl⟩⟩, ⟨⟨rfl, rfl⟩, ⟨rfl, rfl⟩⟩⟩⟩, ⟨⟨⟨rfl, ⟨rfl, rfl⟩⟩, ⟨⟨rfl, rfl⟩, ⟨rfl, rfl⟩⟩⟩, ⟨⟨rfl, ⟨rfl, rfl⟩⟩, ⟨⟨rfl, rfl⟩, ⟨rfl, rfl⟩⟩⟩⟩⟩, ⟨⟨⟨⟨rfl, ⟨rfl, rfl⟩⟩, ⟨⟨rfl, rfl⟩, ⟨rfl, rfl⟩⟩⟩, ⟨⟨rfl, ⟨rfl, rfl⟩⟩, ⟨⟨rfl, rfl⟩, ⟨rfl, rfl⟩⟩⟩⟩, ⟨⟨⟨rfl, ⟨rfl, rfl⟩⟩, ⟨⟨rfl, rfl⟩, ⟨rfl, rfl⟩⟩⟩, ⟨⟨rfl, ⟨rfl, rfl⟩⟩, ⟨⟨rfl, rfl⟩, ⟨rfl, rfl⟩⟩⟩⟩⟩⟩, ⟨⟨⟨⟨⟨rfl, ⟨rfl, rfl⟩⟩, ⟨⟨rfl, rfl⟩, ⟨rfl, rfl⟩⟩⟩, ⟨⟨rfl, ⟨rfl, rfl⟩⟩, ⟨⟨rfl, rfl⟩, ⟨rfl, rfl⟩⟩⟩⟩, ⟨⟨⟨rfl, ⟨rfl, rfl⟩⟩, ⟨⟨rfl, rfl⟩, ⟨rfl, rfl⟩⟩⟩, ⟨⟨rfl, ⟨rfl, rfl⟩⟩, ⟨⟨rfl, rfl⟩, ⟨rfl, rfl⟩⟩⟩⟩⟩, ⟨⟨⟨⟨rfl, ⟨rfl, rfl⟩⟩, ⟨⟨rfl, rfl⟩, ⟨rfl, rfl⟩⟩⟩, ⟨⟨rfl, ⟨rfl, rfl⟩⟩, ⟨⟨rfl, rfl⟩, ⟨rfl, rfl⟩⟩⟩⟩, ⟨⟨⟨rfl, ⟨rfl, rfl⟩⟩, ⟨⟨rfl, rfl⟩, ⟨rfl, rfl⟩⟩⟩, ⟨⟨⟨rfl, rfl⟩, ⟨rfl, rfl⟩⟩, ⟨⟨rfl, rfl⟩, ⟨rfl, rfl⟩⟩⟩⟩⟩⟩⟩
theorem Tryd.gok : Vc.GOK Tryd.prog Tryd.Γ := by
  intro T t h
  unfold Tryd.Γ at h
  split at h
  · cases h; exact Tryd.ty1
  · cases h; exact Tryd.ty2
  · cases h; exact Tryd.ty3
  · cases h; exact Tryd.ty4
  · cases h; exact Tryd.ty5
  · cases h; exact Tryd.ty6
  · cases h; exact Tryd.ty7
  · cases h; exact Tryd.ty8
  · cases h; exact Tryd.ty9
  · cases h; exact Tryd.ty10
  · cases h; exact Tryd.ty11
  · cases h; exact Tryd.ty12
  · cases h; exact Tryd.ty13
  · cases h; exact Tryd.ty14
  · cases h; exact Tryd.ty15
  · cases h; exact Tryd.ty16
  · cases h; exact Tryd.ty17
  · cases h; exact Tryd.ty18
  · cases h; exact Tryd.ty19
  · cases h; exact Tryd.ty20
  · cases h; exact Tryd.ty21
  · cases h; exact Tryd.ty22
  · cases h; exact Tryd.ty23
  · cases h; exact Tryd.ty24
  · cases h; exact Tryd.ty25
  · cases h; exact Tryd.ty27
  · cases h; exact Tryd.ty28
  · cases h; exact Tryd.ty29
  · cases h; exact Tryd.ty31
  · cases h; exact Tryd.ty32
  · cases h; exact Tryd.ty33
  · cases h; exact Tryd.ty34
  · cases h; exact Tryd.ty35
  · cases h; exact Tryd.ty36
  · cases h; exact Tryd.ty37
  · cases h; exact Tryd.ty38
  · cases h; exact Tryd.ty40
  · cases h; exact Tryd.ty41
  · cases h; exact Tryd.ty42
  · cases h; exact Tryd.ty43
  · cases h; exact Tryd.ty44
  · cases h; exact Tryd.ty45
  · cases h; exact Tryd.ty46
  · cases h; exact Tryd.ty47
  · cases h; exact Tryd.ty48
  · cases h; exact Tryd.ty50
  · cases h; exact Tryd.ty52
  · cases h; exact Tryd.ty54
  · cases h; exact Tryd.ty55
  · cases h; exact Tryd.ty56
  · cases h; exact Tryd.ty57
  · cases h; exact Tryd.ty58
  · cases h; exact Tryd.ty59
  · cases h; exact Tryd.ty60
  · cases h; exact Tryd.ty61
  · cases h; exact Tryd.ty62
  · cases h; exact Tryd.ty63
  · cases h; exact Tryd.ty64
  · cases h; exact Tryd.ty65
  · cases h; exact Tryd.ty66
  · cases h; exact Tryd.ty67
  · cases h; exact Tryd.ty69
  · cases h; exact Tryd.ty70
  · cases h; exact Tryd.ty71
  · cases h; exact Tryd.ty73
  · cases h; exact Tryd.ty74
  · cases h; exact Tryd.ty75
  · cases h; exact Tryd.ty77
  · cases h; exact Tryd.ty78
  · cases h; exact Tryd.ty79
  · cases h; exact Tryd.ty80
  · cases h; exact Tryd.ty81
  · cases h; exact Tryd.ty82
  · cases h; exact Tryd.ty83
  · cases h; exact Tryd.ty84
  · cases h; exact Tryd.ty85
  · cases h; exact Tryd.ty86
  · cases h; exact Tryd.ty88
  · cases h; exact Tryd.ty89
  · cases h; exact Tryd.ty90
  · cases h; exact Tryd.ty91
  · cases h; exact Tryd.ty93
  · cases h; exact Tryd.ty94
  · cases h; exact Tryd.ty95
  · cases h; exact Tryd.ty96
  · cases h; exact Tryd.ty100
  · cases h; exact Tryd.ty101
  · cases h; exact Tryd.ty102
  · cases h; exact Tryd.ty104
  · cases h; exact Tryd.ty105
  · cases h; exact Tryd.ty106
  · cases h; exact Tryd.ty107
  · cases h; exact Tryd.ty108
  · cases h; exact Tryd.ty109
  · cases h; exact Tryd.ty110
  · cases h; exact Tryd.ty112
  · cases h; exact Tryd.ty113
  · cases h; exact Tryd.ty114
  · cases h; exact Tryd.ty116
  · cases h; exact Tryd.ty117
  · cases h; exact Tryd.ty118
  · cases h; exact Tryd.ty119
  · cases h; exact Tryd.ty120
  · cases h; exact Tryd.ty121
  · cases h; exact Tryd.ty122
  · cases h; exact Tryd.ty123
  · cases h; exact Tryd.ty124
  · cases h; exact Tryd.ty125
  · cases h; exact Tryd.ty126
  · cases h; exact Tryd.ty127
  · cases h; exact Tryd.ty128
  · cases h; exact Tryd.ty129
  · cases h; exact Tryd.ty130
  · cases h
end Go.Proofs
