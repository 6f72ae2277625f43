/- What is known of the types of this seat's program, and that it is so. Made by a program. -/
import Derived.Test.YtcmgpkibjdbonaaGreatProg
import Derived.Test.YtcmgpkibjdbonaaGreatV2Z
import Derived.Test.YtcmgpkibjdbonaaGreatV17Z
namespace Go.Proofs.YtcmgpkibjdbonaaGreat
open Go Go.RowKit
set_option maxRecDepth 100000
theorem tok2 : TOk Tryz.prog 2 ⟨.int .i64, 1, 8, .i .i64 0⟩ := ⟨by kernel_rfl, by kernel_rfl, Or.inr ⟨_, rfl, by kernel_rfl⟩⟩
theorem tok3 : TOk Tryz.prog 3 ⟨.int .i64, 1, 8, .i .i64 0⟩ := ⟨by kernel_rfl, by kernel_rfl, Or.inr ⟨_, rfl, by kernel_rfl⟩⟩
theorem tok4 : TOk Tryz.prog 4 ⟨.bool, 1, 1, .b false⟩ := ⟨by kernel_rfl, by kernel_rfl, Or.inr ⟨_, rfl, by kernel_rfl⟩⟩
theorem tok5 : TOk Tryz.prog 5 ⟨.int .u8, 1, 1, .i .u8 0⟩ := ⟨by kernel_rfl, by kernel_rfl, Or.inr ⟨_, rfl, by kernel_rfl⟩⟩
theorem tok6 : TOk Tryz.prog 6 ⟨.int .u8, 1, 1, .i .u8 0⟩ := ⟨by kernel_rfl, by kernel_rfl, Or.inr ⟨_, rfl, by kernel_rfl⟩⟩
theorem tok7 : TOk Tryz.prog 7 ⟨.struct [(0, 2), (1, 3), (2, 4), (3, 6)], 4, 24, .agg [.i .i64 0, .i .i64 0, .b false, .i .u8 0]⟩ := ⟨by kernel_rfl, by kernel_rfl, Or.inr ⟨_, rfl, by kernel_rfl⟩⟩
theorem tok8 : TOk Tryz.prog 8 ⟨.struct [(0, 2), (1, 3), (2, 4), (3, 6)], 4, 24, .agg [.i .i64 0, .i .i64 0, .b false, .i .u8 0]⟩ := ⟨by kernel_rfl, by kernel_rfl, Or.inr ⟨_, rfl, by kernel_rfl⟩⟩
theorem tok9 : TOk Tryz.prog 9 ⟨.string, 1, 16, .s []⟩ := ⟨by kernel_rfl, by kernel_rfl, Or.inr ⟨_, rfl, by kernel_rfl⟩⟩
theorem tok10 : TOk Tryz.prog 10 ⟨.string, 1, 16, .s []⟩ := ⟨by kernel_rfl, by kernel_rfl, Or.inr ⟨_, rfl, by kernel_rfl⟩⟩
theorem tok11 : TOk Tryz.prog 11 ⟨.string, 1, 16, .s []⟩ := ⟨by kernel_rfl, by kernel_rfl, Or.inr ⟨_, rfl, by kernel_rfl⟩⟩
theorem tok12 : TOk Tryz.prog 12 ⟨.int .u64, 1, 8, .i .u64 0⟩ := ⟨by kernel_rfl, by kernel_rfl, Or.inr ⟨_, rfl, by kernel_rfl⟩⟩
theorem tok13 : TOk Tryz.prog 13 ⟨.struct [(0, 9), (1, 12)], 2, 24, .agg [.s [], .i .u64 0]⟩ := ⟨by kernel_rfl, by kernel_rfl, Or.inr ⟨_, rfl, by kernel_rfl⟩⟩
theorem tok14 : TOk Tryz.prog 14 ⟨.struct [(0, 9), (1, 12)], 2, 24, .agg [.s [], .i .u64 0]⟩ := ⟨by kernel_rfl, by kernel_rfl, Or.inr ⟨_, rfl, by kernel_rfl⟩⟩
theorem tok15 : TOk Tryz.prog 15 ⟨.ptr 284, 1, 8, .nilp⟩ := ⟨by kernel_rfl, by kernel_rfl, Or.inr ⟨_, rfl, by kernel_rfl⟩⟩
theorem tok16 : TOk Tryz.prog 16 ⟨.ptr 287, 1, 8, .nilp⟩ := ⟨by kernel_rfl, by kernel_rfl, Or.inr ⟨_, rfl, by kernel_rfl⟩⟩
theorem tok17 : TOk Tryz.prog 17 ⟨.ptr 295, 1, 8, .nilp⟩ := ⟨by kernel_rfl, by kernel_rfl, Or.inr ⟨_, rfl, by kernel_rfl⟩⟩
theorem tok18 : TOk Tryz.prog 18 ⟨.struct [(0, 17)], 1, 8, .agg [.nilp]⟩ := ⟨by kernel_rfl, by kernel_rfl, Or.inr ⟨_, rfl, by kernel_rfl⟩⟩
theorem tok19 : TOk Tryz.prog 19 ⟨.struct [(0, 17)], 1, 8, .agg [.nilp]⟩ := ⟨by kernel_rfl, by kernel_rfl, Or.inr ⟨_, rfl, by kernel_rfl⟩⟩
theorem tok20 : TOk Tryz.prog 20 ⟨.iface, 1, 16, .nili⟩ := ⟨by kernel_rfl, by kernel_rfl, Or.inr ⟨_, rfl, by kernel_rfl⟩⟩
theorem tok21 : TOk Tryz.prog 21 ⟨.int .i32, 1, 4, .i .i32 0⟩ := ⟨by kernel_rfl, by kernel_rfl, Or.inr ⟨_, rfl, by kernel_rfl⟩⟩
theorem tok22 : TOk Tryz.prog 22 ⟨.slice 46, 1, 24, .nil⟩ := ⟨by kernel_rfl, by kernel_rfl, Or.inr ⟨_, rfl, by kernel_rfl⟩⟩
theorem tok23 : TOk Tryz.prog 23 ⟨.slice 44, 1, 24, .nil⟩ := ⟨by kernel_rfl, by kernel_rfl, Or.inr ⟨_, rfl, by kernel_rfl⟩⟩
theorem tok26 : TOk Tryz.prog 26 ⟨.slice 50, 1, 24, .nil⟩ := ⟨by kernel_rfl, by kernel_rfl, Or.inr ⟨_, rfl, by kernel_rfl⟩⟩
theorem tok27 : TOk Tryz.prog 27 ⟨.struct [(0, 26), (1, 22), (2, 22)], 3, 72, .agg [.nil, .nil, .nil]⟩ := ⟨by kernel_rfl, by kernel_rfl, Or.inr ⟨_, rfl, by kernel_rfl⟩⟩
theorem tok28 : TOk Tryz.prog 28 ⟨.struct [(0, 26), (1, 22), (2, 22)], 3, 72, .agg [.nil, .nil, .nil]⟩ := ⟨by kernel_rfl, by kernel_rfl, Or.inr ⟨_, rfl, by kernel_rfl⟩⟩
theorem tok29 : TOk Tryz.prog 29 ⟨.int .i64, 1, 8, .i .i64 0⟩ := ⟨by kernel_rfl, by kernel_rfl, Or.inr ⟨_, rfl, by kernel_rfl⟩⟩
theorem tok32 : TOk Tryz.prog 32 ⟨.slice 62, 1, 24, .nil⟩ := ⟨by kernel_rfl, by kernel_rfl, Or.inr ⟨_, rfl, by kernel_rfl⟩⟩
theorem tok33 : TOk Tryz.prog 33 ⟨.slice 58, 1, 24, .nil⟩ := ⟨by kernel_rfl, by kernel_rfl, Or.inr ⟨_, rfl, by kernel_rfl⟩⟩
theorem tok34 : TOk Tryz.prog 34 ⟨.struct [(0, 32), (1, 33), (2, 33)], 3, 72, .agg [.nil, .nil, .nil]⟩ := ⟨by kernel_rfl, by kernel_rfl, Or.inr ⟨_, rfl, by kernel_rfl⟩⟩
theorem tok35 : TOk Tryz.prog 35 ⟨.struct [(0, 32), (1, 33), (2, 33)], 3, 72, .agg [.nil, .nil, .nil]⟩ := ⟨by kernel_rfl, by kernel_rfl, Or.inr ⟨_, rfl, by kernel_rfl⟩⟩
theorem tok43 : TOk Tryz.prog 43 ⟨.array 32 5, 32, 32, .arr 1 32 (List.replicate 32 (.i .u8 0))⟩ := ⟨by kernel_rfl, by kernel_rfl, Or.inr ⟨_, rfl, by kernel_rfl⟩⟩
theorem tok44 : TOk Tryz.prog 44 ⟨.array 32 5, 32, 32, .arr 1 32 (List.replicate 32 (.i .u8 0))⟩ := ⟨by kernel_rfl, by kernel_rfl, Or.inr ⟨_, rfl, by kernel_rfl⟩⟩
theorem tok45 : TOk Tryz.prog 45 ⟨.struct [(0, 44), (32, 44), (64, 3)], 65, 72, .agg [.arr 1 32 (List.replicate 32 (.i .u8 0)), .arr 1 32 (List.replicate 32 (.i .u8 0)), .i .i64 0]⟩ := ⟨by kernel_rfl, by kernel_rfl, Or.inr ⟨_, rfl, by kernel_rfl⟩⟩
theorem tok46 : TOk Tryz.prog 46 ⟨.struct [(0, 44), (32, 44), (64, 3)], 65, 72, .agg [.arr 1 32 (List.replicate 32 (.i .u8 0)), .arr 1 32 (List.replicate 32 (.i .u8 0)), .i .i64 0]⟩ := ⟨by kernel_rfl, by kernel_rfl, Or.inr ⟨_, rfl, by kernel_rfl⟩⟩
theorem tok47 : TOk Tryz.prog 47 ⟨.struct [(0, 3), (1, 44)], 33, 40, .agg [.i .i64 0, .arr 1 32 (List.replicate 32 (.i .u8 0))]⟩ := ⟨by kernel_rfl, by kernel_rfl, Or.inr ⟨_, rfl, by kernel_rfl⟩⟩
theorem tok48 : TOk Tryz.prog 48 ⟨.struct [(0, 3), (1, 44)], 33, 40, .agg [.i .i64 0, .arr 1 32 (List.replicate 32 (.i .u8 0))]⟩ := ⟨by kernel_rfl, by kernel_rfl, Or.inr ⟨_, rfl, by kernel_rfl⟩⟩
theorem tok49 : TOk Tryz.prog 49 ⟨.struct [(0, 48), (33, 44), (65, 3)], 66, 80, .agg [.agg [.i .i64 0, .arr 1 32 (List.replicate 32 (.i .u8 0))], .arr 1 32 (List.replicate 32 (.i .u8 0)), .i .i64 0]⟩ := ⟨by kernel_rfl, by kernel_rfl, Or.inr ⟨_, rfl, by kernel_rfl⟩⟩
theorem tok50 : TOk Tryz.prog 50 ⟨.struct [(0, 48), (33, 44), (65, 3)], 66, 80, .agg [.agg [.i .i64 0, .arr 1 32 (List.replicate 32 (.i .u8 0))], .arr 1 32 (List.replicate 32 (.i .u8 0)), .i .i64 0]⟩ := ⟨by kernel_rfl, by kernel_rfl, Or.inr ⟨_, rfl, by kernel_rfl⟩⟩
theorem tok51 : TOk Tryz.prog 51 ⟨.struct [(0, 50), (66, 50)], 132, 160, .agg [.agg [.agg [.i .i64 0, .arr 1 32 (List.replicate 32 (.i .u8 0))], .arr 1 32 (List.replicate 32 (.i .u8 0)), .i .i64 0], .agg [.agg [.i .i64 0, .arr 1 32 (List.replicate 32 (.i .u8 0))], .arr 1 32 (List.replicate 32 (.i .u8 0)), .i .i64 0]]⟩ := ⟨by kernel_rfl, by kernel_rfl, Or.inr ⟨_, rfl, by kernel_rfl⟩⟩
theorem tok52 : TOk Tryz.prog 52 ⟨.struct [(0, 50), (66, 50)], 132, 160, .agg [.agg [.agg [.i .i64 0, .arr 1 32 (List.replicate 32 (.i .u8 0))], .arr 1 32 (List.replicate 32 (.i .u8 0)), .i .i64 0], .agg [.agg [.i .i64 0, .arr 1 32 (List.replicate 32 (.i .u8 0))], .arr 1 32 (List.replicate 32 (.i .u8 0)), .i .i64 0]]⟩ := ⟨by kernel_rfl, by kernel_rfl, Or.inr ⟨_, rfl, by kernel_rfl⟩⟩
theorem tok53 : TOk Tryz.prog 53 ⟨.struct [(0, 3), (1, 46), (66, 52), (198, 26)], 199, 264, .agg [.i .i64 0, .agg [.arr 1 32 (List.replicate 32 (.i .u8 0)), .arr 1 32 (List.replicate 32 (.i .u8 0)), .i .i64 0], .agg [.agg [.agg [.i .i64 0, .arr 1 32 (List.replicate 32 (.i .u8 0))], .arr 1 32 (List.replicate 32 (.i .u8 0)), .i .i64 0], .agg [.agg [.i .i64 0, .arr 1 32 (List.replicate 32 (.i .u8 0))], .arr 1 32 (List.replicate 32 (.i .u8 0)), .i .i64 0]], .nil]⟩ := ⟨by kernel_rfl, by kernel_rfl, Or.inr ⟨_, rfl, by kernel_rfl⟩⟩
theorem tok54 : TOk Tryz.prog 54 ⟨.struct [(0, 3), (1, 46), (66, 52), (198, 26)], 199, 264, .agg [.i .i64 0, .agg [.arr 1 32 (List.replicate 32 (.i .u8 0)), .arr 1 32 (List.replicate 32 (.i .u8 0)), .i .i64 0], .agg [.agg [.agg [.i .i64 0, .arr 1 32 (List.replicate 32 (.i .u8 0))], .arr 1 32 (List.replicate 32 (.i .u8 0)), .i .i64 0], .agg [.agg [.i .i64 0, .arr 1 32 (List.replicate 32 (.i .u8 0))], .arr 1 32 (List.replicate 32 (.i .u8 0)), .i .i64 0]], .nil]⟩ := ⟨by kernel_rfl, by kernel_rfl, Or.inr ⟨_, rfl, by kernel_rfl⟩⟩
theorem tok58 : TOk Tryz.prog 58 ⟨.struct [(0, 44), (32, 44), (64, 3)], 65, 72, .agg [.arr 1 32 (List.replicate 32 (.i .u8 0)), .arr 1 32 (List.replicate 32 (.i .u8 0)), .i .i64 0]⟩ := ⟨by kernel_rfl, by kernel_rfl, Or.inr ⟨_, rfl, by kernel_rfl⟩⟩
theorem tok61 : TOk Tryz.prog 61 ⟨.struct [(0, 3), (1, 44), (33, 44), (65, 3)], 66, 80, .agg [.i .i64 0, .arr 1 32 (List.replicate 32 (.i .u8 0)), .arr 1 32 (List.replicate 32 (.i .u8 0)), .i .i64 0]⟩ := ⟨by kernel_rfl, by kernel_rfl, Or.inr ⟨_, rfl, by kernel_rfl⟩⟩
theorem tok62 : TOk Tryz.prog 62 ⟨.struct [(0, 3), (1, 44), (33, 44), (65, 3)], 66, 80, .agg [.i .i64 0, .arr 1 32 (List.replicate 32 (.i .u8 0)), .arr 1 32 (List.replicate 32 (.i .u8 0)), .i .i64 0]⟩ := ⟨by kernel_rfl, by kernel_rfl, Or.inr ⟨_, rfl, by kernel_rfl⟩⟩
theorem tok63 : TOk Tryz.prog 63 ⟨.struct [(0, 3), (1, 58), (66, 62), (132, 62), (198, 32)], 199, 264, .agg [.i .i64 0, .agg [.arr 1 32 (List.replicate 32 (.i .u8 0)), .arr 1 32 (List.replicate 32 (.i .u8 0)), .i .i64 0], .agg [.i .i64 0, .arr 1 32 (List.replicate 32 (.i .u8 0)), .arr 1 32 (List.replicate 32 (.i .u8 0)), .i .i64 0], .agg [.i .i64 0, .arr 1 32 (List.replicate 32 (.i .u8 0)), .arr 1 32 (List.replicate 32 (.i .u8 0)), .i .i64 0], .nil]⟩ := ⟨by kernel_rfl, by kernel_rfl, Or.inr ⟨_, rfl, by kernel_rfl⟩⟩
theorem tok64 : TOk Tryz.prog 64 ⟨.struct [(0, 3), (1, 58), (66, 62), (132, 62), (198, 32)], 199, 264, .agg [.i .i64 0, .agg [.arr 1 32 (List.replicate 32 (.i .u8 0)), .arr 1 32 (List.replicate 32 (.i .u8 0)), .i .i64 0], .agg [.i .i64 0, .arr 1 32 (List.replicate 32 (.i .u8 0)), .arr 1 32 (List.replicate 32 (.i .u8 0)), .i .i64 0], .agg [.i .i64 0, .arr 1 32 (List.replicate 32 (.i .u8 0)), .arr 1 32 (List.replicate 32 (.i .u8 0)), .i .i64 0], .nil]⟩ := ⟨by kernel_rfl, by kernel_rfl, Or.inr ⟨_, rfl, by kernel_rfl⟩⟩
theorem tok69 : TOk Tryz.prog 69 ⟨.slice 77, 1, 24, .nil⟩ := ⟨by kernel_rfl, by kernel_rfl, Or.inr ⟨_, rfl, by kernel_rfl⟩⟩
theorem tok72 : TOk Tryz.prog 72 ⟨.slice 9, 1, 24, .nil⟩ := ⟨by kernel_rfl, by kernel_rfl, Or.inr ⟨_, rfl, by kernel_rfl⟩⟩
theorem tok76 : TOk Tryz.prog 76 ⟨.iface, 1, 16, .nili⟩ := ⟨by kernel_rfl, by kernel_rfl, Or.inr ⟨_, rfl, by kernel_rfl⟩⟩
theorem tok77 : TOk Tryz.prog 77 ⟨.iface, 1, 16, .nili⟩ := ⟨by kernel_rfl, by kernel_rfl, Or.inr ⟨_, rfl, by kernel_rfl⟩⟩
theorem tok137 : TOk Tryz.prog 137 ⟨.slice 5, 1, 24, .nil⟩ := ⟨by kernel_rfl, by kernel_rfl, Or.inr ⟨_, rfl, by kernel_rfl⟩⟩
theorem tok168 : TOk Tryz.prog 168 ⟨.ptr 256, 1, 8, .nilp⟩ := ⟨by kernel_rfl, by kernel_rfl, Or.inr ⟨_, rfl, by kernel_rfl⟩⟩
theorem tok176 : TOk Tryz.prog 176 ⟨.struct [(0, 9), (1, 3), (2, 3)], 3, 32, .agg [.s [], .i .i64 0, .i .i64 0]⟩ := ⟨by kernel_rfl, by kernel_rfl, Or.inr ⟨_, rfl, by kernel_rfl⟩⟩
theorem tok177 : TOk Tryz.prog 177 ⟨.struct [(0, 9), (1, 3), (2, 3)], 3, 32, .agg [.s [], .i .i64 0, .i .i64 0]⟩ := ⟨by kernel_rfl, by kernel_rfl, Or.inr ⟨_, rfl, by kernel_rfl⟩⟩
theorem tok188 : TOk Tryz.prog 188 ⟨.struct [(0, 137), (1, 29)], 2, 32, .agg [.nil, .i .i64 0]⟩ := ⟨by kernel_rfl, by kernel_rfl, Or.inr ⟨_, rfl, by kernel_rfl⟩⟩
theorem tok189 : TOk Tryz.prog 189 ⟨.struct [(0, 137), (1, 29)], 2, 32, .agg [.nil, .i .i64 0]⟩ := ⟨by kernel_rfl, by kernel_rfl, Or.inr ⟨_, rfl, by kernel_rfl⟩⟩
theorem tok192 : TOk Tryz.prog 192 ⟨.array 2 22, 2, 48, .arr 1 2 (List.replicate 2 (.nil))⟩ := ⟨by kernel_rfl, by kernel_rfl, Or.inr ⟨_, rfl, by kernel_rfl⟩⟩
theorem tok196 : TOk Tryz.prog 196 ⟨.slice 33, 1, 24, .nil⟩ := ⟨by kernel_rfl, by kernel_rfl, Or.inr ⟨_, rfl, by kernel_rfl⟩⟩
theorem tok211 : TOk Tryz.prog 211 ⟨.ptr 189, 1, 8, .nilp⟩ := ⟨by kernel_rfl, by kernel_rfl, Or.inr ⟨_, rfl, by kernel_rfl⟩⟩
theorem tok218 : TOk Tryz.prog 218 ⟨.slice 23, 1, 24, .nil⟩ := ⟨by kernel_rfl, by kernel_rfl, Or.inr ⟨_, rfl, by kernel_rfl⟩⟩
theorem tok220 : TOk Tryz.prog 220 ⟨.slice 22, 1, 24, .nil⟩ := ⟨by kernel_rfl, by kernel_rfl, Or.inr ⟨_, rfl, by kernel_rfl⟩⟩
theorem tok231 : TOk Tryz.prog 231 ⟨.int .u32, 1, 4, .i .u32 0⟩ := ⟨by kernel_rfl, by kernel_rfl, Or.inr ⟨_, rfl, by kernel_rfl⟩⟩
theorem tok232 : TOk Tryz.prog 232 ⟨.array 8 231, 8, 32, .arr 1 8 (List.replicate 8 (.i .u32 0))⟩ := ⟨by kernel_rfl, by kernel_rfl, Or.inr ⟨_, rfl, by kernel_rfl⟩⟩
theorem tok234 : TOk Tryz.prog 234 ⟨.array 64 231, 64, 256, .arr 1 64 (List.replicate 64 (.i .u32 0))⟩ := ⟨by kernel_rfl, by kernel_rfl, Or.inr ⟨_, rfl, by kernel_rfl⟩⟩
theorem tok247 : TOk Tryz.prog 247 ⟨.array 8 231, 8, 32, .arr 1 8 (List.replicate 8 (.i .u32 0))⟩ := ⟨by kernel_rfl, by kernel_rfl, Or.inr ⟨_, rfl, by kernel_rfl⟩⟩
theorem tok248 : TOk Tryz.prog 248 ⟨.int .u64, 1, 8, .i .u64 0⟩ := ⟨by kernel_rfl, by kernel_rfl, Or.inr ⟨_, rfl, by kernel_rfl⟩⟩
theorem tok250 : TOk Tryz.prog 250 ⟨.ptr 234, 1, 8, .nilp⟩ := ⟨by kernel_rfl, by kernel_rfl, Or.inr ⟨_, rfl, by kernel_rfl⟩⟩
theorem tok253 : TOk Tryz.prog 253 ⟨.map 44 4, 1, 8, .any⟩ := ⟨by kernel_rfl, by kernel_rfl, Or.inl rfl⟩
theorem tok255 : TOk Tryz.prog 255 ⟨.struct [(0, 9), (1, 3), (2, 29)], 3, 32, .agg [.s [], .i .i64 0, .i .i64 0]⟩ := ⟨by kernel_rfl, by kernel_rfl, Or.inr ⟨_, rfl, by kernel_rfl⟩⟩
theorem tok256 : TOk Tryz.prog 256 ⟨.struct [(0, 9), (1, 3), (2, 29)], 3, 32, .agg [.s [], .i .i64 0, .i .i64 0]⟩ := ⟨by kernel_rfl, by kernel_rfl, Or.inr ⟨_, rfl, by kernel_rfl⟩⟩
theorem tok258 : TOk Tryz.prog 258 ⟨.int .u64, 1, 8, .i .u64 0⟩ := ⟨by kernel_rfl, by kernel_rfl, Or.inr ⟨_, rfl, by kernel_rfl⟩⟩
theorem tok275 : TOk Tryz.prog 275 ⟨.slice 26, 1, 24, .nil⟩ := ⟨by kernel_rfl, by kernel_rfl, Or.inr ⟨_, rfl, by kernel_rfl⟩⟩
theorem tok278 : TOk Tryz.prog 278 ⟨.ptr 247, 1, 8, .nilp⟩ := ⟨by kernel_rfl, by kernel_rfl, Or.inr ⟨_, rfl, by kernel_rfl⟩⟩
theorem tok283 : TOk Tryz.prog 283 ⟨.struct [(0, 17), (1, 17), (2, 17), (3, 9)], 4, 40, .agg [.nilp, .nilp, .nilp, .s []]⟩ := ⟨by kernel_rfl, by kernel_rfl, Or.inr ⟨_, rfl, by kernel_rfl⟩⟩
theorem tok284 : TOk Tryz.prog 284 ⟨.struct [(0, 17), (1, 17), (2, 17), (3, 9)], 4, 40, .agg [.nilp, .nilp, .nilp, .s []]⟩ := ⟨by kernel_rfl, by kernel_rfl, Or.inr ⟨_, rfl, by kernel_rfl⟩⟩
theorem tok285 : TOk Tryz.prog 285 ⟨.array 0 16, 0, 0, .arr 1 0 (List.replicate 0 (.nilp))⟩ := ⟨by kernel_rfl, by kernel_rfl, Or.inr ⟨_, rfl, by kernel_rfl⟩⟩
theorem tok286 : TOk Tryz.prog 286 ⟨.struct [(0, 285)], 0, 0, .agg [.arr 1 0 (List.replicate 0 (.nilp))]⟩ := ⟨by kernel_rfl, by kernel_rfl, Or.inr ⟨_, rfl, by kernel_rfl⟩⟩
theorem tok287 : TOk Tryz.prog 287 ⟨.struct [(0, 285)], 0, 0, .agg [.arr 1 0 (List.replicate 0 (.nilp))]⟩ := ⟨by kernel_rfl, by kernel_rfl, Or.inr ⟨_, rfl, by kernel_rfl⟩⟩
theorem tok288 : TOk Tryz.prog 288 ⟨.int .u8, 1, 1, .i .u8 0⟩ := ⟨by kernel_rfl, by kernel_rfl, Or.inr ⟨_, rfl, by kernel_rfl⟩⟩
theorem tok289 : TOk Tryz.prog 289 ⟨.int .u8, 1, 1, .i .u8 0⟩ := ⟨by kernel_rfl, by kernel_rfl, Or.inr ⟨_, rfl, by kernel_rfl⟩⟩
theorem tok291 : TOk Tryz.prog 291 ⟨.ptr 5, 1, 8, .nilp⟩ := ⟨by kernel_rfl, by kernel_rfl, Or.inr ⟨_, rfl, by kernel_rfl⟩⟩
theorem tok292 : TOk Tryz.prog 292 ⟨.int .i32, 1, 4, .i .i32 0⟩ := ⟨by kernel_rfl, by kernel_rfl, Or.inr ⟨_, rfl, by kernel_rfl⟩⟩
theorem tok293 : TOk Tryz.prog 293 ⟨.int .i32, 1, 4, .i .i32 0⟩ := ⟨by kernel_rfl, by kernel_rfl, Or.inr ⟨_, rfl, by kernel_rfl⟩⟩
theorem tok294 : TOk Tryz.prog 294 ⟨.struct [(0, 12), (1, 12), (2, 231), (3, 288), (4, 5), (5, 5), (6, 289), (7, 290), (8, 291), (9, 292), (10, 293)], 11, 48, .agg [.i .u64 0, .i .u64 0, .i .u32 0, .i .u8 0, .i .u8 0, .i .u8 0, .i .u8 0, .nilf, .nilp, .i .i32 0, .i .i32 0]⟩ := ⟨by kernel_rfl, by kernel_rfl, Or.inr ⟨_, rfl, by kernel_rfl⟩⟩
theorem tok295 : TOk Tryz.prog 295 ⟨.struct [(0, 12), (1, 12), (2, 231), (3, 288), (4, 5), (5, 5), (6, 289), (7, 290), (8, 291), (9, 292), (10, 293)], 11, 48, .agg [.i .u64 0, .i .u64 0, .i .u32 0, .i .u8 0, .i .u8 0, .i .u8 0, .i .u8 0, .nilf, .nilp, .i .i32 0, .i .i32 0]⟩ := ⟨by kernel_rfl, by kernel_rfl, Or.inr ⟨_, rfl, by kernel_rfl⟩⟩
def Tt : List (Nat × TI) := [(2, ⟨.int .i64, 1, 8, .i .i64 0⟩),
  (3, ⟨.int .i64, 1, 8, .i .i64 0⟩),
  (4, ⟨.bool, 1, 1, .b false⟩),
  (5, ⟨.int .u8, 1, 1, .i .u8 0⟩),
  (6, ⟨.int .u8, 1, 1, .i .u8 0⟩),
  (7, ⟨.struct [(0, 2), (1, 3), (2, 4), (3, 6)], 4, 24, .agg [.i .i64 0, .i .i64 0, .b false, .i .u8 0]⟩),
  (8, ⟨.struct [(0, 2), (1, 3), (2, 4), (3, 6)], 4, 24, .agg [.i .i64 0, .i .i64 0, .b false, .i .u8 0]⟩),
  (9, ⟨.string, 1, 16, .s []⟩),
  (10, ⟨.string, 1, 16, .s []⟩),
  (11, ⟨.string, 1, 16, .s []⟩),
  (12, ⟨.int .u64, 1, 8, .i .u64 0⟩),
  (13, ⟨.struct [(0, 9), (1, 12)], 2, 24, .agg [.s [], .i .u64 0]⟩),
  (14, ⟨.struct [(0, 9), (1, 12)], 2, 24, .agg [.s [], .i .u64 0]⟩),
  (15, ⟨.ptr 284, 1, 8, .nilp⟩),
  (16, ⟨.ptr 287, 1, 8, .nilp⟩),
  (17, ⟨.ptr 295, 1, 8, .nilp⟩),
  (18, ⟨.struct [(0, 17)], 1, 8, .agg [.nilp]⟩),
  (19, ⟨.struct [(0, 17)], 1, 8, .agg [.nilp]⟩),
  (20, ⟨.iface, 1, 16, .nili⟩),
  (21, ⟨.int .i32, 1, 4, .i .i32 0⟩),
  (22, ⟨.slice 46, 1, 24, .nil⟩),
  (23, ⟨.slice 44, 1, 24, .nil⟩),
  (26, ⟨.slice 50, 1, 24, .nil⟩),
  (27, ⟨.struct [(0, 26), (1, 22), (2, 22)], 3, 72, .agg [.nil, .nil, .nil]⟩),
  (28, ⟨.struct [(0, 26), (1, 22), (2, 22)], 3, 72, .agg [.nil, .nil, .nil]⟩),
  (29, ⟨.int .i64, 1, 8, .i .i64 0⟩),
  (32, ⟨.slice 62, 1, 24, .nil⟩),
  (33, ⟨.slice 58, 1, 24, .nil⟩),
  (34, ⟨.struct [(0, 32), (1, 33), (2, 33)], 3, 72, .agg [.nil, .nil, .nil]⟩),
  (35, ⟨.struct [(0, 32), (1, 33), (2, 33)], 3, 72, .agg [.nil, .nil, .nil]⟩),
  (43, ⟨.array 32 5, 32, 32, .arr 1 32 (List.replicate 32 (.i .u8 0))⟩),
  (44, ⟨.array 32 5, 32, 32, .arr 1 32 (List.replicate 32 (.i .u8 0))⟩),
  (45, ⟨.struct [(0, 44), (32, 44), (64, 3)], 65, 72, .agg [.arr 1 32 (List.replicate 32 (.i .u8 0)), .arr 1 32 (List.replicate 32 (.i .u8 0)), .i .i64 0]⟩),
  (46, ⟨.struct [(0, 44), (32, 44), (64, 3)], 65, 72, .agg [.arr 1 32 (List.replicate 32 (.i .u8 0)), .arr 1 32 (List.replicate 32 (.i .u8 0)), .i .i64 0]⟩),
  (47, ⟨.struct [(0, 3), (1, 44)], 33, 40, .agg [.i .i64 0, .arr 1 32 (List.replicate 32 (.i .u8 0))]⟩),
  (48, ⟨.struct [(0, 3), (1, 44)], 33, 40, .agg [.i .i64 0, .arr 1 32 (List.replicate 32 (.i .u8 0))]⟩),
  (49, ⟨.struct [(0, 48), (33, 44), (65, 3)], 66, 80, .agg [.agg [.i .i64 0, .arr 1 32 (List.replicate 32 (.i .u8 0))], .arr 1 32 (List.replicate 32 (.i .u8 0)), .i .i64 0]⟩),
  (50, ⟨.struct [(0, 48), (33, 44), (65, 3)], 66, 80, .agg [.agg [.i .i64 0, .arr 1 32 (List.replicate 32 (.i .u8 0))], .arr 1 32 (List.replicate 32 (.i .u8 0)), .i .i64 0]⟩),
  (51, ⟨.struct [(0, 50), (66, 50)], 132, 160, .agg [.agg [.agg [.i .i64 0, .arr 1 32 (List.replicate 32 (.i .u8 0))], .arr 1 32 (List.replicate 32 (.i .u8 0)), .i .i64 0], .agg [.agg [.i .i64 0, .arr 1 32 (List.replicate 32 (.i .u8 0))], .arr 1 32 (List.replicate 32 (.i .u8 0)), .i .i64 0]]⟩),
  (52, ⟨.struct [(0, 50), (66, 50)], 132, 160, .agg [.agg [.agg [.i .i64 0, .arr 1 32 (List.replicate 32 (.i .u8 0))], .arr 1 32 (List.replicate 32 (.i .u8 0)), .i .i64 0], .agg [.agg [.i .i64 0, .arr 1 32 (List.replicate 32 (.i .u8 0))], .arr 1 32 (List.replicate 32 (.i .u8 0)), .i .i64 0]]⟩),
  (53, ⟨.struct [(0, 3), (1, 46), (66, 52), (198, 26)], 199, 264, .agg [.i .i64 0, .agg [.arr 1 32 (List.replicate 32 (.i .u8 0)), .arr 1 32 (List.replicate 32 (.i .u8 0)), .i .i64 0], .agg [.agg [.agg [.i .i64 0, .arr 1 32 (List.replicate 32 (.i .u8 0))], .arr 1 32 (List.replicate 32 (.i .u8 0)), .i .i64 0], .agg [.agg [.i .i64 0, .arr 1 32 (List.replicate 32 (.i .u8 0))], .arr 1 32 (List.replicate 32 (.i .u8 0)), .i .i64 0]], .nil]⟩),
  (54, ⟨.struct [(0, 3), (1, 46), (66, 52), (198, 26)], 199, 264, .agg [.i .i64 0, .agg [.arr 1 32 (List.replicate 32 (.i .u8 0)), .arr 1 32 (List.replicate 32 (.i .u8 0)), .i .i64 0], .agg [.agg [.agg [.i .i64 0, .arr 1 32 (List.replicate 32 (.i .u8 0))], .arr 1 32 (List.replicate 32 (.i .u8 0)), .i .i64 0], .agg [.agg [.i .i64 0, .arr 1 32 (List.replicate 32 (.i .u8 0))], .arr 1 32 (List.replicate 32 (.i .u8 0)), .i .i64 0]], .nil]⟩),
  (58, ⟨.struct [(0, 44), (32, 44), (64, 3)], 65, 72, .agg [.arr 1 32 (List.replicate 32 (.i .u8 0)), .arr 1 32 (List.replicate 32 (.i .u8 0)), .i .i64 0]⟩),
  (61, ⟨.struct [(0, 3), (1, 44), (33, 44), (65, 3)], 66, 80, .agg [.i .i64 0, .arr 1 32 (List.replicate 32 (.i .u8 0)), .arr 1 32 (List.replicate 32 (.i .u8 0)), .i .i64 0]⟩),
  (62, ⟨.struct [(0, 3), (1, 44), (33, 44), (65, 3)], 66, 80, .agg [.i .i64 0, .arr 1 32 (List.replicate 32 (.i .u8 0)), .arr 1 32 (List.replicate 32 (.i .u8 0)), .i .i64 0]⟩),
  (63, ⟨.struct [(0, 3), (1, 58), (66, 62), (132, 62), (198, 32)], 199, 264, .agg [.i .i64 0, .agg [.arr 1 32 (List.replicate 32 (.i .u8 0)), .arr 1 32 (List.replicate 32 (.i .u8 0)), .i .i64 0], .agg [.i .i64 0, .arr 1 32 (List.replicate 32 (.i .u8 0)), .arr 1 32 (List.replicate 32 (.i .u8 0)), .i .i64 0], .agg [.i .i64 0, .arr 1 32 (List.replicate 32 (.i .u8 0)), .arr 1 32 (List.replicate 32 (.i .u8 0)), .i .i64 0], .nil]⟩),
  (64, ⟨.struct [(0, 3), (1, 58), (66, 62), (132, 62), (198, 32)], 199, 264, .agg [.i .i64 0, .agg [.arr 1 32 (List.replicate 32 (.i .u8 0)), .arr 1 32 (List.replicate 32 (.i .u8 0)), .i .i64 0], .agg [.i .i64 0, .arr 1 32 (List.replicate 32 (.i .u8 0)), .arr 1 32 (List.replicate 32 (.i .u8 0)), .i .i64 0], .agg [.i .i64 0, .arr 1 32 (List.replicate 32 (.i .u8 0)), .arr 1 32 (List.replicate 32 (.i .u8 0)), .i .i64 0], .nil]⟩),
  (69, ⟨.slice 77, 1, 24, .nil⟩),
  (72, ⟨.slice 9, 1, 24, .nil⟩),
  (76, ⟨.iface, 1, 16, .nili⟩),
  (77, ⟨.iface, 1, 16, .nili⟩),
  (137, ⟨.slice 5, 1, 24, .nil⟩),
  (168, ⟨.ptr 256, 1, 8, .nilp⟩),
  (176, ⟨.struct [(0, 9), (1, 3), (2, 3)], 3, 32, .agg [.s [], .i .i64 0, .i .i64 0]⟩),
  (177, ⟨.struct [(0, 9), (1, 3), (2, 3)], 3, 32, .agg [.s [], .i .i64 0, .i .i64 0]⟩),
  (188, ⟨.struct [(0, 137), (1, 29)], 2, 32, .agg [.nil, .i .i64 0]⟩),
  (189, ⟨.struct [(0, 137), (1, 29)], 2, 32, .agg [.nil, .i .i64 0]⟩),
  (192, ⟨.array 2 22, 2, 48, .arr 1 2 (List.replicate 2 (.nil))⟩),
  (196, ⟨.slice 33, 1, 24, .nil⟩),
  (211, ⟨.ptr 189, 1, 8, .nilp⟩),
  (218, ⟨.slice 23, 1, 24, .nil⟩),
  (220, ⟨.slice 22, 1, 24, .nil⟩),
  (231, ⟨.int .u32, 1, 4, .i .u32 0⟩),
  (232, ⟨.array 8 231, 8, 32, .arr 1 8 (List.replicate 8 (.i .u32 0))⟩),
  (234, ⟨.array 64 231, 64, 256, .arr 1 64 (List.replicate 64 (.i .u32 0))⟩),
  (247, ⟨.array 8 231, 8, 32, .arr 1 8 (List.replicate 8 (.i .u32 0))⟩),
  (248, ⟨.int .u64, 1, 8, .i .u64 0⟩),
  (250, ⟨.ptr 234, 1, 8, .nilp⟩),
  (253, ⟨.map 44 4, 1, 8, .any⟩),
  (255, ⟨.struct [(0, 9), (1, 3), (2, 29)], 3, 32, .agg [.s [], .i .i64 0, .i .i64 0]⟩),
  (256, ⟨.struct [(0, 9), (1, 3), (2, 29)], 3, 32, .agg [.s [], .i .i64 0, .i .i64 0]⟩),
  (258, ⟨.int .u64, 1, 8, .i .u64 0⟩),
  (275, ⟨.slice 26, 1, 24, .nil⟩),
  (278, ⟨.ptr 247, 1, 8, .nilp⟩),
  (283, ⟨.struct [(0, 17), (1, 17), (2, 17), (3, 9)], 4, 40, .agg [.nilp, .nilp, .nilp, .s []]⟩),
  (284, ⟨.struct [(0, 17), (1, 17), (2, 17), (3, 9)], 4, 40, .agg [.nilp, .nilp, .nilp, .s []]⟩),
  (285, ⟨.array 0 16, 0, 0, .arr 1 0 (List.replicate 0 (.nilp))⟩),
  (286, ⟨.struct [(0, 285)], 0, 0, .agg [.arr 1 0 (List.replicate 0 (.nilp))]⟩),
  (287, ⟨.struct [(0, 285)], 0, 0, .agg [.arr 1 0 (List.replicate 0 (.nilp))]⟩),
  (288, ⟨.int .u8, 1, 1, .i .u8 0⟩),
  (289, ⟨.int .u8, 1, 1, .i .u8 0⟩),
  (291, ⟨.ptr 5, 1, 8, .nilp⟩),
  (292, ⟨.int .i32, 1, 4, .i .i32 0⟩),
  (293, ⟨.int .i32, 1, 4, .i .i32 0⟩),
  (294, ⟨.struct [(0, 12), (1, 12), (2, 231), (3, 288), (4, 5), (5, 5), (6, 289), (7, 290), (8, 291), (9, 292), (10, 293)], 11, 48, .agg [.i .u64 0, .i .u64 0, .i .u32 0, .i .u8 0, .i .u8 0, .i .u8 0, .i .u8 0, .nilf, .nilp, .i .i32 0, .i .i32 0]⟩),
  (295, ⟨.struct [(0, 12), (1, 12), (2, 231), (3, 288), (4, 5), (5, 5), (6, 289), (7, 290), (8, 291), (9, 292), (10, 293)], 11, 48, .agg [.i .u64 0, .i .u64 0, .i .u32 0, .i .u8 0, .i .u8 0, .i .u8 0, .i .u8 0, .nilf, .nilp, .i .i32 0, .i .i32 0]⟩)]
theorem TtOk : TTOk Tryz.prog Tt := by
  unfold TTOk Tt
  simp only [List.forall_mem_cons, List.not_mem_nil, false_implies, implies_true, and_true]
  exact ⟨tok2, tok3, tok4, tok5, tok6, tok7, tok8, tok9, tok10, tok11, tok12, tok13, tok14, tok15, tok16, tok17, tok18, tok19, tok20, tok21, tok22, tok23, tok26, tok27, tok28, tok29, tok32, tok33, tok34, tok35, tok43, tok44, tok45, tok46, tok47, tok48, tok49, tok50, tok51, tok52, tok53, tok54, tok58, tok61, tok62, tok63, tok64, tok69, tok72, tok76, tok77, tok137, tok168, tok176, tok177, tok188, tok189, tok192, tok196, tok211, tok218, tok220, tok231, tok232, tok234, tok247, tok248, tok250, tok253, tok255, tok256, tok258, tok275, tok278, tok283, tok284, tok285, tok286, tok287, tok288, tok289, tok291, tok292, tok293, tok294, tok295⟩
end Go.Proofs.YtcmgpkibjdbonaaGreat
set_option maxHeartbeats 8000000
namespace Go.Proofs.YtcmgpkibjdbonaaGreat
open Go Go.RowKit
def rotr (x : Int) (n : Nat) : Int := bitsI .or .u32 (IntKind.u32.wrap (x * 2 ^ (32 - n))) (x.fdiv (2 ^ n))
theorem neg_and (n : Nat) (h0 : 0 < n) (h : n < 32) : bitsI .and .u64 (IntKind.u64.wrap (IntKind.i64.wrap (0 - (n : Int)))) 31 = ((32 - n : Nat) : Int) := by
  have : ∀ n : Fin 32, 0 < n.val → bitsI .and .u64 (IntKind.u64.wrap (IntKind.i64.wrap (0 - ((n.val : Nat) : Int)))) 31 = ((32 - n.val : Nat) : Int) := by decide
  exact this ⟨n, h⟩ h0
theorem rotl_spec (x k : Int) (m : Nat) (hm : 0 < m) (hm2 : m < 32) (hk : bitsI .and .u64 (IntKind.u64.wrap k) 31 = (m : Int)) :
    Spec Tryz.prog 221 [.i .u32 x, .i .i64 k] [] (fun v os => v = .i .u32 (rotr x (32 - m)) ∧ os = []) := by
  refine spec_of TtOk [] Tryz.func221 rfl Tryz.ntmps221 (by kernel_rfl) rfl rfl (fun C => ?_) rfl
  have hw : IntKind.u64.wrap (32 - (m : Int)) = ((32 - m : Nat) : Int) := by
    have : ∀ m : Fin 32, IntKind.u64.wrap (32 - ((m.val : Nat) : Int)) = ((32 - m.val : Nat) : Int) := by decide
    exact this ⟨m, hm2⟩
  repeat' (first | (refine o_calm rfl TtOk rfl rfl rfl ?_ (fun _ => ?_); exact ⟨rfl, True.intro⟩; rw [hw]) | (refine o_calm rfl TtOk rfl rfl rfl ?_ (fun _ => ?_); exact ⟨rfl, True.intro⟩; rw [hk]) | refine Awp.seq ?_ | refine Awp.region ?_ | refine Ops.nil (nqA ?_) | refine Awp.ret (nqE ?_) | (refine o_calm rfl TtOk rfl rfl rfl ?_ (fun _ => ?_); exact nd))
  refine end_tmp rfl rfl rfl [] [] (CLe.of_eq ?_) .nil ⟨rfl, rfl⟩ _ (.inl rfl)
  show AV.i .u32 (bitsI .or .u32 (IntKind.u32.wrap (x * 2 ^ (min m 32))) (x.fdiv (2 ^ (min (32 - m) 32)))) = _
  unfold rotr
  rw [Nat.min_eq_left (by omega), Nat.min_eq_left (by omega), show 32 - (32 - m) = m by omega]
theorem turn_spec (x : Int) (n : Nat) (h0 : 0 < n) (h : n < 32) : Spec Tryz.prog 217 [.i .u32 x, .i .i64 n] [] (fun v os => v = .i .u32 (rotr x n) ∧ os = []) := by
  refine spec_of TtOk [] Tryz.func217 rfl Tryz.ntmps217 (by kernel_rfl) rfl rfl (fun C => ?_) rfl
  have h1 := rotl_spec x (IntKind.i64.wrap (0 - (n : Int))) (32 - n) (by omega) (by omega) (neg_and n h0 h)
  rw [show 32 - (32 - n) = n by omega] at h1
  repeat' (first | refine Awp.seq ?_ | refine Awp.region ?_ | refine Ops.nil (nqA ?_) | refine Awp.ret (nqE ?_) | (refine o_calm rfl TtOk rfl rfl rfl ?_ (fun _ => ?_); exact nd) | refine o_callE rfl (h1) ⟨nqS, nqS, True.intro⟩ rfl ?_)
  exact nq2
end Go.Proofs.YtcmgpkibjdbonaaGreat
