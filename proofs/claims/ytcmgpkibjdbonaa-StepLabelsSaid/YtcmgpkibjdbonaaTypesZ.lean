/- What is known of the types of this seat's program, and that it is so. Made by a program. -/
import Derived.Test.YtcmgpkibjdbonaaProg
import Derived.Test.YtcmgpkibjdbonaaV2Z
import Derived.Test.YtcmgpkibjdbonaaV16Z
namespace Go.Proofs.Ytcmgpkibjdbonaa
open Go Go.RowKit
set_option maxRecDepth 100000
theorem tok2 : TOk Try.prog 2 ⟨.int .i64, 1, 8, .i .i64 0⟩ := ⟨by kernel_rfl, by kernel_rfl, Or.inr ⟨_, rfl, by kernel_rfl⟩⟩
theorem tok3 : TOk Try.prog 3 ⟨.int .i64, 1, 8, .i .i64 0⟩ := ⟨by kernel_rfl, by kernel_rfl, Or.inr ⟨_, rfl, by kernel_rfl⟩⟩
theorem tok4 : TOk Try.prog 4 ⟨.bool, 1, 1, .b false⟩ := ⟨by kernel_rfl, by kernel_rfl, Or.inr ⟨_, rfl, by kernel_rfl⟩⟩
theorem tok5 : TOk Try.prog 5 ⟨.int .u8, 1, 1, .i .u8 0⟩ := ⟨by kernel_rfl, by kernel_rfl, Or.inr ⟨_, rfl, by kernel_rfl⟩⟩
theorem tok6 : TOk Try.prog 6 ⟨.int .u8, 1, 1, .i .u8 0⟩ := ⟨by kernel_rfl, by kernel_rfl, Or.inr ⟨_, rfl, by kernel_rfl⟩⟩
theorem tok7 : TOk Try.prog 7 ⟨.struct [(0, 2), (1, 3), (2, 4), (3, 6)], 4, 24, .agg [.i .i64 0, .i .i64 0, .b false, .i .u8 0]⟩ := ⟨by kernel_rfl, by kernel_rfl, Or.inr ⟨_, rfl, by kernel_rfl⟩⟩
theorem tok8 : TOk Try.prog 8 ⟨.struct [(0, 2), (1, 3), (2, 4), (3, 6)], 4, 24, .agg [.i .i64 0, .i .i64 0, .b false, .i .u8 0]⟩ := ⟨by kernel_rfl, by kernel_rfl, Or.inr ⟨_, rfl, by kernel_rfl⟩⟩
theorem tok9 : TOk Try.prog 9 ⟨.string, 1, 16, .s []⟩ := ⟨by kernel_rfl, by kernel_rfl, Or.inr ⟨_, rfl, by kernel_rfl⟩⟩
theorem tok10 : TOk Try.prog 10 ⟨.string, 1, 16, .s []⟩ := ⟨by kernel_rfl, by kernel_rfl, Or.inr ⟨_, rfl, by kernel_rfl⟩⟩
theorem tok11 : TOk Try.prog 11 ⟨.string, 1, 16, .s []⟩ := ⟨by kernel_rfl, by kernel_rfl, Or.inr ⟨_, rfl, by kernel_rfl⟩⟩
theorem tok12 : TOk Try.prog 12 ⟨.int .u64, 1, 8, .i .u64 0⟩ := ⟨by kernel_rfl, by kernel_rfl, Or.inr ⟨_, rfl, by kernel_rfl⟩⟩
theorem tok13 : TOk Try.prog 13 ⟨.struct [(0, 9), (1, 12)], 2, 24, .agg [.s [], .i .u64 0]⟩ := ⟨by kernel_rfl, by kernel_rfl, Or.inr ⟨_, rfl, by kernel_rfl⟩⟩
theorem tok14 : TOk Try.prog 14 ⟨.struct [(0, 9), (1, 12)], 2, 24, .agg [.s [], .i .u64 0]⟩ := ⟨by kernel_rfl, by kernel_rfl, Or.inr ⟨_, rfl, by kernel_rfl⟩⟩
theorem tok15 : TOk Try.prog 15 ⟨.ptr 238, 1, 8, .nilp⟩ := ⟨by kernel_rfl, by kernel_rfl, Or.inr ⟨_, rfl, by kernel_rfl⟩⟩
theorem tok16 : TOk Try.prog 16 ⟨.ptr 241, 1, 8, .nilp⟩ := ⟨by kernel_rfl, by kernel_rfl, Or.inr ⟨_, rfl, by kernel_rfl⟩⟩
theorem tok17 : TOk Try.prog 17 ⟨.ptr 249, 1, 8, .nilp⟩ := ⟨by kernel_rfl, by kernel_rfl, Or.inr ⟨_, rfl, by kernel_rfl⟩⟩
theorem tok18 : TOk Try.prog 18 ⟨.struct [(0, 17)], 1, 8, .agg [.nilp]⟩ := ⟨by kernel_rfl, by kernel_rfl, Or.inr ⟨_, rfl, by kernel_rfl⟩⟩
theorem tok19 : TOk Try.prog 19 ⟨.struct [(0, 17)], 1, 8, .agg [.nilp]⟩ := ⟨by kernel_rfl, by kernel_rfl, Or.inr ⟨_, rfl, by kernel_rfl⟩⟩
theorem tok20 : TOk Try.prog 20 ⟨.iface, 1, 16, .nili⟩ := ⟨by kernel_rfl, by kernel_rfl, Or.inr ⟨_, rfl, by kernel_rfl⟩⟩
theorem tok21 : TOk Try.prog 21 ⟨.int .i32, 1, 4, .i .i32 0⟩ := ⟨by kernel_rfl, by kernel_rfl, Or.inr ⟨_, rfl, by kernel_rfl⟩⟩
theorem tok22 : TOk Try.prog 22 ⟨.slice 29, 1, 24, .nil⟩ := ⟨by kernel_rfl, by kernel_rfl, Or.inr ⟨_, rfl, by kernel_rfl⟩⟩
theorem tok23 : TOk Try.prog 23 ⟨.array 32 5, 32, 32, .arr 1 32 (List.replicate 32 (.i .u8 0))⟩ := ⟨by kernel_rfl, by kernel_rfl, Or.inr ⟨_, rfl, by kernel_rfl⟩⟩
theorem tok24 : TOk Try.prog 24 ⟨.array 32 5, 32, 32, .arr 1 32 (List.replicate 32 (.i .u8 0))⟩ := ⟨by kernel_rfl, by kernel_rfl, Or.inr ⟨_, rfl, by kernel_rfl⟩⟩
theorem tok26 : TOk Try.prog 26 ⟨.slice 47, 1, 24, .nil⟩ := ⟨by kernel_rfl, by kernel_rfl, Or.inr ⟨_, rfl, by kernel_rfl⟩⟩
theorem tok28 : TOk Try.prog 28 ⟨.struct [(0, 24), (32, 24), (64, 3)], 65, 72, .agg [.arr 1 32 (List.replicate 32 (.i .u8 0)), .arr 1 32 (List.replicate 32 (.i .u8 0)), .i .i64 0]⟩ := ⟨by kernel_rfl, by kernel_rfl, Or.inr ⟨_, rfl, by kernel_rfl⟩⟩
theorem tok29 : TOk Try.prog 29 ⟨.struct [(0, 24), (32, 24), (64, 3)], 65, 72, .agg [.arr 1 32 (List.replicate 32 (.i .u8 0)), .arr 1 32 (List.replicate 32 (.i .u8 0)), .i .i64 0]⟩ := ⟨by kernel_rfl, by kernel_rfl, Or.inr ⟨_, rfl, by kernel_rfl⟩⟩
theorem tok30 : TOk Try.prog 30 ⟨.struct [(0, 3), (1, 24)], 33, 40, .agg [.i .i64 0, .arr 1 32 (List.replicate 32 (.i .u8 0))]⟩ := ⟨by kernel_rfl, by kernel_rfl, Or.inr ⟨_, rfl, by kernel_rfl⟩⟩
theorem tok31 : TOk Try.prog 31 ⟨.struct [(0, 3), (1, 24)], 33, 40, .agg [.i .i64 0, .arr 1 32 (List.replicate 32 (.i .u8 0))]⟩ := ⟨by kernel_rfl, by kernel_rfl, Or.inr ⟨_, rfl, by kernel_rfl⟩⟩
theorem tok32 : TOk Try.prog 32 ⟨.struct [(0, 31), (33, 24), (65, 3)], 66, 80, .agg [.agg [.i .i64 0, .arr 1 32 (List.replicate 32 (.i .u8 0))], .arr 1 32 (List.replicate 32 (.i .u8 0)), .i .i64 0]⟩ := ⟨by kernel_rfl, by kernel_rfl, Or.inr ⟨_, rfl, by kernel_rfl⟩⟩
theorem tok33 : TOk Try.prog 33 ⟨.struct [(0, 31), (33, 24), (65, 3)], 66, 80, .agg [.agg [.i .i64 0, .arr 1 32 (List.replicate 32 (.i .u8 0))], .arr 1 32 (List.replicate 32 (.i .u8 0)), .i .i64 0]⟩ := ⟨by kernel_rfl, by kernel_rfl, Or.inr ⟨_, rfl, by kernel_rfl⟩⟩
theorem tok34 : TOk Try.prog 34 ⟨.struct [(0, 33), (66, 33)], 132, 160, .agg [.agg [.agg [.i .i64 0, .arr 1 32 (List.replicate 32 (.i .u8 0))], .arr 1 32 (List.replicate 32 (.i .u8 0)), .i .i64 0], .agg [.agg [.i .i64 0, .arr 1 32 (List.replicate 32 (.i .u8 0))], .arr 1 32 (List.replicate 32 (.i .u8 0)), .i .i64 0]]⟩ := ⟨by kernel_rfl, by kernel_rfl, Or.inr ⟨_, rfl, by kernel_rfl⟩⟩
theorem tok35 : TOk Try.prog 35 ⟨.struct [(0, 33), (66, 33)], 132, 160, .agg [.agg [.agg [.i .i64 0, .arr 1 32 (List.replicate 32 (.i .u8 0))], .arr 1 32 (List.replicate 32 (.i .u8 0)), .i .i64 0], .agg [.agg [.i .i64 0, .arr 1 32 (List.replicate 32 (.i .u8 0))], .arr 1 32 (List.replicate 32 (.i .u8 0)), .i .i64 0]]⟩ := ⟨by kernel_rfl, by kernel_rfl, Or.inr ⟨_, rfl, by kernel_rfl⟩⟩
theorem tok36 : TOk Try.prog 36 ⟨.slice 33, 1, 24, .nil⟩ := ⟨by kernel_rfl, by kernel_rfl, Or.inr ⟨_, rfl, by kernel_rfl⟩⟩
theorem tok37 : TOk Try.prog 37 ⟨.struct [(0, 3), (1, 29), (66, 35), (198, 36)], 199, 264, .agg [.i .i64 0, .agg [.arr 1 32 (List.replicate 32 (.i .u8 0)), .arr 1 32 (List.replicate 32 (.i .u8 0)), .i .i64 0], .agg [.agg [.agg [.i .i64 0, .arr 1 32 (List.replicate 32 (.i .u8 0))], .arr 1 32 (List.replicate 32 (.i .u8 0)), .i .i64 0], .agg [.agg [.i .i64 0, .arr 1 32 (List.replicate 32 (.i .u8 0))], .arr 1 32 (List.replicate 32 (.i .u8 0)), .i .i64 0]], .nil]⟩ := ⟨by kernel_rfl, by kernel_rfl, Or.inr ⟨_, rfl, by kernel_rfl⟩⟩
theorem tok38 : TOk Try.prog 38 ⟨.struct [(0, 3), (1, 29), (66, 35), (198, 36)], 199, 264, .agg [.i .i64 0, .agg [.arr 1 32 (List.replicate 32 (.i .u8 0)), .arr 1 32 (List.replicate 32 (.i .u8 0)), .i .i64 0], .agg [.agg [.agg [.i .i64 0, .arr 1 32 (List.replicate 32 (.i .u8 0))], .arr 1 32 (List.replicate 32 (.i .u8 0)), .i .i64 0], .agg [.agg [.i .i64 0, .arr 1 32 (List.replicate 32 (.i .u8 0))], .arr 1 32 (List.replicate 32 (.i .u8 0)), .i .i64 0]], .nil]⟩ := ⟨by kernel_rfl, by kernel_rfl, Or.inr ⟨_, rfl, by kernel_rfl⟩⟩
theorem tok39 : TOk Try.prog 39 ⟨.int .i64, 1, 8, .i .i64 0⟩ := ⟨by kernel_rfl, by kernel_rfl, Or.inr ⟨_, rfl, by kernel_rfl⟩⟩
theorem tok43 : TOk Try.prog 43 ⟨.slice 49, 1, 24, .nil⟩ := ⟨by kernel_rfl, by kernel_rfl, Or.inr ⟨_, rfl, by kernel_rfl⟩⟩
theorem tok47 : TOk Try.prog 47 ⟨.struct [(0, 24), (32, 24), (64, 3)], 65, 72, .agg [.arr 1 32 (List.replicate 32 (.i .u8 0)), .arr 1 32 (List.replicate 32 (.i .u8 0)), .i .i64 0]⟩ := ⟨by kernel_rfl, by kernel_rfl, Or.inr ⟨_, rfl, by kernel_rfl⟩⟩
theorem tok48 : TOk Try.prog 48 ⟨.struct [(0, 3), (1, 24), (33, 24), (65, 3)], 66, 80, .agg [.i .i64 0, .arr 1 32 (List.replicate 32 (.i .u8 0)), .arr 1 32 (List.replicate 32 (.i .u8 0)), .i .i64 0]⟩ := ⟨by kernel_rfl, by kernel_rfl, Or.inr ⟨_, rfl, by kernel_rfl⟩⟩
theorem tok49 : TOk Try.prog 49 ⟨.struct [(0, 3), (1, 24), (33, 24), (65, 3)], 66, 80, .agg [.i .i64 0, .arr 1 32 (List.replicate 32 (.i .u8 0)), .arr 1 32 (List.replicate 32 (.i .u8 0)), .i .i64 0]⟩ := ⟨by kernel_rfl, by kernel_rfl, Or.inr ⟨_, rfl, by kernel_rfl⟩⟩
theorem tok50 : TOk Try.prog 50 ⟨.struct [(0, 3), (1, 47), (66, 49), (132, 49), (198, 43)], 199, 264, .agg [.i .i64 0, .agg [.arr 1 32 (List.replicate 32 (.i .u8 0)), .arr 1 32 (List.replicate 32 (.i .u8 0)), .i .i64 0], .agg [.i .i64 0, .arr 1 32 (List.replicate 32 (.i .u8 0)), .arr 1 32 (List.replicate 32 (.i .u8 0)), .i .i64 0], .agg [.i .i64 0, .arr 1 32 (List.replicate 32 (.i .u8 0)), .arr 1 32 (List.replicate 32 (.i .u8 0)), .i .i64 0], .nil]⟩ := ⟨by kernel_rfl, by kernel_rfl, Or.inr ⟨_, rfl, by kernel_rfl⟩⟩
theorem tok51 : TOk Try.prog 51 ⟨.struct [(0, 3), (1, 47), (66, 49), (132, 49), (198, 43)], 199, 264, .agg [.i .i64 0, .agg [.arr 1 32 (List.replicate 32 (.i .u8 0)), .arr 1 32 (List.replicate 32 (.i .u8 0)), .i .i64 0], .agg [.i .i64 0, .arr 1 32 (List.replicate 32 (.i .u8 0)), .arr 1 32 (List.replicate 32 (.i .u8 0)), .i .i64 0], .agg [.i .i64 0, .arr 1 32 (List.replicate 32 (.i .u8 0)), .arr 1 32 (List.replicate 32 (.i .u8 0)), .i .i64 0], .nil]⟩ := ⟨by kernel_rfl, by kernel_rfl, Or.inr ⟨_, rfl, by kernel_rfl⟩⟩
theorem tok60 : TOk Try.prog 60 ⟨.struct [(0, 36), (1, 22), (2, 22)], 3, 72, .agg [.nil, .nil, .nil]⟩ := ⟨by kernel_rfl, by kernel_rfl, Or.inr ⟨_, rfl, by kernel_rfl⟩⟩
theorem tok61 : TOk Try.prog 61 ⟨.struct [(0, 36), (1, 22), (2, 22)], 3, 72, .agg [.nil, .nil, .nil]⟩ := ⟨by kernel_rfl, by kernel_rfl, Or.inr ⟨_, rfl, by kernel_rfl⟩⟩
theorem tok74 : TOk Try.prog 74 ⟨.slice 24, 1, 24, .nil⟩ := ⟨by kernel_rfl, by kernel_rfl, Or.inr ⟨_, rfl, by kernel_rfl⟩⟩
theorem tok90 : TOk Try.prog 90 ⟨.struct [(0, 43), (1, 26), (2, 26)], 3, 72, .agg [.nil, .nil, .nil]⟩ := ⟨by kernel_rfl, by kernel_rfl, Or.inr ⟨_, rfl, by kernel_rfl⟩⟩
theorem tok91 : TOk Try.prog 91 ⟨.struct [(0, 43), (1, 26), (2, 26)], 3, 72, .agg [.nil, .nil, .nil]⟩ := ⟨by kernel_rfl, by kernel_rfl, Or.inr ⟨_, rfl, by kernel_rfl⟩⟩
theorem tok114 : TOk Try.prog 114 ⟨.slice 118, 1, 24, .nil⟩ := ⟨by kernel_rfl, by kernel_rfl, Or.inr ⟨_, rfl, by kernel_rfl⟩⟩
theorem tok117 : TOk Try.prog 117 ⟨.iface, 1, 16, .nili⟩ := ⟨by kernel_rfl, by kernel_rfl, Or.inr ⟨_, rfl, by kernel_rfl⟩⟩
theorem tok118 : TOk Try.prog 118 ⟨.iface, 1, 16, .nili⟩ := ⟨by kernel_rfl, by kernel_rfl, Or.inr ⟨_, rfl, by kernel_rfl⟩⟩
theorem tok134 : TOk Try.prog 134 ⟨.slice 5, 1, 24, .nil⟩ := ⟨by kernel_rfl, by kernel_rfl, Or.inr ⟨_, rfl, by kernel_rfl⟩⟩
theorem tok137 : TOk Try.prog 137 ⟨.int .u32, 1, 4, .i .u32 0⟩ := ⟨by kernel_rfl, by kernel_rfl, Or.inr ⟨_, rfl, by kernel_rfl⟩⟩
theorem tok138 : TOk Try.prog 138 ⟨.array 8 137, 8, 32, .arr 1 8 (List.replicate 8 (.i .u32 0))⟩ := ⟨by kernel_rfl, by kernel_rfl, Or.inr ⟨_, rfl, by kernel_rfl⟩⟩
theorem tok139 : TOk Try.prog 139 ⟨.array 8 137, 8, 32, .arr 1 8 (List.replicate 8 (.i .u32 0))⟩ := ⟨by kernel_rfl, by kernel_rfl, Or.inr ⟨_, rfl, by kernel_rfl⟩⟩
theorem tok140 : TOk Try.prog 140 ⟨.int .u64, 1, 8, .i .u64 0⟩ := ⟨by kernel_rfl, by kernel_rfl, Or.inr ⟨_, rfl, by kernel_rfl⟩⟩
theorem tok141 : TOk Try.prog 141 ⟨.array 64 137, 64, 256, .arr 1 64 (List.replicate 64 (.i .u32 0))⟩ := ⟨by kernel_rfl, by kernel_rfl, Or.inr ⟨_, rfl, by kernel_rfl⟩⟩
theorem tok144 : TOk Try.prog 144 ⟨.ptr 141, 1, 8, .nilp⟩ := ⟨by kernel_rfl, by kernel_rfl, Or.inr ⟨_, rfl, by kernel_rfl⟩⟩
theorem tok158 : TOk Try.prog 158 ⟨.struct [(0, 134), (1, 39)], 2, 32, .agg [.nil, .i .i64 0]⟩ := ⟨by kernel_rfl, by kernel_rfl, Or.inr ⟨_, rfl, by kernel_rfl⟩⟩
theorem tok159 : TOk Try.prog 159 ⟨.struct [(0, 134), (1, 39)], 2, 32, .agg [.nil, .i .i64 0]⟩ := ⟨by kernel_rfl, by kernel_rfl, Or.inr ⟨_, rfl, by kernel_rfl⟩⟩
theorem tok162 : TOk Try.prog 162 ⟨.array 2 22, 2, 48, .arr 1 2 (List.replicate 2 (.nil))⟩ := ⟨by kernel_rfl, by kernel_rfl, Or.inr ⟨_, rfl, by kernel_rfl⟩⟩
theorem tok165 : TOk Try.prog 165 ⟨.ptr 220, 1, 8, .nilp⟩ := ⟨by kernel_rfl, by kernel_rfl, Or.inr ⟨_, rfl, by kernel_rfl⟩⟩
theorem tok177 : TOk Try.prog 177 ⟨.ptr 159, 1, 8, .nilp⟩ := ⟨by kernel_rfl, by kernel_rfl, Or.inr ⟨_, rfl, by kernel_rfl⟩⟩
theorem tok197 : TOk Try.prog 197 ⟨.slice 74, 1, 24, .nil⟩ := ⟨by kernel_rfl, by kernel_rfl, Or.inr ⟨_, rfl, by kernel_rfl⟩⟩
theorem tok199 : TOk Try.prog 199 ⟨.slice 22, 1, 24, .nil⟩ := ⟨by kernel_rfl, by kernel_rfl, Or.inr ⟨_, rfl, by kernel_rfl⟩⟩
theorem tok205 : TOk Try.prog 205 ⟨.ptr 139, 1, 8, .nilp⟩ := ⟨by kernel_rfl, by kernel_rfl, Or.inr ⟨_, rfl, by kernel_rfl⟩⟩
theorem tok206 : TOk Try.prog 206 ⟨.int .u64, 1, 8, .i .u64 0⟩ := ⟨by kernel_rfl, by kernel_rfl, Or.inr ⟨_, rfl, by kernel_rfl⟩⟩
theorem tok208 : TOk Try.prog 208 ⟨.slice 9, 1, 24, .nil⟩ := ⟨by kernel_rfl, by kernel_rfl, Or.inr ⟨_, rfl, by kernel_rfl⟩⟩
theorem tok211 : TOk Try.prog 211 ⟨.map 24 4, 1, 8, .any⟩ := ⟨by kernel_rfl, by kernel_rfl, Or.inl rfl⟩
theorem tok212 : TOk Try.prog 212 ⟨.slice 36, 1, 24, .nil⟩ := ⟨by kernel_rfl, by kernel_rfl, Or.inr ⟨_, rfl, by kernel_rfl⟩⟩
theorem tok219 : TOk Try.prog 219 ⟨.struct [(0, 9), (1, 3), (2, 39)], 3, 32, .agg [.s [], .i .i64 0, .i .i64 0]⟩ := ⟨by kernel_rfl, by kernel_rfl, Or.inr ⟨_, rfl, by kernel_rfl⟩⟩
theorem tok220 : TOk Try.prog 220 ⟨.struct [(0, 9), (1, 3), (2, 39)], 3, 32, .agg [.s [], .i .i64 0, .i .i64 0]⟩ := ⟨by kernel_rfl, by kernel_rfl, Or.inr ⟨_, rfl, by kernel_rfl⟩⟩
theorem tok237 : TOk Try.prog 237 ⟨.struct [(0, 17), (1, 17), (2, 17), (3, 9)], 4, 40, .agg [.nilp, .nilp, .nilp, .s []]⟩ := ⟨by kernel_rfl, by kernel_rfl, Or.inr ⟨_, rfl, by kernel_rfl⟩⟩
theorem tok238 : TOk Try.prog 238 ⟨.struct [(0, 17), (1, 17), (2, 17), (3, 9)], 4, 40, .agg [.nilp, .nilp, .nilp, .s []]⟩ := ⟨by kernel_rfl, by kernel_rfl, Or.inr ⟨_, rfl, by kernel_rfl⟩⟩
theorem tok239 : TOk Try.prog 239 ⟨.array 0 16, 0, 0, .arr 1 0 (List.replicate 0 (.nilp))⟩ := ⟨by kernel_rfl, by kernel_rfl, Or.inr ⟨_, rfl, by kernel_rfl⟩⟩
theorem tok240 : TOk Try.prog 240 ⟨.struct [(0, 239)], 0, 0, .agg [.arr 1 0 (List.replicate 0 (.nilp))]⟩ := ⟨by kernel_rfl, by kernel_rfl, Or.inr ⟨_, rfl, by kernel_rfl⟩⟩
theorem tok241 : TOk Try.prog 241 ⟨.struct [(0, 239)], 0, 0, .agg [.arr 1 0 (List.replicate 0 (.nilp))]⟩ := ⟨by kernel_rfl, by kernel_rfl, Or.inr ⟨_, rfl, by kernel_rfl⟩⟩
theorem tok242 : TOk Try.prog 242 ⟨.int .u8, 1, 1, .i .u8 0⟩ := ⟨by kernel_rfl, by kernel_rfl, Or.inr ⟨_, rfl, by kernel_rfl⟩⟩
theorem tok243 : TOk Try.prog 243 ⟨.int .u8, 1, 1, .i .u8 0⟩ := ⟨by kernel_rfl, by kernel_rfl, Or.inr ⟨_, rfl, by kernel_rfl⟩⟩
theorem tok245 : TOk Try.prog 245 ⟨.ptr 5, 1, 8, .nilp⟩ := ⟨by kernel_rfl, by kernel_rfl, Or.inr ⟨_, rfl, by kernel_rfl⟩⟩
theorem tok246 : TOk Try.prog 246 ⟨.int .i32, 1, 4, .i .i32 0⟩ := ⟨by kernel_rfl, by kernel_rfl, Or.inr ⟨_, rfl, by kernel_rfl⟩⟩
theorem tok247 : TOk Try.prog 247 ⟨.int .i32, 1, 4, .i .i32 0⟩ := ⟨by kernel_rfl, by kernel_rfl, Or.inr ⟨_, rfl, by kernel_rfl⟩⟩
theorem tok248 : TOk Try.prog 248 ⟨.struct [(0, 12), (1, 12), (2, 137), (3, 242), (4, 5), (5, 5), (6, 243), (7, 244), (8, 245), (9, 246), (10, 247)], 11, 48, .agg [.i .u64 0, .i .u64 0, .i .u32 0, .i .u8 0, .i .u8 0, .i .u8 0, .i .u8 0, .nilf, .nilp, .i .i32 0, .i .i32 0]⟩ := ⟨by kernel_rfl, by kernel_rfl, Or.inr ⟨_, rfl, by kernel_rfl⟩⟩
theorem tok249 : TOk Try.prog 249 ⟨.struct [(0, 12), (1, 12), (2, 137), (3, 242), (4, 5), (5, 5), (6, 243), (7, 244), (8, 245), (9, 246), (10, 247)], 11, 48, .agg [.i .u64 0, .i .u64 0, .i .u32 0, .i .u8 0, .i .u8 0, .i .u8 0, .i .u8 0, .nilf, .nilp, .i .i32 0, .i .i32 0]⟩ := ⟨by kernel_rfl, by kernel_rfl, Or.inr ⟨_, rfl, by kernel_rfl⟩⟩
def Tt : List (Nat × TI) := [(2, ⟨.int .i64, 1, 8, .i .i64 0⟩),
  (3, ⟨.int .i64, 1, 8, .i .i64 0⟩),
  (4, ⟨.bool, 1, 1, .b false⟩),
  (5, ⟨.int .u8, 1, 1, .i .u8 0⟩),
  (6, ⟨.int .u8, 1, 1, .i .u8 0⟩),
  (7, ⟨.struct [(0, 2), (1, 3), (2, 4), (3, 6)], 4, 24, .agg [.i .i64 0, .i .i64 0, .b false, .i .u8 0]⟩),
  (8, ⟨.struct [(0, 2), (1, 3), (2, 4), (3, 6)], 4, 24, .agg [.i .i64 0, .i .i64 0, .b false, .i .u8 0]⟩),
  (9, ⟨.string, 1, 16, .s []⟩),
  (10, ⟨.string, 1, 16, .s []⟩),
  (11, ⟨.string, 1, 16, .s []⟩),
  (12, ⟨.int .u64, 1, 8, .i .u64 0⟩),
  (13, ⟨.struct [(0, 9), (1, 12)], 2, 24, .agg [.s [], .i .u64 0]⟩),
  (14, ⟨.struct [(0, 9), (1, 12)], 2, 24, .agg [.s [], .i .u64 0]⟩),
  (15, ⟨.ptr 238, 1, 8, .nilp⟩),
  (16, ⟨.ptr 241, 1, 8, .nilp⟩),
  (17, ⟨.ptr 249, 1, 8, .nilp⟩),
  (18, ⟨.struct [(0, 17)], 1, 8, .agg [.nilp]⟩),
  (19, ⟨.struct [(0, 17)], 1, 8, .agg [.nilp]⟩),
  (20, ⟨.iface, 1, 16, .nili⟩),
  (21, ⟨.int .i32, 1, 4, .i .i32 0⟩),
  (22, ⟨.slice 29, 1, 24, .nil⟩),
  (23, ⟨.array 32 5, 32, 32, .arr 1 32 (List.replicate 32 (.i .u8 0))⟩),
  (24, ⟨.array 32 5, 32, 32, .arr 1 32 (List.replicate 32 (.i .u8 0))⟩),
  (26, ⟨.slice 47, 1, 24, .nil⟩),
  (28, ⟨.struct [(0, 24), (32, 24), (64, 3)], 65, 72, .agg [.arr 1 32 (List.replicate 32 (.i .u8 0)), .arr 1 32 (List.replicate 32 (.i .u8 0)), .i .i64 0]⟩),
  (29, ⟨.struct [(0, 24), (32, 24), (64, 3)], 65, 72, .agg [.arr 1 32 (List.replicate 32 (.i .u8 0)), .arr 1 32 (List.replicate 32 (.i .u8 0)), .i .i64 0]⟩),
  (30, ⟨.struct [(0, 3), (1, 24)], 33, 40, .agg [.i .i64 0, .arr 1 32 (List.replicate 32 (.i .u8 0))]⟩),
  (31, ⟨.struct [(0, 3), (1, 24)], 33, 40, .agg [.i .i64 0, .arr 1 32 (List.replicate 32 (.i .u8 0))]⟩),
  (32, ⟨.struct [(0, 31), (33, 24), (65, 3)], 66, 80, .agg [.agg [.i .i64 0, .arr 1 32 (List.replicate 32 (.i .u8 0))], .arr 1 32 (List.replicate 32 (.i .u8 0)), .i .i64 0]⟩),
  (33, ⟨.struct [(0, 31), (33, 24), (65, 3)], 66, 80, .agg [.agg [.i .i64 0, .arr 1 32 (List.replicate 32 (.i .u8 0))], .arr 1 32 (List.replicate 32 (.i .u8 0)), .i .i64 0]⟩),
  (34, ⟨.struct [(0, 33), (66, 33)], 132, 160, .agg [.agg [.agg [.i .i64 0, .arr 1 32 (List.replicate 32 (.i .u8 0))], .arr 1 32 (List.replicate 32 (.i .u8 0)), .i .i64 0], .agg [.agg [.i .i64 0, .arr 1 32 (List.replicate 32 (.i .u8 0))], .arr 1 32 (List.replicate 32 (.i .u8 0)), .i .i64 0]]⟩),
  (35, ⟨.struct [(0, 33), (66, 33)], 132, 160, .agg [.agg [.agg [.i .i64 0, .arr 1 32 (List.replicate 32 (.i .u8 0))], .arr 1 32 (List.replicate 32 (.i .u8 0)), .i .i64 0], .agg [.agg [.i .i64 0, .arr 1 32 (List.replicate 32 (.i .u8 0))], .arr 1 32 (List.replicate 32 (.i .u8 0)), .i .i64 0]]⟩),
  (36, ⟨.slice 33, 1, 24, .nil⟩),
  (37, ⟨.struct [(0, 3), (1, 29), (66, 35), (198, 36)], 199, 264, .agg [.i .i64 0, .agg [.arr 1 32 (List.replicate 32 (.i .u8 0)), .arr 1 32 (List.replicate 32 (.i .u8 0)), .i .i64 0], .agg [.agg [.agg [.i .i64 0, .arr 1 32 (List.replicate 32 (.i .u8 0))], .arr 1 32 (List.replicate 32 (.i .u8 0)), .i .i64 0], .agg [.agg [.i .i64 0, .arr 1 32 (List.replicate 32 (.i .u8 0))], .arr 1 32 (List.replicate 32 (.i .u8 0)), .i .i64 0]], .nil]⟩),
  (38, ⟨.struct [(0, 3), (1, 29), (66, 35), (198, 36)], 199, 264, .agg [.i .i64 0, .agg [.arr 1 32 (List.replicate 32 (.i .u8 0)), .arr 1 32 (List.replicate 32 (.i .u8 0)), .i .i64 0], .agg [.agg [.agg [.i .i64 0, .arr 1 32 (List.replicate 32 (.i .u8 0))], .arr 1 32 (List.replicate 32 (.i .u8 0)), .i .i64 0], .agg [.agg [.i .i64 0, .arr 1 32 (List.replicate 32 (.i .u8 0))], .arr 1 32 (List.replicate 32 (.i .u8 0)), .i .i64 0]], .nil]⟩),
  (39, ⟨.int .i64, 1, 8, .i .i64 0⟩),
  (43, ⟨.slice 49, 1, 24, .nil⟩),
  (47, ⟨.struct [(0, 24), (32, 24), (64, 3)], 65, 72, .agg [.arr 1 32 (List.replicate 32 (.i .u8 0)), .arr 1 32 (List.replicate 32 (.i .u8 0)), .i .i64 0]⟩),
  (48, ⟨.struct [(0, 3), (1, 24), (33, 24), (65, 3)], 66, 80, .agg [.i .i64 0, .arr 1 32 (List.replicate 32 (.i .u8 0)), .arr 1 32 (List.replicate 32 (.i .u8 0)), .i .i64 0]⟩),
  (49, ⟨.struct [(0, 3), (1, 24), (33, 24), (65, 3)], 66, 80, .agg [.i .i64 0, .arr 1 32 (List.replicate 32 (.i .u8 0)), .arr 1 32 (List.replicate 32 (.i .u8 0)), .i .i64 0]⟩),
  (50, ⟨.struct [(0, 3), (1, 47), (66, 49), (132, 49), (198, 43)], 199, 264, .agg [.i .i64 0, .agg [.arr 1 32 (List.replicate 32 (.i .u8 0)), .arr 1 32 (List.replicate 32 (.i .u8 0)), .i .i64 0], .agg [.i .i64 0, .arr 1 32 (List.replicate 32 (.i .u8 0)), .arr 1 32 (List.replicate 32 (.i .u8 0)), .i .i64 0], .agg [.i .i64 0, .arr 1 32 (List.replicate 32 (.i .u8 0)), .arr 1 32 (List.replicate 32 (.i .u8 0)), .i .i64 0], .nil]⟩),
  (51, ⟨.struct [(0, 3), (1, 47), (66, 49), (132, 49), (198, 43)], 199, 264, .agg [.i .i64 0, .agg [.arr 1 32 (List.replicate 32 (.i .u8 0)), .arr 1 32 (List.replicate 32 (.i .u8 0)), .i .i64 0], .agg [.i .i64 0, .arr 1 32 (List.replicate 32 (.i .u8 0)), .arr 1 32 (List.replicate 32 (.i .u8 0)), .i .i64 0], .agg [.i .i64 0, .arr 1 32 (List.replicate 32 (.i .u8 0)), .arr 1 32 (List.replicate 32 (.i .u8 0)), .i .i64 0], .nil]⟩),
  (60, ⟨.struct [(0, 36), (1, 22), (2, 22)], 3, 72, .agg [.nil, .nil, .nil]⟩),
  (61, ⟨.struct [(0, 36), (1, 22), (2, 22)], 3, 72, .agg [.nil, .nil, .nil]⟩),
  (74, ⟨.slice 24, 1, 24, .nil⟩),
  (90, ⟨.struct [(0, 43), (1, 26), (2, 26)], 3, 72, .agg [.nil, .nil, .nil]⟩),
  (91, ⟨.struct [(0, 43), (1, 26), (2, 26)], 3, 72, .agg [.nil, .nil, .nil]⟩),
  (114, ⟨.slice 118, 1, 24, .nil⟩),
  (117, ⟨.iface, 1, 16, .nili⟩),
  (118, ⟨.iface, 1, 16, .nili⟩),
  (134, ⟨.slice 5, 1, 24, .nil⟩),
  (137, ⟨.int .u32, 1, 4, .i .u32 0⟩),
  (138, ⟨.array 8 137, 8, 32, .arr 1 8 (List.replicate 8 (.i .u32 0))⟩),
  (139, ⟨.array 8 137, 8, 32, .arr 1 8 (List.replicate 8 (.i .u32 0))⟩),
  (140, ⟨.int .u64, 1, 8, .i .u64 0⟩),
  (141, ⟨.array 64 137, 64, 256, .arr 1 64 (List.replicate 64 (.i .u32 0))⟩),
  (144, ⟨.ptr 141, 1, 8, .nilp⟩),
  (158, ⟨.struct [(0, 134), (1, 39)], 2, 32, .agg [.nil, .i .i64 0]⟩),
  (159, ⟨.struct [(0, 134), (1, 39)], 2, 32, .agg [.nil, .i .i64 0]⟩),
  (162, ⟨.array 2 22, 2, 48, .arr 1 2 (List.replicate 2 (.nil))⟩),
  (165, ⟨.ptr 220, 1, 8, .nilp⟩),
  (177, ⟨.ptr 159, 1, 8, .nilp⟩),
  (197, ⟨.slice 74, 1, 24, .nil⟩),
  (199, ⟨.slice 22, 1, 24, .nil⟩),
  (205, ⟨.ptr 139, 1, 8, .nilp⟩),
  (206, ⟨.int .u64, 1, 8, .i .u64 0⟩),
  (208, ⟨.slice 9, 1, 24, .nil⟩),
  (211, ⟨.map 24 4, 1, 8, .any⟩),
  (212, ⟨.slice 36, 1, 24, .nil⟩),
  (219, ⟨.struct [(0, 9), (1, 3), (2, 39)], 3, 32, .agg [.s [], .i .i64 0, .i .i64 0]⟩),
  (220, ⟨.struct [(0, 9), (1, 3), (2, 39)], 3, 32, .agg [.s [], .i .i64 0, .i .i64 0]⟩),
  (237, ⟨.struct [(0, 17), (1, 17), (2, 17), (3, 9)], 4, 40, .agg [.nilp, .nilp, .nilp, .s []]⟩),
  (238, ⟨.struct [(0, 17), (1, 17), (2, 17), (3, 9)], 4, 40, .agg [.nilp, .nilp, .nilp, .s []]⟩),
  (239, ⟨.array 0 16, 0, 0, .arr 1 0 (List.replicate 0 (.nilp))⟩),
  (240, ⟨.struct [(0, 239)], 0, 0, .agg [.arr 1 0 (List.replicate 0 (.nilp))]⟩),
  (241, ⟨.struct [(0, 239)], 0, 0, .agg [.arr 1 0 (List.replicate 0 (.nilp))]⟩),
  (242, ⟨.int .u8, 1, 1, .i .u8 0⟩),
  (243, ⟨.int .u8, 1, 1, .i .u8 0⟩),
  (245, ⟨.ptr 5, 1, 8, .nilp⟩),
  (246, ⟨.int .i32, 1, 4, .i .i32 0⟩),
  (247, ⟨.int .i32, 1, 4, .i .i32 0⟩),
  (248, ⟨.struct [(0, 12), (1, 12), (2, 137), (3, 242), (4, 5), (5, 5), (6, 243), (7, 244), (8, 245), (9, 246), (10, 247)], 11, 48, .agg [.i .u64 0, .i .u64 0, .i .u32 0, .i .u8 0, .i .u8 0, .i .u8 0, .i .u8 0, .nilf, .nilp, .i .i32 0, .i .i32 0]⟩),
  (249, ⟨.struct [(0, 12), (1, 12), (2, 137), (3, 242), (4, 5), (5, 5), (6, 243), (7, 244), (8, 245), (9, 246), (10, 247)], 11, 48, .agg [.i .u64 0, .i .u64 0, .i .u32 0, .i .u8 0, .i .u8 0, .i .u8 0, .i .u8 0, .nilf, .nilp, .i .i32 0, .i .i32 0]⟩)]
theorem TtOk : TTOk Try.prog Tt := by
  unfold TTOk Tt
  simp only [List.forall_mem_cons, List.not_mem_nil, false_implies, implies_true, and_true]
  exact ⟨tok2, tok3, tok4, tok5, tok6, tok7, tok8, tok9, tok10, tok11, tok12, tok13, tok14, tok15, tok16, tok17, tok18, tok19, tok20, tok21, tok22, tok23, tok24, tok26, tok28, tok29, tok30, tok31, tok32, tok33, tok34, tok35, tok36, tok37, tok38, tok39, tok43, tok47, tok48, tok49, tok50, tok51, tok60, tok61, tok74, tok90, tok91, tok114, tok117, tok118, tok134, tok137, tok138, tok139, tok140, tok141, tok144, tok158, tok159, tok162, tok165, tok177, tok197, tok199, tok205, tok206, tok208, tok211, tok212, tok219, tok220, tok237, tok238, tok239, tok240, tok241, tok242, tok243, tok245, tok246, tok247, tok248, tok249⟩
end Go.Proofs.Ytcmgpkibjdbonaa
set_option maxHeartbeats 8000000
namespace Go.Proofs.Ytcmgpkibjdbonaa
open Go Go.RowKit
def rotr (x : Int) (n : Nat) : Int := bitsI .or .u32 (IntKind.u32.wrap (x * 2 ^ (32 - n))) (x.fdiv (2 ^ n))
theorem neg_and (n : Nat) (h0 : 0 < n) (h : n < 32) : bitsI .and .u64 (IntKind.u64.wrap (IntKind.i64.wrap (0 - (n : Int)))) 31 = ((32 - n : Nat) : Int) := by
  have : ∀ n : Fin 32, 0 < n.val → bitsI .and .u64 (IntKind.u64.wrap (IntKind.i64.wrap (0 - ((n.val : Nat) : Int)))) 31 = ((32 - n.val : Nat) : Int) := by decide
  exact this ⟨n, h⟩ h0
theorem rotl_spec (x k : Int) (m : Nat) (hm : 0 < m) (hm2 : m < 32) (hk : bitsI .and .u64 (IntKind.u64.wrap k) 31 = (m : Int)) :
    Spec Try.prog 184 [.i .u32 x, .i .i64 k] [] (fun v os => v = .i .u32 (rotr x (32 - m)) ∧ os = []) := by
  refine spec_of TtOk [] Try.func184 rfl Try.ntmps184 (by kernel_rfl) rfl rfl (fun C => ?_) rfl
  have hw : IntKind.u64.wrap (32 - (m : Int)) = ((32 - m : Nat) : Int) := by
    have : ∀ m : Fin 32, IntKind.u64.wrap (32 - ((m.val : Nat) : Int)) = ((32 - m.val : Nat) : Int) := by decide
    exact this ⟨m, hm2⟩
  repeat' (first | (refine o_calm rfl TtOk rfl rfl rfl ?_ (fun _ => ?_); exact ⟨rfl, True.intro⟩; rw [hw]) | (refine o_calm rfl TtOk rfl rfl rfl ?_ (fun _ => ?_); exact ⟨rfl, True.intro⟩; rw [hk]) | refine Awp.seq ?_ | refine Awp.region ?_ | (refine Ops.nil ?_; show Awp _ _ _ _ _) | (refine Awp.ret ?_; show endK _ _ _ _ _) | (refine o_calm rfl TtOk rfl rfl rfl ?_ (fun _ => ?_); first | exact True.intro | exact ⟨rfl, rfl, rfl, rfl⟩ | exact ⟨rfl, True.intro⟩ | exact ⟨rfl, rfl⟩ | exact ⟨rfl, rfl, rfl⟩ | exact rfl | exact ⟨fun h0 => by cases h0, rfl⟩ | exact (fun h0 => by cases h0) | exact ⟨rfl, by omega⟩ | exact ⟨Nat.succ_ne_zero _, rfl⟩ | omega))
  refine end_tmp rfl rfl rfl [] [] (CLe.of_eq ?_) .nil ⟨rfl, rfl⟩ _ (.inl rfl)
  show AV.i .u32 (bitsI .or .u32 (IntKind.u32.wrap (x * 2 ^ (min m 32))) (x.fdiv (2 ^ (min (32 - m) 32)))) = _
  unfold rotr
  rw [Nat.min_eq_left (by omega), Nat.min_eq_left (by omega), show 32 - (32 - m) = m by omega]
theorem turn_spec (x : Int) (n : Nat) (h0 : 0 < n) (h : n < 32) : Spec Try.prog 149 [.i .u32 x, .i .i64 n] [] (fun v os => v = .i .u32 (rotr x n) ∧ os = []) := by
  refine spec_of TtOk [] Try.func149 rfl Try.ntmps149 (by kernel_rfl) rfl rfl (fun C => ?_) rfl
  have h1 := rotl_spec x (IntKind.i64.wrap (0 - (n : Int))) (32 - n) (by omega) (by omega) (neg_and n h0 h)
  rw [show 32 - (32 - n) = n by omega] at h1
  repeat' (first | refine Awp.seq ?_ | refine Awp.region ?_ | (refine Ops.nil ?_; show Awp _ _ _ _ _) | (refine Awp.ret ?_; show endK _ _ _ _ _) | (refine o_calm rfl TtOk rfl rfl rfl ?_ (fun _ => ?_); first | exact True.intro | exact ⟨rfl, rfl, rfl, rfl⟩ | exact ⟨rfl, True.intro⟩ | exact ⟨rfl, rfl⟩ | exact ⟨rfl, rfl, rfl⟩ | exact rfl | exact ⟨fun h0 => by cases h0, rfl⟩ | exact (fun h0 => by cases h0) | exact ⟨rfl, by omega⟩ | exact ⟨Nat.succ_ne_zero _, rfl⟩ | omega) | (refine o_call0 rfl (h1) ⟨SLe.of_eq rfl, SLe.of_eq rfl, True.intro⟩ rfl ?_; rintro _ _ ⟨rfl, rfl⟩; refine ⟨rfl, ?_⟩))
  exact end_tmp rfl rfl rfl [] [] (CLe.of_eq rfl) .nil ⟨rfl, rfl⟩ _ (.inl rfl)
end Go.Proofs.Ytcmgpkibjdbonaa
