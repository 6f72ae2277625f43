/- What is known of the types of this seat's program, and that it is so. Made by a program. -/
import Derived.Test.YtapbbifcipemfaaProg
import Derived.Test.YtapbbifcipemfaaV3
namespace Go.Proofs.Ytapbbifcipemfaa
open Go Go.RowKit
set_option maxRecDepth 100000
theorem tok2 : TOk Try.prog 2 ⟨.int .i64, 1, 8, .i .i64 0⟩ := ⟨by kernel_rfl, by kernel_rfl, Or.inr ⟨_, rfl, by kernel_rfl⟩⟩
theorem tok3 : TOk Try.prog 3 ⟨.int .i64, 1, 8, .i .i64 0⟩ := ⟨by kernel_rfl, by kernel_rfl, Or.inr ⟨_, rfl, by kernel_rfl⟩⟩
theorem tok4 : TOk Try.prog 4 ⟨.bool, 1, 1, .b false⟩ := ⟨by kernel_rfl, by kernel_rfl, Or.inr ⟨_, rfl, by kernel_rfl⟩⟩
theorem tok5 : TOk Try.prog 5 ⟨.int .u8, 1, 1, .i .u8 0⟩ := ⟨by kernel_rfl, by kernel_rfl, Or.inr ⟨_, rfl, by kernel_rfl⟩⟩
theorem tok6 : TOk Try.prog 6 ⟨.int .u8, 1, 1, .i .u8 0⟩ := ⟨by kernel_rfl, by kernel_rfl, Or.inr ⟨_, rfl, by kernel_rfl⟩⟩
theorem tok7 : TOk Try.prog 7 ⟨.struct [(0, 2), (1, 3), (2, 4), (3, 6)], 4, 24, .agg [.i .i64 0, .i .i64 0, .b false, .i .u8 0]⟩ := ⟨by kernel_rfl, by kernel_rfl, Or.inr ⟨_, rfl, by kernel_rfl⟩⟩
theorem tok8 : TOk Try.prog 8 ⟨.struct [(0, 2), (1, 3), (2, 4), (3, 6)], 4, 24, .agg [.i .i64 0, .i .i64 0, .b false, .i .u8 0]⟩ := ⟨by kernel_rfl, by kernel_rfl, Or.inr ⟨_, rfl, by kernel_rfl⟩⟩
theorem tok9 : TOk Try.prog 9 ⟨.string, 1, 16, .s []⟩ := ⟨by kernel_rfl, by kernel_rfl, Or.inr ⟨_, rfl, by kernel_rfl⟩⟩
theorem tok10 : TOk Try.prog 10 ⟨.string, 1, 16, .s []⟩ := ⟨by kernel_rfl, by kernel_rfl, Or.inr ⟨_, rfl, by kernel_rfl⟩⟩
theorem tok11 : TOk Try.prog 11 ⟨.string, 1, 16, .s []⟩ := ⟨by kernel_rfl, by kernel_rfl, Or.inr ⟨_, rfl, by kernel_rfl⟩⟩
theorem tok12 : TOk Try.prog 12 ⟨.int .u64, 1, 8, .i .u64 0⟩ := ⟨by kernel_rfl, by kernel_rfl, Or.inr ⟨_, rfl, by kernel_rfl⟩⟩
theorem tok13 : TOk Try.prog 13 ⟨.struct [(0, 9), (1, 12)], 2, 24, .agg [.s [], .i .u64 0]⟩ := ⟨by kernel_rfl, by kernel_rfl, Or.inr ⟨_, rfl, by kernel_rfl⟩⟩
theorem tok14 : TOk Try.prog 14 ⟨.struct [(0, 9), (1, 12)], 2, 24, .agg [.s [], .i .u64 0]⟩ := ⟨by kernel_rfl, by kernel_rfl, Or.inr ⟨_, rfl, by kernel_rfl⟩⟩
theorem tok15 : TOk Try.prog 15 ⟨.ptr 127, 1, 8, .nilp⟩ := ⟨by kernel_rfl, by kernel_rfl, Or.inr ⟨_, rfl, by kernel_rfl⟩⟩
theorem tok16 : TOk Try.prog 16 ⟨.ptr 130, 1, 8, .nilp⟩ := ⟨by kernel_rfl, by kernel_rfl, Or.inr ⟨_, rfl, by kernel_rfl⟩⟩
theorem tok17 : TOk Try.prog 17 ⟨.ptr 138, 1, 8, .nilp⟩ := ⟨by kernel_rfl, by kernel_rfl, Or.inr ⟨_, rfl, by kernel_rfl⟩⟩
theorem tok18 : TOk Try.prog 18 ⟨.struct [(0, 17)], 1, 8, .agg [.nilp]⟩ := ⟨by kernel_rfl, by kernel_rfl, Or.inr ⟨_, rfl, by kernel_rfl⟩⟩
theorem tok19 : TOk Try.prog 19 ⟨.struct [(0, 17)], 1, 8, .agg [.nilp]⟩ := ⟨by kernel_rfl, by kernel_rfl, Or.inr ⟨_, rfl, by kernel_rfl⟩⟩
theorem tok20 : TOk Try.prog 20 ⟨.iface, 1, 16, .nili⟩ := ⟨by kernel_rfl, by kernel_rfl, Or.inr ⟨_, rfl, by kernel_rfl⟩⟩
theorem tok21 : TOk Try.prog 21 ⟨.int .i32, 1, 4, .i .i32 0⟩ := ⟨by kernel_rfl, by kernel_rfl, Or.inr ⟨_, rfl, by kernel_rfl⟩⟩
theorem tok22 : TOk Try.prog 22 ⟨.slice 9, 1, 24, .nil⟩ := ⟨by kernel_rfl, by kernel_rfl, Or.inr ⟨_, rfl, by kernel_rfl⟩⟩
theorem tok24 : TOk Try.prog 24 ⟨.slice 5, 1, 24, .nil⟩ := ⟨by kernel_rfl, by kernel_rfl, Or.inr ⟨_, rfl, by kernel_rfl⟩⟩
theorem tok25 : TOk Try.prog 25 ⟨.struct [(0, 3), (1, 24)], 2, 32, .agg [.i .i64 0, .nil]⟩ := ⟨by kernel_rfl, by kernel_rfl, Or.inr ⟨_, rfl, by kernel_rfl⟩⟩
theorem tok26 : TOk Try.prog 26 ⟨.struct [(0, 3), (1, 24)], 2, 32, .agg [.i .i64 0, .nil]⟩ := ⟨by kernel_rfl, by kernel_rfl, Or.inr ⟨_, rfl, by kernel_rfl⟩⟩
theorem tok27 : TOk Try.prog 27 ⟨.int .i64, 1, 8, .i .i64 0⟩ := ⟨by kernel_rfl, by kernel_rfl, Or.inr ⟨_, rfl, by kernel_rfl⟩⟩
theorem tok36 : TOk Try.prog 36 ⟨.slice 42, 1, 24, .nil⟩ := ⟨by kernel_rfl, by kernel_rfl, Or.inr ⟨_, rfl, by kernel_rfl⟩⟩
theorem tok37 : TOk Try.prog 37 ⟨.struct [(0, 36), (1, 3)], 2, 32, .agg [.nil, .i .i64 0]⟩ := ⟨by kernel_rfl, by kernel_rfl, Or.inr ⟨_, rfl, by kernel_rfl⟩⟩
theorem tok38 : TOk Try.prog 38 ⟨.struct [(0, 36), (1, 3)], 2, 32, .agg [.nil, .i .i64 0]⟩ := ⟨by kernel_rfl, by kernel_rfl, Or.inr ⟨_, rfl, by kernel_rfl⟩⟩
theorem tok39 : TOk Try.prog 39 ⟨.slice 36, 1, 24, .nil⟩ := ⟨by kernel_rfl, by kernel_rfl, Or.inr ⟨_, rfl, by kernel_rfl⟩⟩
theorem tok41 : TOk Try.prog 41 ⟨.struct [(0, 9), (1, 9), (2, 4)], 3, 40, .agg [.s [], .s [], .b false]⟩ := ⟨by kernel_rfl, by kernel_rfl, Or.inr ⟨_, rfl, by kernel_rfl⟩⟩
theorem tok42 : TOk Try.prog 42 ⟨.struct [(0, 9), (1, 9), (2, 4)], 3, 40, .agg [.s [], .s [], .b false]⟩ := ⟨by kernel_rfl, by kernel_rfl, Or.inr ⟨_, rfl, by kernel_rfl⟩⟩
theorem tok68 : TOk Try.prog 68 ⟨.slice 3, 1, 24, .nil⟩ := ⟨by kernel_rfl, by kernel_rfl, Or.inr ⟨_, rfl, by kernel_rfl⟩⟩
theorem tok71 : TOk Try.prog 71 ⟨.struct [(0, 24), (1, 27)], 2, 32, .agg [.nil, .i .i64 0]⟩ := ⟨by kernel_rfl, by kernel_rfl, Or.inr ⟨_, rfl, by kernel_rfl⟩⟩
theorem tok72 : TOk Try.prog 72 ⟨.struct [(0, 24), (1, 27)], 2, 32, .agg [.nil, .i .i64 0]⟩ := ⟨by kernel_rfl, by kernel_rfl, Or.inr ⟨_, rfl, by kernel_rfl⟩⟩
theorem tok75 : TOk Try.prog 75 ⟨.ptr 116, 1, 8, .nilp⟩ := ⟨by kernel_rfl, by kernel_rfl, Or.inr ⟨_, rfl, by kernel_rfl⟩⟩
theorem tok79 : TOk Try.prog 79 ⟨.ptr 38, 1, 8, .nilp⟩ := ⟨by kernel_rfl, by kernel_rfl, Or.inr ⟨_, rfl, by kernel_rfl⟩⟩
theorem tok82 : TOk Try.prog 82 ⟨.slice 84, 1, 24, .nil⟩ := ⟨by kernel_rfl, by kernel_rfl, Or.inr ⟨_, rfl, by kernel_rfl⟩⟩
theorem tok83 : TOk Try.prog 83 ⟨.struct [(0, 36), (1, 3)], 2, 32, .agg [.nil, .i .i64 0]⟩ := ⟨by kernel_rfl, by kernel_rfl, Or.inr ⟨_, rfl, by kernel_rfl⟩⟩
theorem tok84 : TOk Try.prog 84 ⟨.struct [(0, 36), (1, 3)], 2, 32, .agg [.nil, .i .i64 0]⟩ := ⟨by kernel_rfl, by kernel_rfl, Or.inr ⟨_, rfl, by kernel_rfl⟩⟩
theorem tok95 : TOk Try.prog 95 ⟨.struct [(0, 9), (1, 3), (2, 3)], 3, 32, .agg [.s [], .i .i64 0, .i .i64 0]⟩ := ⟨by kernel_rfl, by kernel_rfl, Or.inr ⟨_, rfl, by kernel_rfl⟩⟩
theorem tok96 : TOk Try.prog 96 ⟨.struct [(0, 9), (1, 3), (2, 3)], 3, 32, .agg [.s [], .i .i64 0, .i .i64 0]⟩ := ⟨by kernel_rfl, by kernel_rfl, Or.inr ⟨_, rfl, by kernel_rfl⟩⟩
theorem tok105 : TOk Try.prog 105 ⟨.int .u64, 1, 8, .i .u64 0⟩ := ⟨by kernel_rfl, by kernel_rfl, Or.inr ⟨_, rfl, by kernel_rfl⟩⟩
theorem tok106 : TOk Try.prog 106 ⟨.int .u32, 1, 4, .i .u32 0⟩ := ⟨by kernel_rfl, by kernel_rfl, Or.inr ⟨_, rfl, by kernel_rfl⟩⟩
theorem tok111 : TOk Try.prog 111 ⟨.int .u64, 1, 8, .i .u64 0⟩ := ⟨by kernel_rfl, by kernel_rfl, Or.inr ⟨_, rfl, by kernel_rfl⟩⟩
theorem tok113 : TOk Try.prog 113 ⟨.ptr 72, 1, 8, .nilp⟩ := ⟨by kernel_rfl, by kernel_rfl, Or.inr ⟨_, rfl, by kernel_rfl⟩⟩
theorem tok115 : TOk Try.prog 115 ⟨.struct [(0, 9), (1, 3), (2, 27)], 3, 32, .agg [.s [], .i .i64 0, .i .i64 0]⟩ := ⟨by kernel_rfl, by kernel_rfl, Or.inr ⟨_, rfl, by kernel_rfl⟩⟩
theorem tok116 : TOk Try.prog 116 ⟨.struct [(0, 9), (1, 3), (2, 27)], 3, 32, .agg [.s [], .i .i64 0, .i .i64 0]⟩ := ⟨by kernel_rfl, by kernel_rfl, Or.inr ⟨_, rfl, by kernel_rfl⟩⟩
theorem tok123 : TOk Try.prog 123 ⟨.array 256 106, 256, 1024, .arr 1 256 (List.replicate 256 (.i .u32 0))⟩ := ⟨by kernel_rfl, by kernel_rfl, Or.inr ⟨_, rfl, by kernel_rfl⟩⟩
theorem tok126 : TOk Try.prog 126 ⟨.struct [(0, 17), (1, 17), (2, 17), (3, 9)], 4, 40, .agg [.nilp, .nilp, .nilp, .s []]⟩ := ⟨by kernel_rfl, by kernel_rfl, Or.inr ⟨_, rfl, by kernel_rfl⟩⟩
theorem tok127 : TOk Try.prog 127 ⟨.struct [(0, 17), (1, 17), (2, 17), (3, 9)], 4, 40, .agg [.nilp, .nilp, .nilp, .s []]⟩ := ⟨by kernel_rfl, by kernel_rfl, Or.inr ⟨_, rfl, by kernel_rfl⟩⟩
theorem tok128 : TOk Try.prog 128 ⟨.array 0 16, 0, 0, .arr 1 0 (List.replicate 0 (.nilp))⟩ := ⟨by kernel_rfl, by kernel_rfl, Or.inr ⟨_, rfl, by kernel_rfl⟩⟩
theorem tok129 : TOk Try.prog 129 ⟨.struct [(0, 128)], 0, 0, .agg [.arr 1 0 (List.replicate 0 (.nilp))]⟩ := ⟨by kernel_rfl, by kernel_rfl, Or.inr ⟨_, rfl, by kernel_rfl⟩⟩
theorem tok130 : TOk Try.prog 130 ⟨.struct [(0, 128)], 0, 0, .agg [.arr 1 0 (List.replicate 0 (.nilp))]⟩ := ⟨by kernel_rfl, by kernel_rfl, Or.inr ⟨_, rfl, by kernel_rfl⟩⟩
theorem tok131 : TOk Try.prog 131 ⟨.int .u8, 1, 1, .i .u8 0⟩ := ⟨by kernel_rfl, by kernel_rfl, Or.inr ⟨_, rfl, by kernel_rfl⟩⟩
theorem tok132 : TOk Try.prog 132 ⟨.int .u8, 1, 1, .i .u8 0⟩ := ⟨by kernel_rfl, by kernel_rfl, Or.inr ⟨_, rfl, by kernel_rfl⟩⟩
theorem tok134 : TOk Try.prog 134 ⟨.ptr 5, 1, 8, .nilp⟩ := ⟨by kernel_rfl, by kernel_rfl, Or.inr ⟨_, rfl, by kernel_rfl⟩⟩
theorem tok135 : TOk Try.prog 135 ⟨.int .i32, 1, 4, .i .i32 0⟩ := ⟨by kernel_rfl, by kernel_rfl, Or.inr ⟨_, rfl, by kernel_rfl⟩⟩
theorem tok136 : TOk Try.prog 136 ⟨.int .i32, 1, 4, .i .i32 0⟩ := ⟨by kernel_rfl, by kernel_rfl, Or.inr ⟨_, rfl, by kernel_rfl⟩⟩
theorem tok137 : TOk Try.prog 137 ⟨.struct [(0, 12), (1, 12), (2, 106), (3, 131), (4, 5), (5, 5), (6, 132), (7, 133), (8, 134), (9, 135), (10, 136)], 11, 48, .agg [.i .u64 0, .i .u64 0, .i .u32 0, .i .u8 0, .i .u8 0, .i .u8 0, .i .u8 0, .nilf, .nilp, .i .i32 0, .i .i32 0]⟩ := ⟨by kernel_rfl, by kernel_rfl, Or.inr ⟨_, rfl, by kernel_rfl⟩⟩
theorem tok138 : TOk Try.prog 138 ⟨.struct [(0, 12), (1, 12), (2, 106), (3, 131), (4, 5), (5, 5), (6, 132), (7, 133), (8, 134), (9, 135), (10, 136)], 11, 48, .agg [.i .u64 0, .i .u64 0, .i .u32 0, .i .u8 0, .i .u8 0, .i .u8 0, .i .u8 0, .nilf, .nilp, .i .i32 0, .i .i32 0]⟩ := ⟨by kernel_rfl, by kernel_rfl, Or.inr ⟨_, rfl, by kernel_rfl⟩⟩
def Tt : List (Nat × TI) := [(2, ⟨.int .i64, 1, 8, .i .i64 0⟩),
  (3, ⟨.int .i64, 1, 8, .i .i64 0⟩),
  (4, ⟨.bool, 1, 1, .b false⟩),
  (5, ⟨.int .u8, 1, 1, .i .u8 0⟩),
  (6, ⟨.int .u8, 1, 1, .i .u8 0⟩),
  (7, ⟨.struct [(0, 2), (1, 3), (2, 4), (3, 6)], 4, 24, .agg [.i .i64 0, .i .i64 0, .b false, .i .u8 0]⟩),
  (8, ⟨.struct [(0, 2), (1, 3), (2, 4), (3, 6)], 4, 24, .agg [.i .i64 0, .i .i64 0, .b false, .i .u8 0]⟩),
  (9, ⟨.string, 1, 16, .s []⟩),
  (10, ⟨.string, 1, 16, .s []⟩),
  (11, ⟨.string, 1, 16, .s []⟩),
  (12, ⟨.int .u64, 1, 8, .i .u64 0⟩),
  (13, ⟨.struct [(0, 9), (1, 12)], 2, 24, .agg [.s [], .i .u64 0]⟩),
  (14, ⟨.struct [(0, 9), (1, 12)], 2, 24, .agg [.s [], .i .u64 0]⟩),
  (15, ⟨.ptr 127, 1, 8, .nilp⟩),
  (16, ⟨.ptr 130, 1, 8, .nilp⟩),
  (17, ⟨.ptr 138, 1, 8, .nilp⟩),
  (18, ⟨.struct [(0, 17)], 1, 8, .agg [.nilp]⟩),
  (19, ⟨.struct [(0, 17)], 1, 8, .agg [.nilp]⟩),
  (20, ⟨.iface, 1, 16, .nili⟩),
  (21, ⟨.int .i32, 1, 4, .i .i32 0⟩),
  (22, ⟨.slice 9, 1, 24, .nil⟩),
  (24, ⟨.slice 5, 1, 24, .nil⟩),
  (25, ⟨.struct [(0, 3), (1, 24)], 2, 32, .agg [.i .i64 0, .nil]⟩),
  (26, ⟨.struct [(0, 3), (1, 24)], 2, 32, .agg [.i .i64 0, .nil]⟩),
  (27, ⟨.int .i64, 1, 8, .i .i64 0⟩),
  (36, ⟨.slice 42, 1, 24, .nil⟩),
  (37, ⟨.struct [(0, 36), (1, 3)], 2, 32, .agg [.nil, .i .i64 0]⟩),
  (38, ⟨.struct [(0, 36), (1, 3)], 2, 32, .agg [.nil, .i .i64 0]⟩),
  (39, ⟨.slice 36, 1, 24, .nil⟩),
  (41, ⟨.struct [(0, 9), (1, 9), (2, 4)], 3, 40, .agg [.s [], .s [], .b false]⟩),
  (42, ⟨.struct [(0, 9), (1, 9), (2, 4)], 3, 40, .agg [.s [], .s [], .b false]⟩),
  (68, ⟨.slice 3, 1, 24, .nil⟩),
  (71, ⟨.struct [(0, 24), (1, 27)], 2, 32, .agg [.nil, .i .i64 0]⟩),
  (72, ⟨.struct [(0, 24), (1, 27)], 2, 32, .agg [.nil, .i .i64 0]⟩),
  (75, ⟨.ptr 116, 1, 8, .nilp⟩),
  (79, ⟨.ptr 38, 1, 8, .nilp⟩),
  (82, ⟨.slice 84, 1, 24, .nil⟩),
  (83, ⟨.struct [(0, 36), (1, 3)], 2, 32, .agg [.nil, .i .i64 0]⟩),
  (84, ⟨.struct [(0, 36), (1, 3)], 2, 32, .agg [.nil, .i .i64 0]⟩),
  (95, ⟨.struct [(0, 9), (1, 3), (2, 3)], 3, 32, .agg [.s [], .i .i64 0, .i .i64 0]⟩),
  (96, ⟨.struct [(0, 9), (1, 3), (2, 3)], 3, 32, .agg [.s [], .i .i64 0, .i .i64 0]⟩),
  (105, ⟨.int .u64, 1, 8, .i .u64 0⟩),
  (106, ⟨.int .u32, 1, 4, .i .u32 0⟩),
  (111, ⟨.int .u64, 1, 8, .i .u64 0⟩),
  (113, ⟨.ptr 72, 1, 8, .nilp⟩),
  (115, ⟨.struct [(0, 9), (1, 3), (2, 27)], 3, 32, .agg [.s [], .i .i64 0, .i .i64 0]⟩),
  (116, ⟨.struct [(0, 9), (1, 3), (2, 27)], 3, 32, .agg [.s [], .i .i64 0, .i .i64 0]⟩),
  (123, ⟨.array 256 106, 256, 1024, .arr 1 256 (List.replicate 256 (.i .u32 0))⟩),
  (126, ⟨.struct [(0, 17), (1, 17), (2, 17), (3, 9)], 4, 40, .agg [.nilp, .nilp, .nilp, .s []]⟩),
  (127, ⟨.struct [(0, 17), (1, 17), (2, 17), (3, 9)], 4, 40, .agg [.nilp, .nilp, .nilp, .s []]⟩),
  (128, ⟨.array 0 16, 0, 0, .arr 1 0 (List.replicate 0 (.nilp))⟩),
  (129, ⟨.struct [(0, 128)], 0, 0, .agg [.arr 1 0 (List.replicate 0 (.nilp))]⟩),
  (130, ⟨.struct [(0, 128)], 0, 0, .agg [.arr 1 0 (List.replicate 0 (.nilp))]⟩),
  (131, ⟨.int .u8, 1, 1, .i .u8 0⟩),
  (132, ⟨.int .u8, 1, 1, .i .u8 0⟩),
  (134, ⟨.ptr 5, 1, 8, .nilp⟩),
  (135, ⟨.int .i32, 1, 4, .i .i32 0⟩),
  (136, ⟨.int .i32, 1, 4, .i .i32 0⟩),
  (137, ⟨.struct [(0, 12), (1, 12), (2, 106), (3, 131), (4, 5), (5, 5), (6, 132), (7, 133), (8, 134), (9, 135), (10, 136)], 11, 48, .agg [.i .u64 0, .i .u64 0, .i .u32 0, .i .u8 0, .i .u8 0, .i .u8 0, .i .u8 0, .nilf, .nilp, .i .i32 0, .i .i32 0]⟩),
  (138, ⟨.struct [(0, 12), (1, 12), (2, 106), (3, 131), (4, 5), (5, 5), (6, 132), (7, 133), (8, 134), (9, 135), (10, 136)], 11, 48, .agg [.i .u64 0, .i .u64 0, .i .u32 0, .i .u8 0, .i .u8 0, .i .u8 0, .i .u8 0, .nilf, .nilp, .i .i32 0, .i .i32 0]⟩)]
theorem TtOk : TTOk Try.prog Tt := by
  unfold TTOk Tt
  simp only [List.forall_mem_cons, List.not_mem_nil, false_implies, implies_true, and_true]
  exact ⟨tok2, tok3, tok4, tok5, tok6, tok7, tok8, tok9, tok10, tok11, tok12, tok13, tok14, tok15, tok16, tok17, tok18, tok19, tok20, tok21, tok22, tok24, tok25, tok26, tok27, tok36, tok37, tok38, tok39, tok41, tok42, tok68, tok71, tok72, tok75, tok79, tok82, tok83, tok84, tok95, tok96, tok105, tok106, tok111, tok113, tok115, tok116, tok123, tok126, tok127, tok128, tok129, tok130, tok131, tok132, tok134, tok135, tok136, tok137, tok138⟩
end Go.Proofs.Ytapbbifcipemfaa
