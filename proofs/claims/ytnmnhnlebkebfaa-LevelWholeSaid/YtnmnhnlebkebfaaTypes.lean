/- What is known of the types of this seat's program, and that it is so. Made by a program. -/
import Derived.Test.YtnmnhnlebkebfaaProg
import Derived.Test.YtnmnhnlebkebfaaV3
namespace Go.Proofs.Ytnmnhnlebkebfaa
open Go Go.RowKit
set_option maxRecDepth 100000
theorem tok2 : TOk Try.prog 2 ⟨.int .i64, 1, 8, .i .i64 0⟩ := ⟨by kernel_rfl, by kernel_rfl, Or.inr ⟨_, rfl, by kernel_rfl⟩⟩
theorem tok3 : TOk Try.prog 3 ⟨.int .i64, 1, 8, .i .i64 0⟩ := ⟨by kernel_rfl, by kernel_rfl, Or.inr ⟨_, rfl, by kernel_rfl⟩⟩
theorem tok4 : TOk Try.prog 4 ⟨.bool, 1, 1, .b false⟩ := ⟨by kernel_rfl, by kernel_rfl, Or.inr ⟨_, rfl, by kernel_rfl⟩⟩
theorem tok5 : TOk Try.prog 5 ⟨.int .u8, 1, 1, .i .u8 0⟩ := ⟨by kernel_rfl, by kernel_rfl, Or.inr ⟨_, rfl, by kernel_rfl⟩⟩
theorem tok6 : TOk Try.prog 6 ⟨.int .u8, 1, 1, .i .u8 0⟩ := ⟨by kernel_rfl, by kernel_rfl, Or.inr ⟨_, rfl, by kernel_rfl⟩⟩
theorem tok7 : TOk Try.prog 7 ⟨.struct [(0, 2), (1, 3), (2, 4), (3, 6)], 4, 24, .agg [.i .i64 0, .i .i64 0, .b false, .i .u8 0]⟩ := ⟨by kernel_rfl, by kernel_rfl, Or.inr ⟨_, rfl, by kernel_rfl⟩⟩
theorem tok8 : TOk Try.prog 8 ⟨.struct [(0, 2), (1, 3), (2, 4), (3, 6)], 4, 24, .agg [.i .i64 0, .i .i64 0, .b false, .i .u8 0]⟩ := ⟨by kernel_rfl, by kernel_rfl, Or.inr ⟨_, rfl, by kernel_rfl⟩⟩
theorem tok9 : TOk Try.prog 9 ⟨.string, 1, 16, .s []⟩ := ⟨by kernel_rfl, by kernel_rfl, Or.inr ⟨_, rfl, by kernel_rfl⟩⟩
theorem tok10 : TOk Try.prog 10 ⟨.string, 1, 16, .s []⟩ := ⟨by kernel_rfl, by kernel_rfl, Or.inr ⟨_, rfl, by kernel_rfl⟩⟩
theorem tok11 : TOk Try.prog 11 ⟨.string, 1, 16, .s []⟩ := ⟨by kernel_rfl, by kernel_rfl, Or.inr ⟨_, rfl, by kernel_rfl⟩⟩
theorem tok12 : TOk Try.prog 12 ⟨.int .u64, 1, 8, .i .u64 0⟩ := ⟨by kernel_rfl, by kernel_rfl, Or.inr ⟨_, rfl, by kernel_rfl⟩⟩
theorem tok13 : TOk Try.prog 13 ⟨.struct [(0, 9), (1, 12)], 2, 24, .agg [.s [], .i .u64 0]⟩ := ⟨by kernel_rfl, by kernel_rfl, Or.inr ⟨_, rfl, by kernel_rfl⟩⟩
theorem tok14 : TOk Try.prog 14 ⟨.struct [(0, 9), (1, 12)], 2, 24, .agg [.s [], .i .u64 0]⟩ := ⟨by kernel_rfl, by kernel_rfl, Or.inr ⟨_, rfl, by kernel_rfl⟩⟩
theorem tok15 : TOk Try.prog 15 ⟨.ptr 136, 1, 8, .nilp⟩ := ⟨by kernel_rfl, by kernel_rfl, Or.inr ⟨_, rfl, by kernel_rfl⟩⟩
theorem tok16 : TOk Try.prog 16 ⟨.ptr 139, 1, 8, .nilp⟩ := ⟨by kernel_rfl, by kernel_rfl, Or.inr ⟨_, rfl, by kernel_rfl⟩⟩
theorem tok17 : TOk Try.prog 17 ⟨.ptr 147, 1, 8, .nilp⟩ := ⟨by kernel_rfl, by kernel_rfl, Or.inr ⟨_, rfl, by kernel_rfl⟩⟩
theorem tok18 : TOk Try.prog 18 ⟨.struct [(0, 17)], 1, 8, .agg [.nilp]⟩ := ⟨by kernel_rfl, by kernel_rfl, Or.inr ⟨_, rfl, by kernel_rfl⟩⟩
theorem tok19 : TOk Try.prog 19 ⟨.struct [(0, 17)], 1, 8, .agg [.nilp]⟩ := ⟨by kernel_rfl, by kernel_rfl, Or.inr ⟨_, rfl, by kernel_rfl⟩⟩
theorem tok20 : TOk Try.prog 20 ⟨.iface, 1, 16, .nili⟩ := ⟨by kernel_rfl, by kernel_rfl, Or.inr ⟨_, rfl, by kernel_rfl⟩⟩
theorem tok21 : TOk Try.prog 21 ⟨.int .i32, 1, 4, .i .i32 0⟩ := ⟨by kernel_rfl, by kernel_rfl, Or.inr ⟨_, rfl, by kernel_rfl⟩⟩
theorem tok22 : TOk Try.prog 22 ⟨.slice 35, 1, 24, .nil⟩ := ⟨by kernel_rfl, by kernel_rfl, Or.inr ⟨_, rfl, by kernel_rfl⟩⟩
theorem tok23 : TOk Try.prog 23 ⟨.struct [(0, 3), (1, 3), (2, 22)], 3, 40, .agg [.i .i64 0, .i .i64 0, .nil]⟩ := ⟨by kernel_rfl, by kernel_rfl, Or.inr ⟨_, rfl, by kernel_rfl⟩⟩
theorem tok24 : TOk Try.prog 24 ⟨.struct [(0, 3), (1, 3), (2, 22)], 3, 40, .agg [.i .i64 0, .i .i64 0, .nil]⟩ := ⟨by kernel_rfl, by kernel_rfl, Or.inr ⟨_, rfl, by kernel_rfl⟩⟩
theorem tok25 : TOk Try.prog 25 ⟨.struct [(0, 3), (1, 3)], 2, 16, .agg [.i .i64 0, .i .i64 0]⟩ := ⟨by kernel_rfl, by kernel_rfl, Or.inr ⟨_, rfl, by kernel_rfl⟩⟩
theorem tok26 : TOk Try.prog 26 ⟨.struct [(0, 3), (1, 3)], 2, 16, .agg [.i .i64 0, .i .i64 0]⟩ := ⟨by kernel_rfl, by kernel_rfl, Or.inr ⟨_, rfl, by kernel_rfl⟩⟩
theorem tok28 : TOk Try.prog 28 ⟨.slice 3, 1, 24, .nil⟩ := ⟨by kernel_rfl, by kernel_rfl, Or.inr ⟨_, rfl, by kernel_rfl⟩⟩
theorem tok29 : TOk Try.prog 29 ⟨.struct [(0, 3), (1, 28), (2, 28)], 3, 56, .agg [.i .i64 0, .nil, .nil]⟩ := ⟨by kernel_rfl, by kernel_rfl, Or.inr ⟨_, rfl, by kernel_rfl⟩⟩
theorem tok30 : TOk Try.prog 30 ⟨.struct [(0, 3), (1, 28), (2, 28)], 3, 56, .agg [.i .i64 0, .nil, .nil]⟩ := ⟨by kernel_rfl, by kernel_rfl, Or.inr ⟨_, rfl, by kernel_rfl⟩⟩
theorem tok34 : TOk Try.prog 34 ⟨.struct [(0, 3), (1, 3), (2, 3), (3, 9), (4, 9)], 5, 56, .agg [.i .i64 0, .i .i64 0, .i .i64 0, .s [], .s []]⟩ := ⟨by kernel_rfl, by kernel_rfl, Or.inr ⟨_, rfl, by kernel_rfl⟩⟩
theorem tok35 : TOk Try.prog 35 ⟨.struct [(0, 3), (1, 3), (2, 3), (3, 9), (4, 9)], 5, 56, .agg [.i .i64 0, .i .i64 0, .i .i64 0, .s [], .s []]⟩ := ⟨by kernel_rfl, by kernel_rfl, Or.inr ⟨_, rfl, by kernel_rfl⟩⟩
theorem tok38 : TOk Try.prog 38 ⟨.struct [(0, 3), (1, 28), (2, 28)], 3, 56, .agg [.i .i64 0, .nil, .nil]⟩ := ⟨by kernel_rfl, by kernel_rfl, Or.inr ⟨_, rfl, by kernel_rfl⟩⟩
theorem tok41 : TOk Try.prog 41 ⟨.slice 79, 1, 24, .nil⟩ := ⟨by kernel_rfl, by kernel_rfl, Or.inr ⟨_, rfl, by kernel_rfl⟩⟩
theorem tok42 : TOk Try.prog 42 ⟨.struct [(0, 3), (1, 3), (2, 41)], 3, 40, .agg [.i .i64 0, .i .i64 0, .nil]⟩ := ⟨by kernel_rfl, by kernel_rfl, Or.inr ⟨_, rfl, by kernel_rfl⟩⟩
theorem tok43 : TOk Try.prog 43 ⟨.struct [(0, 3), (1, 3), (2, 41)], 3, 40, .agg [.i .i64 0, .i .i64 0, .nil]⟩ := ⟨by kernel_rfl, by kernel_rfl, Or.inr ⟨_, rfl, by kernel_rfl⟩⟩
theorem tok52 : TOk Try.prog 52 ⟨.int .i64, 1, 8, .i .i64 0⟩ := ⟨by kernel_rfl, by kernel_rfl, Or.inr ⟨_, rfl, by kernel_rfl⟩⟩
theorem tok79 : TOk Try.prog 79 ⟨.struct [(0, 3), (1, 3), (2, 3), (3, 9), (4, 9)], 5, 56, .agg [.i .i64 0, .i .i64 0, .i .i64 0, .s [], .s []]⟩ := ⟨by kernel_rfl, by kernel_rfl, Or.inr ⟨_, rfl, by kernel_rfl⟩⟩
theorem tok87 : TOk Try.prog 87 ⟨.map 3 4, 1, 8, .any⟩ := ⟨by kernel_rfl, by kernel_rfl, Or.inl rfl⟩
theorem tok90 : TOk Try.prog 90 ⟨.slice 5, 1, 24, .nil⟩ := ⟨by kernel_rfl, by kernel_rfl, Or.inr ⟨_, rfl, by kernel_rfl⟩⟩
theorem tok91 : TOk Try.prog 91 ⟨.struct [(0, 90), (1, 52)], 2, 32, .agg [.nil, .i .i64 0]⟩ := ⟨by kernel_rfl, by kernel_rfl, Or.inr ⟨_, rfl, by kernel_rfl⟩⟩
theorem tok92 : TOk Try.prog 92 ⟨.struct [(0, 90), (1, 52)], 2, 32, .agg [.nil, .i .i64 0]⟩ := ⟨by kernel_rfl, by kernel_rfl, Or.inr ⟨_, rfl, by kernel_rfl⟩⟩
theorem tok98 : TOk Try.prog 98 ⟨.int .u32, 1, 4, .i .u32 0⟩ := ⟨by kernel_rfl, by kernel_rfl, Or.inr ⟨_, rfl, by kernel_rfl⟩⟩
theorem tok103 : TOk Try.prog 103 ⟨.ptr 128, 1, 8, .nilp⟩ := ⟨by kernel_rfl, by kernel_rfl, Or.inr ⟨_, rfl, by kernel_rfl⟩⟩
theorem tok111 : TOk Try.prog 111 ⟨.struct [(0, 9), (1, 3), (2, 3)], 3, 32, .agg [.s [], .i .i64 0, .i .i64 0]⟩ := ⟨by kernel_rfl, by kernel_rfl, Or.inr ⟨_, rfl, by kernel_rfl⟩⟩
theorem tok112 : TOk Try.prog 112 ⟨.struct [(0, 9), (1, 3), (2, 3)], 3, 32, .agg [.s [], .i .i64 0, .i .i64 0]⟩ := ⟨by kernel_rfl, by kernel_rfl, Or.inr ⟨_, rfl, by kernel_rfl⟩⟩
theorem tok124 : TOk Try.prog 124 ⟨.ptr 92, 1, 8, .nilp⟩ := ⟨by kernel_rfl, by kernel_rfl, Or.inr ⟨_, rfl, by kernel_rfl⟩⟩
theorem tok126 : TOk Try.prog 126 ⟨.int .u64, 1, 8, .i .u64 0⟩ := ⟨by kernel_rfl, by kernel_rfl, Or.inr ⟨_, rfl, by kernel_rfl⟩⟩
theorem tok127 : TOk Try.prog 127 ⟨.struct [(0, 9), (1, 3), (2, 52)], 3, 32, .agg [.s [], .i .i64 0, .i .i64 0]⟩ := ⟨by kernel_rfl, by kernel_rfl, Or.inr ⟨_, rfl, by kernel_rfl⟩⟩
theorem tok128 : TOk Try.prog 128 ⟨.struct [(0, 9), (1, 3), (2, 52)], 3, 32, .agg [.s [], .i .i64 0, .i .i64 0]⟩ := ⟨by kernel_rfl, by kernel_rfl, Or.inr ⟨_, rfl, by kernel_rfl⟩⟩
theorem tok133 : TOk Try.prog 133 ⟨.array 256 98, 256, 1024, .arr 1 256 (List.replicate 256 (.i .u32 0))⟩ := ⟨by kernel_rfl, by kernel_rfl, Or.inr ⟨_, rfl, by kernel_rfl⟩⟩
theorem tok135 : TOk Try.prog 135 ⟨.struct [(0, 17), (1, 17), (2, 17), (3, 9)], 4, 40, .agg [.nilp, .nilp, .nilp, .s []]⟩ := ⟨by kernel_rfl, by kernel_rfl, Or.inr ⟨_, rfl, by kernel_rfl⟩⟩
theorem tok136 : TOk Try.prog 136 ⟨.struct [(0, 17), (1, 17), (2, 17), (3, 9)], 4, 40, .agg [.nilp, .nilp, .nilp, .s []]⟩ := ⟨by kernel_rfl, by kernel_rfl, Or.inr ⟨_, rfl, by kernel_rfl⟩⟩
theorem tok137 : TOk Try.prog 137 ⟨.array 0 16, 0, 0, .arr 1 0 (List.replicate 0 (.nilp))⟩ := ⟨by kernel_rfl, by kernel_rfl, Or.inr ⟨_, rfl, by kernel_rfl⟩⟩
theorem tok138 : TOk Try.prog 138 ⟨.struct [(0, 137)], 0, 0, .agg [.arr 1 0 (List.replicate 0 (.nilp))]⟩ := ⟨by kernel_rfl, by kernel_rfl, Or.inr ⟨_, rfl, by kernel_rfl⟩⟩
theorem tok139 : TOk Try.prog 139 ⟨.struct [(0, 137)], 0, 0, .agg [.arr 1 0 (List.replicate 0 (.nilp))]⟩ := ⟨by kernel_rfl, by kernel_rfl, Or.inr ⟨_, rfl, by kernel_rfl⟩⟩
theorem tok140 : TOk Try.prog 140 ⟨.int .u8, 1, 1, .i .u8 0⟩ := ⟨by kernel_rfl, by kernel_rfl, Or.inr ⟨_, rfl, by kernel_rfl⟩⟩
theorem tok141 : TOk Try.prog 141 ⟨.int .u8, 1, 1, .i .u8 0⟩ := ⟨by kernel_rfl, by kernel_rfl, Or.inr ⟨_, rfl, by kernel_rfl⟩⟩
theorem tok143 : TOk Try.prog 143 ⟨.ptr 5, 1, 8, .nilp⟩ := ⟨by kernel_rfl, by kernel_rfl, Or.inr ⟨_, rfl, by kernel_rfl⟩⟩
theorem tok144 : TOk Try.prog 144 ⟨.int .i32, 1, 4, .i .i32 0⟩ := ⟨by kernel_rfl, by kernel_rfl, Or.inr ⟨_, rfl, by kernel_rfl⟩⟩
theorem tok145 : TOk Try.prog 145 ⟨.int .i32, 1, 4, .i .i32 0⟩ := ⟨by kernel_rfl, by kernel_rfl, Or.inr ⟨_, rfl, by kernel_rfl⟩⟩
theorem tok146 : TOk Try.prog 146 ⟨.struct [(0, 12), (1, 12), (2, 98), (3, 140), (4, 5), (5, 5), (6, 141), (7, 142), (8, 143), (9, 144), (10, 145)], 11, 48, .agg [.i .u64 0, .i .u64 0, .i .u32 0, .i .u8 0, .i .u8 0, .i .u8 0, .i .u8 0, .nilf, .nilp, .i .i32 0, .i .i32 0]⟩ := ⟨by kernel_rfl, by kernel_rfl, Or.inr ⟨_, rfl, by kernel_rfl⟩⟩
theorem tok147 : TOk Try.prog 147 ⟨.struct [(0, 12), (1, 12), (2, 98), (3, 140), (4, 5), (5, 5), (6, 141), (7, 142), (8, 143), (9, 144), (10, 145)], 11, 48, .agg [.i .u64 0, .i .u64 0, .i .u32 0, .i .u8 0, .i .u8 0, .i .u8 0, .i .u8 0, .nilf, .nilp, .i .i32 0, .i .i32 0]⟩ := ⟨by kernel_rfl, by kernel_rfl, Or.inr ⟨_, rfl, by kernel_rfl⟩⟩
def Tt : List (Nat × TI) := [(2, ⟨.int .i64, 1, 8, .i .i64 0⟩),
  (3, ⟨.int .i64, 1, 8, .i .i64 0⟩),
  (4, ⟨.bool, 1, 1, .b false⟩),
  (5, ⟨.int .u8, 1, 1, .i .u8 0⟩),
  (6, ⟨.int .u8, 1, 1, .i .u8 0⟩),
  (7, ⟨.struct [(0, 2), (1, 3), (2, 4), (3, 6)], 4, 24, .agg [.i .i64 0, .i .i64 0, .b false, .i .u8 0]⟩),
  (8, ⟨.struct [(0, 2), (1, 3), (2, 4), (3, 6)], 4, 24, .agg [.i .i64 0, .i .i64 0, .b false, .i .u8 0]⟩),
  (9, ⟨.string, 1, 16, .s []⟩),
  (10, ⟨.string, 1, 16, .s []⟩),
  (11, ⟨.string, 1, 16, .s []⟩),
  (12, ⟨.int .u64, 1, 8, .i .u64 0⟩),
  (13, ⟨.struct [(0, 9), (1, 12)], 2, 24, .agg [.s [], .i .u64 0]⟩),
  (14, ⟨.struct [(0, 9), (1, 12)], 2, 24, .agg [.s [], .i .u64 0]⟩),
  (15, ⟨.ptr 136, 1, 8, .nilp⟩),
  (16, ⟨.ptr 139, 1, 8, .nilp⟩),
  (17, ⟨.ptr 147, 1, 8, .nilp⟩),
  (18, ⟨.struct [(0, 17)], 1, 8, .agg [.nilp]⟩),
  (19, ⟨.struct [(0, 17)], 1, 8, .agg [.nilp]⟩),
  (20, ⟨.iface, 1, 16, .nili⟩),
  (21, ⟨.int .i32, 1, 4, .i .i32 0⟩),
  (22, ⟨.slice 35, 1, 24, .nil⟩),
  (23, ⟨.struct [(0, 3), (1, 3), (2, 22)], 3, 40, .agg [.i .i64 0, .i .i64 0, .nil]⟩),
  (24, ⟨.struct [(0, 3), (1, 3), (2, 22)], 3, 40, .agg [.i .i64 0, .i .i64 0, .nil]⟩),
  (25, ⟨.struct [(0, 3), (1, 3)], 2, 16, .agg [.i .i64 0, .i .i64 0]⟩),
  (26, ⟨.struct [(0, 3), (1, 3)], 2, 16, .agg [.i .i64 0, .i .i64 0]⟩),
  (28, ⟨.slice 3, 1, 24, .nil⟩),
  (29, ⟨.struct [(0, 3), (1, 28), (2, 28)], 3, 56, .agg [.i .i64 0, .nil, .nil]⟩),
  (30, ⟨.struct [(0, 3), (1, 28), (2, 28)], 3, 56, .agg [.i .i64 0, .nil, .nil]⟩),
  (34, ⟨.struct [(0, 3), (1, 3), (2, 3), (3, 9), (4, 9)], 5, 56, .agg [.i .i64 0, .i .i64 0, .i .i64 0, .s [], .s []]⟩),
  (35, ⟨.struct [(0, 3), (1, 3), (2, 3), (3, 9), (4, 9)], 5, 56, .agg [.i .i64 0, .i .i64 0, .i .i64 0, .s [], .s []]⟩),
  (38, ⟨.struct [(0, 3), (1, 28), (2, 28)], 3, 56, .agg [.i .i64 0, .nil, .nil]⟩),
  (41, ⟨.slice 79, 1, 24, .nil⟩),
  (42, ⟨.struct [(0, 3), (1, 3), (2, 41)], 3, 40, .agg [.i .i64 0, .i .i64 0, .nil]⟩),
  (43, ⟨.struct [(0, 3), (1, 3), (2, 41)], 3, 40, .agg [.i .i64 0, .i .i64 0, .nil]⟩),
  (52, ⟨.int .i64, 1, 8, .i .i64 0⟩),
  (79, ⟨.struct [(0, 3), (1, 3), (2, 3), (3, 9), (4, 9)], 5, 56, .agg [.i .i64 0, .i .i64 0, .i .i64 0, .s [], .s []]⟩),
  (87, ⟨.map 3 4, 1, 8, .any⟩),
  (90, ⟨.slice 5, 1, 24, .nil⟩),
  (91, ⟨.struct [(0, 90), (1, 52)], 2, 32, .agg [.nil, .i .i64 0]⟩),
  (92, ⟨.struct [(0, 90), (1, 52)], 2, 32, .agg [.nil, .i .i64 0]⟩),
  (98, ⟨.int .u32, 1, 4, .i .u32 0⟩),
  (103, ⟨.ptr 128, 1, 8, .nilp⟩),
  (111, ⟨.struct [(0, 9), (1, 3), (2, 3)], 3, 32, .agg [.s [], .i .i64 0, .i .i64 0]⟩),
  (112, ⟨.struct [(0, 9), (1, 3), (2, 3)], 3, 32, .agg [.s [], .i .i64 0, .i .i64 0]⟩),
  (124, ⟨.ptr 92, 1, 8, .nilp⟩),
  (126, ⟨.int .u64, 1, 8, .i .u64 0⟩),
  (127, ⟨.struct [(0, 9), (1, 3), (2, 52)], 3, 32, .agg [.s [], .i .i64 0, .i .i64 0]⟩),
  (128, ⟨.struct [(0, 9), (1, 3), (2, 52)], 3, 32, .agg [.s [], .i .i64 0, .i .i64 0]⟩),
  (133, ⟨.array 256 98, 256, 1024, .arr 1 256 (List.replicate 256 (.i .u32 0))⟩),
  (135, ⟨.struct [(0, 17), (1, 17), (2, 17), (3, 9)], 4, 40, .agg [.nilp, .nilp, .nilp, .s []]⟩),
  (136, ⟨.struct [(0, 17), (1, 17), (2, 17), (3, 9)], 4, 40, .agg [.nilp, .nilp, .nilp, .s []]⟩),
  (137, ⟨.array 0 16, 0, 0, .arr 1 0 (List.replicate 0 (.nilp))⟩),
  (138, ⟨.struct [(0, 137)], 0, 0, .agg [.arr 1 0 (List.replicate 0 (.nilp))]⟩),
  (139, ⟨.struct [(0, 137)], 0, 0, .agg [.arr 1 0 (List.replicate 0 (.nilp))]⟩),
  (140, ⟨.int .u8, 1, 1, .i .u8 0⟩),
  (141, ⟨.int .u8, 1, 1, .i .u8 0⟩),
  (143, ⟨.ptr 5, 1, 8, .nilp⟩),
  (144, ⟨.int .i32, 1, 4, .i .i32 0⟩),
  (145, ⟨.int .i32, 1, 4, .i .i32 0⟩),
  (146, ⟨.struct [(0, 12), (1, 12), (2, 98), (3, 140), (4, 5), (5, 5), (6, 141), (7, 142), (8, 143), (9, 144), (10, 145)], 11, 48, .agg [.i .u64 0, .i .u64 0, .i .u32 0, .i .u8 0, .i .u8 0, .i .u8 0, .i .u8 0, .nilf, .nilp, .i .i32 0, .i .i32 0]⟩),
  (147, ⟨.struct [(0, 12), (1, 12), (2, 98), (3, 140), (4, 5), (5, 5), (6, 141), (7, 142), (8, 143), (9, 144), (10, 145)], 11, 48, .agg [.i .u64 0, .i .u64 0, .i .u32 0, .i .u8 0, .i .u8 0, .i .u8 0, .i .u8 0, .nilf, .nilp, .i .i32 0, .i .i32 0]⟩)]
theorem TtOk : TTOk Try.prog Tt := by
  unfold TTOk Tt
  simp only [List.forall_mem_cons, List.not_mem_nil, false_implies, implies_true, and_true]
  exact ⟨tok2, tok3, tok4, tok5, tok6, tok7, tok8, tok9, tok10, tok11, tok12, tok13, tok14, tok15, tok16, tok17, tok18, tok19, tok20, tok21, tok22, tok23, tok24, tok25, tok26, tok28, tok29, tok30, tok34, tok35, tok38, tok41, tok42, tok43, tok52, tok79, tok87, tok90, tok91, tok92, tok98, tok103, tok111, tok112, tok124, tok126, tok127, tok128, tok133, tok135, tok136, tok137, tok138, tok139, tok140, tok141, tok143, tok144, tok145, tok146, tok147⟩
end Go.Proofs.Ytnmnhnlebkebfaa
