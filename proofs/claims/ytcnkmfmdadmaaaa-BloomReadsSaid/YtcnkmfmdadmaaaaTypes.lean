/- What is known of the types of this seat's program, and that it is so. Made by a program. -/
import Derived.Test.YtcnkmfmdadmaaaaProg
import Derived.Test.YtcnkmfmdadmaaaaV3
namespace Go.Proofs.Ytcnkmfmdadmaaaa
open Go Go.RowKit
theorem tok2 : TOk Try.prog 2 ⟨.int .i64, 1, 8, .i .i64 0⟩ := ⟨by kernel_rfl, by kernel_rfl, Or.inr ⟨_, rfl, by kernel_rfl⟩⟩
theorem tok3 : TOk Try.prog 3 ⟨.int .i64, 1, 8, .i .i64 0⟩ := ⟨by kernel_rfl, by kernel_rfl, Or.inr ⟨_, rfl, by kernel_rfl⟩⟩
theorem tok4 : TOk Try.prog 4 ⟨.bool, 1, 1, .b false⟩ := ⟨by kernel_rfl, by kernel_rfl, Or.inr ⟨_, rfl, by kernel_rfl⟩⟩
theorem tok5 : TOk Try.prog 5 ⟨.int .u8, 1, 1, .i .u8 0⟩ := ⟨by kernel_rfl, by kernel_rfl, Or.inr ⟨_, rfl, by kernel_rfl⟩⟩
theorem tok6 : TOk Try.prog 6 ⟨.int .u8, 1, 1, .i .u8 0⟩ := ⟨by kernel_rfl, by kernel_rfl, Or.inr ⟨_, rfl, by kernel_rfl⟩⟩
theorem tok7 : TOk Try.prog 7 ⟨.struct [(0, 2), (1, 3), (2, 4), (3, 6)], 4, 24, .agg [.i .i64 0, .i .i64 0, .b false, .i .u8 0]⟩ := ⟨by kernel_rfl, by kernel_rfl, Or.inr ⟨_, rfl, by kernel_rfl⟩⟩
theorem tok8 : TOk Try.prog 8 ⟨.struct [(0, 2), (1, 3), (2, 4), (3, 6)], 4, 24, .agg [.i .i64 0, .i .i64 0, .b false, .i .u8 0]⟩ := ⟨by kernel_rfl, by kernel_rfl, Or.inr ⟨_, rfl, by kernel_rfl⟩⟩
theorem tok9 : TOk Try.prog 9 ⟨.string, 1, 16, .s []⟩ := ⟨by kernel_rfl, by kernel_rfl, Or.inr ⟨_, rfl, by kernel_rfl⟩⟩
theorem tok10 : TOk Try.prog 10 ⟨.string, 1, 16, .s []⟩ := ⟨by kernel_rfl, by kernel_rfl, Or.inr ⟨_, rfl, by kernel_rfl⟩⟩
theorem tok11 : TOk Try.prog 11 ⟨.string, 1, 16, .s []⟩ := ⟨by kernel_rfl, by kernel_rfl, Or.inr ⟨_, rfl, by kernel_rfl⟩⟩
theorem tok12 : TOk Try.prog 12 ⟨.int .u64, 1, 8, .i .u64 0⟩ := ⟨by kernel_rfl, by kernel_rfl, Or.inr ⟨_, rfl, by kernel_rfl⟩⟩
theorem tok13 : TOk Try.prog 13 ⟨.struct [(0, 9), (1, 12)], 2, 24, .agg [.s [], .i .u64 0]⟩ := ⟨by kernel_rfl, by kernel_rfl, Or.inr ⟨_, rfl, by kernel_rfl⟩⟩
theorem tok14 : TOk Try.prog 14 ⟨.struct [(0, 9), (1, 12)], 2, 24, .agg [.s [], .i .u64 0]⟩ := ⟨by kernel_rfl, by kernel_rfl, Or.inr ⟨_, rfl, by kernel_rfl⟩⟩
theorem tok15 : TOk Try.prog 15 ⟨.ptr 122, 1, 8, .nilp⟩ := ⟨by kernel_rfl, by kernel_rfl, Or.inr ⟨_, rfl, by kernel_rfl⟩⟩
theorem tok16 : TOk Try.prog 16 ⟨.ptr 125, 1, 8, .nilp⟩ := ⟨by kernel_rfl, by kernel_rfl, Or.inr ⟨_, rfl, by kernel_rfl⟩⟩
theorem tok17 : TOk Try.prog 17 ⟨.ptr 134, 1, 8, .nilp⟩ := ⟨by kernel_rfl, by kernel_rfl, Or.inr ⟨_, rfl, by kernel_rfl⟩⟩
theorem tok18 : TOk Try.prog 18 ⟨.struct [(0, 17)], 1, 8, .agg [.nilp]⟩ := ⟨by kernel_rfl, by kernel_rfl, Or.inr ⟨_, rfl, by kernel_rfl⟩⟩
theorem tok19 : TOk Try.prog 19 ⟨.struct [(0, 17)], 1, 8, .agg [.nilp]⟩ := ⟨by kernel_rfl, by kernel_rfl, Or.inr ⟨_, rfl, by kernel_rfl⟩⟩
theorem tok20 : TOk Try.prog 20 ⟨.iface, 1, 16, .nili⟩ := ⟨by kernel_rfl, by kernel_rfl, Or.inr ⟨_, rfl, by kernel_rfl⟩⟩
theorem tok21 : TOk Try.prog 21 ⟨.int .i32, 1, 4, .i .i32 0⟩ := ⟨by kernel_rfl, by kernel_rfl, Or.inr ⟨_, rfl, by kernel_rfl⟩⟩
theorem tok22 : TOk Try.prog 22 ⟨.slice 23, 1, 24, .nil⟩ := ⟨by kernel_rfl, by kernel_rfl, Or.inr ⟨_, rfl, by kernel_rfl⟩⟩
theorem tok23 : TOk Try.prog 23 ⟨.slice 31, 1, 24, .nil⟩ := ⟨by kernel_rfl, by kernel_rfl, Or.inr ⟨_, rfl, by kernel_rfl⟩⟩
theorem tok30 : TOk Try.prog 30 ⟨.struct [(0, 9), (1, 9), (2, 4)], 3, 40, .agg [.s [], .s [], .b false]⟩ := ⟨by kernel_rfl, by kernel_rfl, Or.inr ⟨_, rfl, by kernel_rfl⟩⟩
theorem tok31 : TOk Try.prog 31 ⟨.struct [(0, 9), (1, 9), (2, 4)], 3, 40, .agg [.s [], .s [], .b false]⟩ := ⟨by kernel_rfl, by kernel_rfl, Or.inr ⟨_, rfl, by kernel_rfl⟩⟩
theorem tok37 : TOk Try.prog 37 ⟨.slice 5, 1, 24, .nil⟩ := ⟨by kernel_rfl, by kernel_rfl, Or.inr ⟨_, rfl, by kernel_rfl⟩⟩
theorem tok38 : TOk Try.prog 38 ⟨.int .i64, 1, 8, .i .i64 0⟩ := ⟨by kernel_rfl, by kernel_rfl, Or.inr ⟨_, rfl, by kernel_rfl⟩⟩
theorem tok39 : TOk Try.prog 39 ⟨.struct [(0, 37), (1, 38)], 2, 32, .agg [.nil, .i .i64 0]⟩ := ⟨by kernel_rfl, by kernel_rfl, Or.inr ⟨_, rfl, by kernel_rfl⟩⟩
theorem tok40 : TOk Try.prog 40 ⟨.struct [(0, 37), (1, 38)], 2, 32, .agg [.nil, .i .i64 0]⟩ := ⟨by kernel_rfl, by kernel_rfl, Or.inr ⟨_, rfl, by kernel_rfl⟩⟩
theorem tok45 : TOk Try.prog 45 ⟨.ptr 114, 1, 8, .nilp⟩ := ⟨by kernel_rfl, by kernel_rfl, Or.inr ⟨_, rfl, by kernel_rfl⟩⟩
theorem tok51 : TOk Try.prog 51 ⟨.slice 9, 1, 24, .nil⟩ := ⟨by kernel_rfl, by kernel_rfl, Or.inr ⟨_, rfl, by kernel_rfl⟩⟩
theorem tok53 : TOk Try.prog 53 ⟨.struct [(0, 3), (1, 37)], 2, 32, .agg [.i .i64 0, .nil]⟩ := ⟨by kernel_rfl, by kernel_rfl, Or.inr ⟨_, rfl, by kernel_rfl⟩⟩
theorem tok54 : TOk Try.prog 54 ⟨.struct [(0, 3), (1, 37)], 2, 32, .agg [.i .i64 0, .nil]⟩ := ⟨by kernel_rfl, by kernel_rfl, Or.inr ⟨_, rfl, by kernel_rfl⟩⟩
theorem tok57 : TOk Try.prog 57 ⟨.slice 4, 1, 24, .nil⟩ := ⟨by kernel_rfl, by kernel_rfl, Or.inr ⟨_, rfl, by kernel_rfl⟩⟩
theorem tok58 : TOk Try.prog 58 ⟨.struct [(0, 3), (1, 57)], 2, 32, .agg [.i .i64 0, .nil]⟩ := ⟨by kernel_rfl, by kernel_rfl, Or.inr ⟨_, rfl, by kernel_rfl⟩⟩
theorem tok59 : TOk Try.prog 59 ⟨.struct [(0, 3), (1, 57)], 2, 32, .agg [.i .i64 0, .nil]⟩ := ⟨by kernel_rfl, by kernel_rfl, Or.inr ⟨_, rfl, by kernel_rfl⟩⟩
theorem tok70 : TOk Try.prog 70 ⟨.slice 75, 1, 24, .nil⟩ := ⟨by kernel_rfl, by kernel_rfl, Or.inr ⟨_, rfl, by kernel_rfl⟩⟩
theorem tok72 : TOk Try.prog 72 ⟨.array 32 5, 32, 32, .arr 1 32 (List.replicate 32 (.i .u8 0))⟩ := ⟨by kernel_rfl, by kernel_rfl, Or.inr ⟨_, rfl, by kernel_rfl⟩⟩
theorem tok73 : TOk Try.prog 73 ⟨.array 32 5, 32, 32, .arr 1 32 (List.replicate 32 (.i .u8 0))⟩ := ⟨by kernel_rfl, by kernel_rfl, Or.inr ⟨_, rfl, by kernel_rfl⟩⟩
theorem tok74 : TOk Try.prog 74 ⟨.struct [(0, 3), (1, 3), (2, 9), (3, 73)], 35, 64, .agg [.i .i64 0, .i .i64 0, .s [], .arr 1 32 (List.replicate 32 (.i .u8 0))]⟩ := ⟨by kernel_rfl, by kernel_rfl, Or.inr ⟨_, rfl, by kernel_rfl⟩⟩
theorem tok75 : TOk Try.prog 75 ⟨.struct [(0, 3), (1, 3), (2, 9), (3, 73)], 35, 64, .agg [.i .i64 0, .i .i64 0, .s [], .arr 1 32 (List.replicate 32 (.i .u8 0))]⟩ := ⟨by kernel_rfl, by kernel_rfl, Or.inr ⟨_, rfl, by kernel_rfl⟩⟩
theorem tok83 : TOk Try.prog 83 ⟨.struct [(0, 9), (1, 3), (2, 3)], 3, 32, .agg [.s [], .i .i64 0, .i .i64 0]⟩ := ⟨by kernel_rfl, by kernel_rfl, Or.inr ⟨_, rfl, by kernel_rfl⟩⟩
theorem tok84 : TOk Try.prog 84 ⟨.struct [(0, 9), (1, 3), (2, 3)], 3, 32, .agg [.s [], .i .i64 0, .i .i64 0]⟩ := ⟨by kernel_rfl, by kernel_rfl, Or.inr ⟨_, rfl, by kernel_rfl⟩⟩
theorem tok102 : TOk Try.prog 102 ⟨.slice 104, 1, 24, .nil⟩ := ⟨by kernel_rfl, by kernel_rfl, Or.inr ⟨_, rfl, by kernel_rfl⟩⟩
theorem tok103 : TOk Try.prog 103 ⟨.struct [(0, 23), (1, 3)], 2, 32, .agg [.nil, .i .i64 0]⟩ := ⟨by kernel_rfl, by kernel_rfl, Or.inr ⟨_, rfl, by kernel_rfl⟩⟩
theorem tok104 : TOk Try.prog 104 ⟨.struct [(0, 23), (1, 3)], 2, 32, .agg [.nil, .i .i64 0]⟩ := ⟨by kernel_rfl, by kernel_rfl, Or.inr ⟨_, rfl, by kernel_rfl⟩⟩
theorem tok110 : TOk Try.prog 110 ⟨.ptr 40, 1, 8, .nilp⟩ := ⟨by kernel_rfl, by kernel_rfl, Or.inr ⟨_, rfl, by kernel_rfl⟩⟩
theorem tok112 : TOk Try.prog 112 ⟨.int .u64, 1, 8, .i .u64 0⟩ := ⟨by kernel_rfl, by kernel_rfl, Or.inr ⟨_, rfl, by kernel_rfl⟩⟩
theorem tok113 : TOk Try.prog 113 ⟨.struct [(0, 9), (1, 3), (2, 38)], 3, 32, .agg [.s [], .i .i64 0, .i .i64 0]⟩ := ⟨by kernel_rfl, by kernel_rfl, Or.inr ⟨_, rfl, by kernel_rfl⟩⟩
theorem tok114 : TOk Try.prog 114 ⟨.struct [(0, 9), (1, 3), (2, 38)], 3, 32, .agg [.s [], .i .i64 0, .i .i64 0]⟩ := ⟨by kernel_rfl, by kernel_rfl, Or.inr ⟨_, rfl, by kernel_rfl⟩⟩
theorem tok115 : TOk Try.prog 115 ⟨.slice 3, 1, 24, .nil⟩ := ⟨by kernel_rfl, by kernel_rfl, Or.inr ⟨_, rfl, by kernel_rfl⟩⟩
theorem tok119 : TOk Try.prog 119 ⟨.int .u64, 1, 8, .i .u64 0⟩ := ⟨by kernel_rfl, by kernel_rfl, Or.inr ⟨_, rfl, by kernel_rfl⟩⟩
theorem tok121 : TOk Try.prog 121 ⟨.struct [(0, 17), (1, 17), (2, 17), (3, 9)], 4, 40, .agg [.nilp, .nilp, .nilp, .s []]⟩ := ⟨by kernel_rfl, by kernel_rfl, Or.inr ⟨_, rfl, by kernel_rfl⟩⟩
theorem tok122 : TOk Try.prog 122 ⟨.struct [(0, 17), (1, 17), (2, 17), (3, 9)], 4, 40, .agg [.nilp, .nilp, .nilp, .s []]⟩ := ⟨by kernel_rfl, by kernel_rfl, Or.inr ⟨_, rfl, by kernel_rfl⟩⟩
theorem tok123 : TOk Try.prog 123 ⟨.array 0 16, 0, 0, .arr 1 0 (List.replicate 0 (.nilp))⟩ := ⟨by kernel_rfl, by kernel_rfl, Or.inr ⟨_, rfl, by kernel_rfl⟩⟩
theorem tok124 : TOk Try.prog 124 ⟨.struct [(0, 123)], 0, 0, .agg [.arr 1 0 (List.replicate 0 (.nilp))]⟩ := ⟨by kernel_rfl, by kernel_rfl, Or.inr ⟨_, rfl, by kernel_rfl⟩⟩
theorem tok125 : TOk Try.prog 125 ⟨.struct [(0, 123)], 0, 0, .agg [.arr 1 0 (List.replicate 0 (.nilp))]⟩ := ⟨by kernel_rfl, by kernel_rfl, Or.inr ⟨_, rfl, by kernel_rfl⟩⟩
theorem tok126 : TOk Try.prog 126 ⟨.int .u32, 1, 4, .i .u32 0⟩ := ⟨by kernel_rfl, by kernel_rfl, Or.inr ⟨_, rfl, by kernel_rfl⟩⟩
theorem tok127 : TOk Try.prog 127 ⟨.int .u8, 1, 1, .i .u8 0⟩ := ⟨by kernel_rfl, by kernel_rfl, Or.inr ⟨_, rfl, by kernel_rfl⟩⟩
theorem tok128 : TOk Try.prog 128 ⟨.int .u8, 1, 1, .i .u8 0⟩ := ⟨by kernel_rfl, by kernel_rfl, Or.inr ⟨_, rfl, by kernel_rfl⟩⟩
theorem tok130 : TOk Try.prog 130 ⟨.ptr 5, 1, 8, .nilp⟩ := ⟨by kernel_rfl, by kernel_rfl, Or.inr ⟨_, rfl, by kernel_rfl⟩⟩
theorem tok131 : TOk Try.prog 131 ⟨.int .i32, 1, 4, .i .i32 0⟩ := ⟨by kernel_rfl, by kernel_rfl, Or.inr ⟨_, rfl, by kernel_rfl⟩⟩
theorem tok132 : TOk Try.prog 132 ⟨.int .i32, 1, 4, .i .i32 0⟩ := ⟨by kernel_rfl, by kernel_rfl, Or.inr ⟨_, rfl, by kernel_rfl⟩⟩
theorem tok133 : TOk Try.prog 133 ⟨.struct [(0, 12), (1, 12), (2, 126), (3, 127), (4, 5), (5, 5), (6, 128), (7, 129), (8, 130), (9, 131), (10, 132)], 11, 48, .agg [.i .u64 0, .i .u64 0, .i .u32 0, .i .u8 0, .i .u8 0, .i .u8 0, .i .u8 0, .nilf, .nilp, .i .i32 0, .i .i32 0]⟩ := ⟨by kernel_rfl, by kernel_rfl, Or.inr ⟨_, rfl, by kernel_rfl⟩⟩
theorem tok134 : TOk Try.prog 134 ⟨.struct [(0, 12), (1, 12), (2, 126), (3, 127), (4, 5), (5, 5), (6, 128), (7, 129), (8, 130), (9, 131), (10, 132)], 11, 48, .agg [.i .u64 0, .i .u64 0, .i .u32 0, .i .u8 0, .i .u8 0, .i .u8 0, .i .u8 0, .nilf, .nilp, .i .i32 0, .i .i32 0]⟩ := ⟨by kernel_rfl, by kernel_rfl, Or.inr ⟨_, rfl, by kernel_rfl⟩⟩
def Tt : List (Nat × TI) := [(2, ⟨.int .i64, 1, 8, .i .i64 0⟩),
  (3, ⟨.int .i64, 1, 8, .i .i64 0⟩),
  (4, ⟨.bool, 1, 1, .b false⟩),
  (5, ⟨.int .u8, 1, 1, .i .u8 0⟩),
  (6, ⟨.int .u8, 1, 1, .i .u8 0⟩),
  (7, ⟨.struct [(0, 2), (1, 3), (2, 4), (3, 6)], 4, 24, .agg [.i .i64 0, .i .i64 0, .b false, .i .u8 0]⟩),
  (8, ⟨.struct [(0, 2), (1, 3), (2, 4), (3, 6)], 4, 24, .agg [.i .i64 0, .i .i64 0, .b false, .i .u8 0]⟩),
  (9, ⟨.string, 1, 16, .s []⟩),
  (10, ⟨.string, 1, 16, .s []⟩),
  (11, ⟨.string, 1, 16, .s []⟩),
  (12, ⟨.int .u64, 1, 8, .i .u64 0⟩),
  (13, ⟨.struct [(0, 9), (1, 12)], 2, 24, .agg [.s [], .i .u64 0]⟩),
  (14, ⟨.struct [(0, 9), (1, 12)], 2, 24, .agg [.s [], .i .u64 0]⟩),
  (15, ⟨.ptr 122, 1, 8, .nilp⟩),
  (16, ⟨.ptr 125, 1, 8, .nilp⟩),
  (17, ⟨.ptr 134, 1, 8, .nilp⟩),
  (18, ⟨.struct [(0, 17)], 1, 8, .agg [.nilp]⟩),
  (19, ⟨.struct [(0, 17)], 1, 8, .agg [.nilp]⟩),
  (20, ⟨.iface, 1, 16, .nili⟩),
  (21, ⟨.int .i32, 1, 4, .i .i32 0⟩),
  (22, ⟨.slice 23, 1, 24, .nil⟩),
  (23, ⟨.slice 31, 1, 24, .nil⟩),
  (30, ⟨.struct [(0, 9), (1, 9), (2, 4)], 3, 40, .agg [.s [], .s [], .b false]⟩),
  (31, ⟨.struct [(0, 9), (1, 9), (2, 4)], 3, 40, .agg [.s [], .s [], .b false]⟩),
  (37, ⟨.slice 5, 1, 24, .nil⟩),
  (38, ⟨.int .i64, 1, 8, .i .i64 0⟩),
  (39, ⟨.struct [(0, 37), (1, 38)], 2, 32, .agg [.nil, .i .i64 0]⟩),
  (40, ⟨.struct [(0, 37), (1, 38)], 2, 32, .agg [.nil, .i .i64 0]⟩),
  (45, ⟨.ptr 114, 1, 8, .nilp⟩),
  (51, ⟨.slice 9, 1, 24, .nil⟩),
  (53, ⟨.struct [(0, 3), (1, 37)], 2, 32, .agg [.i .i64 0, .nil]⟩),
  (54, ⟨.struct [(0, 3), (1, 37)], 2, 32, .agg [.i .i64 0, .nil]⟩),
  (57, ⟨.slice 4, 1, 24, .nil⟩),
  (58, ⟨.struct [(0, 3), (1, 57)], 2, 32, .agg [.i .i64 0, .nil]⟩),
  (59, ⟨.struct [(0, 3), (1, 57)], 2, 32, .agg [.i .i64 0, .nil]⟩),
  (70, ⟨.slice 75, 1, 24, .nil⟩),
  (72, ⟨.array 32 5, 32, 32, .arr 1 32 (List.replicate 32 (.i .u8 0))⟩),
  (73, ⟨.array 32 5, 32, 32, .arr 1 32 (List.replicate 32 (.i .u8 0))⟩),
  (74, ⟨.struct [(0, 3), (1, 3), (2, 9), (3, 73)], 35, 64, .agg [.i .i64 0, .i .i64 0, .s [], .arr 1 32 (List.replicate 32 (.i .u8 0))]⟩),
  (75, ⟨.struct [(0, 3), (1, 3), (2, 9), (3, 73)], 35, 64, .agg [.i .i64 0, .i .i64 0, .s [], .arr 1 32 (List.replicate 32 (.i .u8 0))]⟩),
  (83, ⟨.struct [(0, 9), (1, 3), (2, 3)], 3, 32, .agg [.s [], .i .i64 0, .i .i64 0]⟩),
  (84, ⟨.struct [(0, 9), (1, 3), (2, 3)], 3, 32, .agg [.s [], .i .i64 0, .i .i64 0]⟩),
  (102, ⟨.slice 104, 1, 24, .nil⟩),
  (103, ⟨.struct [(0, 23), (1, 3)], 2, 32, .agg [.nil, .i .i64 0]⟩),
  (104, ⟨.struct [(0, 23), (1, 3)], 2, 32, .agg [.nil, .i .i64 0]⟩),
  (110, ⟨.ptr 40, 1, 8, .nilp⟩),
  (112, ⟨.int .u64, 1, 8, .i .u64 0⟩),
  (113, ⟨.struct [(0, 9), (1, 3), (2, 38)], 3, 32, .agg [.s [], .i .i64 0, .i .i64 0]⟩),
  (114, ⟨.struct [(0, 9), (1, 3), (2, 38)], 3, 32, .agg [.s [], .i .i64 0, .i .i64 0]⟩),
  (115, ⟨.slice 3, 1, 24, .nil⟩),
  (119, ⟨.int .u64, 1, 8, .i .u64 0⟩),
  (121, ⟨.struct [(0, 17), (1, 17), (2, 17), (3, 9)], 4, 40, .agg [.nilp, .nilp, .nilp, .s []]⟩),
  (122, ⟨.struct [(0, 17), (1, 17), (2, 17), (3, 9)], 4, 40, .agg [.nilp, .nilp, .nilp, .s []]⟩),
  (123, ⟨.array 0 16, 0, 0, .arr 1 0 (List.replicate 0 (.nilp))⟩),
  (124, ⟨.struct [(0, 123)], 0, 0, .agg [.arr 1 0 (List.replicate 0 (.nilp))]⟩),
  (125, ⟨.struct [(0, 123)], 0, 0, .agg [.arr 1 0 (List.replicate 0 (.nilp))]⟩),
  (126, ⟨.int .u32, 1, 4, .i .u32 0⟩),
  (127, ⟨.int .u8, 1, 1, .i .u8 0⟩),
  (128, ⟨.int .u8, 1, 1, .i .u8 0⟩),
  (130, ⟨.ptr 5, 1, 8, .nilp⟩),
  (131, ⟨.int .i32, 1, 4, .i .i32 0⟩),
  (132, ⟨.int .i32, 1, 4, .i .i32 0⟩),
  (133, ⟨.struct [(0, 12), (1, 12), (2, 126), (3, 127), (4, 5), (5, 5), (6, 128), (7, 129), (8, 130), (9, 131), (10, 132)], 11, 48, .agg [.i .u64 0, .i .u64 0, .i .u32 0, .i .u8 0, .i .u8 0, .i .u8 0, .i .u8 0, .nilf, .nilp, .i .i32 0, .i .i32 0]⟩),
  (134, ⟨.struct [(0, 12), (1, 12), (2, 126), (3, 127), (4, 5), (5, 5), (6, 128), (7, 129), (8, 130), (9, 131), (10, 132)], 11, 48, .agg [.i .u64 0, .i .u64 0, .i .u32 0, .i .u8 0, .i .u8 0, .i .u8 0, .i .u8 0, .nilf, .nilp, .i .i32 0, .i .i32 0]⟩)]
theorem TtOk : TTOk Try.prog Tt := by
  unfold TTOk Tt
  simp only [List.forall_mem_cons, List.not_mem_nil, false_implies, implies_true, and_true]
  exact ⟨tok2, tok3, tok4, tok5, tok6, tok7, tok8, tok9, tok10, tok11, tok12, tok13, tok14, tok15, tok16, tok17, tok18, tok19, tok20, tok21, tok22, tok23, tok30, tok31, tok37, tok38, tok39, tok40, tok45, tok51, tok53, tok54, tok57, tok58, tok59, tok70, tok72, tok73, tok74, tok75, tok83, tok84, tok102, tok103, tok104, tok110, tok112, tok113, tok114, tok115, tok119, tok121, tok122, tok123, tok124, tok125, tok126, tok127, tok128, tok130, tok131, tok132, tok133, tok134⟩
end Go.Proofs.Ytcnkmfmdadmaaaa
