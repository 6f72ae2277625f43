/- What is known of the types of this seat's program, and that it is so. Made by a program. -/
import Derived.Test.YtpjfhllkckdejaaProg
import Derived.Test.YtpjfhllkckdejaaV2Z
import Derived.Test.YtpjfhllkckdejaaV17Z
namespace Go.Proofs.Ytpjfhllkckdejaa
open Go Go.RowKit
set_option maxRecDepth 100000
theorem tok2 : TOk Try.prog 2 ⟨.int .i64, 1, 8, .i .i64 0⟩ := ⟨by kernel_rfl, by kernel_rfl, Or.inr ⟨_, rfl, by kernel_rfl⟩⟩
theorem tok3 : TOk Try.prog 3 ⟨.int .i64, 1, 8, .i .i64 0⟩ := ⟨by kernel_rfl, by kernel_rfl, Or.inr ⟨_, rfl, by kernel_rfl⟩⟩
theorem tok4 : TOk Try.prog 4 ⟨.bool, 1, 1, .b false⟩ := ⟨by kernel_rfl, by kernel_rfl, Or.inr ⟨_, rfl, by kernel_rfl⟩⟩
theorem tok5 : TOk Try.prog 5 ⟨.int .u8, 1, 1, .i .u8 0⟩ := ⟨by kernel_rfl, by kernel_rfl, Or.inr ⟨_, rfl, by kernel_rfl⟩⟩
theorem tok6 : TOk Try.prog 6 ⟨.int .u8, 1, 1, .i .u8 0⟩ := ⟨by kernel_rfl, by kernel_rfl, Or.inr ⟨_, rfl, by kernel_rfl⟩⟩
theorem tok7 : TOk Try.prog 7 ⟨.struct [(0, 2), (1, 3), (2, 4), (3, 6)], 4, 24, .agg [.i .i64 0, .i .i64 0, .b false, .i .u8 0]⟩ := ⟨by kernel_rfl, by kernel_rfl, Or.inr ⟨_, rfl, by kernel_rfl⟩⟩
theorem tok8 : TOk Try.prog 8 ⟨.struct [(0, 2), (1, 3), (2, 4), (3, 6)], 4, 24, .agg [.i .i64 0, .i .i64 0, .b false, .i .u8 0]⟩ := ⟨by kernel_rfl, by kernel_rfl, Or.inr ⟨_, rfl, by kernel_rfl⟩⟩
theorem tok9 : TOk Try.prog 9 ⟨.string, 1, 16, .s []⟩ := ⟨by kernel_rfl, by kernel_rfl, Or.inr ⟨_, rfl, by kernel_rfl⟩⟩
theorem tok10 : TOk Try.prog 10 ⟨.string, 1, 16, .s []⟩ := ⟨by kernel_rfl, by kernel_rfl, Or.inr ⟨_, rfl, by kernel_rfl⟩⟩
theorem tok11 : TOk Try.prog 11 ⟨.string, 1, 16, .s []⟩ := ⟨by kernel_rfl, by kernel_rfl, Or.inr ⟨_, rfl, by kernel_rfl⟩⟩
theorem tok12 : TOk Try.prog 12 ⟨.int .u64, 1, 8, .i .u64 0⟩ := ⟨by kernel_rfl, by kernel_rfl, Or.inr ⟨_, rfl, by kernel_rfl⟩⟩
theorem tok13 : TOk Try.prog 13 ⟨.struct [(0, 9), (1, 12)], 2, 24, .agg [.s [], .i .u64 0]⟩ := ⟨by kernel_rfl, by kernel_rfl, Or.inr ⟨_, rfl, by kernel_rfl⟩⟩
theorem tok14 : TOk Try.prog 14 ⟨.struct [(0, 9), (1, 12)], 2, 24, .agg [.s [], .i .u64 0]⟩ := ⟨by kernel_rfl, by kernel_rfl, Or.inr ⟨_, rfl, by kernel_rfl⟩⟩
theorem tok15 : TOk Try.prog 15 ⟨.ptr 161, 1, 8, .nilp⟩ := ⟨by kernel_rfl, by kernel_rfl, Or.inr ⟨_, rfl, by kernel_rfl⟩⟩
theorem tok16 : TOk Try.prog 16 ⟨.ptr 164, 1, 8, .nilp⟩ := ⟨by kernel_rfl, by kernel_rfl, Or.inr ⟨_, rfl, by kernel_rfl⟩⟩
theorem tok17 : TOk Try.prog 17 ⟨.ptr 172, 1, 8, .nilp⟩ := ⟨by kernel_rfl, by kernel_rfl, Or.inr ⟨_, rfl, by kernel_rfl⟩⟩
theorem tok18 : TOk Try.prog 18 ⟨.struct [(0, 17)], 1, 8, .agg [.nilp]⟩ := ⟨by kernel_rfl, by kernel_rfl, Or.inr ⟨_, rfl, by kernel_rfl⟩⟩
theorem tok19 : TOk Try.prog 19 ⟨.struct [(0, 17)], 1, 8, .agg [.nilp]⟩ := ⟨by kernel_rfl, by kernel_rfl, Or.inr ⟨_, rfl, by kernel_rfl⟩⟩
theorem tok20 : TOk Try.prog 20 ⟨.iface, 1, 16, .nili⟩ := ⟨by kernel_rfl, by kernel_rfl, Or.inr ⟨_, rfl, by kernel_rfl⟩⟩
theorem tok21 : TOk Try.prog 21 ⟨.int .i32, 1, 4, .i .i32 0⟩ := ⟨by kernel_rfl, by kernel_rfl, Or.inr ⟨_, rfl, by kernel_rfl⟩⟩
theorem tok22 : TOk Try.prog 22 ⟨.slice 38, 1, 24, .nil⟩ := ⟨by kernel_rfl, by kernel_rfl, Or.inr ⟨_, rfl, by kernel_rfl⟩⟩
theorem tok23 : TOk Try.prog 23 ⟨.array 32 5, 32, 32, .arr 1 32 (List.replicate 32 (.i .u8 0))⟩ := ⟨by kernel_rfl, by kernel_rfl, Or.inr ⟨_, rfl, by kernel_rfl⟩⟩
theorem tok24 : TOk Try.prog 24 ⟨.array 32 5, 32, 32, .arr 1 32 (List.replicate 32 (.i .u8 0))⟩ := ⟨by kernel_rfl, by kernel_rfl, Or.inr ⟨_, rfl, by kernel_rfl⟩⟩
theorem tok25 : TOk Try.prog 25 ⟨.int .i64, 1, 8, .i .i64 0⟩ := ⟨by kernel_rfl, by kernel_rfl, Or.inr ⟨_, rfl, by kernel_rfl⟩⟩
theorem tok31 : TOk Try.prog 31 ⟨.slice 36, 1, 24, .nil⟩ := ⟨by kernel_rfl, by kernel_rfl, Or.inr ⟨_, rfl, by kernel_rfl⟩⟩
theorem tok33 : TOk Try.prog 33 ⟨.struct [(0, 3), (1, 24)], 33, 40, .agg [.i .i64 0, .arr 1 32 (List.replicate 32 (.i .u8 0))]⟩ := ⟨by kernel_rfl, by kernel_rfl, Or.inr ⟨_, rfl, by kernel_rfl⟩⟩
theorem tok34 : TOk Try.prog 34 ⟨.struct [(0, 3), (1, 24)], 33, 40, .agg [.i .i64 0, .arr 1 32 (List.replicate 32 (.i .u8 0))]⟩ := ⟨by kernel_rfl, by kernel_rfl, Or.inr ⟨_, rfl, by kernel_rfl⟩⟩
theorem tok35 : TOk Try.prog 35 ⟨.struct [(0, 34), (33, 24), (65, 3)], 66, 80, .agg [.agg [.i .i64 0, .arr 1 32 (List.replicate 32 (.i .u8 0))], .arr 1 32 (List.replicate 32 (.i .u8 0)), .i .i64 0]⟩ := ⟨by kernel_rfl, by kernel_rfl, Or.inr ⟨_, rfl, by kernel_rfl⟩⟩
theorem tok36 : TOk Try.prog 36 ⟨.struct [(0, 34), (33, 24), (65, 3)], 66, 80, .agg [.agg [.i .i64 0, .arr 1 32 (List.replicate 32 (.i .u8 0))], .arr 1 32 (List.replicate 32 (.i .u8 0)), .i .i64 0]⟩ := ⟨by kernel_rfl, by kernel_rfl, Or.inr ⟨_, rfl, by kernel_rfl⟩⟩
theorem tok37 : TOk Try.prog 37 ⟨.struct [(0, 24), (32, 24), (64, 3)], 65, 72, .agg [.arr 1 32 (List.replicate 32 (.i .u8 0)), .arr 1 32 (List.replicate 32 (.i .u8 0)), .i .i64 0]⟩ := ⟨by kernel_rfl, by kernel_rfl, Or.inr ⟨_, rfl, by kernel_rfl⟩⟩
theorem tok38 : TOk Try.prog 38 ⟨.struct [(0, 24), (32, 24), (64, 3)], 65, 72, .agg [.arr 1 32 (List.replicate 32 (.i .u8 0)), .arr 1 32 (List.replicate 32 (.i .u8 0)), .i .i64 0]⟩ := ⟨by kernel_rfl, by kernel_rfl, Or.inr ⟨_, rfl, by kernel_rfl⟩⟩
theorem tok41 : TOk Try.prog 41 ⟨.iface, 1, 16, .nili⟩ := ⟨by kernel_rfl, by kernel_rfl, Or.inr ⟨_, rfl, by kernel_rfl⟩⟩
theorem tok42 : TOk Try.prog 42 ⟨.iface, 1, 16, .nili⟩ := ⟨by kernel_rfl, by kernel_rfl, Or.inr ⟨_, rfl, by kernel_rfl⟩⟩
theorem tok48 : TOk Try.prog 48 ⟨.struct [(0, 36), (66, 36)], 132, 160, .agg [.agg [.agg [.i .i64 0, .arr 1 32 (List.replicate 32 (.i .u8 0))], .arr 1 32 (List.replicate 32 (.i .u8 0)), .i .i64 0], .agg [.agg [.i .i64 0, .arr 1 32 (List.replicate 32 (.i .u8 0))], .arr 1 32 (List.replicate 32 (.i .u8 0)), .i .i64 0]]⟩ := ⟨by kernel_rfl, by kernel_rfl, Or.inr ⟨_, rfl, by kernel_rfl⟩⟩
theorem tok49 : TOk Try.prog 49 ⟨.struct [(0, 36), (66, 36)], 132, 160, .agg [.agg [.agg [.i .i64 0, .arr 1 32 (List.replicate 32 (.i .u8 0))], .arr 1 32 (List.replicate 32 (.i .u8 0)), .i .i64 0], .agg [.agg [.i .i64 0, .arr 1 32 (List.replicate 32 (.i .u8 0))], .arr 1 32 (List.replicate 32 (.i .u8 0)), .i .i64 0]]⟩ := ⟨by kernel_rfl, by kernel_rfl, Or.inr ⟨_, rfl, by kernel_rfl⟩⟩
theorem tok53 : TOk Try.prog 53 ⟨.slice 73, 1, 24, .nil⟩ := ⟨by kernel_rfl, by kernel_rfl, Or.inr ⟨_, rfl, by kernel_rfl⟩⟩
theorem tok63 : TOk Try.prog 63 ⟨.slice 24, 1, 24, .nil⟩ := ⟨by kernel_rfl, by kernel_rfl, Or.inr ⟨_, rfl, by kernel_rfl⟩⟩
theorem tok66 : TOk Try.prog 66 ⟨.slice 75, 1, 24, .nil⟩ := ⟨by kernel_rfl, by kernel_rfl, Or.inr ⟨_, rfl, by kernel_rfl⟩⟩
theorem tok72 : TOk Try.prog 72 ⟨.struct [(0, 3), (1, 24), (33, 24), (65, 3)], 66, 80, .agg [.i .i64 0, .arr 1 32 (List.replicate 32 (.i .u8 0)), .arr 1 32 (List.replicate 32 (.i .u8 0)), .i .i64 0]⟩ := ⟨by kernel_rfl, by kernel_rfl, Or.inr ⟨_, rfl, by kernel_rfl⟩⟩
theorem tok73 : TOk Try.prog 73 ⟨.struct [(0, 3), (1, 24), (33, 24), (65, 3)], 66, 80, .agg [.i .i64 0, .arr 1 32 (List.replicate 32 (.i .u8 0)), .arr 1 32 (List.replicate 32 (.i .u8 0)), .i .i64 0]⟩ := ⟨by kernel_rfl, by kernel_rfl, Or.inr ⟨_, rfl, by kernel_rfl⟩⟩
theorem tok75 : TOk Try.prog 75 ⟨.struct [(0, 24), (32, 24), (64, 3)], 65, 72, .agg [.arr 1 32 (List.replicate 32 (.i .u8 0)), .arr 1 32 (List.replicate 32 (.i .u8 0)), .i .i64 0]⟩ := ⟨by kernel_rfl, by kernel_rfl, Or.inr ⟨_, rfl, by kernel_rfl⟩⟩
theorem tok79 : TOk Try.prog 79 ⟨.slice 3, 1, 24, .nil⟩ := ⟨by kernel_rfl, by kernel_rfl, Or.inr ⟨_, rfl, by kernel_rfl⟩⟩
theorem tok85 : TOk Try.prog 85 ⟨.slice 5, 1, 24, .nil⟩ := ⟨by kernel_rfl, by kernel_rfl, Or.inr ⟨_, rfl, by kernel_rfl⟩⟩
theorem tok86 : TOk Try.prog 86 ⟨.struct [(0, 85), (1, 25)], 2, 32, .agg [.nil, .i .i64 0]⟩ := ⟨by kernel_rfl, by kernel_rfl, Or.inr ⟨_, rfl, by kernel_rfl⟩⟩
theorem tok87 : TOk Try.prog 87 ⟨.struct [(0, 85), (1, 25)], 2, 32, .agg [.nil, .i .i64 0]⟩ := ⟨by kernel_rfl, by kernel_rfl, Or.inr ⟨_, rfl, by kernel_rfl⟩⟩
theorem tok93 : TOk Try.prog 93 ⟨.ptr 87, 1, 8, .nilp⟩ := ⟨by kernel_rfl, by kernel_rfl, Or.inr ⟨_, rfl, by kernel_rfl⟩⟩
theorem tok94 : TOk Try.prog 94 ⟨.ptr 128, 1, 8, .nilp⟩ := ⟨by kernel_rfl, by kernel_rfl, Or.inr ⟨_, rfl, by kernel_rfl⟩⟩
theorem tok124 : TOk Try.prog 124 ⟨.slice 9, 1, 24, .nil⟩ := ⟨by kernel_rfl, by kernel_rfl, Or.inr ⟨_, rfl, by kernel_rfl⟩⟩
theorem tok126 : TOk Try.prog 126 ⟨.int .u64, 1, 8, .i .u64 0⟩ := ⟨by kernel_rfl, by kernel_rfl, Or.inr ⟨_, rfl, by kernel_rfl⟩⟩
theorem tok127 : TOk Try.prog 127 ⟨.struct [(0, 9), (1, 3), (2, 25)], 3, 32, .agg [.s [], .i .i64 0, .i .i64 0]⟩ := ⟨by kernel_rfl, by kernel_rfl, Or.inr ⟨_, rfl, by kernel_rfl⟩⟩
theorem tok128 : TOk Try.prog 128 ⟨.struct [(0, 9), (1, 3), (2, 25)], 3, 32, .agg [.s [], .i .i64 0, .i .i64 0]⟩ := ⟨by kernel_rfl, by kernel_rfl, Or.inr ⟨_, rfl, by kernel_rfl⟩⟩
theorem tok130 : TOk Try.prog 130 ⟨.int .u32, 1, 4, .i .u32 0⟩ := ⟨by kernel_rfl, by kernel_rfl, Or.inr ⟨_, rfl, by kernel_rfl⟩⟩
theorem tok131 : TOk Try.prog 131 ⟨.array 8 130, 8, 32, .arr 1 8 (List.replicate 8 (.i .u32 0))⟩ := ⟨by kernel_rfl, by kernel_rfl, Or.inr ⟨_, rfl, by kernel_rfl⟩⟩
theorem tok132 : TOk Try.prog 132 ⟨.array 8 130, 8, 32, .arr 1 8 (List.replicate 8 (.i .u32 0))⟩ := ⟨by kernel_rfl, by kernel_rfl, Or.inr ⟨_, rfl, by kernel_rfl⟩⟩
theorem tok133 : TOk Try.prog 133 ⟨.int .u64, 1, 8, .i .u64 0⟩ := ⟨by kernel_rfl, by kernel_rfl, Or.inr ⟨_, rfl, by kernel_rfl⟩⟩
theorem tok134 : TOk Try.prog 134 ⟨.array 64 130, 64, 256, .arr 1 64 (List.replicate 64 (.i .u32 0))⟩ := ⟨by kernel_rfl, by kernel_rfl, Or.inr ⟨_, rfl, by kernel_rfl⟩⟩
theorem tok137 : TOk Try.prog 137 ⟨.ptr 134, 1, 8, .nilp⟩ := ⟨by kernel_rfl, by kernel_rfl, Or.inr ⟨_, rfl, by kernel_rfl⟩⟩
theorem tok152 : TOk Try.prog 152 ⟨.ptr 132, 1, 8, .nilp⟩ := ⟨by kernel_rfl, by kernel_rfl, Or.inr ⟨_, rfl, by kernel_rfl⟩⟩
theorem tok160 : TOk Try.prog 160 ⟨.struct [(0, 17), (1, 17), (2, 17), (3, 9)], 4, 40, .agg [.nilp, .nilp, .nilp, .s []]⟩ := ⟨by kernel_rfl, by kernel_rfl, Or.inr ⟨_, rfl, by kernel_rfl⟩⟩
theorem tok161 : TOk Try.prog 161 ⟨.struct [(0, 17), (1, 17), (2, 17), (3, 9)], 4, 40, .agg [.nilp, .nilp, .nilp, .s []]⟩ := ⟨by kernel_rfl, by kernel_rfl, Or.inr ⟨_, rfl, by kernel_rfl⟩⟩
theorem tok162 : TOk Try.prog 162 ⟨.array 0 16, 0, 0, .arr 1 0 (List.replicate 0 (.nilp))⟩ := ⟨by kernel_rfl, by kernel_rfl, Or.inr ⟨_, rfl, by kernel_rfl⟩⟩
theorem tok163 : TOk Try.prog 163 ⟨.struct [(0, 162)], 0, 0, .agg [.arr 1 0 (List.replicate 0 (.nilp))]⟩ := ⟨by kernel_rfl, by kernel_rfl, Or.inr ⟨_, rfl, by kernel_rfl⟩⟩
theorem tok164 : TOk Try.prog 164 ⟨.struct [(0, 162)], 0, 0, .agg [.arr 1 0 (List.replicate 0 (.nilp))]⟩ := ⟨by kernel_rfl, by kernel_rfl, Or.inr ⟨_, rfl, by kernel_rfl⟩⟩
theorem tok165 : TOk Try.prog 165 ⟨.int .u8, 1, 1, .i .u8 0⟩ := ⟨by kernel_rfl, by kernel_rfl, Or.inr ⟨_, rfl, by kernel_rfl⟩⟩
theorem tok166 : TOk Try.prog 166 ⟨.int .u8, 1, 1, .i .u8 0⟩ := ⟨by kernel_rfl, by kernel_rfl, Or.inr ⟨_, rfl, by kernel_rfl⟩⟩
theorem tok168 : TOk Try.prog 168 ⟨.ptr 5, 1, 8, .nilp⟩ := ⟨by kernel_rfl, by kernel_rfl, Or.inr ⟨_, rfl, by kernel_rfl⟩⟩
theorem tok169 : TOk Try.prog 169 ⟨.int .i32, 1, 4, .i .i32 0⟩ := ⟨by kernel_rfl, by kernel_rfl, Or.inr ⟨_, rfl, by kernel_rfl⟩⟩
theorem tok170 : TOk Try.prog 170 ⟨.int .i32, 1, 4, .i .i32 0⟩ := ⟨by kernel_rfl, by kernel_rfl, Or.inr ⟨_, rfl, by kernel_rfl⟩⟩
theorem tok171 : TOk Try.prog 171 ⟨.struct [(0, 12), (1, 12), (2, 130), (3, 165), (4, 5), (5, 5), (6, 166), (7, 167), (8, 168), (9, 169), (10, 170)], 11, 48, .agg [.i .u64 0, .i .u64 0, .i .u32 0, .i .u8 0, .i .u8 0, .i .u8 0, .i .u8 0, .nilf, .nilp, .i .i32 0, .i .i32 0]⟩ := ⟨by kernel_rfl, by kernel_rfl, Or.inr ⟨_, rfl, by kernel_rfl⟩⟩
theorem tok172 : TOk Try.prog 172 ⟨.struct [(0, 12), (1, 12), (2, 130), (3, 165), (4, 5), (5, 5), (6, 166), (7, 167), (8, 168), (9, 169), (10, 170)], 11, 48, .agg [.i .u64 0, .i .u64 0, .i .u32 0, .i .u8 0, .i .u8 0, .i .u8 0, .i .u8 0, .nilf, .nilp, .i .i32 0, .i .i32 0]⟩ := ⟨by kernel_rfl, by kernel_rfl, Or.inr ⟨_, rfl, by kernel_rfl⟩⟩
def Tt : List (Nat × TI) := [(2, ⟨.int .i64, 1, 8, .i .i64 0⟩),
  (3, ⟨.int .i64, 1, 8, .i .i64 0⟩),
  (4, ⟨.bool, 1, 1, .b false⟩),
  (5, ⟨.int .u8, 1, 1, .i .u8 0⟩),
  (6, ⟨.int .u8, 1, 1, .i .u8 0⟩),
  (7, ⟨.struct [(0, 2), (1, 3), (2, 4), (3, 6)], 4, 24, .agg [.i .i64 0, .i .i64 0, .b false, .i .u8 0]⟩),
  (8, ⟨.struct [(0, 2), (1, 3), (2, 4), (3, 6)], 4, 24, .agg [.i .i64 0, .i .i64 0, .b false, .i .u8 0]⟩),
  (9, ⟨.string, 1, 16, .s []⟩),
  (10, ⟨.string, 1, 16, .s []⟩),
  (11, ⟨.string, 1, 16, .s []⟩),
  (12, ⟨.int .u64, 1, 8, .i .u64 0⟩),
  (13, ⟨.struct [(0, 9), (1, 12)], 2, 24, .agg [.s [], .i .u64 0]⟩),
  (14, ⟨.struct [(0, 9), (1, 12)], 2, 24, .agg [.s [], .i .u64 0]⟩),
  (15, ⟨.ptr 161, 1, 8, .nilp⟩),
  (16, ⟨.ptr 164, 1, 8, .nilp⟩),
  (17, ⟨.ptr 172, 1, 8, .nilp⟩),
  (18, ⟨.struct [(0, 17)], 1, 8, .agg [.nilp]⟩),
  (19, ⟨.struct [(0, 17)], 1, 8, .agg [.nilp]⟩),
  (20, ⟨.iface, 1, 16, .nili⟩),
  (21, ⟨.int .i32, 1, 4, .i .i32 0⟩),
  (22, ⟨.slice 38, 1, 24, .nil⟩),
  (23, ⟨.array 32 5, 32, 32, .arr 1 32 (List.replicate 32 (.i .u8 0))⟩),
  (24, ⟨.array 32 5, 32, 32, .arr 1 32 (List.replicate 32 (.i .u8 0))⟩),
  (25, ⟨.int .i64, 1, 8, .i .i64 0⟩),
  (31, ⟨.slice 36, 1, 24, .nil⟩),
  (33, ⟨.struct [(0, 3), (1, 24)], 33, 40, .agg [.i .i64 0, .arr 1 32 (List.replicate 32 (.i .u8 0))]⟩),
  (34, ⟨.struct [(0, 3), (1, 24)], 33, 40, .agg [.i .i64 0, .arr 1 32 (List.replicate 32 (.i .u8 0))]⟩),
  (35, ⟨.struct [(0, 34), (33, 24), (65, 3)], 66, 80, .agg [.agg [.i .i64 0, .arr 1 32 (List.replicate 32 (.i .u8 0))], .arr 1 32 (List.replicate 32 (.i .u8 0)), .i .i64 0]⟩),
  (36, ⟨.struct [(0, 34), (33, 24), (65, 3)], 66, 80, .agg [.agg [.i .i64 0, .arr 1 32 (List.replicate 32 (.i .u8 0))], .arr 1 32 (List.replicate 32 (.i .u8 0)), .i .i64 0]⟩),
  (37, ⟨.struct [(0, 24), (32, 24), (64, 3)], 65, 72, .agg [.arr 1 32 (List.replicate 32 (.i .u8 0)), .arr 1 32 (List.replicate 32 (.i .u8 0)), .i .i64 0]⟩),
  (38, ⟨.struct [(0, 24), (32, 24), (64, 3)], 65, 72, .agg [.arr 1 32 (List.replicate 32 (.i .u8 0)), .arr 1 32 (List.replicate 32 (.i .u8 0)), .i .i64 0]⟩),
  (41, ⟨.iface, 1, 16, .nili⟩),
  (42, ⟨.iface, 1, 16, .nili⟩),
  (48, ⟨.struct [(0, 36), (66, 36)], 132, 160, .agg [.agg [.agg [.i .i64 0, .arr 1 32 (List.replicate 32 (.i .u8 0))], .arr 1 32 (List.replicate 32 (.i .u8 0)), .i .i64 0], .agg [.agg [.i .i64 0, .arr 1 32 (List.replicate 32 (.i .u8 0))], .arr 1 32 (List.replicate 32 (.i .u8 0)), .i .i64 0]]⟩),
  (49, ⟨.struct [(0, 36), (66, 36)], 132, 160, .agg [.agg [.agg [.i .i64 0, .arr 1 32 (List.replicate 32 (.i .u8 0))], .arr 1 32 (List.replicate 32 (.i .u8 0)), .i .i64 0], .agg [.agg [.i .i64 0, .arr 1 32 (List.replicate 32 (.i .u8 0))], .arr 1 32 (List.replicate 32 (.i .u8 0)), .i .i64 0]]⟩),
  (53, ⟨.slice 73, 1, 24, .nil⟩),
  (63, ⟨.slice 24, 1, 24, .nil⟩),
  (66, ⟨.slice 75, 1, 24, .nil⟩),
  (72, ⟨.struct [(0, 3), (1, 24), (33, 24), (65, 3)], 66, 80, .agg [.i .i64 0, .arr 1 32 (List.replicate 32 (.i .u8 0)), .arr 1 32 (List.replicate 32 (.i .u8 0)), .i .i64 0]⟩),
  (73, ⟨.struct [(0, 3), (1, 24), (33, 24), (65, 3)], 66, 80, .agg [.i .i64 0, .arr 1 32 (List.replicate 32 (.i .u8 0)), .arr 1 32 (List.replicate 32 (.i .u8 0)), .i .i64 0]⟩),
  (75, ⟨.struct [(0, 24), (32, 24), (64, 3)], 65, 72, .agg [.arr 1 32 (List.replicate 32 (.i .u8 0)), .arr 1 32 (List.replicate 32 (.i .u8 0)), .i .i64 0]⟩),
  (79, ⟨.slice 3, 1, 24, .nil⟩),
  (85, ⟨.slice 5, 1, 24, .nil⟩),
  (86, ⟨.struct [(0, 85), (1, 25)], 2, 32, .agg [.nil, .i .i64 0]⟩),
  (87, ⟨.struct [(0, 85), (1, 25)], 2, 32, .agg [.nil, .i .i64 0]⟩),
  (93, ⟨.ptr 87, 1, 8, .nilp⟩),
  (94, ⟨.ptr 128, 1, 8, .nilp⟩),
  (124, ⟨.slice 9, 1, 24, .nil⟩),
  (126, ⟨.int .u64, 1, 8, .i .u64 0⟩),
  (127, ⟨.struct [(0, 9), (1, 3), (2, 25)], 3, 32, .agg [.s [], .i .i64 0, .i .i64 0]⟩),
  (128, ⟨.struct [(0, 9), (1, 3), (2, 25)], 3, 32, .agg [.s [], .i .i64 0, .i .i64 0]⟩),
  (130, ⟨.int .u32, 1, 4, .i .u32 0⟩),
  (131, ⟨.array 8 130, 8, 32, .arr 1 8 (List.replicate 8 (.i .u32 0))⟩),
  (132, ⟨.array 8 130, 8, 32, .arr 1 8 (List.replicate 8 (.i .u32 0))⟩),
  (133, ⟨.int .u64, 1, 8, .i .u64 0⟩),
  (134, ⟨.array 64 130, 64, 256, .arr 1 64 (List.replicate 64 (.i .u32 0))⟩),
  (137, ⟨.ptr 134, 1, 8, .nilp⟩),
  (152, ⟨.ptr 132, 1, 8, .nilp⟩),
  (160, ⟨.struct [(0, 17), (1, 17), (2, 17), (3, 9)], 4, 40, .agg [.nilp, .nilp, .nilp, .s []]⟩),
  (161, ⟨.struct [(0, 17), (1, 17), (2, 17), (3, 9)], 4, 40, .agg [.nilp, .nilp, .nilp, .s []]⟩),
  (162, ⟨.array 0 16, 0, 0, .arr 1 0 (List.replicate 0 (.nilp))⟩),
  (163, ⟨.struct [(0, 162)], 0, 0, .agg [.arr 1 0 (List.replicate 0 (.nilp))]⟩),
  (164, ⟨.struct [(0, 162)], 0, 0, .agg [.arr 1 0 (List.replicate 0 (.nilp))]⟩),
  (165, ⟨.int .u8, 1, 1, .i .u8 0⟩),
  (166, ⟨.int .u8, 1, 1, .i .u8 0⟩),
  (168, ⟨.ptr 5, 1, 8, .nilp⟩),
  (169, ⟨.int .i32, 1, 4, .i .i32 0⟩),
  (170, ⟨.int .i32, 1, 4, .i .i32 0⟩),
  (171, ⟨.struct [(0, 12), (1, 12), (2, 130), (3, 165), (4, 5), (5, 5), (6, 166), (7, 167), (8, 168), (9, 169), (10, 170)], 11, 48, .agg [.i .u64 0, .i .u64 0, .i .u32 0, .i .u8 0, .i .u8 0, .i .u8 0, .i .u8 0, .nilf, .nilp, .i .i32 0, .i .i32 0]⟩),
  (172, ⟨.struct [(0, 12), (1, 12), (2, 130), (3, 165), (4, 5), (5, 5), (6, 166), (7, 167), (8, 168), (9, 169), (10, 170)], 11, 48, .agg [.i .u64 0, .i .u64 0, .i .u32 0, .i .u8 0, .i .u8 0, .i .u8 0, .i .u8 0, .nilf, .nilp, .i .i32 0, .i .i32 0]⟩)]
theorem TtOk : TTOk Try.prog Tt := by
  unfold TTOk Tt
  simp only [List.forall_mem_cons, List.not_mem_nil, false_implies, implies_true, and_true]
  exact ⟨tok2, tok3, tok4, tok5, tok6, tok7, tok8, tok9, tok10, tok11, tok12, tok13, tok14, tok15, tok16, tok17, tok18, tok19, tok20, tok21, tok22, tok23, tok24, tok25, tok31, tok33, tok34, tok35, tok36, tok37, tok38, tok41, tok42, tok48, tok49, tok53, tok63, tok66, tok72, tok73, tok75, tok79, tok85, tok86, tok87, tok93, tok94, tok124, tok126, tok127, tok128, tok130, tok131, tok132, tok133, tok134, tok137, tok152, tok160, tok161, tok162, tok163, tok164, tok165, tok166, tok168, tok169, tok170, tok171, tok172⟩
end Go.Proofs.Ytpjfhllkckdejaa
set_option maxHeartbeats 8000000
namespace Go.Proofs.Ytpjfhllkckdejaa
open Go Go.RowKit
def rotr (x : Int) (n : Nat) : Int := bitsI .or .u32 (IntKind.u32.wrap (x * 2 ^ (32 - n))) (x.fdiv (2 ^ n))
theorem neg_and (n : Nat) (h0 : 0 < n) (h : n < 32) : bitsI .and .u64 (IntKind.u64.wrap (IntKind.i64.wrap (0 - (n : Int)))) 31 = ((32 - n : Nat) : Int) := by
  have : ∀ n : Fin 32, 0 < n.val → bitsI .and .u64 (IntKind.u64.wrap (IntKind.i64.wrap (0 - ((n.val : Nat) : Int)))) 31 = ((32 - n.val : Nat) : Int) := by decide
  exact this ⟨n, h⟩ h0
theorem rotl_spec (x k : Int) (m : Nat) (hm : 0 < m) (hm2 : m < 32) (hk : bitsI .and .u64 (IntKind.u64.wrap k) 31 = (m : Int)) :
    Spec Try.prog 114 [.i .u32 x, .i .i64 k] [] (fun v os => v = .i .u32 (rotr x (32 - m)) ∧ os = []) := by
  refine spec_of TtOk [] Try.func114 rfl Try.ntmps114 (by kernel_rfl) rfl rfl (fun C => ?_) rfl
  have hw : IntKind.u64.wrap (32 - (m : Int)) = ((32 - m : Nat) : Int) := by
    have : ∀ m : Fin 32, IntKind.u64.wrap (32 - ((m.val : Nat) : Int)) = ((32 - m.val : Nat) : Int) := by decide
    exact this ⟨m, hm2⟩
  repeat' (first | (refine o_calm rfl TtOk rfl rfl rfl ?_ (fun _ => ?_); exact ⟨rfl, True.intro⟩; rw [hw]) | (refine o_calm rfl TtOk rfl rfl rfl ?_ (fun _ => ?_); exact ⟨rfl, True.intro⟩; rw [hk]) | refine Awp.seq ?_ | refine Awp.region ?_ | (refine Ops.nil ?_; show Awp _ _ _ _ _) | (refine Awp.ret ?_; show endK _ _ _ _ _) | (refine o_calm rfl TtOk rfl rfl rfl ?_ (fun _ => ?_); first | exact True.intro | exact ⟨rfl, rfl, rfl, rfl⟩ | exact ⟨rfl, True.intro⟩ | exact ⟨rfl, rfl⟩ | exact ⟨rfl, rfl, rfl⟩ | exact rfl | exact ⟨fun h0 => by cases h0, rfl⟩ | exact (fun h0 => by cases h0) | exact ⟨rfl, by omega⟩ | exact ⟨Nat.succ_ne_zero _, rfl⟩ | omega))
  refine end_tmp rfl rfl rfl [] [] (CLe.of_eq ?_) .nil ⟨rfl, rfl⟩ _ (.inl rfl)
  show AV.i .u32 (bitsI .or .u32 (IntKind.u32.wrap (x * 2 ^ (min m 32))) (x.fdiv (2 ^ (min (32 - m) 32)))) = _
  unfold rotr
  rw [Nat.min_eq_left (by omega), Nat.min_eq_left (by omega), show 32 - (32 - m) = m by omega]
theorem turn_spec (x : Int) (n : Nat) (h0 : 0 < n) (h : n < 32) : Spec Try.prog 106 [.i .u32 x, .i .i64 n] [] (fun v os => v = .i .u32 (rotr x n) ∧ os = []) := by
  refine spec_of TtOk [] Try.func106 rfl Try.ntmps106 (by kernel_rfl) rfl rfl (fun C => ?_) rfl
  have h1 := rotl_spec x (IntKind.i64.wrap (0 - (n : Int))) (32 - n) (by omega) (by omega) (neg_and n h0 h)
  rw [show 32 - (32 - n) = n by omega] at h1
  repeat' (first | refine Awp.seq ?_ | refine Awp.region ?_ | (refine Ops.nil ?_; show Awp _ _ _ _ _) | (refine Awp.ret ?_; show endK _ _ _ _ _) | (refine o_calm rfl TtOk rfl rfl rfl ?_ (fun _ => ?_); first | exact True.intro | exact ⟨rfl, rfl, rfl, rfl⟩ | exact ⟨rfl, True.intro⟩ | exact ⟨rfl, rfl⟩ | exact ⟨rfl, rfl, rfl⟩ | exact rfl | exact ⟨fun h0 => by cases h0, rfl⟩ | exact (fun h0 => by cases h0) | exact ⟨rfl, by omega⟩ | exact ⟨Nat.succ_ne_zero _, rfl⟩ | omega) | (refine o_call0 rfl (h1) ⟨SLe.of_eq rfl, SLe.of_eq rfl, True.intro⟩ rfl ?_; rintro _ _ ⟨rfl, rfl⟩; refine ⟨rfl, ?_⟩))
  exact end_tmp rfl rfl rfl [] [] (CLe.of_eq rfl) .nil ⟨rfl, rfl⟩ _ (.inl rfl)
end Go.Proofs.Ytpjfhllkckdejaa
