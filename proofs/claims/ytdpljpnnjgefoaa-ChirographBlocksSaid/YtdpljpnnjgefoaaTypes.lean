/- What is known of the types of this seat's program, and that it is so. Made by a program. -/
import Derived.Test.YtdpljpnnjgefoaaProg
import Derived.Test.YtdpljpnnjgefoaaV2Z
namespace Go.Proofs.Ytdpljpnnjgefoaa
open Go Go.RowKit
set_option maxRecDepth 100000
theorem tok2 : TOk Try.prog 2 ⟨.int .i64, 1, 8, .i .i64 0⟩ := ⟨by kernel_rfl, by kernel_rfl, Or.inr ⟨_, rfl, by kernel_rfl⟩⟩
theorem tok3 : TOk Try.prog 3 ⟨.int .i64, 1, 8, .i .i64 0⟩ := ⟨by kernel_rfl, by kernel_rfl, Or.inr ⟨_, rfl, by kernel_rfl⟩⟩
theorem tok4 : TOk Try.prog 4 ⟨.bool, 1, 1, .b false⟩ := ⟨by kernel_rfl, by kernel_rfl, Or.inr ⟨_, rfl, by kernel_rfl⟩⟩
theorem tok5 : TOk Try.prog 5 ⟨.int .u8, 1, 1, .i .u8 0⟩ := ⟨by kernel_rfl, by kernel_rfl, Or.inr ⟨_, rfl, by kernel_rfl⟩⟩
theorem tok6 : TOk Try.prog 6 ⟨.int .u8, 1, 1, .i .u8 0⟩ := ⟨by kernel_rfl, by kernel_rfl, Or.inr ⟨_, rfl, by kernel_rfl⟩⟩
theorem tok7 : TOk Try.prog 7 ⟨.struct [(0, 2), (1, 3), (2, 4), (3, 6)], 4, 24, .agg [.i .i64 0, .i .i64 0, .b false, .i .u8 0]⟩ := ⟨by kernel_rfl, by kernel_rfl, Or.inr ⟨_, rfl, by kernel_rfl⟩⟩
theorem tok8 : TOk Try.prog 8 ⟨.struct [(0, 2), (1, 3), (2, 4), (3, 6)], 4, 24, .agg [.i .i64 0, .i .i64 0, .b false, .i .u8 0]⟩ := ⟨by kernel_rfl, by kernel_rfl, Or.inr ⟨_, rfl, by kernel_rfl⟩⟩
theorem tok9 : TOk Try.prog 9 ⟨.string, 1, 16, .s []⟩ := ⟨by kernel_rfl, by kernel_rfl, Or.inr ⟨_, rfl, by kernel_rfl⟩⟩
theorem tok10 : TOk Try.prog 10 ⟨.string, 1, 16, .s []⟩ := ⟨by kernel_rfl, by kernel_rfl, Or.inr ⟨_, rfl, by kernel_rfl⟩⟩
theorem tok11 : TOk Try.prog 11 ⟨.string, 1, 16, .s []⟩ := ⟨by kernel_rfl, by kernel_rfl, Or.inr ⟨_, rfl, by kernel_rfl⟩⟩
theorem tok12 : TOk Try.prog 12 ⟨.int .u64, 1, 8, .i .u64 0⟩ := ⟨by kernel_rfl, by kernel_rfl, Or.inr ⟨_, rfl, by kernel_rfl⟩⟩
theorem tok13 : TOk Try.prog 13 ⟨.struct [(0, 9), (1, 12)], 2, 24, .agg [.s [], .i .u64 0]⟩ := ⟨by kernel_rfl, by kernel_rfl, Or.inr ⟨_, rfl, by kernel_rfl⟩⟩
theorem tok14 : TOk Try.prog 14 ⟨.struct [(0, 9), (1, 12)], 2, 24, .agg [.s [], .i .u64 0]⟩ := ⟨by kernel_rfl, by kernel_rfl, Or.inr ⟨_, rfl, by kernel_rfl⟩⟩
theorem tok15 : TOk Try.prog 15 ⟨.ptr 118, 1, 8, .nilp⟩ := ⟨by kernel_rfl, by kernel_rfl, Or.inr ⟨_, rfl, by kernel_rfl⟩⟩
theorem tok16 : TOk Try.prog 16 ⟨.ptr 121, 1, 8, .nilp⟩ := ⟨by kernel_rfl, by kernel_rfl, Or.inr ⟨_, rfl, by kernel_rfl⟩⟩
theorem tok17 : TOk Try.prog 17 ⟨.ptr 129, 1, 8, .nilp⟩ := ⟨by kernel_rfl, by kernel_rfl, Or.inr ⟨_, rfl, by kernel_rfl⟩⟩
theorem tok18 : TOk Try.prog 18 ⟨.struct [(0, 17)], 1, 8, .agg [.nilp]⟩ := ⟨by kernel_rfl, by kernel_rfl, Or.inr ⟨_, rfl, by kernel_rfl⟩⟩
theorem tok19 : TOk Try.prog 19 ⟨.struct [(0, 17)], 1, 8, .agg [.nilp]⟩ := ⟨by kernel_rfl, by kernel_rfl, Or.inr ⟨_, rfl, by kernel_rfl⟩⟩
theorem tok20 : TOk Try.prog 20 ⟨.iface, 1, 16, .nili⟩ := ⟨by kernel_rfl, by kernel_rfl, Or.inr ⟨_, rfl, by kernel_rfl⟩⟩
theorem tok21 : TOk Try.prog 21 ⟨.int .i32, 1, 4, .i .i32 0⟩ := ⟨by kernel_rfl, by kernel_rfl, Or.inr ⟨_, rfl, by kernel_rfl⟩⟩
theorem tok22 : TOk Try.prog 22 ⟨.slice 27, 1, 24, .nil⟩ := ⟨by kernel_rfl, by kernel_rfl, Or.inr ⟨_, rfl, by kernel_rfl⟩⟩
theorem tok23 : TOk Try.prog 23 ⟨.int .i64, 1, 8, .i .i64 0⟩ := ⟨by kernel_rfl, by kernel_rfl, Or.inr ⟨_, rfl, by kernel_rfl⟩⟩
theorem tok26 : TOk Try.prog 26 ⟨.struct [(0, 9), (1, 9), (2, 4)], 3, 40, .agg [.s [], .s [], .b false]⟩ := ⟨by kernel_rfl, by kernel_rfl, Or.inr ⟨_, rfl, by kernel_rfl⟩⟩
theorem tok27 : TOk Try.prog 27 ⟨.struct [(0, 9), (1, 9), (2, 4)], 3, 40, .agg [.s [], .s [], .b false]⟩ := ⟨by kernel_rfl, by kernel_rfl, Or.inr ⟨_, rfl, by kernel_rfl⟩⟩
theorem tok32 : TOk Try.prog 32 ⟨.ptr 77, 1, 8, .nilp⟩ := ⟨by kernel_rfl, by kernel_rfl, Or.inr ⟨_, rfl, by kernel_rfl⟩⟩
theorem tok50 : TOk Try.prog 50 ⟨.slice 5, 1, 24, .nil⟩ := ⟨by kernel_rfl, by kernel_rfl, Or.inr ⟨_, rfl, by kernel_rfl⟩⟩
theorem tok51 : TOk Try.prog 51 ⟨.struct [(0, 50), (1, 23)], 2, 32, .agg [.nil, .i .i64 0]⟩ := ⟨by kernel_rfl, by kernel_rfl, Or.inr ⟨_, rfl, by kernel_rfl⟩⟩
theorem tok52 : TOk Try.prog 52 ⟨.struct [(0, 50), (1, 23)], 2, 32, .agg [.nil, .i .i64 0]⟩ := ⟨by kernel_rfl, by kernel_rfl, Or.inr ⟨_, rfl, by kernel_rfl⟩⟩
theorem tok59 : TOk Try.prog 59 ⟨.slice 9, 1, 24, .nil⟩ := ⟨by kernel_rfl, by kernel_rfl, Or.inr ⟨_, rfl, by kernel_rfl⟩⟩
theorem tok60 : TOk Try.prog 60 ⟨.slice 22, 1, 24, .nil⟩ := ⟨by kernel_rfl, by kernel_rfl, Or.inr ⟨_, rfl, by kernel_rfl⟩⟩
theorem tok62 : TOk Try.prog 62 ⟨.struct [(0, 3), (1, 50)], 2, 32, .agg [.i .i64 0, .nil]⟩ := ⟨by kernel_rfl, by kernel_rfl, Or.inr ⟨_, rfl, by kernel_rfl⟩⟩
theorem tok63 : TOk Try.prog 63 ⟨.struct [(0, 3), (1, 50)], 2, 32, .agg [.i .i64 0, .nil]⟩ := ⟨by kernel_rfl, by kernel_rfl, Or.inr ⟨_, rfl, by kernel_rfl⟩⟩
theorem tok67 : TOk Try.prog 67 ⟨.ptr 52, 1, 8, .nilp⟩ := ⟨by kernel_rfl, by kernel_rfl, Or.inr ⟨_, rfl, by kernel_rfl⟩⟩
theorem tok68 : TOk Try.prog 68 ⟨.int .u64, 1, 8, .i .u64 0⟩ := ⟨by kernel_rfl, by kernel_rfl, Or.inr ⟨_, rfl, by kernel_rfl⟩⟩
theorem tok71 : TOk Try.prog 71 ⟨.ptr 99, 1, 8, .nilp⟩ := ⟨by kernel_rfl, by kernel_rfl, Or.inr ⟨_, rfl, by kernel_rfl⟩⟩
theorem tok75 : TOk Try.prog 75 ⟨.slice 81, 1, 24, .nil⟩ := ⟨by kernel_rfl, by kernel_rfl, Or.inr ⟨_, rfl, by kernel_rfl⟩⟩
theorem tok76 : TOk Try.prog 76 ⟨.struct [(0, 9), (1, 75), (2, 63), (4, 3), (5, 9)], 6, 96, .agg [.s [], .nil, .agg [.i .i64 0, .nil], .i .i64 0, .s []]⟩ := ⟨by kernel_rfl, by kernel_rfl, Or.inr ⟨_, rfl, by kernel_rfl⟩⟩
theorem tok77 : TOk Try.prog 77 ⟨.struct [(0, 9), (1, 75), (2, 63), (4, 3), (5, 9)], 6, 96, .agg [.s [], .nil, .agg [.i .i64 0, .nil], .i .i64 0, .s []]⟩ := ⟨by kernel_rfl, by kernel_rfl, Or.inr ⟨_, rfl, by kernel_rfl⟩⟩
theorem tok80 : TOk Try.prog 80 ⟨.struct [(0, 3), (1, 9)], 2, 24, .agg [.i .i64 0, .s []]⟩ := ⟨by kernel_rfl, by kernel_rfl, Or.inr ⟨_, rfl, by kernel_rfl⟩⟩
theorem tok81 : TOk Try.prog 81 ⟨.struct [(0, 3), (1, 9)], 2, 24, .agg [.i .i64 0, .s []]⟩ := ⟨by kernel_rfl, by kernel_rfl, Or.inr ⟨_, rfl, by kernel_rfl⟩⟩
theorem tok93 : TOk Try.prog 93 ⟨.int .u32, 1, 4, .i .u32 0⟩ := ⟨by kernel_rfl, by kernel_rfl, Or.inr ⟨_, rfl, by kernel_rfl⟩⟩
theorem tok95 : TOk Try.prog 95 ⟨.slice 3, 1, 24, .nil⟩ := ⟨by kernel_rfl, by kernel_rfl, Or.inr ⟨_, rfl, by kernel_rfl⟩⟩
theorem tok98 : TOk Try.prog 98 ⟨.struct [(0, 9), (1, 3), (2, 23)], 3, 32, .agg [.s [], .i .i64 0, .i .i64 0]⟩ := ⟨by kernel_rfl, by kernel_rfl, Or.inr ⟨_, rfl, by kernel_rfl⟩⟩
theorem tok99 : TOk Try.prog 99 ⟨.struct [(0, 9), (1, 3), (2, 23)], 3, 32, .agg [.s [], .i .i64 0, .i .i64 0]⟩ := ⟨by kernel_rfl, by kernel_rfl, Or.inr ⟨_, rfl, by kernel_rfl⟩⟩
theorem tok106 : TOk Try.prog 106 ⟨.slice 4, 1, 24, .nil⟩ := ⟨by kernel_rfl, by kernel_rfl, Or.inr ⟨_, rfl, by kernel_rfl⟩⟩
theorem tok107 : TOk Try.prog 107 ⟨.struct [(0, 3), (1, 106)], 2, 32, .agg [.i .i64 0, .nil]⟩ := ⟨by kernel_rfl, by kernel_rfl, Or.inr ⟨_, rfl, by kernel_rfl⟩⟩
theorem tok108 : TOk Try.prog 108 ⟨.struct [(0, 3), (1, 106)], 2, 32, .agg [.i .i64 0, .nil]⟩ := ⟨by kernel_rfl, by kernel_rfl, Or.inr ⟨_, rfl, by kernel_rfl⟩⟩
theorem tok111 : TOk Try.prog 111 ⟨.array 256 93, 256, 1024, .arr 1 256 (List.replicate 256 (.i .u32 0))⟩ := ⟨by kernel_rfl, by kernel_rfl, Or.inr ⟨_, rfl, by kernel_rfl⟩⟩
theorem tok113 : TOk Try.prog 113 ⟨.int .u64, 1, 8, .i .u64 0⟩ := ⟨by kernel_rfl, by kernel_rfl, Or.inr ⟨_, rfl, by kernel_rfl⟩⟩
theorem tok117 : TOk Try.prog 117 ⟨.struct [(0, 17), (1, 17), (2, 17), (3, 9)], 4, 40, .agg [.nilp, .nilp, .nilp, .s []]⟩ := ⟨by kernel_rfl, by kernel_rfl, Or.inr ⟨_, rfl, by kernel_rfl⟩⟩
theorem tok118 : TOk Try.prog 118 ⟨.struct [(0, 17), (1, 17), (2, 17), (3, 9)], 4, 40, .agg [.nilp, .nilp, .nilp, .s []]⟩ := ⟨by kernel_rfl, by kernel_rfl, Or.inr ⟨_, rfl, by kernel_rfl⟩⟩
theorem tok119 : TOk Try.prog 119 ⟨.array 0 16, 0, 0, .arr 1 0 (List.replicate 0 (.nilp))⟩ := ⟨by kernel_rfl, by kernel_rfl, Or.inr ⟨_, rfl, by kernel_rfl⟩⟩
theorem tok120 : TOk Try.prog 120 ⟨.struct [(0, 119)], 0, 0, .agg [.arr 1 0 (List.replicate 0 (.nilp))]⟩ := ⟨by kernel_rfl, by kernel_rfl, Or.inr ⟨_, rfl, by kernel_rfl⟩⟩
theorem tok121 : TOk Try.prog 121 ⟨.struct [(0, 119)], 0, 0, .agg [.arr 1 0 (List.replicate 0 (.nilp))]⟩ := ⟨by kernel_rfl, by kernel_rfl, Or.inr ⟨_, rfl, by kernel_rfl⟩⟩
theorem tok122 : TOk Try.prog 122 ⟨.int .u8, 1, 1, .i .u8 0⟩ := ⟨by kernel_rfl, by kernel_rfl, Or.inr ⟨_, rfl, by kernel_rfl⟩⟩
theorem tok123 : TOk Try.prog 123 ⟨.int .u8, 1, 1, .i .u8 0⟩ := ⟨by kernel_rfl, by kernel_rfl, Or.inr ⟨_, rfl, by kernel_rfl⟩⟩
theorem tok125 : TOk Try.prog 125 ⟨.ptr 5, 1, 8, .nilp⟩ := ⟨by kernel_rfl, by kernel_rfl, Or.inr ⟨_, rfl, by kernel_rfl⟩⟩
theorem tok126 : TOk Try.prog 126 ⟨.int .i32, 1, 4, .i .i32 0⟩ := ⟨by kernel_rfl, by kernel_rfl, Or.inr ⟨_, rfl, by kernel_rfl⟩⟩
theorem tok127 : TOk Try.prog 127 ⟨.int .i32, 1, 4, .i .i32 0⟩ := ⟨by kernel_rfl, by kernel_rfl, Or.inr ⟨_, rfl, by kernel_rfl⟩⟩
theorem tok128 : TOk Try.prog 128 ⟨.struct [(0, 12), (1, 12), (2, 93), (3, 122), (4, 5), (5, 5), (6, 123), (7, 124), (8, 125), (9, 126), (10, 127)], 11, 48, .agg [.i .u64 0, .i .u64 0, .i .u32 0, .i .u8 0, .i .u8 0, .i .u8 0, .i .u8 0, .nilf, .nilp, .i .i32 0, .i .i32 0]⟩ := ⟨by kernel_rfl, by kernel_rfl, Or.inr ⟨_, rfl, by kernel_rfl⟩⟩
theorem tok129 : TOk Try.prog 129 ⟨.struct [(0, 12), (1, 12), (2, 93), (3, 122), (4, 5), (5, 5), (6, 123), (7, 124), (8, 125), (9, 126), (10, 127)], 11, 48, .agg [.i .u64 0, .i .u64 0, .i .u32 0, .i .u8 0, .i .u8 0, .i .u8 0, .i .u8 0, .nilf, .nilp, .i .i32 0, .i .i32 0]⟩ := ⟨by kernel_rfl, by kernel_rfl, Or.inr ⟨_, rfl, by kernel_rfl⟩⟩
def Tt : List (Nat × TI) := [(2, ⟨.int .i64, 1, 8, .i .i64 0⟩),
  (3, ⟨.int .i64, 1, 8, .i .i64 0⟩),
  (4, ⟨.bool, 1, 1, .b false⟩),
  (5, ⟨.int .u8, 1, 1, .i .u8 0⟩),
  (6, ⟨.int .u8, 1, 1, .i .u8 0⟩),
  (7, ⟨.struct [(0, 2), (1, 3), (2, 4), (3, 6)], 4, 24, .agg [.i .i64 0, .i .i64 0, .b false, .i .u8 0]⟩),
  (8, ⟨.struct [(0, 2), (1, 3), (2, 4), (3, 6)], 4, 24, .agg [.i .i64 0, .i .i64 0, .b false, .i .u8 0]⟩),
  (9, ⟨.string, 1, 16, .s []⟩),
  (10, ⟨.string, 1, 16, .s []⟩),
  (11, ⟨.string, 1, 16, .s []⟩),
  (12, ⟨.int .u64, 1, 8, .i .u64 0⟩),
  (13, ⟨.struct [(0, 9), (1, 12)], 2, 24, .agg [.s [], .i .u64 0]⟩),
  (14, ⟨.struct [(0, 9), (1, 12)], 2, 24, .agg [.s [], .i .u64 0]⟩),
  (15, ⟨.ptr 118, 1, 8, .nilp⟩),
  (16, ⟨.ptr 121, 1, 8, .nilp⟩),
  (17, ⟨.ptr 129, 1, 8, .nilp⟩),
  (18, ⟨.struct [(0, 17)], 1, 8, .agg [.nilp]⟩),
  (19, ⟨.struct [(0, 17)], 1, 8, .agg [.nilp]⟩),
  (20, ⟨.iface, 1, 16, .nili⟩),
  (21, ⟨.int .i32, 1, 4, .i .i32 0⟩),
  (22, ⟨.slice 27, 1, 24, .nil⟩),
  (23, ⟨.int .i64, 1, 8, .i .i64 0⟩),
  (26, ⟨.struct [(0, 9), (1, 9), (2, 4)], 3, 40, .agg [.s [], .s [], .b false]⟩),
  (27, ⟨.struct [(0, 9), (1, 9), (2, 4)], 3, 40, .agg [.s [], .s [], .b false]⟩),
  (32, ⟨.ptr 77, 1, 8, .nilp⟩),
  (50, ⟨.slice 5, 1, 24, .nil⟩),
  (51, ⟨.struct [(0, 50), (1, 23)], 2, 32, .agg [.nil, .i .i64 0]⟩),
  (52, ⟨.struct [(0, 50), (1, 23)], 2, 32, .agg [.nil, .i .i64 0]⟩),
  (59, ⟨.slice 9, 1, 24, .nil⟩),
  (60, ⟨.slice 22, 1, 24, .nil⟩),
  (62, ⟨.struct [(0, 3), (1, 50)], 2, 32, .agg [.i .i64 0, .nil]⟩),
  (63, ⟨.struct [(0, 3), (1, 50)], 2, 32, .agg [.i .i64 0, .nil]⟩),
  (67, ⟨.ptr 52, 1, 8, .nilp⟩),
  (68, ⟨.int .u64, 1, 8, .i .u64 0⟩),
  (71, ⟨.ptr 99, 1, 8, .nilp⟩),
  (75, ⟨.slice 81, 1, 24, .nil⟩),
  (76, ⟨.struct [(0, 9), (1, 75), (2, 63), (4, 3), (5, 9)], 6, 96, .agg [.s [], .nil, .agg [.i .i64 0, .nil], .i .i64 0, .s []]⟩),
  (77, ⟨.struct [(0, 9), (1, 75), (2, 63), (4, 3), (5, 9)], 6, 96, .agg [.s [], .nil, .agg [.i .i64 0, .nil], .i .i64 0, .s []]⟩),
  (80, ⟨.struct [(0, 3), (1, 9)], 2, 24, .agg [.i .i64 0, .s []]⟩),
  (81, ⟨.struct [(0, 3), (1, 9)], 2, 24, .agg [.i .i64 0, .s []]⟩),
  (93, ⟨.int .u32, 1, 4, .i .u32 0⟩),
  (95, ⟨.slice 3, 1, 24, .nil⟩),
  (98, ⟨.struct [(0, 9), (1, 3), (2, 23)], 3, 32, .agg [.s [], .i .i64 0, .i .i64 0]⟩),
  (99, ⟨.struct [(0, 9), (1, 3), (2, 23)], 3, 32, .agg [.s [], .i .i64 0, .i .i64 0]⟩),
  (106, ⟨.slice 4, 1, 24, .nil⟩),
  (107, ⟨.struct [(0, 3), (1, 106)], 2, 32, .agg [.i .i64 0, .nil]⟩),
  (108, ⟨.struct [(0, 3), (1, 106)], 2, 32, .agg [.i .i64 0, .nil]⟩),
  (111, ⟨.array 256 93, 256, 1024, .arr 1 256 (List.replicate 256 (.i .u32 0))⟩),
  (113, ⟨.int .u64, 1, 8, .i .u64 0⟩),
  (117, ⟨.struct [(0, 17), (1, 17), (2, 17), (3, 9)], 4, 40, .agg [.nilp, .nilp, .nilp, .s []]⟩),
  (118, ⟨.struct [(0, 17), (1, 17), (2, 17), (3, 9)], 4, 40, .agg [.nilp, .nilp, .nilp, .s []]⟩),
  (119, ⟨.array 0 16, 0, 0, .arr 1 0 (List.replicate 0 (.nilp))⟩),
  (120, ⟨.struct [(0, 119)], 0, 0, .agg [.arr 1 0 (List.replicate 0 (.nilp))]⟩),
  (121, ⟨.struct [(0, 119)], 0, 0, .agg [.arr 1 0 (List.replicate 0 (.nilp))]⟩),
  (122, ⟨.int .u8, 1, 1, .i .u8 0⟩),
  (123, ⟨.int .u8, 1, 1, .i .u8 0⟩),
  (125, ⟨.ptr 5, 1, 8, .nilp⟩),
  (126, ⟨.int .i32, 1, 4, .i .i32 0⟩),
  (127, ⟨.int .i32, 1, 4, .i .i32 0⟩),
  (128, ⟨.struct [(0, 12), (1, 12), (2, 93), (3, 122), (4, 5), (5, 5), (6, 123), (7, 124), (8, 125), (9, 126), (10, 127)], 11, 48, .agg [.i .u64 0, .i .u64 0, .i .u32 0, .i .u8 0, .i .u8 0, .i .u8 0, .i .u8 0, .nilf, .nilp, .i .i32 0, .i .i32 0]⟩),
  (129, ⟨.struct [(0, 12), (1, 12), (2, 93), (3, 122), (4, 5), (5, 5), (6, 123), (7, 124), (8, 125), (9, 126), (10, 127)], 11, 48, .agg [.i .u64 0, .i .u64 0, .i .u32 0, .i .u8 0, .i .u8 0, .i .u8 0, .i .u8 0, .nilf, .nilp, .i .i32 0, .i .i32 0]⟩)]
theorem TtOk : TTOk Try.prog Tt := by
  unfold TTOk Tt
  simp only [List.forall_mem_cons, List.not_mem_nil, false_implies, implies_true, and_true]
  exact ⟨tok2, tok3, tok4, tok5, tok6, tok7, tok8, tok9, tok10, tok11, tok12, tok13, tok14, tok15, tok16, tok17, tok18, tok19, tok20, tok21, tok22, tok23, tok26, tok27, tok32, tok50, tok51, tok52, tok59, tok60, tok62, tok63, tok67, tok68, tok71, tok75, tok76, tok77, tok80, tok81, tok93, tok95, tok98, tok99, tok106, tok107, tok108, tok111, tok113, tok117, tok118, tok119, tok120, tok121, tok122, tok123, tok125, tok126, tok127, tok128, tok129⟩
end Go.Proofs.Ytdpljpnnjgefoaa
