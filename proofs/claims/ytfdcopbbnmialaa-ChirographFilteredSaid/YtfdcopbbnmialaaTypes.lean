/- What is known of the types of this seat's program, and that it is so. Made by a program. -/
import Derived.Test.YtfdcopbbnmialaaProg
import Derived.Test.YtfdcopbbnmialaaV3
namespace Go.Proofs.Ytfdcopbbnmialaa
open Go Go.RowKit
set_option maxRecDepth 100000
theorem tok2 : TOk Try.prog 2 ⟨.int .i64, 1, 8, .i .i64 0⟩ := ⟨by kernel_rfl, by kernel_rfl, Or.inr ⟨_, rfl, by kernel_rfl⟩⟩
theorem tok3 : TOk Try.prog 3 ⟨.int .i64, 1, 8, .i .i64 0⟩ := ⟨by kernel_rfl, by kernel_rfl, Or.inr ⟨_, rfl, by kernel_rfl⟩⟩
theorem tok4 : TOk Try.prog 4 ⟨.bool, 1, 1, .b false⟩ := ⟨by kernel_rfl, by kernel_rfl, Or.inr ⟨_, rfl, by kernel_rfl⟩⟩
theorem tok5 : TOk Try.prog 5 ⟨.int .u8, 1, 1, .i .u8 0⟩ := ⟨by kernel_rfl, by kernel_rfl, Or.inr ⟨_, rfl, by kernel_rfl⟩⟩
theorem tok6 : TOk Try.prog 6 ⟨.int .u8, 1, 1, .i .u8 0⟩ := ⟨by kernel_rfl, by kernel_rfl, Or.inr ⟨_, rfl, by kernel_rfl⟩⟩
theorem tok7 : TOk Try.prog 7 ⟨.struct [(0, 2), (1, 3), (2, 4), (3, 6)], 4, 24, .agg [.i .i64 0, .i .i64 0, .b false, .i .u8 0]⟩ := ⟨by kernel_rfl, by kernel_rfl, Or.inr ⟨_, rfl, by kernel_rfl⟩⟩
theorem tok8 : TOk Try.prog 8 ⟨.struct [(0, 2), (1, 3), (2, 4), (3, 6)], 4, 24, .agg [.i .i64 0, .i .i64 0, .b false, .i .u8 0]⟩ := ⟨by kernel_rfl, by kernel_rfl, Or.inr ⟨_, rfl, by kernel_rfl⟩⟩
theorem tok9 : TOk Try.prog 9 ⟨.string, 1, 16, .s []⟩ := ⟨by kernel_rfl, by kernel_rfl, Or.inr ⟨_, rfl, by kernel_rfl⟩⟩
theorem tok10 : TOk Try.prog 10 ⟨.string, 1, 16, .s []⟩ := ⟨by kernel_rfl, by kernel_rfl, Or.inr ⟨_, rfl, by kernel_rfl⟩⟩
theorem tok11 : TOk Try.prog 11 ⟨.string, 1, 16, .s []⟩ := ⟨by kernel_rfl, by kernel_rfl, Or.inr ⟨_, rfl, by kernel_rfl⟩⟩
theorem tok12 : TOk Try.prog 12 ⟨.int .u64, 1, 8, .i .u64 0⟩ := ⟨by kernel_rfl, by kernel_rfl, Or.inr ⟨_, rfl, by kernel_rfl⟩⟩
theorem tok13 : TOk Try.prog 13 ⟨.struct [(0, 9), (1, 12)], 2, 24, .agg [.s [], .i .u64 0]⟩ := ⟨by kernel_rfl, by kernel_rfl, Or.inr ⟨_, rfl, by kernel_rfl⟩⟩
theorem tok14 : TOk Try.prog 14 ⟨.struct [(0, 9), (1, 12)], 2, 24, .agg [.s [], .i .u64 0]⟩ := ⟨by kernel_rfl, by kernel_rfl, Or.inr ⟨_, rfl, by kernel_rfl⟩⟩
theorem tok15 : TOk Try.prog 15 ⟨.ptr 105, 1, 8, .nilp⟩ := ⟨by kernel_rfl, by kernel_rfl, Or.inr ⟨_, rfl, by kernel_rfl⟩⟩
theorem tok16 : TOk Try.prog 16 ⟨.ptr 108, 1, 8, .nilp⟩ := ⟨by kernel_rfl, by kernel_rfl, Or.inr ⟨_, rfl, by kernel_rfl⟩⟩
theorem tok17 : TOk Try.prog 17 ⟨.ptr 116, 1, 8, .nilp⟩ := ⟨by kernel_rfl, by kernel_rfl, Or.inr ⟨_, rfl, by kernel_rfl⟩⟩
theorem tok18 : TOk Try.prog 18 ⟨.struct [(0, 17)], 1, 8, .agg [.nilp]⟩ := ⟨by kernel_rfl, by kernel_rfl, Or.inr ⟨_, rfl, by kernel_rfl⟩⟩
theorem tok19 : TOk Try.prog 19 ⟨.struct [(0, 17)], 1, 8, .agg [.nilp]⟩ := ⟨by kernel_rfl, by kernel_rfl, Or.inr ⟨_, rfl, by kernel_rfl⟩⟩
theorem tok20 : TOk Try.prog 20 ⟨.iface, 1, 16, .nili⟩ := ⟨by kernel_rfl, by kernel_rfl, Or.inr ⟨_, rfl, by kernel_rfl⟩⟩
theorem tok21 : TOk Try.prog 21 ⟨.int .i32, 1, 4, .i .i32 0⟩ := ⟨by kernel_rfl, by kernel_rfl, Or.inr ⟨_, rfl, by kernel_rfl⟩⟩
theorem tok22 : TOk Try.prog 22 ⟨.slice 9, 1, 24, .nil⟩ := ⟨by kernel_rfl, by kernel_rfl, Or.inr ⟨_, rfl, by kernel_rfl⟩⟩
theorem tok23 : TOk Try.prog 23 ⟨.slice 3, 1, 24, .nil⟩ := ⟨by kernel_rfl, by kernel_rfl, Or.inr ⟨_, rfl, by kernel_rfl⟩⟩
theorem tok24 : TOk Try.prog 24 ⟨.ptr 43, 1, 8, .nilp⟩ := ⟨by kernel_rfl, by kernel_rfl, Or.inr ⟨_, rfl, by kernel_rfl⟩⟩
theorem tok26 : TOk Try.prog 26 ⟨.ptr 46, 1, 8, .nilp⟩ := ⟨by kernel_rfl, by kernel_rfl, Or.inr ⟨_, rfl, by kernel_rfl⟩⟩
theorem tok27 : TOk Try.prog 27 ⟨.int .i64, 1, 8, .i .i64 0⟩ := ⟨by kernel_rfl, by kernel_rfl, Or.inr ⟨_, rfl, by kernel_rfl⟩⟩
theorem tok34 : TOk Try.prog 34 ⟨.slice 5, 1, 24, .nil⟩ := ⟨by kernel_rfl, by kernel_rfl, Or.inr ⟨_, rfl, by kernel_rfl⟩⟩
theorem tok35 : TOk Try.prog 35 ⟨.struct [(0, 3), (1, 34)], 2, 32, .agg [.i .i64 0, .nil]⟩ := ⟨by kernel_rfl, by kernel_rfl, Or.inr ⟨_, rfl, by kernel_rfl⟩⟩
theorem tok36 : TOk Try.prog 36 ⟨.struct [(0, 3), (1, 34)], 2, 32, .agg [.i .i64 0, .nil]⟩ := ⟨by kernel_rfl, by kernel_rfl, Or.inr ⟨_, rfl, by kernel_rfl⟩⟩
theorem tok41 : TOk Try.prog 41 ⟨.map 9 58, 1, 8, .any⟩ := ⟨by kernel_rfl, by kernel_rfl, Or.inl rfl⟩
theorem tok42 : TOk Try.prog 42 ⟨.struct [(0, 3), (1, 41), (2, 3), (3, 4)], 4, 32, .any⟩ := ⟨by kernel_rfl, by kernel_rfl, Or.inl rfl⟩
theorem tok43 : TOk Try.prog 43 ⟨.struct [(0, 3), (1, 41), (2, 3), (3, 4)], 4, 32, .any⟩ := ⟨by kernel_rfl, by kernel_rfl, Or.inl rfl⟩
theorem tok45 : TOk Try.prog 45 ⟨.struct [(0, 24), (1, 3)], 2, 16, .agg [.nilp, .i .i64 0]⟩ := ⟨by kernel_rfl, by kernel_rfl, Or.inr ⟨_, rfl, by kernel_rfl⟩⟩
theorem tok46 : TOk Try.prog 46 ⟨.struct [(0, 24), (1, 3)], 2, 16, .agg [.nilp, .i .i64 0]⟩ := ⟨by kernel_rfl, by kernel_rfl, Or.inr ⟨_, rfl, by kernel_rfl⟩⟩
theorem tok58 : TOk Try.prog 58 ⟨.ptr 60, 1, 8, .nilp⟩ := ⟨by kernel_rfl, by kernel_rfl, Or.inr ⟨_, rfl, by kernel_rfl⟩⟩
theorem tok59 : TOk Try.prog 59 ⟨.struct [(0, 34), (1, 3)], 2, 32, .agg [.nil, .i .i64 0]⟩ := ⟨by kernel_rfl, by kernel_rfl, Or.inr ⟨_, rfl, by kernel_rfl⟩⟩
theorem tok60 : TOk Try.prog 60 ⟨.struct [(0, 34), (1, 3)], 2, 32, .agg [.nil, .i .i64 0]⟩ := ⟨by kernel_rfl, by kernel_rfl, Or.inr ⟨_, rfl, by kernel_rfl⟩⟩
theorem tok68 : TOk Try.prog 68 ⟨.int .u64, 1, 8, .i .u64 0⟩ := ⟨by kernel_rfl, by kernel_rfl, Or.inr ⟨_, rfl, by kernel_rfl⟩⟩
theorem tok69 : TOk Try.prog 69 ⟨.int .u32, 1, 4, .i .u32 0⟩ := ⟨by kernel_rfl, by kernel_rfl, Or.inr ⟨_, rfl, by kernel_rfl⟩⟩
theorem tok74 : TOk Try.prog 74 ⟨.int .u64, 1, 8, .i .u64 0⟩ := ⟨by kernel_rfl, by kernel_rfl, Or.inr ⟨_, rfl, by kernel_rfl⟩⟩
theorem tok78 : TOk Try.prog 78 ⟨.array 256 69, 256, 1024, .arr 1 256 (List.replicate 256 (.i .u32 0))⟩ := ⟨by kernel_rfl, by kernel_rfl, Or.inr ⟨_, rfl, by kernel_rfl⟩⟩
theorem tok84 : TOk Try.prog 84 ⟨.int .i64, 1, 8, .i .i64 0⟩ := ⟨by kernel_rfl, by kernel_rfl, Or.inr ⟨_, rfl, by kernel_rfl⟩⟩
theorem tok94 : TOk Try.prog 94 ⟨.int .u64, 1, 8, .i .u64 0⟩ := ⟨by kernel_rfl, by kernel_rfl, Or.inr ⟨_, rfl, by kernel_rfl⟩⟩
theorem tok98 : TOk Try.prog 98 ⟨.ptr 3, 1, 8, .nilp⟩ := ⟨by kernel_rfl, by kernel_rfl, Or.inr ⟨_, rfl, by kernel_rfl⟩⟩
theorem tok100 : TOk Try.prog 100 ⟨.ptr 94, 1, 8, .nilp⟩ := ⟨by kernel_rfl, by kernel_rfl, Or.inr ⟨_, rfl, by kernel_rfl⟩⟩
theorem tok104 : TOk Try.prog 104 ⟨.struct [(0, 17), (1, 17), (2, 17), (3, 9)], 4, 40, .agg [.nilp, .nilp, .nilp, .s []]⟩ := ⟨by kernel_rfl, by kernel_rfl, Or.inr ⟨_, rfl, by kernel_rfl⟩⟩
theorem tok105 : TOk Try.prog 105 ⟨.struct [(0, 17), (1, 17), (2, 17), (3, 9)], 4, 40, .agg [.nilp, .nilp, .nilp, .s []]⟩ := ⟨by kernel_rfl, by kernel_rfl, Or.inr ⟨_, rfl, by kernel_rfl⟩⟩
theorem tok106 : TOk Try.prog 106 ⟨.array 0 16, 0, 0, .arr 1 0 (List.replicate 0 (.nilp))⟩ := ⟨by kernel_rfl, by kernel_rfl, Or.inr ⟨_, rfl, by kernel_rfl⟩⟩
theorem tok107 : TOk Try.prog 107 ⟨.struct [(0, 106)], 0, 0, .agg [.arr 1 0 (List.replicate 0 (.nilp))]⟩ := ⟨by kernel_rfl, by kernel_rfl, Or.inr ⟨_, rfl, by kernel_rfl⟩⟩
theorem tok108 : TOk Try.prog 108 ⟨.struct [(0, 106)], 0, 0, .agg [.arr 1 0 (List.replicate 0 (.nilp))]⟩ := ⟨by kernel_rfl, by kernel_rfl, Or.inr ⟨_, rfl, by kernel_rfl⟩⟩
theorem tok109 : TOk Try.prog 109 ⟨.int .u8, 1, 1, .i .u8 0⟩ := ⟨by kernel_rfl, by kernel_rfl, Or.inr ⟨_, rfl, by kernel_rfl⟩⟩
theorem tok110 : TOk Try.prog 110 ⟨.int .u8, 1, 1, .i .u8 0⟩ := ⟨by kernel_rfl, by kernel_rfl, Or.inr ⟨_, rfl, by kernel_rfl⟩⟩
theorem tok112 : TOk Try.prog 112 ⟨.ptr 5, 1, 8, .nilp⟩ := ⟨by kernel_rfl, by kernel_rfl, Or.inr ⟨_, rfl, by kernel_rfl⟩⟩
theorem tok113 : TOk Try.prog 113 ⟨.int .i32, 1, 4, .i .i32 0⟩ := ⟨by kernel_rfl, by kernel_rfl, Or.inr ⟨_, rfl, by kernel_rfl⟩⟩
theorem tok114 : TOk Try.prog 114 ⟨.int .i32, 1, 4, .i .i32 0⟩ := ⟨by kernel_rfl, by kernel_rfl, Or.inr ⟨_, rfl, by kernel_rfl⟩⟩
theorem tok115 : TOk Try.prog 115 ⟨.struct [(0, 12), (1, 12), (2, 69), (3, 109), (4, 5), (5, 5), (6, 110), (7, 111), (8, 112), (9, 113), (10, 114)], 11, 48, .agg [.i .u64 0, .i .u64 0, .i .u32 0, .i .u8 0, .i .u8 0, .i .u8 0, .i .u8 0, .nilf, .nilp, .i .i32 0, .i .i32 0]⟩ := ⟨by kernel_rfl, by kernel_rfl, Or.inr ⟨_, rfl, by kernel_rfl⟩⟩
theorem tok116 : TOk Try.prog 116 ⟨.struct [(0, 12), (1, 12), (2, 69), (3, 109), (4, 5), (5, 5), (6, 110), (7, 111), (8, 112), (9, 113), (10, 114)], 11, 48, .agg [.i .u64 0, .i .u64 0, .i .u32 0, .i .u8 0, .i .u8 0, .i .u8 0, .i .u8 0, .nilf, .nilp, .i .i32 0, .i .i32 0]⟩ := ⟨by kernel_rfl, by kernel_rfl, Or.inr ⟨_, rfl, by kernel_rfl⟩⟩
def Tt : List (Nat × TI) := [(2, ⟨.int .i64, 1, 8, .i .i64 0⟩),
  (3, ⟨.int .i64, 1, 8, .i .i64 0⟩),
  (4, ⟨.bool, 1, 1, .b false⟩),
  (5, ⟨.int .u8, 1, 1, .i .u8 0⟩),
  (6, ⟨.int .u8, 1, 1, .i .u8 0⟩),
  (7, ⟨.struct [(0, 2), (1, 3), (2, 4), (3, 6)], 4, 24, .agg [.i .i64 0, .i .i64 0, .b false, .i .u8 0]⟩),
  (8, ⟨.struct [(0, 2), (1, 3), (2, 4), (3, 6)], 4, 24, .agg [.i .i64 0, .i .i64 0, .b false, .i .u8 0]⟩),
  (9, ⟨.string, 1, 16, .s []⟩),
  (10, ⟨.string, 1, 16, .s []⟩),
  (11, ⟨.string, 1, 16, .s []⟩),
  (12, ⟨.int .u64, 1, 8, .i .u64 0⟩),
  (13, ⟨.struct [(0, 9), (1, 12)], 2, 24, .agg [.s [], .i .u64 0]⟩),
  (14, ⟨.struct [(0, 9), (1, 12)], 2, 24, .agg [.s [], .i .u64 0]⟩),
  (15, ⟨.ptr 105, 1, 8, .nilp⟩),
  (16, ⟨.ptr 108, 1, 8, .nilp⟩),
  (17, ⟨.ptr 116, 1, 8, .nilp⟩),
  (18, ⟨.struct [(0, 17)], 1, 8, .agg [.nilp]⟩),
  (19, ⟨.struct [(0, 17)], 1, 8, .agg [.nilp]⟩),
  (20, ⟨.iface, 1, 16, .nili⟩),
  (21, ⟨.int .i32, 1, 4, .i .i32 0⟩),
  (22, ⟨.slice 9, 1, 24, .nil⟩),
  (23, ⟨.slice 3, 1, 24, .nil⟩),
  (24, ⟨.ptr 43, 1, 8, .nilp⟩),
  (26, ⟨.ptr 46, 1, 8, .nilp⟩),
  (27, ⟨.int .i64, 1, 8, .i .i64 0⟩),
  (34, ⟨.slice 5, 1, 24, .nil⟩),
  (35, ⟨.struct [(0, 3), (1, 34)], 2, 32, .agg [.i .i64 0, .nil]⟩),
  (36, ⟨.struct [(0, 3), (1, 34)], 2, 32, .agg [.i .i64 0, .nil]⟩),
  (41, ⟨.map 9 58, 1, 8, .any⟩),
  (42, ⟨.struct [(0, 3), (1, 41), (2, 3), (3, 4)], 4, 32, .any⟩),
  (43, ⟨.struct [(0, 3), (1, 41), (2, 3), (3, 4)], 4, 32, .any⟩),
  (45, ⟨.struct [(0, 24), (1, 3)], 2, 16, .agg [.nilp, .i .i64 0]⟩),
  (46, ⟨.struct [(0, 24), (1, 3)], 2, 16, .agg [.nilp, .i .i64 0]⟩),
  (58, ⟨.ptr 60, 1, 8, .nilp⟩),
  (59, ⟨.struct [(0, 34), (1, 3)], 2, 32, .agg [.nil, .i .i64 0]⟩),
  (60, ⟨.struct [(0, 34), (1, 3)], 2, 32, .agg [.nil, .i .i64 0]⟩),
  (68, ⟨.int .u64, 1, 8, .i .u64 0⟩),
  (69, ⟨.int .u32, 1, 4, .i .u32 0⟩),
  (74, ⟨.int .u64, 1, 8, .i .u64 0⟩),
  (78, ⟨.array 256 69, 256, 1024, .arr 1 256 (List.replicate 256 (.i .u32 0))⟩),
  (84, ⟨.int .i64, 1, 8, .i .i64 0⟩),
  (94, ⟨.int .u64, 1, 8, .i .u64 0⟩),
  (98, ⟨.ptr 3, 1, 8, .nilp⟩),
  (100, ⟨.ptr 94, 1, 8, .nilp⟩),
  (104, ⟨.struct [(0, 17), (1, 17), (2, 17), (3, 9)], 4, 40, .agg [.nilp, .nilp, .nilp, .s []]⟩),
  (105, ⟨.struct [(0, 17), (1, 17), (2, 17), (3, 9)], 4, 40, .agg [.nilp, .nilp, .nilp, .s []]⟩),
  (106, ⟨.array 0 16, 0, 0, .arr 1 0 (List.replicate 0 (.nilp))⟩),
  (107, ⟨.struct [(0, 106)], 0, 0, .agg [.arr 1 0 (List.replicate 0 (.nilp))]⟩),
  (108, ⟨.struct [(0, 106)], 0, 0, .agg [.arr 1 0 (List.replicate 0 (.nilp))]⟩),
  (109, ⟨.int .u8, 1, 1, .i .u8 0⟩),
  (110, ⟨.int .u8, 1, 1, .i .u8 0⟩),
  (112, ⟨.ptr 5, 1, 8, .nilp⟩),
  (113, ⟨.int .i32, 1, 4, .i .i32 0⟩),
  (114, ⟨.int .i32, 1, 4, .i .i32 0⟩),
  (115, ⟨.struct [(0, 12), (1, 12), (2, 69), (3, 109), (4, 5), (5, 5), (6, 110), (7, 111), (8, 112), (9, 113), (10, 114)], 11, 48, .agg [.i .u64 0, .i .u64 0, .i .u32 0, .i .u8 0, .i .u8 0, .i .u8 0, .i .u8 0, .nilf, .nilp, .i .i32 0, .i .i32 0]⟩),
  (116, ⟨.struct [(0, 12), (1, 12), (2, 69), (3, 109), (4, 5), (5, 5), (6, 110), (7, 111), (8, 112), (9, 113), (10, 114)], 11, 48, .agg [.i .u64 0, .i .u64 0, .i .u32 0, .i .u8 0, .i .u8 0, .i .u8 0, .i .u8 0, .nilf, .nilp, .i .i32 0, .i .i32 0]⟩)]
theorem TtOk : TTOk Try.prog Tt := by
  unfold TTOk Tt
  simp only [List.forall_mem_cons, List.not_mem_nil, false_implies, implies_true, and_true]
  exact ⟨tok2, tok3, tok4, tok5, tok6, tok7, tok8, tok9, tok10, tok11, tok12, tok13, tok14, tok15, tok16, tok17, tok18, tok19, tok20, tok21, tok22, tok23, tok24, tok26, tok27, tok34, tok35, tok36, tok41, tok42, tok43, tok45, tok46, tok58, tok59, tok60, tok68, tok69, tok74, tok78, tok84, tok94, tok98, tok100, tok104, tok105, tok106, tok107, tok108, tok109, tok110, tok112, tok113, tok114, tok115, tok116⟩
end Go.Proofs.Ytfdcopbbnmialaa
