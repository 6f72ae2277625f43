/- code.Writer by rules: fail, Number, Text, Flag, Done. -/
import Derived.Test.YtfdcopbbnmialaaV14Z
import Derived.Test.YtfdcopbbnmialaaTypes
import Derived.Test.YtfdcopbbnmialaaS1
set_option maxHeartbeats 4000000
namespace Go.Proofs.Ytfdcopbbnmialaa
open Go Go.RowKit

/-- What a Writer holds: its bytes, its first error. -/
structure WS where
  bs : List UInt8
  e : Int
def WS.fail (s : WS) (x : Int) : WS := if s.e = 0 then { s with e := x } else s
def WS.put (s : WS) (l : List UInt8) : WS := { s with bs := s.bs ++ l }
def digits (n : Nat) : List UInt8 := if n = 0 then [] else digits (n / 256) ++ [UInt8.ofNat n]
termination_by n
decreasing_by omega
def numBytes (n : Nat) : List UInt8 := UInt8.ofNat (digits n).length :: digits n
def WS.number (s : WS) (n : Int) : WS := if n < 0 then s.fail 1 else s.put (numBytes n.toNat)

def wrA (v : Value) (s : WS) : AV := .agg [.own 1 v, .i .i64 s.e]
def wrO (b : Nat) (v : Value) (s : WS) : List HO := [.var b (wrA v s), .row v 5 1 (s.bs.map byA)]
theorem byA_nat (n : Nat) : AV.i .u8 (IntKind.u8.wrap (n : Int)) = byA (UInt8.ofNat n) := by
  show AV.i _ _ = AV.i _ _
  rw [UInt8.toNat_ofNat', show IntKind.u8.wrap (n : Int) = ((n % 256 : Nat) : Int) from by rw [Int.natCast_emod]; rfl]
end Go.Proofs.Ytfdcopbbnmialaa
set_option maxHeartbeats 4000000
namespace Go.Proofs.Ytfdcopbbnmialaa
open Go Go.RowKit

def WS.text (s : WS) (t : List UInt8) : WS := if 65536 < t.length then s.fail 2 else (s.number t.length).put t
def WS.done (s : WS) : List UInt8 × Int := if s.e ≠ 0 then ([], s.e) else if 65536 < s.bs.length then ([], 2) else (s.bs, 0)
end Go.Proofs.Ytfdcopbbnmialaa
set_option maxHeartbeats 4000000
set_option maxRecDepth 100000
namespace Go.Proofs.Ytfdcopbbnmialaa
open Go Go.RowKit
theorem shrI64 (n : Nat) {k : Nat} (hk : k ≤ 64) : (n : Int).fdiv (2 ^ (min ((k : Int)).toNat (IntKind.bits .i64))) = ((n / 2 ^ k : Nat) : Int) := by
  rw [show min ((k : Int)).toNat (IntKind.bits .i64) = k by rw [show IntKind.bits .i64 = 64 from rfl]; omega, fdiv_pow]
theorem four_row (x : Nat) : [AV.i .u8 (IntKind.u8.wrap ((x : Int).fdiv (2 ^ (min (Int.toNat 24) (IntKind.bits .u32))))), AV.i .u8 (IntKind.u8.wrap ((x : Int).fdiv (2 ^ (min (Int.toNat 16) (IntKind.bits .u32))))), AV.i .u8 (IntKind.u8.wrap ((x : Int).fdiv (2 ^ (min (Int.toNat 8) (IntKind.bits .u32))))), AV.i .u8 (IntKind.u8.wrap (x : Int))] = (four x).map byA := by
  have e1 : (x : Int).fdiv (2 ^ (min (Int.toNat 24) (IntKind.bits .u32))) = ((x / 16777216 : Nat) : Int) := shr32 x (k := 24) (by decide)
  have e2 : (x : Int).fdiv (2 ^ (min (Int.toNat 16) (IntKind.bits .u32))) = ((x / 65536 : Nat) : Int) := shr32 x (k := 16) (by decide)
  have e3 : (x : Int).fdiv (2 ^ (min (Int.toNat 8) (IntKind.bits .u32))) = ((x / 256 : Nat) : Int) := shr32 x (k := 8) (by decide)
  rw [e1, e2, e3, byA_nat, byA_nat, byA_nat, byA_nat]; rfl
theorem head_row (x : Nat) : [AV.i .u8 94, AV.i .u8 (IntKind.u8.wrap ((x : Int).fdiv (2 ^ (min (Int.toNat 16) (IntKind.bits .i64))))), AV.i .u8 (IntKind.u8.wrap ((x : Int).fdiv (2 ^ (min (Int.toNat 8) (IntKind.bits .i64))))), AV.i .u8 (IntKind.u8.wrap (x : Int))] = (sealHead x).map byA := by
  have e2 : (x : Int).fdiv (2 ^ (min (Int.toNat 16) (IntKind.bits .i64))) = ((x / 65536 : Nat) : Int) := shrI64 x (k := 16) (by decide)
  have e3 : (x : Int).fdiv (2 ^ (min (Int.toNat 8) (IntKind.bits .i64))) = ((x / 256 : Nat) : Int) := shrI64 x (k := 8) (by decide)
  rw [e2, e3, byA_nat, byA_nat, byA_nat]; rfl
theorem head_len (n : Nat) : (sealHead n).length = 4 := rfl
theorem four_len (n : Nat) : (four n).length = 4 := rfl
def swrap (s : List UInt8) : List UInt8 × Int := if 65536 < s.length then ([], 2) else (sealWrap s, 0)
theorem wrap_spec (s : List UInt8) (hs : s.length ≤ 1000000000) : Spec Try.prog 17 [.s s] [] (fun v os => v = .tup [.s (swrap s).1, .i .i64 (swrap s).2] ∧ os = []) := by
  refine spec_of TtOk [] Try.func17 rfl Try.ntmps17 (by kernel_rfl) rfl rfl (fun C => ?_) rfl
  have hwr : sealWrap s = sealHead s.length ++ four (crc (sealHead s.length ++ s)) ++ s := rfl
  have hhl := head_len s.length
  have hck := check_spec (sealHead s.length ++ s) (by rw [List.length_append]; omega)
  have hfl := four_len (crc (sealHead s.length ++ s))
  have hcl := crc_lt (sealHead s.length ++ s)
  repeat' (first | refine Awp.seq ?_ | refine Awp.region ?_ | (refine Ops.nil ?_; show Awp _ _ _ _ _) | (refine Awp.skip ?_; show Awp _ _ _ _ _) | (refine Awp.ret ?_; show endK _ _ _ _ _) | (refine o_calm rfl TtOk rfl rfl rfl ?_ (fun _ => ?_); first | exact True.intro | exact ⟨rfl, rfl, rfl, rfl⟩ | exact ⟨rfl, True.intro⟩ | exact ⟨rfl, rfl⟩ | exact ⟨rfl, rfl, rfl⟩ | exact rfl | exact ⟨fun h0 => by cases h0, rfl⟩ | exact (fun h0 => by cases h0) | exact ⟨rfl, by omega⟩ | exact ⟨Nat.succ_ne_zero _, rfl⟩ | omega) | refine o_buildSlice TtOk rfl rfl rfl rfl rfl rfl rfl rfl rfl rfl rfl (by repeat' (first | exact True.intro | exact rfl | refine ⟨?_, ?_⟩)) (fun _ => ?_) | (refine a_condP rfl (fun hc => ?_) (fun hc => ?_)) <;> (try (exfalso; omega)))
  · have hsw : swrap s = ([], 2) := by unfold swrap; rw [if_pos (by omega)]
    rw [hsw]
    refine end_all [] [] (.tup [.s [], .i .i64 2]) rfl ?_ ?_ (rle_tup2 (CLe.refl _) (CLe.refl _) rfl rfl) .nil ⟨rfl, rfl⟩ _ (.inl rfl)
    · repeat' (first | exact True.intro | exact rfl | refine ⟨?_, ?_⟩)
    · exact ⟨trivial, trivial, trivial⟩
  · have hsw : swrap s = (sealWrap s, 0) := by unfold swrap; rw [if_neg (by omega)]
    rw [hsw, hwr, head_row]
    generalize sealHead s.length = hd at hhl hck hfl hcl ⊢
    generalize crc (hd ++ s) = x at hck hfl hcl ⊢
    repeat' (first | refine Awp.seq ?_ | refine Awp.region ?_ | (refine Ops.nil ?_; show Awp _ _ _ _ _) | (refine o_calm rfl TtOk rfl rfl rfl ?_ (fun _ => ?_); first | exact True.intro | exact ⟨rfl, rfl, rfl, rfl⟩ | exact ⟨rfl, True.intro⟩ | exact ⟨rfl, rfl⟩ | exact ⟨rfl, rfl, rfl⟩ | exact rfl | exact ⟨fun h0 => by cases h0, rfl⟩ | exact (fun h0 => by cases h0) | exact ⟨rfl, by omega⟩ | exact ⟨Nat.succ_ne_zero _, rfl⟩ | omega) | (refine o_calm rfl TtOk rfl rfl rfl ?_ (fun _ => ?_); (show List.length _ + List.length _ ≤ 9223372036854775807; (repeat' (first | rw [List.length_append] | rw [List.length_map] | rw [List.length_cons] | rw [List.length_nil] | rw [List.length_take] | rw [List.length_drop])) <;> omega)) | refine o_buildSlice TtOk rfl rfl rfl rfl rfl rfl rfl rfl rfl rfl rfl (by repeat' (first | exact True.intro | exact rfl | refine ⟨?_, ?_⟩)) (fun _ => ?_) | (refine o_append TtOk rfl rfl rfl rfl rfl rfl rfl rfl rfl (by first | exact True.intro | exact rfl) rfl rfl (fun _ => rfl) ?_ ?_ (fun _ => ?_); ((repeat' (first | rw [List.length_append] | rw [List.length_map] | rw [List.length_cons] | rw [List.length_nil] | rw [List.length_take] | rw [List.length_drop])) <;> omega); ((repeat' (first | rw [List.length_append] | rw [List.length_map] | rw [List.length_cons] | rw [List.length_nil] | rw [List.length_take] | rw [List.length_drop])) <;> omega)) | refine o_toString TtOk rfl rfl rfl rfl rfl (by first | exact True.intro | exact rfl) rfl rfl rfl rfl ?_ | (refine o_call0 rfl (hck) ⟨SLe.of_eq rfl, True.intro⟩ rfl ?_; rintro _ _ ⟨rfl, rfl⟩; refine ⟨rfl, ?_⟩))
    rw [four_row, ← List.map_append]
    generalize four x = fr at hfl ⊢
    have hhf : (hd ++ fr).length = 8 := by rw [List.length_append]; omega
    generalize hd ++ fr = hf at hhf ⊢
    repeat' (first | (refine Ops.nil ?_; show Awp _ _ _ _ _) | (refine Awp.ret ?_; show endK _ _ _ _ _) | (refine o_calm rfl TtOk rfl rfl rfl ?_ (fun _ => ?_); first | exact True.intro | exact ⟨rfl, rfl, rfl, rfl⟩ | exact ⟨rfl, True.intro⟩ | exact ⟨rfl, rfl⟩ | exact ⟨rfl, rfl, rfl⟩ | exact rfl | exact ⟨fun h0 => by cases h0, rfl⟩ | exact (fun h0 => by cases h0) | exact ⟨rfl, by omega⟩ | exact ⟨Nat.succ_ne_zero _, rfl⟩ | omega) | (refine o_calm rfl TtOk rfl rfl rfl ?_ (fun _ => ?_); (show List.length _ + List.length _ ≤ 9223372036854775807; (repeat' (first | rw [List.length_append] | rw [List.length_map] | rw [List.length_cons] | rw [List.length_nil] | rw [List.length_take] | rw [List.length_drop])) <;> omega)) | refine o_toString TtOk rfl rfl rfl rfl rfl (by first | exact True.intro | exact rfl) rfl rfl rfl rfl ?_)
    refine end_all [] [] (.tup [.s (hf ++ s), .i .i64 0]) rfl ?_ ?_ (rle_tup2 (CLe.refl _) (CLe.refl _) rfl rfl) .nil ⟨rfl, rfl⟩ _ (.inl rfl)
    · repeat' (first | exact True.intro | exact rfl | refine ⟨?_, ?_⟩)
    · exact ⟨trivial, trivial, trivial⟩
end Go.Proofs.Ytfdcopbbnmialaa
