/- seal.Wrap, ref04.four, ref04.Wrap by rules. -/
import Derived.Test.YtnmnhnlebkebfaaS1
import Derived.Test.YtnmnhnlebkebfaaKW2Z
set_option maxHeartbeats 4000000
set_option maxRecDepth 100000
namespace Go.Proofs.Ytnmnhnlebkebfaa
open Go Go.RowKit
theorem shrI64 (n : Nat) {k : Nat} (hk : k ≤ 64) : (n : Int).fdiv (2 ^ (min ((k : Int)).toNat (IntKind.bits .i64))) = ((n / 2 ^ k : Nat) : Int) := by
  rw [show min ((k : Int)).toNat (IntKind.bits .i64) = k by rw [show IntKind.bits .i64 = 64 from rfl]; omega, fdiv_pow]
theorem four_row (x : Nat) : [AV.i .u8 (IntKind.u8.wrap ((x : Int).fdiv (2 ^ (min (Int.toNat 24) (IntKind.bits .u32))))), AV.i .u8 (IntKind.u8.wrap ((x : Int).fdiv (2 ^ (min (Int.toNat 16) (IntKind.bits .u32))))), AV.i .u8 (IntKind.u8.wrap ((x : Int).fdiv (2 ^ (min (Int.toNat 8) (IntKind.bits .u32))))), AV.i .u8 (IntKind.u8.wrap (x : Int))] = (four x).map byA := by
  have e1 : (x : Int).fdiv (2 ^ (min (Int.toNat 24) (IntKind.bits .u32))) = ((x / 16777216 : Nat) : Int) := shr32 x (k := 24) (by decide)
  have e2 : (x : Int).fdiv (2 ^ (min (Int.toNat 16) (IntKind.bits .u32))) = ((x / 65536 : Nat) : Int) := shr32 x (k := 16) (by decide)
  have e3 : (x : Int).fdiv (2 ^ (min (Int.toNat 8) (IntKind.bits .u32))) = ((x / 256 : Nat) : Int) := shr32 x (k := 8) (by decide)
  rw [e1, e2, e3, byA_nat, byA_nat, byA_nat, byA_nat]; rfl
theorem head_row (x : Nat) : [AV.i .u8 94, AV.i .u8 (IntKind.u8.wrap ((x : Int).fdiv (2 ^ (min (Int.toNat 16) (IntKind.bits .i64))))), AV.i .u8 (IntKind.u8.wrap ((x : Int).fdiv (2 ^ (min (Int.toNat 8) (IntKind.bits .i64))))), AV.i .u8 (IntKind.u8.wrap (x : Int))] = (sealHead x).map byA := by
  have e2 : (x : Int).fdiv (2 ^ (min (Int.toNat 16) (IntKind.bits .i64))) = ((x / 65536 : Nat) : Int) := shrI64 x (k := 16) (by decide)
  have e3 : (x : Int).fdiv (2 ^ (min (Int.toNat 8) (IntKind.bits .i64))) = ((x / 256 : Nat) : Int) := shrI64 x (k := 8) (by decide)
  rw [e2, e3, byA_nat, byA_nat, byA_nat]; rfl
theorem head_len (n : Nat) : (sealHead n).length = 4 := rfl
theorem four_len (n : Nat) : (four n).length = 4 := rfl
theorem four_spec (x : Nat) (hx : x < 4294967296) : Spec Try.prog 61 [.i .u32 x] [] (fun v os => v = .s (four x) ∧ os = []) := by
  refine spec_of TtOk [] Try.func61 rfl Try.ntmps61 (by kernel_rfl) rfl rfl (fun C => ?_) rfl
  repeat' (first
    | refine Awp.seq ?_
    | refine Awp.region ?_
    | (refine Ops.nil ?_; show Awp _ _ _ _ _)
    | (refine Ops.nil ?_; show Exists _)
    | (refine Ops.nil ?_; show endK _ _ _ _ _)
    | (refine Awp.ret ?_; show endK _ _ _ _ _)
    | refine o_convB rfl TtOk rfl rfl rfl rfl ?_
    | (refine o_conv64 rfl TtOk rfl rfl rfl rfl ?_ ?_; omega)
    | (refine o_calm rfl TtOk rfl rfl rfl ?_ (fun _ => ?_); first | exact True.intro | exact ⟨rfl, rfl, rfl, rfl⟩ | exact ⟨rfl, True.intro⟩ | exact ⟨rfl, rfl⟩ | exact ⟨rfl, rfl, rfl⟩ | exact rfl | exact ⟨fun h0 => by cases h0, rfl⟩ | exact (fun h0 => by cases h0) | exact ⟨rfl, by omega⟩ | exact ⟨Nat.succ_ne_zero _, rfl⟩ | omega)
    | refine o_buildSlice TtOk rfl rfl rfl rfl rfl rfl rfl rfl rfl rfl rfl (by repeat' (first | exact True.intro | exact rfl | refine ⟨?_, ?_⟩)) (fun _ => ?_)
    | refine o_toBytes TtOk rfl rfl rfl rfl rfl rfl ?_
    | refine o_toString TtOk rfl rfl rfl rfl rfl (by first | exact True.intro | exact rfl) rfl rfl rfl rfl ?_)
  rw [four_row]
  generalize four x = q
  repeat' (first
    | refine Awp.seq ?_
    | refine Awp.region ?_
    | (refine Ops.nil ?_; show Awp _ _ _ _ _)
    | (refine Ops.nil ?_; show Exists _)
    | (refine Ops.nil ?_; show endK _ _ _ _ _)
    | (refine Awp.ret ?_; show endK _ _ _ _ _)
    | refine o_convB rfl TtOk rfl rfl rfl rfl ?_
    | (refine o_conv64 rfl TtOk rfl rfl rfl rfl ?_ ?_; omega)
    | (refine o_calm rfl TtOk rfl rfl rfl ?_ (fun _ => ?_); first | exact True.intro | exact ⟨rfl, rfl, rfl, rfl⟩ | exact ⟨rfl, True.intro⟩ | exact ⟨rfl, rfl⟩ | exact ⟨rfl, rfl, rfl⟩ | exact rfl | exact ⟨fun h0 => by cases h0, rfl⟩ | exact (fun h0 => by cases h0) | exact ⟨rfl, by omega⟩ | exact ⟨Nat.succ_ne_zero _, rfl⟩ | omega)
    | refine o_buildSlice TtOk rfl rfl rfl rfl rfl rfl rfl rfl rfl rfl rfl (by repeat' (first | exact True.intro | exact rfl | refine ⟨?_, ?_⟩)) (fun _ => ?_)
    | refine o_toBytes TtOk rfl rfl rfl rfl rfl rfl ?_
    | refine o_toString TtOk rfl rfl rfl rfl rfl (by first | exact True.intro | exact rfl) rfl rfl rfl rfl ?_)
  exact end_tmp rfl rfl rfl [] [] (CLe.of_eq rfl) .nil ⟨rfl, rfl⟩ _ (.inl rfl)
def swrap (s : List UInt8) : List UInt8 × Int := if 65536 < s.length then ([], 2) else (sealWrap s, 0)
theorem wrap_spec (s : List UInt8) (hs : s.length ≤ 1000000000) : Spec Try.prog 60 [.s s] [] (fun v os => v = .tup [.s (swrap s).1, .i .i64 (swrap s).2] ∧ os = []) := by
  refine spec_of TtOk [] Try.func60 rfl Try.ntmps60 (by kernel_rfl) rfl rfl (fun C => ?_) rfl
  have hwr : sealWrap s = sealHead s.length ++ four (crc (sealHead s.length ++ s)) ++ s := rfl
  have hhl := head_len s.length
  have hck := check_spec (sealHead s.length ++ s) (by rw [List.length_append]; omega)
  have hfl := four_len (crc (sealHead s.length ++ s))
  have hcl := crc_lt (sealHead s.length ++ s)
  repeat' (first
    | refine Awp.seq ?_
    | refine Awp.region ?_
    | (refine Ops.nil ?_; show Awp _ _ _ _ _)
    | (refine Ops.nil ?_; show Exists _)
    | (refine Ops.nil ?_; show endK _ _ _ _ _)
    | (refine Awp.skip ?_; show Awp _ _ _ _ _)
    | (refine Awp.skip ?_; show endK _ _ _ _ _)
    | (refine Awp.skip ?_; show Exists _)
    | (refine Awp.ret ?_; show endK _ _ _ _ _)
    | (refine o_add rfl rfl rfl rfl ?_ ?_; omega)
    | refine o_len rfl TtOk rfl rfl rfl (fun _ => ?_)
    | refine o_lenOwn rfl TtOk rfl rfl rfl rfl (fun _ => ?_)
    | refine o_convB rfl TtOk rfl rfl rfl rfl ?_
    | (refine o_conv64 rfl TtOk rfl rfl rfl rfl ?_ ?_; omega)
    | (refine o_calm rfl TtOk rfl rfl rfl ?_ (fun _ => ?_); first | exact True.intro | exact ⟨rfl, rfl, rfl, rfl⟩ | exact ⟨rfl, True.intro⟩ | exact ⟨rfl, rfl⟩ | exact ⟨rfl, rfl, rfl⟩ | exact rfl | exact ⟨fun h0 => by cases h0, rfl⟩ | exact (fun h0 => by cases h0) | exact ⟨rfl, by omega⟩ | exact ⟨Nat.succ_ne_zero _, rfl⟩ | omega)
    | (refine o_calm rfl TtOk rfl rfl rfl ?_ (fun _ => ?_); (show List.length _ + List.length _ ≤ 9223372036854775807; (try simp only [List.length_append, List.length_cons, List.length_nil]); omega))
    | refine o_buildSlice TtOk rfl rfl rfl rfl rfl rfl rfl rfl rfl rfl rfl (by repeat' (first | exact True.intro | exact rfl | refine ⟨?_, ?_⟩)) (fun _ => ?_)
    | (refine o_append TtOk rfl rfl rfl rfl rfl rfl rfl rfl rfl (by first | exact True.intro | exact rfl) rfl rfl (fun _ => rfl) ?_ ?_ (fun _ => ?_); (simp only [List.length_map, List.length_cons, List.length_nil, List.length_append, List.length_take, List.length_drop]; omega); (simp only [List.length_map, List.length_cons, List.length_nil, List.length_append, List.length_take, List.length_drop]; omega))
    | (refine o_appendStr TtOk rfl rfl rfl rfl rfl rfl rfl rfl rfl (fun _ => rfl) ?_ (fun _ => ?_); (simp only [List.length_map, List.length_cons, List.length_nil, List.length_append, List.length_take, List.length_drop]; omega))
    | refine o_toBytes TtOk rfl rfl rfl rfl rfl rfl ?_
    | refine a_condT rfl ?_
    | refine a_condF rfl ?_
    | (refine a_condP rfl (fun hc => ?_) (fun hc => ?_)) <;> (try (exfalso; omega))
    | (refine a_condI rfl (fun hc => ?_) (fun hc => ?_)) <;> (try (exfalso; omega))
    | (refine a_condN rfl (fun hc => ?_) (fun hc => ?_)) <;> (try (exfalso; omega))
    | (refine Awp.cond rfl (fun hc => ?_) (fun hc => ?_))
    | refine o_toString TtOk rfl rfl rfl rfl rfl (by first | exact True.intro | exact rfl) rfl rfl rfl rfl ?_)
  · have hsw : swrap s = ([], 2) := by unfold swrap; rw [if_pos (by omega)]
    rw [hsw]
    refine end_all [] [] (.tup [.s [], .i .i64 2]) rfl ?_ ?_ (rle_tup2 (CLe.refl _) (CLe.refl _) rfl rfl) .nil ⟨rfl, rfl⟩ _ (.inl rfl)
    · repeat' (first | exact True.intro | exact rfl | refine ⟨?_, ?_⟩)
    · exact ⟨trivial, trivial, trivial⟩
  · have hsw : swrap s = (sealWrap s, 0) := by unfold swrap; rw [if_neg (by omega)]
    rw [hsw, hwr, head_row]
    generalize sealHead s.length = hd at hhl hck hfl hcl ⊢
    generalize crc (hd ++ s) = x at hck hfl hcl ⊢
    repeat' (first
      | refine Awp.seq ?_
      | refine Awp.region ?_
      | (refine Ops.nil ?_; show Awp _ _ _ _ _)
      | (refine Ops.nil ?_; show Exists _)
      | (refine Ops.nil ?_; show endK _ _ _ _ _)
      | (refine Awp.skip ?_; show Awp _ _ _ _ _)
      | (refine Awp.skip ?_; show endK _ _ _ _ _)
      | (refine Awp.skip ?_; show Exists _)
      | (refine Awp.ret ?_; show endK _ _ _ _ _)
      | (refine o_add rfl rfl rfl rfl ?_ ?_; omega)
      | refine o_len rfl TtOk rfl rfl rfl (fun _ => ?_)
      | refine o_lenOwn rfl TtOk rfl rfl rfl rfl (fun _ => ?_)
      | refine o_convB rfl TtOk rfl rfl rfl rfl ?_
      | (refine o_conv64 rfl TtOk rfl rfl rfl rfl ?_ ?_; omega)
      | (refine o_calm rfl TtOk rfl rfl rfl ?_ (fun _ => ?_); first | exact True.intro | exact ⟨rfl, rfl, rfl, rfl⟩ | exact ⟨rfl, True.intro⟩ | exact ⟨rfl, rfl⟩ | exact ⟨rfl, rfl, rfl⟩ | exact rfl | exact ⟨fun h0 => by cases h0, rfl⟩ | exact (fun h0 => by cases h0) | exact ⟨rfl, by omega⟩ | exact ⟨Nat.succ_ne_zero _, rfl⟩ | omega)
      | (refine o_calm rfl TtOk rfl rfl rfl ?_ (fun _ => ?_); (show List.length _ + List.length _ ≤ 9223372036854775807; (try simp only [List.length_append, List.length_cons, List.length_nil]); omega))
      | refine o_buildSlice TtOk rfl rfl rfl rfl rfl rfl rfl rfl rfl rfl rfl (by repeat' (first | exact True.intro | exact rfl | refine ⟨?_, ?_⟩)) (fun _ => ?_)
      | (refine o_append TtOk rfl rfl rfl rfl rfl rfl rfl rfl rfl (by first | exact True.intro | exact rfl) rfl rfl (fun _ => rfl) ?_ ?_ (fun _ => ?_); (simp only [List.length_map, List.length_cons, List.length_nil, List.length_append, List.length_take, List.length_drop]; omega); (simp only [List.length_map, List.length_cons, List.length_nil, List.length_append, List.length_take, List.length_drop]; omega))
      | (refine o_appendStr TtOk rfl rfl rfl rfl rfl rfl rfl rfl rfl (fun _ => rfl) ?_ (fun _ => ?_); (simp only [List.length_map, List.length_cons, List.length_nil, List.length_append, List.length_take, List.length_drop]; omega))
      | refine o_toBytes TtOk rfl rfl rfl rfl rfl rfl ?_
      | refine a_condT rfl ?_
      | refine a_condF rfl ?_
      | (refine a_condP rfl (fun hc => ?_) (fun hc => ?_)) <;> (try (exfalso; omega))
      | (refine a_condI rfl (fun hc => ?_) (fun hc => ?_)) <;> (try (exfalso; omega))
      | (refine a_condN rfl (fun hc => ?_) (fun hc => ?_)) <;> (try (exfalso; omega))
      | (refine Awp.cond rfl (fun hc => ?_) (fun hc => ?_))
      | refine o_toString TtOk rfl rfl rfl rfl rfl (by first | exact True.intro | exact rfl) rfl rfl rfl rfl ?_
      | (refine o_call0 rfl (hck) ⟨SLe.of_eq rfl, True.intro⟩ rfl ?_; rintro _ _ ⟨rfl, rfl⟩; refine ⟨rfl, ?_⟩))
    rw [four_row, ← List.map_append]
    generalize four x = fr at hfl ⊢
    have hhf : (hd ++ fr).length = 8 := by rw [List.length_append]; omega
    generalize hd ++ fr = hf at hhf ⊢
    repeat' (first
      | refine Awp.seq ?_
      | refine Awp.region ?_
      | (refine Ops.nil ?_; show Awp _ _ _ _ _)
      | (refine Ops.nil ?_; show Exists _)
      | (refine Ops.nil ?_; show endK _ _ _ _ _)
      | (refine Awp.skip ?_; show Awp _ _ _ _ _)
      | (refine Awp.skip ?_; show endK _ _ _ _ _)
      | (refine Awp.skip ?_; show Exists _)
      | (refine Awp.ret ?_; show endK _ _ _ _ _)
      | (refine o_add rfl rfl rfl rfl ?_ ?_; omega)
      | refine o_len rfl TtOk rfl rfl rfl (fun _ => ?_)
      | refine o_lenOwn rfl TtOk rfl rfl rfl rfl (fun _ => ?_)
      | refine o_convB rfl TtOk rfl rfl rfl rfl ?_
      | (refine o_conv64 rfl TtOk rfl rfl rfl rfl ?_ ?_; omega)
      | (refine o_calm rfl TtOk rfl rfl rfl ?_ (fun _ => ?_); first | exact True.intro | exact ⟨rfl, rfl, rfl, rfl⟩ | exact ⟨rfl, True.intro⟩ | exact ⟨rfl, rfl⟩ | exact ⟨rfl, rfl, rfl⟩ | exact rfl | exact ⟨fun h0 => by cases h0, rfl⟩ | exact (fun h0 => by cases h0) | exact ⟨rfl, by omega⟩ | exact ⟨Nat.succ_ne_zero _, rfl⟩ | omega)
      | (refine o_calm rfl TtOk rfl rfl rfl ?_ (fun _ => ?_); (show List.length _ + List.length _ ≤ 9223372036854775807; (try simp only [List.length_append, List.length_cons, List.length_nil]); omega))
      | refine o_buildSlice TtOk rfl rfl rfl rfl rfl rfl rfl rfl rfl rfl rfl (by repeat' (first | exact True.intro | exact rfl | refine ⟨?_, ?_⟩)) (fun _ => ?_)
      | (refine o_append TtOk rfl rfl rfl rfl rfl rfl rfl rfl rfl (by first | exact True.intro | exact rfl) rfl rfl (fun _ => rfl) ?_ ?_ (fun _ => ?_); (simp only [List.length_map, List.length_cons, List.length_nil, List.length_append, List.length_take, List.length_drop]; omega); (simp only [List.length_map, List.length_cons, List.length_nil, List.length_append, List.length_take, List.length_drop]; omega))
      | (refine o_appendStr TtOk rfl rfl rfl rfl rfl rfl rfl rfl rfl (fun _ => rfl) ?_ (fun _ => ?_); (simp only [List.length_map, List.length_cons, List.length_nil, List.length_append, List.length_take, List.length_drop]; omega))
      | refine o_toBytes TtOk rfl rfl rfl rfl rfl rfl ?_
      | refine a_condT rfl ?_
      | refine a_condF rfl ?_
      | (refine a_condP rfl (fun hc => ?_) (fun hc => ?_)) <;> (try (exfalso; omega))
      | (refine a_condI rfl (fun hc => ?_) (fun hc => ?_)) <;> (try (exfalso; omega))
      | (refine a_condN rfl (fun hc => ?_) (fun hc => ?_)) <;> (try (exfalso; omega))
      | (refine Awp.cond rfl (fun hc => ?_) (fun hc => ?_))
      | refine o_toString TtOk rfl rfl rfl rfl rfl (by first | exact True.intro | exact rfl) rfl rfl rfl rfl ?_)
    refine end_all [] [] (.tup [.s (hf ++ s), .i .i64 0]) rfl ?_ ?_ (rle_tup2 (CLe.refl _) (CLe.refl _) rfl rfl) .nil ⟨rfl, rfl⟩ _ (.inl rfl)
    · repeat' (first | exact True.intro | exact rfl | refine ⟨?_, ?_⟩)
    · exact ⟨trivial, trivial, trivial⟩
theorem rwrap_spec (s : List UInt8) (hs : s.length ≤ 65536) : Spec Try.prog 29 [.s s] [] (fun v os => v = .s (sealWrap s) ∧ os = []) := by
  refine spec_of TtOk [] Try.func29 rfl Try.ntmps29 (by kernel_rfl) rfl rfl (fun C => ?_) rfl
  have hwr : sealWrap s = sealHead s.length ++ four (crc (sealHead s.length ++ s)) ++ s := rfl
  have h4 := four_spec s.length (by omega)
  have h1 : (four s.length).drop 1 = [UInt8.ofNat (s.length / 65536), UInt8.ofNat (s.length / 256), UInt8.ofNat s.length] := rfl
  have hh : sealHead s.length = [94] ++ [UInt8.ofNat (s.length / 65536), UInt8.ofNat (s.length / 256), UInt8.ofNat s.length] := rfl
  have hhl := head_len s.length
  have hck := rcheck_spec (sealHead s.length ++ s) (by rw [List.length_append]; omega)
  have hcl := crc_lt (sealHead s.length ++ s)
  have hf2 := four_spec (crc (sealHead s.length ++ s)) hcl
  have hfl := four_len (crc (sealHead s.length ++ s))
  have hw := uwrap32_lt (n := s.length) (by omega)
  have hfl4 := four_len s.length
  rw [hwr]
  generalize four (crc (sealHead s.length ++ s)) = fr at hf2 hfl ⊢
  generalize crc (sealHead s.length ++ s) = x at hck hf2
  refine Awp.seq ?_
  repeat' (first
    | refine Awp.region ?_
    | (refine Ops.nil ?_; show Awp _ _ _ _ _)
    | (refine Ops.nil ?_; show Exists _)
    | (refine Ops.nil ?_; show endK _ _ _ _ _)
    | (refine Awp.ret ?_; show endK _ _ _ _ _)
    | (refine o_add rfl rfl rfl rfl ?_ ?_; omega)
    | refine o_len rfl TtOk rfl rfl rfl (fun _ => ?_)
    | refine o_lenOwn rfl TtOk rfl rfl rfl rfl (fun _ => ?_)
    | refine o_convB rfl TtOk rfl rfl rfl rfl ?_
    | (refine o_conv64 rfl TtOk rfl rfl rfl rfl ?_ ?_; omega)
    | (refine o_calm rfl TtOk rfl rfl rfl ?_ (fun _ => ?_); first | exact True.intro | exact ⟨rfl, rfl, rfl, rfl⟩ | exact ⟨rfl, True.intro⟩ | exact ⟨rfl, rfl⟩ | exact ⟨rfl, rfl, rfl⟩ | exact rfl | exact ⟨fun h0 => by cases h0, rfl⟩ | exact (fun h0 => by cases h0) | exact ⟨rfl, by omega⟩ | exact ⟨Nat.succ_ne_zero _, rfl⟩ | omega)
    | (refine o_calm rfl TtOk rfl rfl rfl ?_ (fun _ => ?_); (show List.length _ + List.length _ ≤ 9223372036854775807; (try simp only [List.length_append, List.length_cons, List.length_nil]); omega))
    | refine o_sliceCp TtOk rfl rfl rfl rfl rfl rfl ?_
    | refine o_toBytes TtOk rfl rfl rfl rfl rfl rfl ?_
    | refine o_toString TtOk rfl rfl rfl rfl rfl (by first | exact True.intro | exact rfl) rfl rfl rfl rfl ?_)
  refine Awp.seq ?_
  repeat' (first
    | refine Awp.region ?_
    | (refine Ops.nil ?_; show Awp _ _ _ _ _)
    | (refine Ops.nil ?_; show Exists _)
    | (refine Ops.nil ?_; show endK _ _ _ _ _)
    | (refine Awp.ret ?_; show endK _ _ _ _ _)
    | (refine o_add rfl rfl rfl rfl ?_ ?_; omega)
    | refine o_len rfl TtOk rfl rfl rfl (fun _ => ?_)
    | refine o_lenOwn rfl TtOk rfl rfl rfl rfl (fun _ => ?_)
    | refine o_convB rfl TtOk rfl rfl rfl rfl ?_
    | (refine o_conv64 rfl TtOk rfl rfl rfl rfl ?_ ?_; omega)
    | (refine o_calm rfl TtOk rfl rfl rfl ?_ (fun _ => ?_); first | exact True.intro | exact ⟨rfl, rfl, rfl, rfl⟩ | exact ⟨rfl, True.intro⟩ | exact ⟨rfl, rfl⟩ | exact ⟨rfl, rfl, rfl⟩ | exact rfl | exact ⟨fun h0 => by cases h0, rfl⟩ | exact (fun h0 => by cases h0) | exact ⟨rfl, by omega⟩ | exact ⟨Nat.succ_ne_zero _, rfl⟩ | omega)
    | (refine o_calm rfl TtOk rfl rfl rfl ?_ (fun _ => ?_); (show List.length _ + List.length _ ≤ 9223372036854775807; (try simp only [List.length_append, List.length_cons, List.length_nil]); omega))
    | refine o_sliceCp TtOk rfl rfl rfl rfl rfl rfl ?_
    | refine o_toBytes TtOk rfl rfl rfl rfl rfl rfl ?_
    | refine o_toString TtOk rfl rfl rfl rfl rfl (by first | exact True.intro | exact rfl) rfl rfl rfl rfl ?_)
  rw [hw]
  repeat' (first
    | refine Awp.region ?_
    | (refine Ops.nil ?_; show Awp _ _ _ _ _)
    | (refine Ops.nil ?_; show Exists _)
    | (refine Ops.nil ?_; show endK _ _ _ _ _)
    | (refine Awp.ret ?_; show endK _ _ _ _ _)
    | (refine o_add rfl rfl rfl rfl ?_ ?_; omega)
    | refine o_len rfl TtOk rfl rfl rfl (fun _ => ?_)
    | refine o_lenOwn rfl TtOk rfl rfl rfl rfl (fun _ => ?_)
    | refine o_convB rfl TtOk rfl rfl rfl rfl ?_
    | (refine o_conv64 rfl TtOk rfl rfl rfl rfl ?_ ?_; omega)
    | (refine o_calm rfl TtOk rfl rfl rfl ?_ (fun _ => ?_); first | exact True.intro | exact ⟨rfl, rfl, rfl, rfl⟩ | exact ⟨rfl, True.intro⟩ | exact ⟨rfl, rfl⟩ | exact ⟨rfl, rfl, rfl⟩ | exact rfl | exact ⟨fun h0 => by cases h0, rfl⟩ | exact (fun h0 => by cases h0) | exact ⟨rfl, by omega⟩ | exact ⟨Nat.succ_ne_zero _, rfl⟩ | omega)
    | (refine o_calm rfl TtOk rfl rfl rfl ?_ (fun _ => ?_); (show List.length _ + List.length _ ≤ 9223372036854775807; (try simp only [List.length_append, List.length_cons, List.length_nil]); omega))
    | refine o_sliceCp TtOk rfl rfl rfl rfl rfl rfl ?_
    | refine o_toBytes TtOk rfl rfl rfl rfl rfl rfl ?_
    | refine o_toString TtOk rfl rfl rfl rfl rfl (by first | exact True.intro | exact rfl) rfl rfl rfl rfl ?_
    | (refine o_call0 rfl (h4) ⟨SLe.of_eq rfl, True.intro⟩ rfl ?_; rintro _ _ ⟨rfl, rfl⟩; refine ⟨rfl, ?_⟩))
  refine o_sliceStr TtOk rfl 1 (four s.length).length rfl rfl rfl (bnd_some rfl rfl) bnd_none (by omega) (by omega) ?_
  rw [List.take_length, h1]
  repeat' (first
    | refine Awp.region ?_
    | (refine Ops.nil ?_; show Awp _ _ _ _ _)
    | (refine Ops.nil ?_; show Exists _)
    | (refine Ops.nil ?_; show endK _ _ _ _ _)
    | (refine Awp.ret ?_; show endK _ _ _ _ _)
    | (refine o_add rfl rfl rfl rfl ?_ ?_; omega)
    | refine o_len rfl TtOk rfl rfl rfl (fun _ => ?_)
    | refine o_lenOwn rfl TtOk rfl rfl rfl rfl (fun _ => ?_)
    | refine o_convB rfl TtOk rfl rfl rfl rfl ?_
    | (refine o_conv64 rfl TtOk rfl rfl rfl rfl ?_ ?_; omega)
    | (refine o_calm rfl TtOk rfl rfl rfl ?_ (fun _ => ?_); first | exact True.intro | exact ⟨rfl, rfl, rfl, rfl⟩ | exact ⟨rfl, True.intro⟩ | exact ⟨rfl, rfl⟩ | exact ⟨rfl, rfl, rfl⟩ | exact rfl | exact ⟨fun h0 => by cases h0, rfl⟩ | exact (fun h0 => by cases h0) | exact ⟨rfl, by omega⟩ | exact ⟨Nat.succ_ne_zero _, rfl⟩ | omega)
    | (refine o_calm rfl TtOk rfl rfl rfl ?_ (fun _ => ?_); (show List.length _ + List.length _ ≤ 9223372036854775807; (try simp only [List.length_append, List.length_cons, List.length_nil]); omega))
    | refine o_sliceCp TtOk rfl rfl rfl rfl rfl rfl ?_
    | refine o_toBytes TtOk rfl rfl rfl rfl rfl rfl ?_
    | refine o_toString TtOk rfl rfl rfl rfl rfl (by first | exact True.intro | exact rfl) rfl rfl rfl rfl ?_)
  rw [show ({ data := #[94] } : ByteArray).data.toList ++ [UInt8.ofNat (s.length / 65536), UInt8.ofNat (s.length / 256), UInt8.ofNat s.length] = sealHead s.length from rfl]
  clear h1 hh
  generalize sealHead s.length = hd at hhl hck ⊢
  repeat' (first
    | refine Awp.seq ?_
    | refine Awp.region ?_
    | (refine Ops.nil ?_; show Awp _ _ _ _ _)
    | (refine Ops.nil ?_; show Exists _)
    | (refine Ops.nil ?_; show endK _ _ _ _ _)
    | (refine Awp.ret ?_; show endK _ _ _ _ _)
    | (refine o_add rfl rfl rfl rfl ?_ ?_; omega)
    | refine o_len rfl TtOk rfl rfl rfl (fun _ => ?_)
    | refine o_lenOwn rfl TtOk rfl rfl rfl rfl (fun _ => ?_)
    | refine o_convB rfl TtOk rfl rfl rfl rfl ?_
    | (refine o_conv64 rfl TtOk rfl rfl rfl rfl ?_ ?_; omega)
    | (refine o_calm rfl TtOk rfl rfl rfl ?_ (fun _ => ?_); first | exact True.intro | exact ⟨rfl, rfl, rfl, rfl⟩ | exact ⟨rfl, True.intro⟩ | exact ⟨rfl, rfl⟩ | exact ⟨rfl, rfl, rfl⟩ | exact rfl | exact ⟨fun h0 => by cases h0, rfl⟩ | exact (fun h0 => by cases h0) | exact ⟨rfl, by omega⟩ | exact ⟨Nat.succ_ne_zero _, rfl⟩ | omega)
    | (refine o_calm rfl TtOk rfl rfl rfl ?_ (fun _ => ?_); (show List.length _ + List.length _ ≤ 9223372036854775807; (try simp only [List.length_append, List.length_cons, List.length_nil]); omega))
    | refine o_sliceCp TtOk rfl rfl rfl rfl rfl rfl ?_
    | refine o_toBytes TtOk rfl rfl rfl rfl rfl rfl ?_
    | refine o_toString TtOk rfl rfl rfl rfl rfl (by first | exact True.intro | exact rfl) rfl rfl rfl rfl ?_
    | (refine o_call0 rfl (hck) ⟨SLe.of_eq rfl, True.intro⟩ rfl ?_; rintro _ _ ⟨rfl, rfl⟩; refine ⟨rfl, ?_⟩)
    | (refine o_call0 rfl (hf2) ⟨SLe.of_eq rfl, True.intro⟩ rfl ?_; rintro _ _ ⟨rfl, rfl⟩; refine ⟨rfl, ?_⟩))
  exact end_tmp rfl rfl rfl [] [] (CLe.of_eq rfl) .nil ⟨rfl, rfl⟩ _ (.inl rfl)
end Go.Proofs.Ytnmnhnlebkebfaa
