/- seal.Open, ref04.Open by rules. -/
import Derived.Test.YtfdcopbbnmialaaKWZ
set_option maxHeartbeats 4000000
set_option maxRecDepth 100000
namespace Go.Proofs.Ytfdcopbbnmialaa
open Go Go.RowKit
def n3 (a b c : UInt8) : Nat := a.toNat * 65536 + b.toNat * 256 + c.toNat
def n4 (a b c d : UInt8) : Nat := a.toNat * 16777216 + b.toNat * 65536 + c.toNat * 256 + d.toNat
def sopen : List UInt8 → List UInt8 × Nat × Int
  | c0 :: c1 :: c2 :: c3 :: c4 :: c5 :: c6 :: c7 :: r =>
    if c0.toNat ≠ 94 ∨ 65536 < n3 c1 c2 c3 then ([], 0, 4) else if r.length < n3 c1 c2 c3 then ([], 0, 5)
    else if crc ([c0, c1, c2, c3] ++ r.take (n3 c1 c2 c3)) = n4 c4 c5 c6 c7 then (r.take (n3 c1 c2 c3), 8 + n3 c1 c2 c3, 0) else ([], 0, 6)
  | _ => ([], 0, 5)
theorem eight {s : List UInt8} (h : ¬ s.length < 8) : ∃ c0 c1 c2 c3 c4 c5 c6 c7 r, s = c0 :: c1 :: c2 :: c3 :: c4 :: c5 :: c6 :: c7 :: r := by
  rcases s with _ | ⟨c0, _ | ⟨c1, _ | ⟨c2, _ | ⟨c3, _ | ⟨c4, _ | ⟨c5, _ | ⟨c6, _ | ⟨c7, r⟩⟩⟩⟩⟩⟩⟩⟩
  all_goals first | exact ⟨_, _, _, _, _, _, _, _, _, rfl⟩ | (exfalso; simp at h)
theorem sopen_short {s : List UInt8} (h : s.length < 8) : sopen s = ([], 0, 5) := by
  rcases s with _ | ⟨c0, _ | ⟨c1, _ | ⟨c2, _ | ⟨c3, _ | ⟨c4, _ | ⟨c5, _ | ⟨c6, _ | ⟨c7, r⟩⟩⟩⟩⟩⟩⟩⟩
  all_goals first | rfl | (exfalso; simp at h; omega)
theorem orI64 {x y : Nat} (hx : x < 9223372036854775808) (hy : y < 9223372036854775808) : bitsI .or .i64 (x : Int) (y : Int) = ((x ||| y : Nat) : Int) := by
  have hl : x ||| y < 9223372036854775808 := Nat.or_lt_two_pow (n := 63) hx hy
  show IntKind.i64.wrap _ = _
  rw [ofInt_nat, ofInt_nat, BitVec.toNat_or, BitVec.toNat_ofNat, BitVec.toNat_ofNat, show (2 ^ IntKind.i64.bits : Nat) = 18446744073709551616 from rfl, Nat.mod_eq_of_lt (by omega), Nat.mod_eq_of_lt (by omega), iwrap_lt hl]
theorem or_add (a b i : Nat) (h : b < 2 ^ i) : (a * 2 ^ i) ||| b = a * 2 ^ i + b := by
  rw [Nat.mul_comm]; exact (Nat.two_pow_add_eq_or_of_lt h a).symm
theorem n3_eq (a b c : UInt8) : bitsI .or .i64 (bitsI .or .i64 (IntKind.i64.wrap ((a.toNat : Int) * 2 ^ (min (Int.toNat 16) (IntKind.bits .i64)))) (IntKind.i64.wrap ((b.toNat : Int) * 2 ^ (min (Int.toNat 8) (IntKind.bits .i64))))) (c.toNat : Int) = (n3 a b c : Nat) := by
  have ha := a.toNat_lt; have hb := b.toNat_lt; have hc := c.toNat_lt
  rw [show (a.toNat : Int) * 2 ^ (min (Int.toNat 16) (IntKind.bits .i64)) = ((a.toNat * 65536 : Nat) : Int) by rw [Int.natCast_mul]; rfl, show (b.toNat : Int) * 2 ^ (min (Int.toNat 8) (IntKind.bits .i64)) = ((b.toNat * 256 : Nat) : Int) by rw [Int.natCast_mul]; rfl]
  rw [iwrap_lt (by omega), iwrap_lt (by omega), orI64 (by omega) (by omega), or_add a.toNat (b.toNat * 256) 16 (by omega), orI64 (by omega) (by omega)]
  rw [show a.toNat * 2 ^ 16 + b.toNat * 256 = (a.toNat * 256 + b.toNat) * 2 ^ 8 by omega, or_add _ _ 8 (by omega)]
  unfold n3
  congr 1; omega
theorem n4_eq (a b c d : UInt8) : bitsI .or .u32 (bitsI .or .u32 (bitsI .or .u32 (IntKind.u32.wrap (IntKind.u32.wrap (a.toNat : Int) * 2 ^ (min (Int.toNat 24) (IntKind.bits .u32)))) (IntKind.u32.wrap (IntKind.u32.wrap (b.toNat : Int) * 2 ^ (min (Int.toNat 16) (IntKind.bits .u32))))) (IntKind.u32.wrap (IntKind.u32.wrap (c.toNat : Int) * 2 ^ (min (Int.toNat 8) (IntKind.bits .u32))))) (IntKind.u32.wrap (d.toNat : Int)) = (n4 a b c d : Nat) := by
  have ha := a.toNat_lt; have hb := b.toNat_lt; have hc := c.toNat_lt; have hd := d.toNat_lt
  rw [uwrap32_lt (n := a.toNat) (by omega), uwrap32_lt (n := b.toNat) (by omega), uwrap32_lt (n := c.toNat) (by omega), uwrap32_lt (n := d.toNat) (by omega)]
  rw [show (a.toNat : Int) * 2 ^ (min (Int.toNat 24) (IntKind.bits .u32)) = ((a.toNat * 16777216 : Nat) : Int) by rw [Int.natCast_mul]; rfl, show (b.toNat : Int) * 2 ^ (min (Int.toNat 16) (IntKind.bits .u32)) = ((b.toNat * 65536 : Nat) : Int) by rw [Int.natCast_mul]; rfl, show (c.toNat : Int) * 2 ^ (min (Int.toNat 8) (IntKind.bits .u32)) = ((c.toNat * 256 : Nat) : Int) by rw [Int.natCast_mul]; rfl]
  rw [uwrap32_lt (by omega), uwrap32_lt (by omega), uwrap32_lt (by omega), or32 (by omega) (by omega), or_add a.toNat (b.toNat * 65536) 24 (by omega), or32 (by omega) (by omega), show a.toNat * 2 ^ 24 + b.toNat * 65536 = (a.toNat * 256 + b.toNat) * 2 ^ 16 by omega, or_add _ (c.toNat * 256) 16 (by omega), or32 (by omega) (by omega), show (a.toNat * 256 + b.toNat) * 2 ^ 16 + c.toNat * 256 = ((a.toNat * 256 + b.toNat) * 256 + c.toNat) * 2 ^ 8 by omega, or_add _ _ 8 (by omega)]
  unfold n4
  congr 1; omega
theorem rle_tup3 {fr : Fr} {a b c d e f : AV} (h1 : CLe fr a d) (h2 : CLe fr b e) (h3 : CLe fr c f) (ha : a.isVal = true) (hb : b.isVal = true) (hc : c.isVal = true) : RLe fr (single [a, b, c]) (.tup [d, e, f]) :=
  RLe.tup (xs := [a, b, c]) (ys := [d, e, f]) rfl (fun i x y hx hy => by
    match i with
    | 0 => simp at hx hy; subst hx; subst hy; exact .inr ⟨ha, h1⟩
    | 1 => simp at hx hy; subst hx; subst hy; exact .inr ⟨hb, h2⟩
    | 2 => simp at hx hy; subst hx; subst hy; exact .inr ⟨hc, h3⟩
    | k + 3 => simp at hx)
theorem sopen_spec (s : List UInt8) (hs : s.length ≤ 1000000000) : Spec Try.prog 27 [.s s] [] (fun v os => v = .tup [.s (sopen s).1, .i .i64 ((sopen s).2.1 : Nat), .i .i64 (sopen s).2.2] ∧ os = []) := by
  refine spec_of TtOk [] Try.func27 rfl Try.ntmps27 (by kernel_rfl) rfl rfl (fun C => ?_) rfl
  by_cases h8 : s.length < 8
  · rw [sopen_short h8]
    repeat' (first | refine Awp.seq ?_ | refine Awp.region ?_ | (refine Ops.nil ?_; show Awp _ _ _ _ _) | (refine Awp.ret ?_; show endK _ _ _ _ _) | (refine o_calm rfl TtOk rfl rfl rfl ?_ (fun _ => ?_); first | exact True.intro | exact ⟨rfl, rfl, rfl, rfl⟩ | exact ⟨rfl, True.intro⟩ | exact ⟨rfl, rfl⟩ | exact ⟨rfl, rfl, rfl⟩ | exact rfl | exact ⟨fun h0 => by cases h0, rfl⟩ | exact (fun h0 => by cases h0) | exact ⟨rfl, by omega⟩ | exact ⟨Nat.succ_ne_zero _, rfl⟩ | omega) | (refine a_condP rfl (fun hc => ?_) (fun hc => ?_)) <;> (try (exfalso; omega)))
    refine end_all [] [] (.tup [.s [], .i .i64 ((0 : Nat) : Int), .i .i64 5]) rfl ?_ ?_ (rle_tup3 (CLe.of_eq rfl) (CLe.of_eq rfl) (CLe.of_eq rfl) rfl rfl rfl) .nil ⟨rfl, rfl⟩ _ (.inl rfl)
    · repeat' (first | exact True.intro | exact rfl | refine ⟨?_, ?_⟩)
    · exact ⟨trivial, trivial, trivial, trivial⟩
  · obtain ⟨c0, c1, c2, c3, c4, c5, c6, c7, r, rfl⟩ := eight h8
    have hl : (c0 :: c1 :: c2 :: c3 :: c4 :: c5 :: c6 :: c7 :: r).length = r.length + 8 := rfl
    have hn3 := n3_eq c1 c2 c3
    have hn4 := n4_eq c4 c5 c6 c7
    have hso : sopen (c0 :: c1 :: c2 :: c3 :: c4 :: c5 :: c6 :: c7 :: r) = if c0.toNat ≠ 94 ∨ 65536 < n3 c1 c2 c3 then ([], 0, 4) else if r.length < n3 c1 c2 c3 then ([], 0, 5)
      else if crc ([c0, c1, c2, c3] ++ r.take (n3 c1 c2 c3)) = n4 c4 c5 c6 c7 then (r.take (n3 c1 c2 c3), 8 + n3 c1 c2 c3, 0) else ([], 0, 6) := rfl
    generalize sopen (c0 :: c1 :: c2 :: c3 :: c4 :: c5 :: c6 :: c7 :: r) = q at hso ⊢
    generalize n3 c1 c2 c3 = n at hn3 hso
    generalize n4 c4 c5 c6 c7 = N at hn4 hso
    have hrl : r.length ≤ 1000000000 := by omega
    have hb4 : crc ([c0, c1, c2, c3] ++ r.take n) = N ∨ ¬ crc ([c0, c1, c2, c3] ++ r.take n) = N := Decidable.em _
    repeat' (first | refine Awp.seq ?_ | refine Awp.region ?_ | (refine Ops.nil ?_; show Awp _ _ _ _ _) | (refine Awp.skip ?_; show Awp _ _ _ _ _) | (refine o_calm rfl TtOk rfl rfl rfl ?_ (fun _ => ?_); first | exact True.intro | exact ⟨rfl, rfl, rfl, rfl⟩ | exact ⟨rfl, True.intro⟩ | exact ⟨rfl, rfl⟩ | exact ⟨rfl, rfl, rfl⟩ | exact rfl | exact ⟨fun h0 => by cases h0, rfl⟩ | exact (fun h0 => by cases h0) | exact ⟨rfl, by omega⟩ | exact ⟨Nat.succ_ne_zero _, rfl⟩ | omega) | refine a_condF rfl ?_)
    repeat' (first | (refine Ops.nil ?_; show Awp _ _ _ _ _) | refine o_convB rfl TtOk rfl rfl rfl rfl ?_ | (refine o_calm rfl TtOk rfl rfl rfl ?_ (fun _ => ?_); first | exact True.intro | exact ⟨rfl, rfl, rfl, rfl⟩ | exact ⟨rfl, True.intro⟩ | exact ⟨rfl, rfl⟩ | exact ⟨rfl, rfl, rfl⟩ | exact rfl | exact ⟨fun h0 => by cases h0, rfl⟩ | exact (fun h0 => by cases h0) | exact ⟨rfl, by omega⟩ | exact ⟨Nat.succ_ne_zero _, rfl⟩ | omega) | refine a_any 3 [] [] [] [0, 1, 2, 3, 4, 5, 6, 7, 8, 9, 10, 11, 12, 13] (by kernel_rfl) (by kernel_rfl) (by kernel_rfl) rfl rfl rfl ?_ | (refine o_indexStr TtOk rfl rfl rfl rfl rfl (by decide) rfl ?_))
    rw [hn3]
    clear hn3
    repeat' (first | refine Awp.seq ?_ | refine Awp.block ?_ | refine Awp.region ?_ | (refine Ops.nil ?_; show Awp _ _ _ _ _) | (refine Awp.skip ?_; show Awp _ _ _ _ _) | (refine Awp.ret ?_; show endK _ _ _ _ _) | (refine o_add rfl rfl rfl rfl ?_ ?_; omega) | (refine o_calm rfl TtOk rfl rfl rfl ?_ (fun _ => ?_); first | exact True.intro | exact ⟨rfl, rfl, rfl, rfl⟩ | exact ⟨rfl, True.intro⟩ | exact ⟨rfl, rfl⟩ | exact ⟨rfl, rfl, rfl⟩ | exact rfl | exact ⟨fun h0 => by cases h0, rfl⟩ | exact (fun h0 => by cases h0) | exact ⟨rfl, by omega⟩ | exact ⟨Nat.succ_ne_zero _, rfl⟩ | omega) | (refine a_condP rfl (fun hc => ?_) (fun hc => ?_)) <;> (try (exfalso; omega)) | (refine a_condN rfl (fun hc => ?_) (fun hc => ?_)) <;> (try (exfalso; omega)) | (refine o_indexStr TtOk rfl rfl rfl rfl rfl (by decide) rfl ?_))
    · rw [if_pos (.inl (by omega))] at hso; subst hso
      refine end_all [] [] (.tup [.s [], .i .i64 ((0 : Nat) : Int), .i .i64 4]) rfl ?_ ?_ (rle_tup3 (CLe.of_eq rfl) (CLe.of_eq rfl) (CLe.of_eq rfl) rfl rfl rfl) .nil ⟨rfl, rfl⟩ _ (.inl rfl)
      · repeat' (first | exact True.intro | exact rfl | refine ⟨?_, ?_⟩)
      · exact ⟨trivial, trivial, trivial, trivial⟩
    · rw [if_pos (.inr (by omega))] at hso; subst hso
      refine end_all [] [] (.tup [.s [], .i .i64 ((0 : Nat) : Int), .i .i64 4]) rfl ?_ ?_ (rle_tup3 (CLe.of_eq rfl) (CLe.of_eq rfl) (CLe.of_eq rfl) rfl rfl rfl) .nil ⟨rfl, rfl⟩ _ (.inl rfl)
      · repeat' (first | exact True.intro | exact rfl | refine ⟨?_, ?_⟩)
      · exact ⟨trivial, trivial, trivial, trivial⟩
    · rw [if_neg (by omega), if_pos (by omega)] at hso; subst hso
      refine end_all [] [] (.tup [.s [], .i .i64 ((0 : Nat) : Int), .i .i64 5]) rfl ?_ ?_ (rle_tup3 (CLe.of_eq rfl) (CLe.of_eq rfl) (CLe.of_eq rfl) rfl rfl rfl) .nil ⟨rfl, rfl⟩ _ (.inl rfl)
      · repeat' (first | exact True.intro | exact rfl | refine ⟨?_, ?_⟩)
      · exact ⟨trivial, trivial, trivial, trivial⟩
    · rw [if_neg (by omega), if_neg (by omega)] at hso
      repeat' (first | (refine Ops.nil ?_; show Awp _ _ _ _ _) | (refine o_calm rfl TtOk rfl rfl rfl ?_ (fun _ => ?_); first | exact True.intro | exact ⟨rfl, rfl, rfl, rfl⟩ | exact ⟨rfl, True.intro⟩ | exact ⟨rfl, rfl⟩ | exact ⟨rfl, rfl, rfl⟩ | exact rfl | exact ⟨fun h0 => by cases h0, rfl⟩ | exact (fun h0 => by cases h0) | exact ⟨rfl, by omega⟩ | exact ⟨Nat.succ_ne_zero _, rfl⟩ | omega) | refine a_any 9 [] [] [] [0, 1, 2, 3, 4, 5, 6, 7, 8, 9, 10, 11, 12, 13, 14, 15, 16, 17, 18] (by kernel_rfl) (by kernel_rfl) (by kernel_rfl) rfl rfl rfl ?_ | (refine o_indexStr TtOk rfl rfl rfl rfl rfl (by decide) rfl ?_))
      rw [hn4]
      clear hn4
      have hck := check_spec ([c0, c1, c2, c3] ++ r.take n) (by rw [List.length_append, List.length_take]; show 4 + min n r.length ≤ _; omega)
      have htl : (r.take n).length ≤ 1000000000 := by rw [List.length_take]; omega
      generalize crc ([c0, c1, c2, c3] ++ r.take n) = x at hck hso
      repeat' (first | refine Awp.seq ?_ | refine Awp.region ?_ | (refine o_add rfl rfl rfl rfl ?_ ?_; omega) | (refine o_calm rfl TtOk rfl rfl rfl ?_ (fun _ => ?_); first | exact True.intro | exact ⟨rfl, rfl, rfl, rfl⟩ | exact ⟨rfl, True.intro⟩ | exact ⟨rfl, rfl⟩ | exact ⟨rfl, rfl, rfl⟩ | exact rfl | exact ⟨fun h0 => by cases h0, rfl⟩ | exact (fun h0 => by cases h0) | exact ⟨rfl, by omega⟩ | exact ⟨Nat.succ_ne_zero _, rfl⟩ | omega))
      refine o_sliceStr TtOk rfl 8 (n + 8) rfl rfl rfl (bnd_some rfl rfl) (bnd_some rfl (by omega)) (by omega) (by show n + 8 ≤ r.length + 8; omega) ?_
      rw [show ((c0 :: c1 :: c2 :: c3 :: c4 :: c5 :: c6 :: c7 :: r).take (n + 8)).drop 8 = r.take n from rfl]
      generalize r.take n = t at hck hso htl ⊢
      repeat' (first | refine Awp.seq ?_ | refine Awp.region ?_ | (refine Ops.nil ?_; show Awp _ _ _ _ _) | (refine o_calm rfl TtOk rfl rfl rfl ?_ (fun _ => ?_); first | exact True.intro | exact ⟨rfl, rfl, rfl, rfl⟩ | exact ⟨rfl, True.intro⟩ | exact ⟨rfl, rfl⟩ | exact ⟨rfl, rfl, rfl⟩ | exact rfl | exact ⟨fun h0 => by cases h0, rfl⟩ | exact (fun h0 => by cases h0) | exact ⟨rfl, by omega⟩ | exact ⟨Nat.succ_ne_zero _, rfl⟩ | omega))
      refine o_sliceStr TtOk rfl 0 4 rfl rfl rfl bnd_none (bnd_some rfl rfl) (by omega) (by show 4 ≤ r.length + 8; omega) ?_
      rw [show ((c0 :: c1 :: c2 :: c3 :: c4 :: c5 :: c6 :: c7 :: r).take 4).drop 0 = [c0, c1, c2, c3] from rfl]
      repeat' (first | refine Awp.seq ?_ | refine Awp.region ?_ | (refine Ops.nil ?_; show Awp _ _ _ _ _) | (refine Awp.skip ?_; show Awp _ _ _ _ _) | (refine Awp.ret ?_; show endK _ _ _ _ _) | (refine o_add rfl rfl rfl rfl ?_ ?_; omega) | (refine o_calm rfl TtOk rfl rfl rfl ?_ (fun _ => ?_); first | exact True.intro | exact ⟨rfl, rfl, rfl, rfl⟩ | exact ⟨rfl, True.intro⟩ | exact ⟨rfl, rfl⟩ | exact ⟨rfl, rfl, rfl⟩ | exact rfl | exact ⟨fun h0 => by cases h0, rfl⟩ | exact (fun h0 => by cases h0) | exact ⟨rfl, by omega⟩ | exact ⟨Nat.succ_ne_zero _, rfl⟩ | omega) | (refine o_calm rfl TtOk rfl rfl rfl ?_ (fun _ => ?_); (show List.length _ + List.length _ ≤ 9223372036854775807; (repeat' (first | rw [List.length_append] | rw [List.length_map] | rw [List.length_cons] | rw [List.length_nil] | rw [List.length_take] | rw [List.length_drop])) <;> omega)) | (refine a_condP rfl (fun hc => ?_) (fun hc => ?_)) <;> (try (exfalso; omega)) | (refine o_call0 rfl (hck) ⟨SLe.of_eq rfl, True.intro⟩ rfl ?_; rintro _ _ ⟨rfl, rfl⟩; refine ⟨rfl, ?_⟩))
      · rw [if_pos (by omega)] at hso; subst hso
        refine end_all [] [] (.tup [.s t, .i .i64 ((8 + n : Nat) : Int), .i .i64 0]) rfl ?_ ?_ (rle_tup3 (CLe.of_eq rfl) (CLe.of_eq (congrArg (AV.i .i64) (show (8 : Int) + (n : Int) = ((8 + n : Nat) : Int) by omega))) (CLe.of_eq rfl) rfl rfl rfl) .nil ⟨rfl, rfl⟩ _ (.inl rfl)
        · repeat' (first | exact True.intro | exact rfl | refine ⟨?_, ?_⟩)
        · exact ⟨trivial, trivial, trivial, trivial⟩
      · rw [if_neg (by omega)] at hso; subst hso
        refine end_all [] [] (.tup [.s [], .i .i64 ((0 : Nat) : Int), .i .i64 6]) rfl ?_ ?_ (rle_tup3 (CLe.of_eq rfl) (CLe.of_eq rfl) (CLe.of_eq rfl) rfl rfl rfl) .nil ⟨rfl, rfl⟩ _ (.inl rfl)
        · repeat' (first | exact True.intro | exact rfl | refine ⟨?_, ?_⟩)
        · exact ⟨trivial, trivial, trivial, trivial⟩
end Go.Proofs.Ytfdcopbbnmialaa
