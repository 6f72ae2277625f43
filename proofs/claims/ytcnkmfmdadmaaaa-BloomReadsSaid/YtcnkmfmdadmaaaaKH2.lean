/- ref08.Place, bloom.Filter.places by rules. -/
import Derived.Test.YtcnkmfmdadmaaaaKH
import Derived.Test.YtcnkmfmdadmaaaaHP
set_option maxHeartbeats 4000000
namespace Go.Proofs.Ytcnkmfmdadmaaaa
open Go Go.RowKit
theorem oddUp_lt {g : Nat} (h : g < 4294967296) : oddUp g < 8589934592 := by unfold oddUp; split <;> omega
theorem div32 (H : Nat) : (H : Int).fdiv (2 ^ (min (Int.toNat 32) (IntKind.bits .u64))) = ((H / 4294967296 : Nat) : Int) := shr64 H (k := 32) (by decide)
theorem div32_lt {H : Nat} (h : H < 18446744073709551616) : H / 4294967296 < 4294967296 := by omega
theorem place_spec (s : List UInt8) (hs : s.length ≤ 1000000000000) (i n : Nat) (hi : i ≤ 1000000000000) (hn : 0 < n) (hn2 : n ≤ 1000000000000) : Spec Try.prog 72 [.s s, .i .i64 i, .i .i64 n] [] (fun v os => v = .i .i64 (placeN (hashN s) i n : Nat) ∧ os = []) := by
  refine spec_of TtOk [] Try.func72 rfl Try.ntmps72 (by kernel_rfl) rfl rfl (fun C => ?_) rfl
  have hH := hashN_lt s
  have hpl : placeN (hashN s) i n = (walkN (hashN s) i) % n := by rw [walkN_eq hH]; rfl
  rw [hpl]
  refine Awp.seq ?_
  repeat' (first
    | refine Awp.region ?_
    | (refine Ops.nil ?_; show Awp _ _ _ _ _)
    | (refine Ops.nil ?_; show Exists _)
    | (refine Ops.nil ?_; show endK _ _ _ _ _)
    | (refine Awp.skip ?_; show Awp _ _ _ _ _)
    | (refine Awp.skip ?_; show endK _ _ _ _ _)
    | (refine Awp.skip ?_; show Exists _)
    | (refine Awp.exit ?_; show Awp _ _ _ _ _)
    | (refine Awp.exit ?_; show Exists _)
    | (refine Awp.exit ?_; show endK _ _ _ _ _)
    | (refine Awp.ret ?_; show endK _ _ _ _ _)
    | (refine o_add rfl rfl rfl rfl ?_ ?_; omega)
    | (refine o_rem rfl rfl rfl rfl ?_ ?_ ?_; omega; omega)
    | refine o_convB rfl TtOk rfl rfl rfl rfl ?_
    | (refine o_conv64 rfl TtOk rfl rfl rfl rfl ?_ ?_; omega)
    | (refine o_calm rfl TtOk rfl rfl rfl ?_ (fun _ => ?_); first | exact True.intro | exact ⟨rfl, rfl, rfl, rfl⟩ | exact ⟨rfl, True.intro⟩ | exact ⟨rfl, rfl⟩ | exact ⟨rfl, rfl, rfl⟩ | exact rfl | exact ⟨fun h0 => by cases h0, rfl⟩ | exact (fun h0 => by cases h0) | exact ⟨rfl, by omega⟩ | exact ⟨Nat.succ_ne_zero _, rfl⟩ | omega)
    | (refine o_calm rfl TtOk rfl rfl rfl ?_ (fun _ => ?_); (show List.length _ + List.length _ ≤ 9223372036854775807; (try simp only [List.length_append, List.length_cons, List.length_nil]); omega))
    | refine o_eqNil TtOk rfl rfl rfl rfl rfl ?_
    | refine o_eqArr8 TtOk rfl rfl rfl rfl rfl rfl (by kernel_rfl) ?_
    | refine o_toBytes TtOk rfl rfl rfl rfl rfl rfl ?_
    | refine o_toString TtOk rfl rfl rfl rfl rfl (by first | exact True.intro | exact rfl) rfl rfl rfl rfl ?_
    | (refine o_call0 rfl (rhash_spec _ (by assumption)) ⟨SLe.of_eq rfl, True.intro⟩ rfl ?_; rintro _ _ ⟨rfl, rfl⟩; refine ⟨rfl, ?_⟩))
  refine Awp.seq ?_
  repeat' (first
    | refine Awp.region ?_
    | (refine Ops.nil ?_; show Awp _ _ _ _ _)
    | (refine Ops.nil ?_; show Exists _)
    | (refine Ops.nil ?_; show endK _ _ _ _ _)
    | (refine Awp.skip ?_; show Awp _ _ _ _ _)
    | (refine Awp.skip ?_; show endK _ _ _ _ _)
    | (refine Awp.skip ?_; show Exists _)
    | (refine Awp.exit ?_; show Awp _ _ _ _ _)
    | (refine Awp.exit ?_; show Exists _)
    | (refine Awp.exit ?_; show endK _ _ _ _ _)
    | (refine Awp.ret ?_; show endK _ _ _ _ _)
    | (refine o_add rfl rfl rfl rfl ?_ ?_; omega)
    | (refine o_rem rfl rfl rfl rfl ?_ ?_ ?_; omega; omega)
    | refine o_convB rfl TtOk rfl rfl rfl rfl ?_
    | (refine o_conv64 rfl TtOk rfl rfl rfl rfl ?_ ?_; omega)
    | (refine o_calm rfl TtOk rfl rfl rfl ?_ (fun _ => ?_); first | exact True.intro | exact ⟨rfl, rfl, rfl, rfl⟩ | exact ⟨rfl, True.intro⟩ | exact ⟨rfl, rfl⟩ | exact ⟨rfl, rfl, rfl⟩ | exact rfl | exact ⟨fun h0 => by cases h0, rfl⟩ | exact (fun h0 => by cases h0) | exact ⟨rfl, by omega⟩ | exact ⟨Nat.succ_ne_zero _, rfl⟩ | omega)
    | (refine o_calm rfl TtOk rfl rfl rfl ?_ (fun _ => ?_); (show List.length _ + List.length _ ≤ 9223372036854775807; (try simp only [List.length_append, List.length_cons, List.length_nil]); omega))
    | refine o_eqNil TtOk rfl rfl rfl rfl rfl ?_
    | refine o_eqArr8 TtOk rfl rfl rfl rfl rfl rfl (by kernel_rfl) ?_
    | refine o_toBytes TtOk rfl rfl rfl rfl rfl rfl ?_
    | refine o_toString TtOk rfl rfl rfl rfl rfl (by first | exact True.intro | exact rfl) rfl rfl rfl rfl ?_
    | (refine o_call0 rfl (rhash_spec _ (by assumption)) ⟨SLe.of_eq rfl, True.intro⟩ rfl ?_; rintro _ _ ⟨rfl, rfl⟩; refine ⟨rfl, ?_⟩))
  generalize hashN s = H at hH ⊢
  refine Awp.seq ?_
  repeat' (first
    | refine Awp.region ?_
    | (refine Ops.nil ?_; show Awp _ _ _ _ _)
    | (refine Ops.nil ?_; show Exists _)
    | (refine Ops.nil ?_; show endK _ _ _ _ _)
    | (refine Awp.skip ?_; show Awp _ _ _ _ _)
    | (refine Awp.skip ?_; show endK _ _ _ _ _)
    | (refine Awp.skip ?_; show Exists _)
    | (refine Awp.exit ?_; show Awp _ _ _ _ _)
    | (refine Awp.exit ?_; show Exists _)
    | (refine Awp.exit ?_; show endK _ _ _ _ _)
    | (refine Awp.ret ?_; show endK _ _ _ _ _)
    | (refine o_add rfl rfl rfl rfl ?_ ?_; omega)
    | (refine o_rem rfl rfl rfl rfl ?_ ?_ ?_; omega; omega)
    | refine o_convB rfl TtOk rfl rfl rfl rfl ?_
    | (refine o_conv64 rfl TtOk rfl rfl rfl rfl ?_ ?_; omega)
    | (refine o_calm rfl TtOk rfl rfl rfl ?_ (fun _ => ?_); first | exact True.intro | exact ⟨rfl, rfl, rfl, rfl⟩ | exact ⟨rfl, True.intro⟩ | exact ⟨rfl, rfl⟩ | exact ⟨rfl, rfl, rfl⟩ | exact rfl | exact ⟨fun h0 => by cases h0, rfl⟩ | exact (fun h0 => by cases h0) | exact ⟨rfl, by omega⟩ | exact ⟨Nat.succ_ne_zero _, rfl⟩ | omega)
    | (refine o_calm rfl TtOk rfl rfl rfl ?_ (fun _ => ?_); (show List.length _ + List.length _ ≤ 9223372036854775807; (try simp only [List.length_append, List.length_cons, List.length_nil]); omega))
    | refine o_eqNil TtOk rfl rfl rfl rfl rfl ?_
    | refine o_eqArr8 TtOk rfl rfl rfl rfl rfl rfl (by kernel_rfl) ?_
    | refine o_toBytes TtOk rfl rfl rfl rfl rfl rfl ?_
    | refine o_toString TtOk rfl rfl rfl rfl rfl (by first | exact True.intro | exact rfl) rfl rfl rfl rfl ?_
    | (refine o_call0 rfl (rhash_spec _ (by assumption)) ⟨SLe.of_eq rfl, True.intro⟩ rfl ?_; rintro _ _ ⟨rfl, rfl⟩; refine ⟨rfl, ?_⟩))
  rw [div32]
  have hg := div32_lt hH
  refine Awp.seqI (X := Unit) (fun _ => ⟨34, [(8, .i .u64 (oddUp (H / 4294967296) : Nat)), (7, .i .u64 H), (1, .i .i64 i), (2, .i .i64 n)], []⟩) (fun _ => True) ?_ (fun _ _ => ?_)
  · have hod : oddUp (H / 4294967296) = if H / 4294967296 % 2 = 0 then H / 4294967296 + 1 else H / 4294967296 := rfl
    generalize H / 4294967296 = g at hod hg ⊢
    have hm : (g : Int).tmod 2 = ((g % 2 : Nat) : Int) := by rw [Int.tmod_eq_emod_of_nonneg (by omega)]; rfl
    have hw : IntKind.u64.wrap ((g : Int) + 1) = ((g + 1 : Nat) : Int) := uwrap_lt (n := g + 1) (by omega)
    repeat' (first
      | refine Awp.seq ?_
      | refine Awp.block ?_
      | refine Awp.region ?_
      | (refine Ops.nil ?_; show Awp _ _ _ _ _)
      | (refine Ops.nil ?_; show Exists _)
      | (refine Ops.nil ?_; show endK _ _ _ _ _)
      | (refine Awp.skip ?_; show Awp _ _ _ _ _)
      | (refine Awp.skip ?_; show endK _ _ _ _ _)
      | (refine Awp.skip ?_; show Exists _)
      | (refine Awp.exit ?_; show Awp _ _ _ _ _)
      | (refine Awp.exit ?_; show Exists _)
      | (refine Awp.exit ?_; show endK _ _ _ _ _)
      | (refine Awp.ret ?_; show endK _ _ _ _ _)
      | (refine o_add rfl rfl rfl rfl ?_ ?_; omega)
      | (refine o_rem rfl rfl rfl rfl ?_ ?_ ?_; omega; omega)
      | refine o_convB rfl TtOk rfl rfl rfl rfl ?_
      | (refine o_conv64 rfl TtOk rfl rfl rfl rfl ?_ ?_; omega)
      | (refine o_calm rfl TtOk rfl rfl rfl ?_ (fun _ => ?_); first | exact True.intro | exact ⟨rfl, rfl, rfl, rfl⟩ | exact ⟨rfl, True.intro⟩ | exact ⟨rfl, rfl⟩ | exact ⟨rfl, rfl, rfl⟩ | exact rfl | exact ⟨fun h0 => by cases h0, rfl⟩ | exact (fun h0 => by cases h0) | exact ⟨rfl, by omega⟩ | exact ⟨Nat.succ_ne_zero _, rfl⟩ | omega)
      | (refine o_calm rfl TtOk rfl rfl rfl ?_ (fun _ => ?_); (show List.length _ + List.length _ ≤ 9223372036854775807; (try simp only [List.length_append, List.length_cons, List.length_nil]); omega))
      | refine o_eqNil TtOk rfl rfl rfl rfl rfl ?_
      | refine o_eqArr8 TtOk rfl rfl rfl rfl rfl rfl (by kernel_rfl) ?_
      | refine o_toBytes TtOk rfl rfl rfl rfl rfl rfl ?_
      | refine a_condT rfl ?_
      | refine a_condF rfl ?_
      | (refine a_condP rfl (fun hc => ?_) (fun hc => ?_)) <;> (try (exfalso; omega))
      | (refine a_condI rfl (fun hc => ?_) (fun hc => ?_)) <;> (try (exfalso; omega))
      | (refine a_condN rfl (fun hc => ?_) (fun hc => ?_)) <;> (try (exfalso; omega))
      | (refine Awp.cond rfl (fun hc => ?_) (fun hc => ?_))
      | refine o_toString TtOk rfl rfl rfl rfl rfl (by first | exact True.intro | exact rfl) rfl rfl rfl rfl ?_
      | (refine o_call0 rfl (rhash_spec _ (by assumption)) ⟨SLe.of_eq rfl, True.intro⟩ rfl ?_; rintro _ _ ⟨rfl, rfl⟩; refine ⟨rfl, ?_⟩))
    all_goals refine ⟨(), [], trivial, ?_⟩
    · refine ⟨rfl, ?_, ?_⟩ <;> repeat' (first
        | exact True.intro
        | refine sle_i ?_
        | refine sle_s ?_
        | refine sle_b ?_
        | refine sle_sl ?_
        | exact sle_ptr
        | exact sle_own
        | exact sle_nilown
        | exact SLe.any
        | exact HLe.nil
        | exact HOLe.refl _
        | refine HLe.same rfl ?_ ?_
        | refine HLe.none ?_
        | refine HOLe.row ?_
        | refine HOLe.var ?_
        | exact CLe.refl _
        | exact CLe.own
        | exact CLe.ptr
        | exact CLe.nilown
        | refine CLe.agg ?_
        | refine CLeL.cons ?_ ?_
        | exact CLeL.nil
        | with_reducible rfl
        | refine ⟨?_, ?_⟩
        | exact SLe.of_eq rfl)
      rw [hod, if_pos (by omega)]; exact hw
    · refine ⟨rfl, ?_, ?_⟩ <;> repeat' (first
        | exact True.intro
        | refine sle_i ?_
        | refine sle_s ?_
        | refine sle_b ?_
        | refine sle_sl ?_
        | exact sle_ptr
        | exact sle_own
        | exact sle_nilown
        | exact SLe.any
        | exact HLe.nil
        | exact HOLe.refl _
        | refine HLe.same rfl ?_ ?_
        | refine HLe.none ?_
        | refine HOLe.row ?_
        | refine HOLe.var ?_
        | exact CLe.refl _
        | exact CLe.own
        | exact CLe.ptr
        | exact CLe.nilown
        | refine CLe.agg ?_
        | refine CLeL.cons ?_ ?_
        | exact CLeL.nil
        | with_reducible rfl
        | refine ⟨?_, ?_⟩
        | exact SLe.of_eq rfl)
      rw [hod, if_neg (by omega)]
  have hw : ∀ k, IntKind.u64.wrap ((walkN H k : Nat) + (oddUp (H / 4294967296) : Nat) : Int) = (walkN H (k + 1) : Nat) := fun k => by
    rw [← Int.natCast_add, uwrap_nat]; rfl
  have hnw : IntKind.u64.wrap (n : Int) = n := uwrap_lt (by omega)
  generalize oddUp (H / 4294967296) = g at hw ⊢
  repeat' (first
    | refine Awp.seq ?_
    | refine Awp.block ?_
    | refine Awp.region ?_
    | (refine Ops.nil ?_; show Awp _ _ _ _ _)
    | (refine Ops.nil ?_; show Exists _)
    | (refine Ops.nil ?_; show endK _ _ _ _ _)
    | (refine Awp.skip ?_; show Awp _ _ _ _ _)
    | (refine Awp.skip ?_; show endK _ _ _ _ _)
    | (refine Awp.skip ?_; show Exists _)
    | (refine Awp.exit ?_; show Awp _ _ _ _ _)
    | (refine Awp.exit ?_; show Exists _)
    | (refine Awp.exit ?_; show endK _ _ _ _ _)
    | (refine Awp.ret ?_; show endK _ _ _ _ _)
    | (refine o_add rfl rfl rfl rfl ?_ ?_; omega)
    | (refine o_rem rfl rfl rfl rfl ?_ ?_ ?_; omega; omega)
    | refine o_convB rfl TtOk rfl rfl rfl rfl ?_
    | (refine o_conv64 rfl TtOk rfl rfl rfl rfl ?_ ?_; omega)
    | (refine o_calm rfl TtOk rfl rfl rfl ?_ (fun _ => ?_); first | exact True.intro | exact ⟨rfl, rfl, rfl, rfl⟩ | exact ⟨rfl, True.intro⟩ | exact ⟨rfl, rfl⟩ | exact ⟨rfl, rfl, rfl⟩ | exact rfl | exact ⟨fun h0 => by cases h0, rfl⟩ | exact (fun h0 => by cases h0) | exact ⟨rfl, by omega⟩ | exact ⟨Nat.succ_ne_zero _, rfl⟩ | omega)
    | (refine o_calm rfl TtOk rfl rfl rfl ?_ (fun _ => ?_); (show List.length _ + List.length _ ≤ 9223372036854775807; (try simp only [List.length_append, List.length_cons, List.length_nil]); omega))
    | refine o_eqNil TtOk rfl rfl rfl rfl rfl ?_
    | refine o_eqArr8 TtOk rfl rfl rfl rfl rfl rfl (by kernel_rfl) ?_
    | refine o_toBytes TtOk rfl rfl rfl rfl rfl rfl ?_
    | refine a_condT rfl ?_
    | refine a_condF rfl ?_
    | (refine a_condP rfl (fun hc => ?_) (fun hc => ?_)) <;> (try (exfalso; omega))
    | (refine a_condI rfl (fun hc => ?_) (fun hc => ?_)) <;> (try (exfalso; omega))
    | (refine a_condN rfl (fun hc => ?_) (fun hc => ?_)) <;> (try (exfalso; omega))
    | (refine Awp.cond rfl (fun hc => ?_) (fun hc => ?_))
    | refine o_toString TtOk rfl rfl rfl rfl rfl (by first | exact True.intro | exact rfl) rfl rfl rfl rfl ?_
    | (refine o_call0 rfl (rhash_spec _ (by assumption)) ⟨SLe.of_eq rfl, True.intro⟩ rfl ?_; rintro _ _ ⟨rfl, rfl⟩; refine ⟨rfl, ?_⟩))
  refine Awp.loop (fun k : Nat => ⟨34, [(10, .i .i64 k), (9, .i .u64 (walkN H k : Nat)), (8, .i .u64 g), (1, .i .i64 i), (2, .i .i64 n)], []⟩) (fun k => k ≤ i) (fun k => i - k) [] 0 (Nat.zero_le _) ?_ ?_
  · refine ⟨rfl, ?_, ?_⟩ <;> repeat' (first
      | exact True.intro
      | refine sle_i ?_
      | refine sle_s ?_
      | refine sle_b ?_
      | refine sle_sl ?_
      | exact sle_ptr
      | exact sle_own
      | exact sle_nilown
      | exact SLe.any
      | exact HLe.nil
      | exact HOLe.refl _
      | refine HLe.same rfl ?_ ?_
      | refine HLe.none ?_
      | refine HOLe.row ?_
      | refine HOLe.var ?_
      | exact CLe.refl _
      | exact CLe.own
      | exact CLe.ptr
      | exact CLe.nilown
      | refine CLe.agg ?_
      | refine CLeL.cons ?_ ?_
      | exact CLeL.nil
      | with_reducible rfl
      | refine ⟨?_, ?_⟩
      | exact SLe.of_eq rfl)
    all_goals rfl
  rintro k hk
  have hwk := hw k
  have hfin : ((walkN H k : Nat) : Int).tmod (n : Int) = ((walkN H k % n : Nat) : Int) := by rw [Int.tmod_eq_emod_of_nonneg (by omega)]; rfl
  have hlt : walkN H k % n < n := Nat.mod_lt _ hn
  have hki : k = i → walkN H k % n = walkN H i % n := fun h => by rw [h]
  generalize walkN H k = x at hwk hfin hlt hki ⊢
  generalize walkN H i = y at hki hpl ⊢
  repeat' (first
    | refine Awp.seq ?_
    | refine Awp.block ?_
    | refine Awp.region ?_
    | (refine Ops.nil ?_; show Awp _ _ _ _ _)
    | (refine Ops.nil ?_; show Exists _)
    | (refine Ops.nil ?_; show endK _ _ _ _ _)
    | (refine Awp.skip ?_; show Awp _ _ _ _ _)
    | (refine Awp.skip ?_; show endK _ _ _ _ _)
    | (refine Awp.skip ?_; show Exists _)
    | (refine Awp.exit ?_; show Awp _ _ _ _ _)
    | (refine Awp.exit ?_; show Exists _)
    | (refine Awp.exit ?_; show endK _ _ _ _ _)
    | (refine Awp.ret ?_; show endK _ _ _ _ _)
    | (refine o_add rfl rfl rfl rfl ?_ ?_; omega)
    | (refine o_rem rfl rfl rfl rfl ?_ ?_ ?_; omega; omega)
    | refine o_convB rfl TtOk rfl rfl rfl rfl ?_
    | (refine o_calm rfl TtOk rfl rfl rfl ?_ (fun _ => ?_); first | exact True.intro | exact ⟨rfl, rfl, rfl, rfl⟩ | exact ⟨rfl, True.intro⟩ | exact ⟨rfl, rfl⟩ | exact ⟨rfl, rfl, rfl⟩ | exact rfl | exact ⟨fun h0 => by cases h0, rfl⟩ | exact (fun h0 => by cases h0) | exact ⟨rfl, by omega⟩ | exact ⟨Nat.succ_ne_zero _, rfl⟩ | omega)
    | (refine o_calm rfl TtOk rfl rfl rfl ?_ (fun _ => ?_); (show List.length _ + List.length _ ≤ 9223372036854775807; (try simp only [List.length_append, List.length_cons, List.length_nil]); omega))
    | refine o_eqNil TtOk rfl rfl rfl rfl rfl ?_
    | refine o_eqArr8 TtOk rfl rfl rfl rfl rfl rfl (by kernel_rfl) ?_
    | refine o_toBytes TtOk rfl rfl rfl rfl rfl rfl ?_
    | refine a_condT rfl ?_
    | refine a_condF rfl ?_
    | (refine a_condP rfl (fun hc => ?_) (fun hc => ?_)) <;> (try (exfalso; omega))
    | (refine a_condI rfl (fun hc => ?_) (fun hc => ?_)) <;> (try (exfalso; omega))
    | (refine a_condN rfl (fun hc => ?_) (fun hc => ?_)) <;> (try (exfalso; omega))
    | (refine Awp.cond rfl (fun hc => ?_) (fun hc => ?_))
    | refine o_toString TtOk rfl rfl rfl rfl rfl (by first | exact True.intro | exact rfl) rfl rfl rfl rfl ?_
    | (refine o_call0 rfl (rhash_spec _ (by assumption)) ⟨SLe.of_eq rfl, True.intro⟩ rfl ?_; rintro _ _ ⟨rfl, rfl⟩; refine ⟨rfl, ?_⟩))
  · refine ⟨k + 1, [], by omega, by omega, ?_⟩
    refine ⟨rfl, ?_, ?_⟩ <;> repeat' (first
      | exact True.intro
      | refine sle_i ?_
      | refine sle_s ?_
      | refine sle_b ?_
      | refine sle_sl ?_
      | exact sle_ptr
      | exact sle_own
      | exact sle_nilown
      | exact SLe.any
      | exact HLe.nil
      | exact HOLe.refl _
      | refine HLe.same rfl ?_ ?_
      | refine HLe.none ?_
      | refine HOLe.row ?_
      | refine HOLe.var ?_
      | exact CLe.refl _
      | exact CLe.own
      | exact CLe.ptr
      | exact CLe.nilown
      | refine CLe.agg ?_
      | refine CLeL.cons ?_ ?_
      | exact CLeL.nil
      | with_reducible rfl
      | refine ⟨?_, ?_⟩
      | exact SLe.of_eq rfl)
    all_goals first | exact hwk | omega
  · refine end_tmp rfl rfl rfl [] [] (CLe.of_eq ?_) .nil ⟨rfl, rfl⟩ _ (.inl rfl)
    refine congrArg (AV.i .i64) ?_
    show IntKind.i64.wrap ((x : Int).tmod (IntKind.u64.wrap n)) = _
    rw [hnw, hfin, iwrap_lt (by omega), hki (by omega)]
/-- A filter's read-only form. -/
def flA (p : Int) (b : List UInt8) : AV := .agg [.i .i64 p, .sl 1 (b.map byA)]
def ptA (x : Nat) : AV := .i .i64 x
theorem plc_eq {H i n : Nat} (hH : H < 18446744073709551616) (hi : i ≤ 1000000000000) : ∀ z : Int, z = n → (IntKind.u64.wrap ((H : Int) + IntKind.u64.wrap (IntKind.u64.wrap (i : Int) * bitsI .or .u64 ((H : Int).fdiv (2 ^ (min (Int.toNat 32) (IntKind.bits .u64)))) 1))).tmod z = (placeN H i n : Nat) := by
  rintro _ rfl
  have hg := div32_lt hH
  have ho : H / 4294967296 ||| 1 = oddUp (H / 4294967296) := or_one _
  rw [div32, uwrap_lt (n := i) (by omega), show (1 : Int) = ((1 : Nat) : Int) from rfl, or64 (by omega) (by decide), ho, ← Int.natCast_mul, uwrap_nat, ← Int.natCast_add, uwrap_nat, Nat.add_mod_mod, Int.tmod_eq_emod_of_nonneg (by omega), ← Int.natCast_emod]
  rfl
theorem places_spec (p : Nat) (b s : List UInt8) (hs : s.length ≤ 1000000000000) (hp : p ≤ 1000000) (hb : 0 < b.length) (hb2 : b.length ≤ 1000000000) : Spec Try.prog 71 [flA (p : Nat) b, .s s] [] (fun v os => ∃ r, v = .own 0 r ∧ os = [.row r 3 1 ((placesN (hashN s) p (8 * b.length)).map ptA)]) := by
  refine spec_of TtOk [] Try.func71 rfl Try.ntmps71 (by kernel_rfl) rfl rfl (fun C => ?_) rfl
  unfold flA
  have hH := hashN_lt s
  repeat' (first
    | refine Awp.seq ?_
    | refine Awp.block ?_
    | refine Awp.region ?_
    | (refine Ops.nil ?_; show Awp _ _ _ _ _)
    | (refine Ops.nil ?_; show Exists _)
    | (refine Ops.nil ?_; show endK _ _ _ _ _)
    | (refine Awp.skip ?_; show Awp _ _ _ _ _)
    | (refine Awp.skip ?_; show endK _ _ _ _ _)
    | (refine Awp.skip ?_; show Exists _)
    | (refine Awp.exit ?_; show Awp _ _ _ _ _)
    | (refine Awp.exit ?_; show Exists _)
    | (refine Awp.exit ?_; show endK _ _ _ _ _)
    | (refine Awp.ret ?_; show endK _ _ _ _ _)
    | (refine o_add rfl rfl rfl rfl ?_ ?_; omega)
    | (refine o_mul rfl rfl rfl rfl ?_ ?_; omega)
    | (refine o_rem rfl rfl rfl rfl ?_ ?_ ?_; omega; omega)
    | refine o_len rfl TtOk rfl rfl rfl (fun _ => ?_)
    | refine o_lenOwn rfl TtOk rfl rfl rfl rfl (fun _ => ?_)
    | refine o_convB rfl TtOk rfl rfl rfl rfl ?_
    | (refine o_conv64 rfl TtOk rfl rfl rfl rfl ?_ ?_; omega)
    | (refine o_calm rfl TtOk rfl rfl rfl ?_ (fun _ => ?_); first | exact True.intro | exact ⟨rfl, rfl, rfl, rfl⟩ | exact ⟨rfl, True.intro⟩ | exact ⟨rfl, rfl⟩ | exact ⟨rfl, rfl, rfl⟩ | exact rfl | exact ⟨fun h0 => by cases h0, rfl⟩ | exact (fun h0 => by cases h0) | exact ⟨rfl, by omega⟩ | exact ⟨Nat.succ_ne_zero _, rfl⟩ | omega)
    | refine o_box rfl rfl rfl rfl (fun bB => ?_)
    | (refine o_calm rfl TtOk rfl rfl rfl ?_ (fun _ => ?_); (show List.length _ + List.length _ ≤ 9223372036854775807; (try simp only [List.length_append, List.length_cons, List.length_nil]); omega))
    | refine o_buildSlice TtOk rfl rfl rfl rfl rfl rfl rfl rfl rfl rfl rfl (by repeat' (first | exact True.intro | exact rfl | refine ⟨?_, ?_⟩)) (fun _ => ?_)
    | (refine o_append TtOk rfl rfl rfl rfl rfl rfl rfl rfl rfl (by first | exact True.intro | exact rfl) rfl rfl (fun _ => rfl) ?_ ?_ (fun _ => ?_); (simp only [List.length_map, List.length_cons, List.length_nil, List.length_append, List.length_take, List.length_drop]; omega); (simp only [List.length_map, List.length_cons, List.length_nil, List.length_append, List.length_take, List.length_drop]; omega))
    | (refine o_appendStr TtOk rfl rfl rfl rfl rfl rfl rfl rfl rfl (fun _ => rfl) ?_ (fun _ => ?_); (simp only [List.length_map, List.length_cons, List.length_nil, List.length_append, List.length_take, List.length_drop]; omega))
    | refine o_toBytes TtOk rfl rfl rfl rfl rfl rfl ?_
    | refine a_condT rfl ?_
    | refine a_condF rfl ?_
    | (refine a_condP rfl (fun hc => ?_) (fun hc => ?_)) <;> (try (exfalso; omega))
    | (refine a_condI rfl (fun hc => ?_) (fun hc => ?_)) <;> (try (exfalso; omega))
    | (refine a_condN rfl (fun hc => ?_) (fun hc => ?_)) <;> (try (exfalso; omega))
    | (refine Awp.cond rfl (fun hc => ?_) (fun hc => ?_))
    | refine o_toString TtOk rfl rfl rfl rfl rfl (by first | exact True.intro | exact rfl) rfl rfl rfl rfl ?_
    | refine a_any 1 [] [] [] [0, 2, 3, 4, 5, 6, 1, 7, 8] (by kernel_rfl) (by kernel_rfl) (by kernel_rfl) rfl rfl rfl ?_
    | (refine o_call0 rfl (hash_spec _ (by assumption)) ⟨SLe.of_eq rfl, True.intro⟩ rfl ?_; rintro _ _ ⟨rfl, rfl⟩; refine ⟨rfl, ?_⟩))
  have hsz := uwrap_lt (n := 8 * b.length) (by omega)
  have hsz2 : IntKind.u64.wrap (8 * (b.length : Int)) = ((8 * b.length : Nat) : Int) := by rw [← hsz, Int.natCast_mul]; rfl
  have hpl := fun k (hk : k ≤ 1000000000000) => plc_eq (n := 8 * b.length) hH hk _ hsz2
  have hlt : ∀ k, placeN (hashN s) k (8 * b.length) < 8 * b.length := fun k => Nat.mod_lt _ (by omega)
  have hsu := fun k => placesN_succ (hashN s) k (8 * b.length)
  refine Awp.loop (fun q : Nat × Value => ⟨37, [(18, .i .i64 q.1), (17, .i .i64 p), (7, .own 7 q.2), (6, .i .u64 (IntKind.u64.wrap (8 * b.length))), (5, .i .u64 (hashN s : Nat))], [(7, .row q.2 3 1 ((placesN (hashN s) q.1 (8 * b.length)).map ptA))]⟩) (fun q => q.1 ≤ p) (fun q => p - q.1) [] (0, .slice none 0 0) (Nat.zero_le _) ?_ ?_
  · refine ⟨rfl, ⟨sle_i rfl, sle_i rfl, sle_nilown, sle_i rfl, sle_i rfl, True.intro⟩, ?_⟩
    exact HLe.none .nil
  rintro ⟨k, v⟩ hk
  dsimp only at hk ⊢
  have hplk := hpl k (by omega)
  have hltk := hlt k
  have hsuk := hsu k
  have hlen := placesN_len (hashN s) k (8 * b.length)
  have hpe : k = p → placesN (hashN s) p (8 * b.length) = placesN (hashN s) k (8 * b.length) := fun h => by rw [h]
  generalize placesN (hashN s) k (8 * b.length) = ps at hsuk hlen hpe ⊢
  generalize hashN s = H at hplk hltk hsuk hpe ⊢
  repeat' (first
    | refine Awp.seq ?_
    | refine Awp.block ?_
    | refine Awp.region ?_
    | (refine Ops.nil ?_; show Awp _ _ _ _ _)
    | (refine Ops.nil ?_; show Exists _)
    | (refine Ops.nil ?_; show endK _ _ _ _ _)
    | (refine Awp.skip ?_; show Awp _ _ _ _ _)
    | (refine Awp.skip ?_; show endK _ _ _ _ _)
    | (refine Awp.skip ?_; show Exists _)
    | (refine Awp.exit ?_; show Awp _ _ _ _ _)
    | (refine Awp.exit ?_; show Exists _)
    | (refine Awp.exit ?_; show endK _ _ _ _ _)
    | (refine Awp.ret ?_; show endK _ _ _ _ _)
    | (refine o_add rfl rfl rfl rfl ?_ ?_; omega)
    | (refine o_mul rfl rfl rfl rfl ?_ ?_; omega)
    | (refine o_rem rfl rfl rfl rfl ?_ ?_ ?_; omega; omega)
    | refine o_len rfl TtOk rfl rfl rfl (fun _ => ?_)
    | refine o_lenOwn rfl TtOk rfl rfl rfl rfl (fun _ => ?_)
    | refine o_convB rfl TtOk rfl rfl rfl rfl ?_
    | (refine o_calm rfl TtOk rfl rfl rfl ?_ (fun _ => ?_); first | exact True.intro | exact ⟨rfl, rfl, rfl, rfl⟩ | exact ⟨rfl, True.intro⟩ | exact ⟨rfl, rfl⟩ | exact ⟨rfl, rfl, rfl⟩ | exact rfl | exact ⟨fun h0 => by cases h0, rfl⟩ | exact (fun h0 => by cases h0) | exact ⟨rfl, by omega⟩ | exact ⟨Nat.succ_ne_zero _, rfl⟩ | omega)
    | refine o_box rfl rfl rfl rfl (fun _ => ?_)
    | (refine o_calm rfl TtOk rfl rfl rfl ?_ (fun _ => ?_); (show List.length _ + List.length _ ≤ 9223372036854775807; (try simp only [List.length_append, List.length_cons, List.length_nil]); omega))
    | refine o_buildSlice TtOk rfl rfl rfl rfl rfl rfl rfl rfl rfl rfl rfl (by repeat' (first | exact True.intro | exact rfl | refine ⟨?_, ?_⟩)) (fun _ => ?_)
    | (refine o_append TtOk rfl rfl rfl rfl rfl rfl rfl rfl rfl (by first | exact True.intro | exact rfl) rfl rfl (fun _ => rfl) ?_ ?_ (fun _ => ?_); (simp only [List.length_map, List.length_cons, List.length_nil, List.length_append, List.length_take, List.length_drop]; omega); (simp only [List.length_map, List.length_cons, List.length_nil, List.length_append, List.length_take, List.length_drop]; omega))
    | (refine o_appendStr TtOk rfl rfl rfl rfl rfl rfl rfl rfl rfl (fun _ => rfl) ?_ (fun _ => ?_); (simp only [List.length_map, List.length_cons, List.length_nil, List.length_append, List.length_take, List.length_drop]; omega))
    | refine o_toBytes TtOk rfl rfl rfl rfl rfl rfl ?_
    | refine a_condT rfl ?_
    | refine a_condF rfl ?_
    | (refine a_condP rfl (fun hc => ?_) (fun hc => ?_)) <;> (try (exfalso; omega))
    | (refine a_condI rfl (fun hc => ?_) (fun hc => ?_)) <;> (try (exfalso; omega))
    | (refine a_condN rfl (fun hc => ?_) (fun hc => ?_)) <;> (try (exfalso; omega))
    | (refine Awp.cond rfl (fun hc => ?_) (fun hc => ?_))
    | refine o_toString TtOk rfl rfl rfl rfl rfl (by first | exact True.intro | exact rfl) rfl rfl rfl rfl ?_
    | refine a_any 1 [] [] [] [0, 2, 3, 4, 5, 6, 1, 7, 8] (by kernel_rfl) (by kernel_rfl) (by kernel_rfl) rfl rfl rfl ?_
    | (refine o_call0 rfl (hash_spec _ (by assumption)) ⟨SLe.of_eq rfl, True.intro⟩ rfl ?_; rintro _ _ ⟨rfl, rfl⟩; refine ⟨rfl, ?_⟩))
  · refine ⟨(k + 1, _), [], by show k + 1 ≤ p; omega, by show p - (k + 1) < p - k; omega, rfl, ⟨sle_i (by omega), sle_i rfl, sle_own, sle_i rfl, sle_i rfl, True.intro⟩, HLe.cons 7 rfl ?_ .nil⟩
    show HOLe _ (HO.row _ _ _ (List.map ptA ps ++ [AV.i .i64 (IntKind.i64.wrap _)])) _
    rw [hplk, iwrap_lt (by omega), hsuk, List.map_append]
    exact HOLe.refl _
  · have hkp : k = p := by omega
    have hps : placesN H p (8 * b.length) = ps := hpe hkp
    refine end_tmp (r := .own 0 v) rfl rfl rfl [] [(0, .row v 3 1 (ps.map ptA))] CLe.own (HLe.cons 7 rfl (HOLe.refl _) .nil) ⟨v, rfl, by rw [hps]; rfl⟩ _ (.inl rfl)
end Go.Proofs.Ytcnkmfmdadmaaaa
