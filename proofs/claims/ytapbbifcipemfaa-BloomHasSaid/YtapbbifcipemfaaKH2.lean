/- ref08.Place, bloom.Filter.places by rules. -/
import Derived.Test.YtapbbifcipemfaaKH
import Derived.Test.YtapbbifcipemfaaHP
set_option maxHeartbeats 4000000
namespace Go.Proofs.Ytapbbifcipemfaa
open Go Go.RowKit
theorem oddUp_lt {g : Nat} (h : g < 4294967296) : oddUp g < 8589934592 := by unfold oddUp; split <;> omega
theorem div32 (H : Nat) : (H : Int).fdiv (2 ^ (min (Int.toNat 32) (IntKind.bits .u64))) = ((H / 4294967296 : Nat) : Int) := shr64 H (k := 32) (by decide)
theorem div32_lt {H : Nat} (h : H < 18446744073709551616) : H / 4294967296 < 4294967296 := by omega
/-- A filter's read-only form. -/
def flA (p : Int) (b : List UInt8) : AV := .agg [.i .i64 p, .sl 1 (b.map byA)]
def ptA (x : Nat) : AV := .i .i64 x
theorem plc_eq {H i n : Nat} (hH : H < 18446744073709551616) (hi : i ≤ 1000000000000) : ∀ z : Int, z = n → (IntKind.u64.wrap ((H : Int) + IntKind.u64.wrap (IntKind.u64.wrap (i : Int) * bitsI .or .u64 ((H : Int).fdiv (2 ^ (min (Int.toNat 32) (IntKind.bits .u64)))) 1))).tmod z = (placeN H i n : Nat) := by
  rintro _ rfl
  have hg := div32_lt hH
  have ho : H / 4294967296 ||| 1 = oddUp (H / 4294967296) := or_one _
  rw [div32, uwrap_lt (n := i) (by omega), show (1 : Int) = ((1 : Nat) : Int) from rfl, or64 (by omega) (by decide), ho, ← Int.natCast_mul, uwrap_nat, ← Int.natCast_add, uwrap_nat, Nat.add_mod_mod, Int.tmod_eq_emod_of_nonneg (by omega), ← Int.natCast_emod]
  rfl
theorem places_spec (p : Nat) (b s : List UInt8) (hs : s.length ≤ 1000000000000) (hp : p ≤ 1000000) (hb : 0 < b.length) (hb2 : b.length ≤ 1000000000) : Spec Try.prog 43 [flA (p : Nat) b, .s s] [] (fun v os => ∃ r, v = .own 0 r ∧ os = [.row r 3 1 ((placesN (hashN s) p (8 * b.length)).map ptA)]) := by
  refine spec_of TtOk [] Try.func43 rfl Try.ntmps43 (by kernel_rfl) rfl rfl (fun C => ?_) rfl
  unfold flA
  have hH := hashN_lt s
  repeat' (first
    | refine Awp.seq ?_
    | refine Awp.block ?_
    | refine Awp.region ?_
    | (refine Ops.nil ?_; show Awp _ _ _ _ _)
    | (refine Ops.nil ?_; show Exists _)
    | (refine Ops.nil ?_; show endK _ _ _ _ _)
    | (refine Awp.skip ?_; show Awp _ _ _ _ _)
    | (refine Awp.skip ?_; show endK _ _ _ _ _)
    | (refine Awp.skip ?_; show Exists _)
    | (refine Awp.exit ?_; show Awp _ _ _ _ _)
    | (refine Awp.exit ?_; show Exists _)
    | (refine Awp.exit ?_; show endK _ _ _ _ _)
    | (refine Awp.ret ?_; show endK _ _ _ _ _)
    | (refine o_add rfl rfl rfl rfl ?_ ?_; omega)
    | (refine o_mul rfl rfl rfl rfl ?_ ?_; omega)
    | (refine o_rem rfl rfl rfl rfl ?_ ?_ ?_; omega; omega)
    | refine o_len rfl TtOk rfl rfl rfl (fun _ => ?_)
    | refine o_lenOwn rfl TtOk rfl rfl rfl rfl (fun _ => ?_)
    | refine o_convB rfl TtOk rfl rfl rfl rfl ?_
    | (refine o_conv64 rfl TtOk rfl rfl rfl rfl ?_ ?_; omega)
    | (refine o_calm rfl TtOk rfl rfl rfl ?_ (fun _ => ?_); first | exact True.intro | exact ⟨rfl, rfl, rfl, rfl⟩ | exact ⟨rfl, True.intro⟩ | exact ⟨rfl, rfl⟩ | exact ⟨rfl, rfl, rfl⟩ | exact rfl | exact ⟨fun h0 => by cases h0, rfl⟩ | exact (fun h0 => by cases h0) | exact ⟨rfl, by omega⟩ | exact ⟨Nat.succ_ne_zero _, rfl⟩ | omega)
    | refine o_box rfl rfl rfl rfl (fun bB => ?_)
    | (refine o_calm rfl TtOk rfl rfl rfl ?_ (fun _ => ?_); (show List.length _ + List.length _ ≤ 9223372036854775807; (try simp only [List.length_append, List.length_cons, List.length_nil]); omega))
    | refine o_buildSlice TtOk rfl rfl rfl rfl rfl rfl rfl rfl rfl rfl rfl (by repeat' (first | exact True.intro | exact rfl | refine ⟨?_, ?_⟩)) (fun _ => ?_)
    | (refine o_append TtOk rfl rfl rfl rfl rfl rfl rfl rfl rfl (by first | exact True.intro | exact rfl) rfl rfl (fun _ => rfl) ?_ ?_ (fun _ => ?_); (simp only [List.length_map, List.length_cons, List.length_nil, List.length_append, List.length_take, List.length_drop]; omega); (simp only [List.length_map, List.length_cons, List.length_nil, List.length_append, List.length_take, List.length_drop]; omega))
    | (refine o_appendStr TtOk rfl rfl rfl rfl rfl rfl rfl rfl rfl (fun _ => rfl) ?_ (fun _ => ?_); (simp only [List.length_map, List.length_cons, List.length_nil, List.length_append, List.length_take, List.length_drop]; omega))
    | refine o_toBytes TtOk rfl rfl rfl rfl rfl rfl ?_
    | refine a_condT rfl ?_
    | refine a_condF rfl ?_
    | (refine a_condP rfl (fun hc => ?_) (fun hc => ?_)) <;> (try (exfalso; omega))
    | (refine a_condI rfl (fun hc => ?_) (fun hc => ?_)) <;> (try (exfalso; omega))
    | (refine a_condN rfl (fun hc => ?_) (fun hc => ?_)) <;> (try (exfalso; omega))
    | (refine Awp.cond rfl (fun hc => ?_) (fun hc => ?_))
    | refine o_toString TtOk rfl rfl rfl rfl rfl (by first | exact True.intro | exact rfl) rfl rfl rfl rfl ?_
    | refine a_any 1 [] [] [] [0, 2, 3, 4, 5, 6, 1, 7, 8] (by kernel_rfl) (by kernel_rfl) (by kernel_rfl) rfl rfl rfl ?_
    | (refine o_call0 rfl (hash_spec _ (by assumption)) ⟨SLe.of_eq rfl, True.intro⟩ rfl ?_; rintro _ _ ⟨rfl, rfl⟩; refine ⟨rfl, ?_⟩))
  have hsz := uwrap_lt (n := 8 * b.length) (by omega)
  have hsz2 : IntKind.u64.wrap (8 * (b.length : Int)) = ((8 * b.length : Nat) : Int) := by rw [← hsz, Int.natCast_mul]; rfl
  have hpl := fun k (hk : k ≤ 1000000000000) => plc_eq (n := 8 * b.length) hH hk _ hsz2
  have hlt : ∀ k, placeN (hashN s) k (8 * b.length) < 8 * b.length := fun k => Nat.mod_lt _ (by omega)
  have hsu := fun k => placesN_succ (hashN s) k (8 * b.length)
  refine Awp.loop (fun q : Nat × Value => ⟨37, [(18, .i .i64 q.1), (17, .i .i64 p), (7, .own 7 q.2), (6, .i .u64 (IntKind.u64.wrap (8 * b.length))), (5, .i .u64 (hashN s : Nat))], [(7, .row q.2 3 1 ((placesN (hashN s) q.1 (8 * b.length)).map ptA))]⟩) (fun q => q.1 ≤ p) (fun q => p - q.1) [] (0, .slice none 0 0) (Nat.zero_le _) ?_ ?_
  · refine ⟨rfl, ⟨sle_i rfl, sle_i rfl, sle_nilown, sle_i rfl, sle_i rfl, True.intro⟩, ?_⟩
    exact HLe.none .nil
  rintro ⟨k, v⟩ hk
  dsimp only at hk ⊢
  have hplk := hpl k (by omega)
  have hltk := hlt k
  have hsuk := hsu k
  have hlen := placesN_len (hashN s) k (8 * b.length)
  have hpe : k = p → placesN (hashN s) p (8 * b.length) = placesN (hashN s) k (8 * b.length) := fun h => by rw [h]
  generalize placesN (hashN s) k (8 * b.length) = ps at hsuk hlen hpe ⊢
  generalize hashN s = H at hplk hltk hsuk hpe ⊢
  repeat' (first
    | refine Awp.seq ?_
    | refine Awp.block ?_
    | refine Awp.region ?_
    | (refine Ops.nil ?_; show Awp _ _ _ _ _)
    | (refine Ops.nil ?_; show Exists _)
    | (refine Ops.nil ?_; show endK _ _ _ _ _)
    | (refine Awp.skip ?_; show Awp _ _ _ _ _)
    | (refine Awp.skip ?_; show endK _ _ _ _ _)
    | (refine Awp.skip ?_; show Exists _)
    | (refine Awp.exit ?_; show Awp _ _ _ _ _)
    | (refine Awp.exit ?_; show Exists _)
    | (refine Awp.exit ?_; show endK _ _ _ _ _)
    | (refine Awp.ret ?_; show endK _ _ _ _ _)
    | (refine o_add rfl rfl rfl rfl ?_ ?_; omega)
    | (refine o_mul rfl rfl rfl rfl ?_ ?_; omega)
    | (refine o_rem rfl rfl rfl rfl ?_ ?_ ?_; omega; omega)
    | refine o_len rfl TtOk rfl rfl rfl (fun _ => ?_)
    | refine o_lenOwn rfl TtOk rfl rfl rfl rfl (fun _ => ?_)
    | refine o_convB rfl TtOk rfl rfl rfl rfl ?_
    | (refine o_calm rfl TtOk rfl rfl rfl ?_ (fun _ => ?_); first | exact True.intro | exact ⟨rfl, rfl, rfl, rfl⟩ | exact ⟨rfl, True.intro⟩ | exact ⟨rfl, rfl⟩ | exact ⟨rfl, rfl, rfl⟩ | exact rfl | exact ⟨fun h0 => by cases h0, rfl⟩ | exact (fun h0 => by cases h0) | exact ⟨rfl, by omega⟩ | exact ⟨Nat.succ_ne_zero _, rfl⟩ | omega)
    | refine o_box rfl rfl rfl rfl (fun _ => ?_)
    | (refine o_calm rfl TtOk rfl rfl rfl ?_ (fun _ => ?_); (show List.length _ + List.length _ ≤ 9223372036854775807; (try simp only [List.length_append, List.length_cons, List.length_nil]); omega))
    | refine o_buildSlice TtOk rfl rfl rfl rfl rfl rfl rfl rfl rfl rfl rfl (by repeat' (first | exact True.intro | exact rfl | refine ⟨?_, ?_⟩)) (fun _ => ?_)
    | (refine o_append TtOk rfl rfl rfl rfl rfl rfl rfl rfl rfl (by first | exact True.intro | exact rfl) rfl rfl (fun _ => rfl) ?_ ?_ (fun _ => ?_); (simp only [List.length_map, List.length_cons, List.length_nil, List.length_append, List.length_take, List.length_drop]; omega); (simp only [List.length_map, List.length_cons, List.length_nil, List.length_append, List.length_take, List.length_drop]; omega))
    | (refine o_appendStr TtOk rfl rfl rfl rfl rfl rfl rfl rfl rfl (fun _ => rfl) ?_ (fun _ => ?_); (simp only [List.length_map, List.length_cons, List.length_nil, List.length_append, List.length_take, List.length_drop]; omega))
    | refine o_toBytes TtOk rfl rfl rfl rfl rfl rfl ?_
    | refine a_condT rfl ?_
    | refine a_condF rfl ?_
    | (refine a_condP rfl (fun hc => ?_) (fun hc => ?_)) <;> (try (exfalso; omega))
    | (refine a_condI rfl (fun hc => ?_) (fun hc => ?_)) <;> (try (exfalso; omega))
    | (refine a_condN rfl (fun hc => ?_) (fun hc => ?_)) <;> (try (exfalso; omega))
    | (refine Awp.cond rfl (fun hc => ?_) (fun hc => ?_))
    | refine o_toString TtOk rfl rfl rfl rfl rfl (by first | exact True.intro | exact rfl) rfl rfl rfl rfl ?_
    | refine a_any 1 [] [] [] [0, 2, 3, 4, 5, 6, 1, 7, 8] (by kernel_rfl) (by kernel_rfl) (by kernel_rfl) rfl rfl rfl ?_
    | (refine o_call0 rfl (hash_spec _ (by assumption)) ⟨SLe.of_eq rfl, True.intro⟩ rfl ?_; rintro _ _ ⟨rfl, rfl⟩; refine ⟨rfl, ?_⟩))
  · refine ⟨(k + 1, _), [], by show k + 1 ≤ p; omega, by show p - (k + 1) < p - k; omega, rfl, ⟨sle_i (by omega), sle_i rfl, sle_own, sle_i rfl, sle_i rfl, True.intro⟩, HLe.cons 7 rfl ?_ .nil⟩
    show HOLe _ (HO.row _ _ _ (List.map ptA ps ++ [AV.i .i64 (IntKind.i64.wrap _)])) _
    rw [hplk, iwrap_lt (by omega), hsuk, List.map_append]
    exact HOLe.refl _
  · have hkp : k = p := by omega
    have hps : placesN H p (8 * b.length) = ps := hpe hkp
    refine end_tmp (r := .own 0 v) rfl rfl rfl [] [(0, .row v 3 1 (ps.map ptA))] CLe.own (HLe.cons 7 rfl (HOLe.refl _) .nil) ⟨v, rfl, by rw [hps]; rfl⟩ _ (.inl rfl)
end Go.Proofs.Ytapbbifcipemfaa
