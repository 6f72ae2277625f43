/- ref08.Make by rules. -/
import Derived.Test.YtcnkmfmdadmaaaaKH5
set_option maxHeartbeats 4000000
namespace Go.Proofs.Ytcnkmfmdadmaaaa
open Go Go.RowKit
theorem rmake_spec (keys : List (List UInt8)) (e : Nat) (he : 1 ≤ e ∧ e ≤ 32) (hk : keys.length ≤ 2048) (hks : ∀ s ∈ keys, s.length ≤ 1000000000000) : Spec Try.prog 35 [.sl 1 (keys.map stA), .i .i64 e] [] (fun v os => v = rfA (pOf e : Nat) (bitsOf (mkF keys e)) ∧ os = []) := by
  have hF : bitsOf (mkF keys e) = mkB (pOf e) (8 * nbOf keys.length e) (keys.map hashN) (List.replicate (8 * nbOf keys.length e) false) := by
    unfold mkF; rw [mkBits_bits, bitsOf_zero, List.length_replicate]
  rw [hF]
  refine spec_of TtOk [] Try.func35 rfl Try.ntmps35 (by kernel_rfl) rfl rfl (fun C => ?_) rfl
  have hp1 : 0 ≤ (keys.length : Int) * (e : Int) := Int.mul_nonneg (by omega) (by omega)
  have hp2 : (keys.length : Int) * (e : Int) ≤ 65536 := by
    have h1 : keys.length * e ≤ 2048 * 32 := Nat.mul_le_mul hk he.2
    have h2 : ((keys.length * e : Nat) : Int) ≤ 65536 := by omega
    rw [Int.natCast_mul] at h2; exact h2
  have hN : ((keys.length : Int) * (e : Int) + 7) / 8 * 8 + 8 = ((8 * nbOf keys.length e : Nat) : Int) := by
    unfold nbOf; rw [← Int.natCast_mul]; omega
  have hn1 : 0 < nbOf keys.length e := by unfold nbOf; omega
  have hn2 : nbOf keys.length e ≤ 65536 := by unfold nbOf; rw [← Int.natCast_mul] at hp2; omega
  refine Awp.seq ?_
  repeat' (first
    | refine Awp.region ?_
    | (refine Ops.nil ?_; show Awp _ _ _ _ _)
    | (refine Ops.nil ?_; show Exists _)
    | (refine Ops.nil ?_; show endK _ _ _ _ _)
    | (refine Awp.skip ?_; show Awp _ _ _ _ _)
    | (refine Awp.skip ?_; show endK _ _ _ _ _)
    | (refine Awp.skip ?_; show Exists _)
    | (refine Awp.exit ?_; show Awp _ _ _ _ _)
    | (refine Awp.exit ?_; show Exists _)
    | (refine Awp.exit ?_; show endK _ _ _ _ _)
    | (refine Awp.ret ?_; show endK _ _ _ _ _)
    | (refine o_add rfl rfl rfl rfl ?_ ?_; omega)
    | (refine o_mul rfl rfl rfl rfl ?_ ?_; omega)
    | (refine o_quo rfl rfl rfl rfl ?_ ?_ ?_; omega; omega)
    | refine o_len rfl TtOk rfl rfl rfl (fun _ => ?_)
    | refine o_lenOwn rfl TtOk rfl rfl rfl rfl (fun _ => ?_)
    | (refine o_calm rfl TtOk rfl rfl rfl ?_ (fun _ => ?_); first | exact True.intro | exact ⟨rfl, rfl, rfl, rfl⟩ | exact ⟨rfl, True.intro⟩ | exact ⟨rfl, rfl⟩ | exact ⟨rfl, rfl, rfl⟩ | exact rfl | exact ⟨fun h0 => by cases h0, rfl⟩ | exact (fun h0 => by cases h0) | exact ⟨rfl, by omega⟩ | exact ⟨Nat.succ_ne_zero _, rfl⟩ | omega)
    | refine o_alloc (d := 4) rfl TtOk rfl rfl rfl (fun b4 => ?_)
    | refine o_alloc (d := 6) rfl TtOk rfl rfl rfl (fun b6 => ?_)
    | refine o_store TtOk rfl rfl rfl rfl rfl rfl rfl ⟨rfl, rfl⟩ rfl rfl rfl rfl rfl ?_
    | (refine o_index rfl TtOk rfl rfl rfl rfl rfl rfl ?_ (getq_nat ?_) ?_; omega; omega)
    | (refine o_indexOwn TtOk rfl rfl rfl rfl rfl rfl rfl rfl _ rfl ?_ (fun bO hbO => ?_); (simp only [List.length_map]; omega))
    | (refine o_loadRow TtOk rfl rfl rfl rfl rfl (by assumption) (getq_map (List.getElem?_eq_getElem ?_)) rfl rfl (by first | exact Nat.add_zero _ | rfl) ⟨rfl, rfl⟩ ?_; omega)
    | (refine o_calm rfl TtOk rfl rfl rfl ?_ (fun _ => ?_); (show List.length _ + List.length _ ≤ 9223372036854775807; (try simp only [List.length_append, List.length_cons, List.length_nil]); omega))
    | (refine o_storeRow TtOk rfl rfl rfl rfl rfl rfl (by assumption) (getq_map (List.getElem?_eq_getElem ?_)) rfl rfl (by first | exact Nat.add_zero _ | rfl) ⟨rfl, rfl⟩ rfl rfl ?_; omega)
    | refine o_build TtOk rfl rfl rfl rfl rfl rfl (by repeat' (first | exact True.intro | exact rfl | refine ⟨?_, ?_⟩)) ?_
    | refine o_buildArr0 TtOk rfl rfl rfl rfl ?_
    | refine o_eqNil TtOk rfl rfl rfl rfl rfl ?_
    | refine o_eqArr8 TtOk rfl rfl rfl rfl rfl rfl (by kernel_rfl) ?_
    | refine a_any 11 [] [] [] [0, 2, 3, 4, 1, 5, 6, 7] (by kernel_rfl) (by kernel_rfl) (by kernel_rfl) rfl rfl rfl ?_
    | (refine o_call0 rfl (place_spec _ (by assumption) _ _ (by first | assumption | omega) (by first | assumption | omega) (by first | assumption | omega)) ⟨SLe.of_eq rfl, SLe.of_eq rfl, SLe.of_eq rfl, True.intro⟩ rfl ?_; rintro _ _ ⟨rfl, rfl⟩; refine ⟨rfl, ?_⟩))
  refine Awp.seq ?_
  repeat' (first
    | refine Awp.region ?_
    | (refine Ops.nil ?_; show Awp _ _ _ _ _)
    | (refine Ops.nil ?_; show Exists _)
    | (refine Ops.nil ?_; show endK _ _ _ _ _)
    | (refine Awp.skip ?_; show Awp _ _ _ _ _)
    | (refine Awp.skip ?_; show endK _ _ _ _ _)
    | (refine Awp.skip ?_; show Exists _)
    | (refine Awp.exit ?_; show Awp _ _ _ _ _)
    | (refine Awp.exit ?_; show Exists _)
    | (refine Awp.exit ?_; show endK _ _ _ _ _)
    | (refine Awp.ret ?_; show endK _ _ _ _ _)
    | (refine o_add rfl rfl rfl rfl ?_ ?_; omega)
    | (refine o_mul rfl rfl rfl rfl ?_ ?_; omega)
    | (refine o_quo rfl rfl rfl rfl ?_ ?_ ?_; omega; omega)
    | refine o_len rfl TtOk rfl rfl rfl (fun _ => ?_)
    | refine o_lenOwn rfl TtOk rfl rfl rfl rfl (fun _ => ?_)
    | (refine o_calm rfl TtOk rfl rfl rfl ?_ (fun _ => ?_); first | exact True.intro | exact ⟨rfl, rfl, rfl, rfl⟩ | exact ⟨rfl, True.intro⟩ | exact ⟨rfl, rfl⟩ | exact ⟨rfl, rfl, rfl⟩ | exact rfl | exact ⟨fun h0 => by cases h0, rfl⟩ | exact (fun h0 => by cases h0) | exact ⟨rfl, by omega⟩ | exact ⟨Nat.succ_ne_zero _, rfl⟩ | omega)
    | refine o_alloc (d := 4) rfl TtOk rfl rfl rfl (fun b4 => ?_)
    | refine o_alloc (d := 6) rfl TtOk rfl rfl rfl (fun b6 => ?_)
    | refine o_store TtOk rfl rfl rfl rfl rfl rfl rfl ⟨rfl, rfl⟩ rfl rfl rfl rfl rfl ?_
    | (refine o_index rfl TtOk rfl rfl rfl rfl rfl rfl ?_ (getq_nat ?_) ?_; omega; omega)
    | (refine o_indexOwn TtOk rfl rfl rfl rfl rfl rfl rfl rfl _ rfl ?_ (fun bO hbO => ?_); (simp only [List.length_map]; omega))
    | (refine o_loadRow TtOk rfl rfl rfl rfl rfl (by assumption) (getq_map (List.getElem?_eq_getElem ?_)) rfl rfl (by first | exact Nat.add_zero _ | rfl) ⟨rfl, rfl⟩ ?_; omega)
    | (refine o_calm rfl TtOk rfl rfl rfl ?_ (fun _ => ?_); (show List.length _ + List.length _ ≤ 9223372036854775807; (try simp only [List.length_append, List.length_cons, List.length_nil]); omega))
    | (refine o_storeRow TtOk rfl rfl rfl rfl rfl rfl (by assumption) (getq_map (List.getElem?_eq_getElem ?_)) rfl rfl (by first | exact Nat.add_zero _ | rfl) ⟨rfl, rfl⟩ rfl rfl ?_; omega)
    | refine o_build TtOk rfl rfl rfl rfl rfl rfl (by repeat' (first | exact True.intro | exact rfl | refine ⟨?_, ?_⟩)) ?_
    | refine o_buildArr0 TtOk rfl rfl rfl rfl ?_
    | refine o_eqNil TtOk rfl rfl rfl rfl rfl ?_
    | refine o_eqArr8 TtOk rfl rfl rfl rfl rfl rfl (by kernel_rfl) ?_
    | refine a_any 11 [] [] [] [0, 2, 3, 4, 1, 5, 6, 7] (by kernel_rfl) (by kernel_rfl) (by kernel_rfl) rfl rfl rfl ?_
    | (refine o_call0 rfl (place_spec _ (by assumption) _ _ (by first | assumption | omega) (by first | assumption | omega) (by first | assumption | omega)) ⟨SLe.of_eq rfl, SLe.of_eq rfl, SLe.of_eq rfl, True.intro⟩ rfl ?_; rintro _ _ ⟨rfl, rfl⟩; refine ⟨rfl, ?_⟩))
  rw [hN]
  refine Awp.seq ?_
  repeat' (first
    | refine Awp.region ?_
    | (refine Ops.nil ?_; show Awp _ _ _ _ _)
    | (refine Ops.nil ?_; show Exists _)
    | (refine Ops.nil ?_; show endK _ _ _ _ _)
    | (refine Awp.skip ?_; show Awp _ _ _ _ _)
    | (refine Awp.skip ?_; show endK _ _ _ _ _)
    | (refine Awp.skip ?_; show Exists _)
    | (refine Awp.exit ?_; show Awp _ _ _ _ _)
    | (refine Awp.exit ?_; show Exists _)
    | (refine Awp.exit ?_; show endK _ _ _ _ _)
    | (refine Awp.ret ?_; show endK _ _ _ _ _)
    | (refine o_add rfl rfl rfl rfl ?_ ?_; omega)
    | (refine o_mul rfl rfl rfl rfl ?_ ?_; omega)
    | (refine o_quo rfl rfl rfl rfl ?_ ?_ ?_; omega; omega)
    | refine o_len rfl TtOk rfl rfl rfl (fun _ => ?_)
    | refine o_lenOwn rfl TtOk rfl rfl rfl rfl (fun _ => ?_)
    | (refine o_calm rfl TtOk rfl rfl rfl ?_ (fun _ => ?_); first | exact True.intro | exact ⟨rfl, rfl, rfl, rfl⟩ | exact ⟨rfl, True.intro⟩ | exact ⟨rfl, rfl⟩ | exact ⟨rfl, rfl, rfl⟩ | exact rfl | exact ⟨fun h0 => by cases h0, rfl⟩ | exact (fun h0 => by cases h0) | exact ⟨rfl, by omega⟩ | exact ⟨Nat.succ_ne_zero _, rfl⟩ | omega)
    | refine o_alloc (d := 4) rfl TtOk rfl rfl rfl (fun b4 => ?_)
    | refine o_alloc (d := 6) rfl TtOk rfl rfl rfl (fun b6 => ?_)
    | refine o_store TtOk rfl rfl rfl rfl rfl rfl rfl ⟨rfl, rfl⟩ rfl rfl rfl rfl rfl ?_
    | (refine o_index rfl TtOk rfl rfl rfl rfl rfl rfl ?_ (getq_nat ?_) ?_; omega; omega)
    | (refine o_indexOwn TtOk rfl rfl rfl rfl rfl rfl rfl rfl _ rfl ?_ (fun bO hbO => ?_); (simp only [List.length_map]; omega))
    | (refine o_loadRow TtOk rfl rfl rfl rfl rfl (by assumption) (getq_map (List.getElem?_eq_getElem ?_)) rfl rfl (by first | exact Nat.add_zero _ | rfl) ⟨rfl, rfl⟩ ?_; omega)
    | (refine o_calm rfl TtOk rfl rfl rfl ?_ (fun _ => ?_); (show List.length _ + List.length _ ≤ 9223372036854775807; (try simp only [List.length_append, List.length_cons, List.length_nil]); omega))
    | (refine o_storeRow TtOk rfl rfl rfl rfl rfl rfl (by assumption) (getq_map (List.getElem?_eq_getElem ?_)) rfl rfl (by first | exact Nat.add_zero _ | rfl) ⟨rfl, rfl⟩ rfl rfl ?_; omega)
    | refine o_build TtOk rfl rfl rfl rfl rfl rfl (by repeat' (first | exact True.intro | exact rfl | refine ⟨?_, ?_⟩)) ?_
    | refine o_buildArr0 TtOk rfl rfl rfl rfl ?_
    | refine o_eqNil TtOk rfl rfl rfl rfl rfl ?_
    | refine o_eqArr8 TtOk rfl rfl rfl rfl rfl rfl (by kernel_rfl) ?_
    | refine a_any 11 [] [] [] [0, 2, 3, 4, 1, 5, 6, 7] (by kernel_rfl) (by kernel_rfl) (by kernel_rfl) rfl rfl rfl ?_
    | (refine o_call0 rfl (place_spec _ (by assumption) _ _ (by first | assumption | omega) (by first | assumption | omega) (by first | assumption | omega)) ⟨SLe.of_eq rfl, SLe.of_eq rfl, SLe.of_eq rfl, True.intro⟩ rfl ?_; rintro _ _ ⟨rfl, rfl⟩; refine ⟨rfl, ?_⟩))
  refine o_makeSlice TtOk rfl rfl rfl rfl rfl rfl rfl rfl rfl (8 * nbOf keys.length e) rfl rfl ?_ ?_ (fun v22 => ?_)
  · omega
  · omega
  repeat' (first
    | refine Awp.region ?_
    | (refine Ops.nil ?_; show Awp _ _ _ _ _)
    | (refine Ops.nil ?_; show Exists _)
    | (refine Ops.nil ?_; show endK _ _ _ _ _)
    | (refine Awp.skip ?_; show Awp _ _ _ _ _)
    | (refine Awp.skip ?_; show endK _ _ _ _ _)
    | (refine Awp.skip ?_; show Exists _)
    | (refine Awp.exit ?_; show Awp _ _ _ _ _)
    | (refine Awp.exit ?_; show Exists _)
    | (refine Awp.exit ?_; show endK _ _ _ _ _)
    | (refine Awp.ret ?_; show endK _ _ _ _ _)
    | (refine o_add rfl rfl rfl rfl ?_ ?_; omega)
    | (refine o_mul rfl rfl rfl rfl ?_ ?_; omega)
    | (refine o_quo rfl rfl rfl rfl ?_ ?_ ?_; omega; omega)
    | refine o_len rfl TtOk rfl rfl rfl (fun _ => ?_)
    | refine o_lenOwn rfl TtOk rfl rfl rfl rfl (fun _ => ?_)
    | (refine o_calm rfl TtOk rfl rfl rfl ?_ (fun _ => ?_); first | exact True.intro | exact ⟨rfl, rfl, rfl, rfl⟩ | exact ⟨rfl, True.intro⟩ | exact ⟨rfl, rfl⟩ | exact ⟨rfl, rfl, rfl⟩ | exact rfl | exact ⟨fun h0 => by cases h0, rfl⟩ | exact (fun h0 => by cases h0) | exact ⟨rfl, by omega⟩ | exact ⟨Nat.succ_ne_zero _, rfl⟩ | omega)
    | refine o_alloc (d := 4) rfl TtOk rfl rfl rfl (fun b4 => ?_)
    | refine o_alloc (d := 6) rfl TtOk rfl rfl rfl (fun b6 => ?_)
    | refine o_store TtOk rfl rfl rfl rfl rfl rfl rfl ⟨rfl, rfl⟩ rfl rfl rfl rfl rfl ?_
    | (refine o_index rfl TtOk rfl rfl rfl rfl rfl rfl ?_ (getq_nat ?_) ?_; omega; omega)
    | (refine o_indexOwn TtOk rfl rfl rfl rfl rfl rfl rfl rfl _ rfl ?_ (fun bO hbO => ?_); (simp only [List.length_map]; omega))
    | (refine o_loadRow TtOk rfl rfl rfl rfl rfl (by assumption) (getq_map (List.getElem?_eq_getElem ?_)) rfl rfl (by first | exact Nat.add_zero _ | rfl) ⟨rfl, rfl⟩ ?_; omega)
    | (refine o_calm rfl TtOk rfl rfl rfl ?_ (fun _ => ?_); (show List.length _ + List.length _ ≤ 9223372036854775807; (try simp only [List.length_append, List.length_cons, List.length_nil]); omega))
    | (refine o_storeRow TtOk rfl rfl rfl rfl rfl rfl (by assumption) (getq_map (List.getElem?_eq_getElem ?_)) rfl rfl (by first | exact Nat.add_zero _ | rfl) ⟨rfl, rfl⟩ rfl rfl ?_; omega)
    | refine o_build TtOk rfl rfl rfl rfl rfl rfl (by repeat' (first | exact True.intro | exact rfl | refine ⟨?_, ?_⟩)) ?_
    | refine o_buildArr0 TtOk rfl rfl rfl rfl ?_
    | refine o_eqNil TtOk rfl rfl rfl rfl rfl ?_
    | refine o_eqArr8 TtOk rfl rfl rfl rfl rfl rfl (by kernel_rfl) ?_
    | refine a_any 11 [] [] [] [0, 2, 3, 4, 1, 5, 6, 7] (by kernel_rfl) (by kernel_rfl) (by kernel_rfl) rfl rfl rfl ?_
    | (refine o_call0 rfl (place_spec _ (by assumption) _ _ (by first | assumption | omega) (by first | assumption | omega) (by first | assumption | omega)) ⟨SLe.of_eq rfl, SLe.of_eq rfl, SLe.of_eq rfl, True.intro⟩ rfl ?_; rintro _ _ ⟨rfl, rfl⟩; refine ⟨rfl, ?_⟩))
  rw [show List.replicate (8 * nbOf keys.length e) (AV.b false) = (List.replicate (8 * nbOf keys.length e) false).map blA by rw [List.map_replicate]; rfl]
  have hz : (List.replicate (8 * nbOf keys.length e) false).length = 8 * nbOf keys.length e := List.length_replicate
  generalize List.replicate (8 * nbOf keys.length e) false = z at hz ⊢
  generalize nbOf keys.length e = nb at hz hn1 hn2 ⊢
  refine Awp.seqI (X := Unit) (fun _ => ⟨49, [(0, .sl 1 (keys.map stA)), (5, .i .i64 (8 * nb : Nat)), (6, .ptr 6 b6 [] 0), (4, .ptr 4 b4 [] 0)], [(6, .var b6 (.agg [.i .i64 (pOf e : Nat), .own 22 v22])), (22, .row v22 4 1 (z.map blA)), (4, .var b4 (.agg [.i .i64 0, .nil]))]⟩) (fun _ => True) ?_ (fun _ _ => ?_)
  · repeat' (first
      | refine Awp.seq ?_
      | refine Awp.block ?_
      | refine Awp.region ?_
      | (refine Ops.nil ?_; show Awp _ _ _ _ _)
      | (refine Ops.nil ?_; show Exists _)
      | (refine Ops.nil ?_; show endK _ _ _ _ _)
      | (refine Awp.skip ?_; show Awp _ _ _ _ _)
      | (refine Awp.skip ?_; show endK _ _ _ _ _)
      | (refine Awp.skip ?_; show Exists _)
      | (refine Awp.exit ?_; show Awp _ _ _ _ _)
      | (refine Awp.exit ?_; show Exists _)
      | (refine Awp.exit ?_; show endK _ _ _ _ _)
      | (refine Awp.ret ?_; show endK _ _ _ _ _)
      | (refine o_add rfl rfl rfl rfl ?_ ?_; omega)
      | (refine o_mul rfl rfl rfl rfl ?_ ?_; omega)
      | (refine o_quo rfl rfl rfl rfl ?_ ?_ ?_; omega; omega)
      | refine o_len rfl TtOk rfl rfl rfl (fun _ => ?_)
      | refine o_lenOwn rfl TtOk rfl rfl rfl rfl (fun _ => ?_)
      | (refine o_calm rfl TtOk rfl rfl rfl ?_ (fun _ => ?_); first | exact True.intro | exact ⟨rfl, rfl, rfl, rfl⟩ | exact ⟨rfl, True.intro⟩ | exact ⟨rfl, rfl⟩ | exact ⟨rfl, rfl, rfl⟩ | exact rfl | exact ⟨fun h0 => by cases h0, rfl⟩ | exact (fun h0 => by cases h0) | exact ⟨rfl, by omega⟩ | exact ⟨Nat.succ_ne_zero _, rfl⟩ | omega)
      | refine o_alloc (d := 4) rfl TtOk rfl rfl rfl (fun b4 => ?_)
      | refine o_alloc (d := 6) rfl TtOk rfl rfl rfl (fun b6 => ?_)
      | refine o_store TtOk rfl rfl rfl rfl rfl rfl rfl ⟨rfl, rfl⟩ rfl rfl rfl rfl rfl ?_
      | (refine o_index rfl TtOk rfl rfl rfl rfl rfl rfl ?_ (getq_nat ?_) ?_; omega; omega)
      | (refine o_indexOwn TtOk rfl rfl rfl rfl rfl rfl rfl rfl _ rfl ?_ (fun bO hbO => ?_); (simp only [List.length_map]; omega))
      | (refine o_loadRow TtOk rfl rfl rfl rfl rfl (by assumption) (getq_map (List.getElem?_eq_getElem ?_)) rfl rfl (by first | exact Nat.add_zero _ | rfl) ⟨rfl, rfl⟩ ?_; omega)
      | (refine o_calm rfl TtOk rfl rfl rfl ?_ (fun _ => ?_); (show List.length _ + List.length _ ≤ 9223372036854775807; (try simp only [List.length_append, List.length_cons, List.length_nil]); omega))
      | (refine o_storeRow TtOk rfl rfl rfl rfl rfl rfl (by assumption) (getq_map (List.getElem?_eq_getElem ?_)) rfl rfl (by first | exact Nat.add_zero _ | rfl) ⟨rfl, rfl⟩ rfl rfl ?_; omega)
      | refine o_build TtOk rfl rfl rfl rfl rfl rfl (by repeat' (first | exact True.intro | exact rfl | refine ⟨?_, ?_⟩)) ?_
      | refine o_buildArr0 TtOk rfl rfl rfl rfl ?_
      | refine o_eqNil TtOk rfl rfl rfl rfl rfl ?_
      | refine o_eqArr8 TtOk rfl rfl rfl rfl rfl rfl (by kernel_rfl) ?_
      | refine a_condT rfl ?_
      | refine a_condF rfl ?_
      | (refine a_condP rfl (fun hc => ?_) (fun hc => ?_)) <;> (try (exfalso; omega))
      | (refine a_condI rfl (fun hc => ?_) (fun hc => ?_)) <;> (try (exfalso; omega))
      | (refine a_condN rfl (fun hc => ?_) (fun hc => ?_)) <;> (try (exfalso; omega))
      | (refine Awp.cond rfl (fun hc => ?_) (fun hc => ?_))
      | refine a_any 11 [] [] [] [0, 2, 3, 4, 1, 5, 6, 7] (by kernel_rfl) (by kernel_rfl) (by kernel_rfl) rfl rfl rfl ?_
      | (refine o_call0 rfl (place_spec _ (by assumption) _ _ (by first | assumption | omega) (by first | assumption | omega) (by first | assumption | omega)) ⟨SLe.of_eq rfl, SLe.of_eq rfl, SLe.of_eq rfl, True.intro⟩ rfl ?_; rintro _ _ ⟨rfl, rfl⟩; refine ⟨rfl, ?_⟩))
    all_goals refine ⟨(), [], trivial, rfl, ⟨sle_sl rfl, sle_i rfl, sle_ptr, sle_ptr, True.intro⟩, HLe.cons 6 rfl ?_ (HLe.cons 22 rfl (HOLe.refl _) (HLe.cons 4 rfl (HOLe.refl _) .nil))⟩
    · have hp : ((pOf e : Nat) : Int) = 1 := by unfold pOf; rw [if_pos (by omega)]; rfl
      rw [hp]; exact HOLe.refl _
    · have hp : ((pOf e : Nat) : Int) = (e : Int) * 7 / 10 := by unfold pOf; rw [if_neg (by omega)]; omega
      rw [hp]; exact HOLe.refl _
  have hpn : pOf e ≤ 32 := by unfold pOf; split <;> omega
  generalize pOf e = p at hpn ⊢
  repeat' (first
    | refine Awp.seq ?_
    | refine Awp.block ?_
    | refine Awp.region ?_
    | (refine Ops.nil ?_; show Awp _ _ _ _ _)
    | (refine Ops.nil ?_; show Exists _)
    | (refine Ops.nil ?_; show endK _ _ _ _ _)
    | (refine Awp.skip ?_; show Awp _ _ _ _ _)
    | (refine Awp.skip ?_; show endK _ _ _ _ _)
    | (refine Awp.skip ?_; show Exists _)
    | (refine Awp.exit ?_; show Awp _ _ _ _ _)
    | (refine Awp.exit ?_; show Exists _)
    | (refine Awp.exit ?_; show endK _ _ _ _ _)
    | (refine Awp.ret ?_; show endK _ _ _ _ _)
    | (refine o_add rfl rfl rfl rfl ?_ ?_; omega)
    | (refine o_mul rfl rfl rfl rfl ?_ ?_; omega)
    | (refine o_quo rfl rfl rfl rfl ?_ ?_ ?_; omega; omega)
    | refine o_len rfl TtOk rfl rfl rfl (fun _ => ?_)
    | refine o_lenOwn rfl TtOk rfl rfl rfl rfl (fun _ => ?_)
    | (refine o_calm rfl TtOk rfl rfl rfl ?_ (fun _ => ?_); first | exact True.intro | exact ⟨rfl, rfl, rfl, rfl⟩ | exact ⟨rfl, True.intro⟩ | exact ⟨rfl, rfl⟩ | exact ⟨rfl, rfl, rfl⟩ | exact rfl | exact ⟨fun h0 => by cases h0, rfl⟩ | exact (fun h0 => by cases h0) | exact ⟨rfl, by omega⟩ | exact ⟨Nat.succ_ne_zero _, rfl⟩ | omega)
    | refine o_alloc (d := 4) rfl TtOk rfl rfl rfl (fun b4 => ?_)
    | refine o_alloc (d := 6) rfl TtOk rfl rfl rfl (fun b6 => ?_)
    | refine o_store TtOk rfl rfl rfl rfl rfl rfl rfl ⟨rfl, rfl⟩ rfl rfl rfl rfl rfl ?_
    | (refine o_index rfl TtOk rfl rfl rfl rfl rfl rfl ?_ (getq_nat ?_) ?_; omega; omega)
    | (refine o_indexOwn TtOk rfl rfl rfl rfl rfl rfl rfl rfl _ rfl ?_ (fun bO hbO => ?_); (simp only [List.length_map]; omega))
    | (refine o_loadRow TtOk rfl rfl rfl rfl rfl (by assumption) (getq_map (List.getElem?_eq_getElem ?_)) rfl rfl (by first | exact Nat.add_zero _ | rfl) ⟨rfl, rfl⟩ ?_; omega)
    | (refine o_calm rfl TtOk rfl rfl rfl ?_ (fun _ => ?_); (show List.length _ + List.length _ ≤ 9223372036854775807; (try simp only [List.length_append, List.length_cons, List.length_nil]); omega))
    | (refine o_storeRow TtOk rfl rfl rfl rfl rfl rfl (by assumption) (getq_map (List.getElem?_eq_getElem ?_)) rfl rfl (by first | exact Nat.add_zero _ | rfl) ⟨rfl, rfl⟩ rfl rfl ?_; omega)
    | refine o_build TtOk rfl rfl rfl rfl rfl rfl (by repeat' (first | exact True.intro | exact rfl | refine ⟨?_, ?_⟩)) ?_
    | refine o_buildArr0 TtOk rfl rfl rfl rfl ?_
    | refine o_eqNil TtOk rfl rfl rfl rfl rfl ?_
    | refine o_eqArr8 TtOk rfl rfl rfl rfl rfl rfl (by kernel_rfl) ?_
    | refine a_condT rfl ?_
    | refine a_condF rfl ?_
    | (refine a_condP rfl (fun hc => ?_) (fun hc => ?_)) <;> (try (exfalso; omega))
    | (refine a_condI rfl (fun hc => ?_) (fun hc => ?_)) <;> (try (exfalso; omega))
    | (refine a_condN rfl (fun hc => ?_) (fun hc => ?_)) <;> (try (exfalso; omega))
    | (refine Awp.cond rfl (fun hc => ?_) (fun hc => ?_))
    | refine a_any 11 [] [] [] [0, 2, 3, 4, 1, 5, 6, 7] (by kernel_rfl) (by kernel_rfl) (by kernel_rfl) rfl rfl rfl ?_
    | (refine o_call0 rfl (place_spec _ (by assumption) _ _ (by first | assumption | omega) (by first | assumption | omega) (by first | assumption | omega)) ⟨SLe.of_eq rfl, SLe.of_eq rfl, SLe.of_eq rfl, True.intro⟩ rfl ?_; rintro _ _ ⟨rfl, rfl⟩; refine ⟨rfl, ?_⟩))
  refine Awp.loop (fun k : Nat => ⟨49, [(30, .i .i64 k), (29, .i .i64 keys.length), (28, .sl 1 (keys.map stA)), (5, .i .i64 (8 * nb : Nat)), (6, .ptr 6 b6 [] 0), (4, .ptr 4 b4 [] 0)], [(6, .var b6 (.agg [.i .i64 p, .own 22 v22])), (22, .row v22 4 1 ((mkB p (8 * nb) ((keys.take k).map hashN) z).map blA)), (4, .var b4 (.agg [.i .i64 0, .nil]))]⟩) (fun k => k ≤ keys.length) (fun k => keys.length - k) [] 0 (Nat.zero_le _) ?_ ?_
  · exact ⟨rfl, ⟨sle_i rfl, sle_i rfl, sle_sl rfl, sle_i rfl, sle_ptr, sle_ptr, True.intro⟩, HLe.cons 6 rfl (HOLe.refl _) (HLe.cons 22 rfl (HOLe.refl _) (HLe.cons 4 rfl (HOLe.refl _) .nil))⟩
  intro k hk
  have hbl := mkB_len p (8 * nb) ((keys.take k).map hashN) z
  rw [hz] at hbl
  by_cases hlt : k < keys.length
  · have hsu : mkB p (8 * nb) ((keys.take (k + 1)).map hashN) z = putBits (mkB p (8 * nb) ((keys.take k).map hashN) z) (placesN (hashN keys[k]) p (8 * nb)) := by
      rw [List.take_succ_eq_append_getElem hlt, List.map_append]; unfold mkB; rw [List.foldl_append]; rfl
    have hsk := hks _ (List.getElem_mem hlt)
    generalize mkB p (8 * nb) ((keys.take k).map hashN) z = bs at hbl hsu ⊢
    have hp00 : putBits bs (placesN (hashN keys[k]) 0 (8 * nb)) = bs := by unfold placesN; rw [List.range_zero, List.map_nil]; rfl
    repeat' (first
      | refine Awp.seq ?_
      | refine Awp.block ?_
      | refine Awp.region ?_
      | (refine Ops.nil ?_; show Awp _ _ _ _ _)
      | (refine Ops.nil ?_; show Exists _)
      | (refine Ops.nil ?_; show endK _ _ _ _ _)
      | (refine Awp.skip ?_; show Awp _ _ _ _ _)
      | (refine Awp.skip ?_; show endK _ _ _ _ _)
      | (refine Awp.skip ?_; show Exists _)
      | (refine Awp.exit ?_; show Awp _ _ _ _ _)
      | (refine Awp.exit ?_; show Exists _)
      | (refine Awp.exit ?_; show endK _ _ _ _ _)
      | (refine Awp.ret ?_; show endK _ _ _ _ _)
      | (refine o_add rfl rfl rfl rfl ?_ ?_; omega)
      | (refine o_mul rfl rfl rfl rfl ?_ ?_; omega)
      | (refine o_quo rfl rfl rfl rfl ?_ ?_ ?_; omega; omega)
      | refine o_len rfl TtOk rfl rfl rfl (fun _ => ?_)
      | refine o_lenOwn rfl TtOk rfl rfl rfl rfl (fun _ => ?_)
      | (refine o_calm rfl TtOk rfl rfl rfl ?_ (fun _ => ?_); first | exact True.intro | exact ⟨rfl, rfl, rfl, rfl⟩ | exact ⟨rfl, True.intro⟩ | exact ⟨rfl, rfl⟩ | exact ⟨rfl, rfl, rfl⟩ | exact rfl | exact ⟨fun h0 => by cases h0, rfl⟩ | exact (fun h0 => by cases h0) | exact ⟨rfl, by omega⟩ | exact ⟨Nat.succ_ne_zero _, rfl⟩ | omega)
      | refine o_alloc rfl TtOk rfl rfl rfl (fun bA => ?_)
      | refine o_store TtOk rfl rfl rfl rfl rfl rfl rfl ⟨rfl, rfl⟩ rfl rfl rfl rfl rfl ?_
      | (refine o_index rfl TtOk rfl rfl rfl rfl rfl rfl ?_ (getq_nat ?_) ?_; omega; omega)
      | (refine o_indexOwn TtOk rfl rfl rfl rfl rfl rfl rfl rfl _ rfl ?_ (fun bO hbO => ?_); (simp only [List.length_map]; omega))
      | (refine o_loadRow TtOk rfl rfl rfl rfl rfl (by assumption) (getq_map (List.getElem?_eq_getElem ?_)) rfl rfl (by first | exact Nat.add_zero _ | rfl) ⟨rfl, rfl⟩ ?_; omega)
      | (refine o_calm rfl TtOk rfl rfl rfl ?_ (fun _ => ?_); (show List.length _ + List.length _ ≤ 9223372036854775807; (try simp only [List.length_append, List.length_cons, List.length_nil]); omega))
      | (refine o_storeRow TtOk rfl rfl rfl rfl rfl rfl (by assumption) (getq_map (List.getElem?_eq_getElem ?_)) rfl rfl (by first | exact Nat.add_zero _ | rfl) ⟨rfl, rfl⟩ rfl rfl ?_; omega)
      | refine o_build TtOk rfl rfl rfl rfl rfl rfl (by repeat' (first | exact True.intro | exact rfl | refine ⟨?_, ?_⟩)) ?_
      | refine o_buildArr0 TtOk rfl rfl rfl rfl ?_
      | refine o_eqNil TtOk rfl rfl rfl rfl rfl ?_
      | refine o_eqArr8 TtOk rfl rfl rfl rfl rfl rfl (by kernel_rfl) ?_
      | refine a_condT rfl ?_
      | refine a_condF rfl ?_
      | (refine a_condP rfl (fun hc => ?_) (fun hc => ?_)) <;> (try (exfalso; omega))
      | (refine a_condI rfl (fun hc => ?_) (fun hc => ?_)) <;> (try (exfalso; omega))
      | (refine a_condN rfl (fun hc => ?_) (fun hc => ?_)) <;> (try (exfalso; omega))
      | (refine Awp.cond rfl (fun hc => ?_) (fun hc => ?_))
      | refine a_any 11 [] [] [] [0, 2, 3, 4, 1, 5, 6, 7] (by kernel_rfl) (by kernel_rfl) (by kernel_rfl) rfl rfl rfl ?_)
    refine Awp.loop (fun j : Nat => ⟨49, [(9, .i .i64 j), (8, .s keys[k]), (30, .i .i64 k), (29, .i .i64 keys.length), (28, .sl 1 (keys.map stA)), (5, .i .i64 (8 * nb : Nat)), (6, .ptr 6 b6 [] 0), (4, .ptr 4 b4 [] 0)], [(6, .var b6 (.agg [.i .i64 p, .own 22 v22])), (22, .row v22 4 1 ((putBits bs (placesN (hashN keys[k]) j (8 * nb))).map blA)), (4, .var b4 (.agg [.i .i64 0, .nil]))]⟩) (fun j => j ≤ p) (fun j => p - j) [] 0 (Nat.zero_le _) ?_ ?_
    · exact ⟨rfl, ⟨sle_i rfl, SLe.of_eq rfl, sle_i rfl, sle_i rfl, sle_sl rfl, sle_i rfl, sle_ptr, sle_ptr, True.intro⟩, HLe.cons 6 rfl (HOLe.refl _) (HLe.cons 22 rfl (HOLe.row (by rw [hp00])) (HLe.cons 4 rfl (HOLe.refl _) .nil))⟩
    intro j hj
    by_cases hjl : j < p
    · have hx : placeN (hashN keys[k]) j (8 * nb) < 8 * nb := Nat.mod_lt _ (by omega)
      have hcl := putBits_len (placesN (hashN keys[k]) j (8 * nb)) bs
      have hsj : putBits bs (placesN (hashN keys[k]) (j + 1) (8 * nb)) = (putBits bs (placesN (hashN keys[k]) j (8 * nb))).set (placeN (hashN keys[k]) j (8 * nb)) true := by
        rw [placesN_succ]; unfold putBits; rw [List.foldl_append, List.foldl_cons, List.foldl_nil]
      have hpl := place_spec keys[k] hsk j (8 * nb) (by omega) (by omega) (by omega)
      generalize putBits bs (placesN (hashN keys[k]) j (8 * nb)) = cs at hcl hsj ⊢
      generalize placeN (hashN keys[k]) j (8 * nb) = x at hx hsj hpl ⊢
      repeat' (first
        | refine Awp.seq ?_
        | refine Awp.block ?_
        | refine Awp.region ?_
        | (refine Ops.nil ?_; show Awp _ _ _ _ _)
        | (refine Ops.nil ?_; show Exists _)
        | (refine Ops.nil ?_; show endK _ _ _ _ _)
        | (refine Awp.skip ?_; show Awp _ _ _ _ _)
        | (refine Awp.skip ?_; show endK _ _ _ _ _)
        | (refine Awp.skip ?_; show Exists _)
        | (refine Awp.exit ?_; show Awp _ _ _ _ _)
        | (refine Awp.exit ?_; show Exists _)
        | (refine Awp.exit ?_; show endK _ _ _ _ _)
        | (refine Awp.ret ?_; show endK _ _ _ _ _)
        | (refine o_add rfl rfl rfl rfl ?_ ?_; omega)
        | (refine o_mul rfl rfl rfl rfl ?_ ?_; omega)
        | (refine o_quo rfl rfl rfl rfl ?_ ?_ ?_; omega; omega)
        | refine o_len rfl TtOk rfl rfl rfl (fun _ => ?_)
        | refine o_lenOwn rfl TtOk rfl rfl rfl rfl (fun _ => ?_)
        | (refine o_calm rfl TtOk rfl rfl rfl ?_ (fun _ => ?_); first | exact True.intro | exact ⟨rfl, rfl, rfl, rfl⟩ | exact ⟨rfl, True.intro⟩ | exact ⟨rfl, rfl⟩ | exact ⟨rfl, rfl, rfl⟩ | exact rfl | exact ⟨fun h0 => by cases h0, rfl⟩ | exact (fun h0 => by cases h0) | exact ⟨rfl, by omega⟩ | exact ⟨Nat.succ_ne_zero _, rfl⟩ | omega)
        | refine o_alloc rfl TtOk rfl rfl rfl (fun bA => ?_)
        | refine o_store TtOk rfl rfl rfl rfl rfl rfl rfl ⟨rfl, rfl⟩ rfl rfl rfl rfl rfl ?_
        | (refine o_index rfl TtOk rfl rfl rfl rfl rfl rfl ?_ (getq_nat ?_) ?_; omega; omega)
        | (refine o_indexOwn TtOk rfl rfl rfl rfl rfl rfl rfl rfl _ rfl ?_ (fun bO hbO => ?_); (simp only [List.length_map]; omega))
        | (refine o_loadRow TtOk rfl rfl rfl rfl rfl (by assumption) (getq_map (List.getElem?_eq_getElem ?_)) rfl rfl (by first | exact Nat.add_zero _ | rfl) ⟨rfl, rfl⟩ ?_; omega)
        | (refine o_calm rfl TtOk rfl rfl rfl ?_ (fun _ => ?_); (show List.length _ + List.length _ ≤ 9223372036854775807; (try simp only [List.length_append, List.length_cons, List.length_nil]); omega))
        | (refine o_storeRow TtOk rfl rfl rfl rfl rfl rfl (by assumption) (getq_map (List.getElem?_eq_getElem ?_)) rfl rfl (by first | exact Nat.add_zero _ | rfl) ⟨rfl, rfl⟩ rfl rfl ?_; omega)
        | refine o_build TtOk rfl rfl rfl rfl rfl rfl (by repeat' (first | exact True.intro | exact rfl | refine ⟨?_, ?_⟩)) ?_
        | refine o_buildArr0 TtOk rfl rfl rfl rfl ?_
        | refine o_eqNil TtOk rfl rfl rfl rfl rfl ?_
        | refine o_eqArr8 TtOk rfl rfl rfl rfl rfl rfl (by kernel_rfl) ?_
        | refine a_condT rfl ?_
        | refine a_condF rfl ?_
        | (refine a_condP rfl (fun hc => ?_) (fun hc => ?_)) <;> (try (exfalso; omega))
        | (refine a_condI rfl (fun hc => ?_) (fun hc => ?_)) <;> (try (exfalso; omega))
        | (refine a_condN rfl (fun hc => ?_) (fun hc => ?_)) <;> (try (exfalso; omega))
        | (refine Awp.cond rfl (fun hc => ?_) (fun hc => ?_))
        | refine a_any 11 [22] [] [] [0, 2, 3, 4, 1, 5, 6, 7] (by kernel_rfl) (by kernel_rfl) (by kernel_rfl) rfl rfl rfl ?_
        | (refine o_call0 rfl hpl ⟨SLe.of_eq rfl, SLe.of_eq rfl, SLe.of_eq rfl, True.intro⟩ rfl ?_; rintro _ _ ⟨rfl, rfl⟩; refine ⟨rfl, ?_⟩))
      refine ⟨j + 1, [], by omega, by omega, rfl, ⟨sle_i (by omega), SLe.of_eq rfl, sle_i rfl, sle_i rfl, sle_sl rfl, sle_i rfl, sle_ptr, sle_ptr, True.intro⟩, HLe.cons 6 rfl (HOLe.refl _) (HLe.cons 22 rfl (HOLe.row ?_) (HLe.cons 4 rfl (HOLe.refl _) .nil))⟩
      rw [hsj, List.map_set]; rfl
    · have hjk : j = p := by omega
      rw [hjk]
      repeat' (first
        | refine Awp.seq ?_
        | refine Awp.block ?_
        | refine Awp.region ?_
        | (refine Ops.nil ?_; show Awp _ _ _ _ _)
        | (refine Ops.nil ?_; show Exists _)
        | (refine Ops.nil ?_; show endK _ _ _ _ _)
        | (refine Awp.skip ?_; show Awp _ _ _ _ _)
        | (refine Awp.skip ?_; show endK _ _ _ _ _)
        | (refine Awp.skip ?_; show Exists _)
        | (refine Awp.exit ?_; show Awp _ _ _ _ _)
        | (refine Awp.exit ?_; show Exists _)
        | (refine Awp.exit ?_; show endK _ _ _ _ _)
        | (refine Awp.ret ?_; show endK _ _ _ _ _)
        | (refine o_add rfl rfl rfl rfl ?_ ?_; omega)
        | (refine o_mul rfl rfl rfl rfl ?_ ?_; omega)
        | (refine o_quo rfl rfl rfl rfl ?_ ?_ ?_; omega; omega)
        | refine o_len rfl TtOk rfl rfl rfl (fun _ => ?_)
        | refine o_lenOwn rfl TtOk rfl rfl rfl rfl (fun _ => ?_)
        | (refine o_calm rfl TtOk rfl rfl rfl ?_ (fun _ => ?_); first | exact True.intro | exact ⟨rfl, rfl, rfl, rfl⟩ | exact ⟨rfl, True.intro⟩ | exact ⟨rfl, rfl⟩ | exact ⟨rfl, rfl, rfl⟩ | exact rfl | exact ⟨fun h0 => by cases h0, rfl⟩ | exact (fun h0 => by cases h0) | exact ⟨rfl, by omega⟩ | exact ⟨Nat.succ_ne_zero _, rfl⟩ | omega)
        | refine o_alloc rfl TtOk rfl rfl rfl (fun bA => ?_)
        | refine o_store TtOk rfl rfl rfl rfl rfl rfl rfl ⟨rfl, rfl⟩ rfl rfl rfl rfl rfl ?_
        | (refine o_index rfl TtOk rfl rfl rfl rfl rfl rfl ?_ (getq_nat ?_) ?_; omega; omega)
        | (refine o_indexOwn TtOk rfl rfl rfl rfl rfl rfl rfl rfl _ rfl ?_ (fun bO hbO => ?_); (simp only [List.length_map]; omega))
        | (refine o_loadRow TtOk rfl rfl rfl rfl rfl (by assumption) (getq_map (List.getElem?_eq_getElem ?_)) rfl rfl (by first | exact Nat.add_zero _ | rfl) ⟨rfl, rfl⟩ ?_; omega)
        | (refine o_calm rfl TtOk rfl rfl rfl ?_ (fun _ => ?_); (show List.length _ + List.length _ ≤ 9223372036854775807; (try simp only [List.length_append, List.length_cons, List.length_nil]); omega))
        | (refine o_storeRow TtOk rfl rfl rfl rfl rfl rfl (by assumption) (getq_map (List.getElem?_eq_getElem ?_)) rfl rfl (by first | exact Nat.add_zero _ | rfl) ⟨rfl, rfl⟩ rfl rfl ?_; omega)
        | refine o_build TtOk rfl rfl rfl rfl rfl rfl (by repeat' (first | exact True.intro | exact rfl | refine ⟨?_, ?_⟩)) ?_
        | refine o_buildArr0 TtOk rfl rfl rfl rfl ?_
        | refine o_eqNil TtOk rfl rfl rfl rfl rfl ?_
        | refine o_eqArr8 TtOk rfl rfl rfl rfl rfl rfl (by kernel_rfl) ?_
        | refine a_condT rfl ?_
        | refine a_condF rfl ?_
        | (refine a_condP rfl (fun hc => ?_) (fun hc => ?_)) <;> (try (exfalso; omega))
        | (refine a_condI rfl (fun hc => ?_) (fun hc => ?_)) <;> (try (exfalso; omega))
        | (refine a_condN rfl (fun hc => ?_) (fun hc => ?_)) <;> (try (exfalso; omega))
        | (refine Awp.cond rfl (fun hc => ?_) (fun hc => ?_))
        | refine a_any 11 [] [] [] [0, 2, 3, 4, 1, 5, 6, 7] (by kernel_rfl) (by kernel_rfl) (by kernel_rfl) rfl rfl rfl ?_)
      exact ⟨k + 1, [], by omega, by omega, rfl, ⟨sle_i (by omega), sle_i rfl, sle_sl rfl, sle_i rfl, sle_ptr, sle_ptr, True.intro⟩, HLe.cons 6 rfl (HOLe.refl _) (HLe.cons 22 rfl (HOLe.row (by rw [hsu])) (HLe.cons 4 rfl (HOLe.refl _) .nil))⟩
  · have hkl : k = keys.length := by omega
    rw [hkl, List.take_length] at hbl ⊢
    repeat' (first
      | refine Awp.seq ?_
      | refine Awp.block ?_
      | refine Awp.region ?_
      | (refine Ops.nil ?_; show Awp _ _ _ _ _)
      | (refine Ops.nil ?_; show Exists _)
      | (refine Ops.nil ?_; show endK _ _ _ _ _)
      | (refine Awp.skip ?_; show Awp _ _ _ _ _)
      | (refine Awp.skip ?_; show endK _ _ _ _ _)
      | (refine Awp.skip ?_; show Exists _)
      | (refine Awp.exit ?_; show Awp _ _ _ _ _)
      | (refine Awp.exit ?_; show Exists _)
      | (refine Awp.exit ?_; show endK _ _ _ _ _)
      | (refine Awp.ret ?_; show endK _ _ _ _ _)
      | (refine o_add rfl rfl rfl rfl ?_ ?_; omega)
      | (refine o_mul rfl rfl rfl rfl ?_ ?_; omega)
      | (refine o_quo rfl rfl rfl rfl ?_ ?_ ?_; omega; omega)
      | refine o_len rfl TtOk rfl rfl rfl (fun _ => ?_)
      | refine o_lenOwn rfl TtOk rfl rfl rfl rfl (fun _ => ?_)
      | (refine o_calm rfl TtOk rfl rfl rfl ?_ (fun _ => ?_); first | exact True.intro | exact ⟨rfl, rfl, rfl, rfl⟩ | exact ⟨rfl, True.intro⟩ | exact ⟨rfl, rfl⟩ | exact ⟨rfl, rfl, rfl⟩ | exact rfl | exact ⟨fun h0 => by cases h0, rfl⟩ | exact (fun h0 => by cases h0) | exact ⟨rfl, by omega⟩ | exact ⟨Nat.succ_ne_zero _, rfl⟩ | omega)
      | refine o_alloc rfl TtOk rfl rfl rfl (fun bA => ?_)
      | refine o_store TtOk rfl rfl rfl rfl rfl rfl rfl ⟨rfl, rfl⟩ rfl rfl rfl rfl rfl ?_
      | (refine o_index rfl TtOk rfl rfl rfl rfl rfl rfl ?_ (getq_nat ?_) ?_; omega; omega)
      | (refine o_indexOwn TtOk rfl rfl rfl rfl rfl rfl rfl rfl _ rfl ?_ (fun bO hbO => ?_); (simp only [List.length_map]; omega))
      | (refine o_loadRow TtOk rfl rfl rfl rfl rfl (by assumption) (getq_map (List.getElem?_eq_getElem ?_)) rfl rfl (by first | exact Nat.add_zero _ | rfl) ⟨rfl, rfl⟩ ?_; omega)
      | (refine o_calm rfl TtOk rfl rfl rfl ?_ (fun _ => ?_); (show List.length _ + List.length _ ≤ 9223372036854775807; (try simp only [List.length_append, List.length_cons, List.length_nil]); omega))
      | (refine o_storeRow TtOk rfl rfl rfl rfl rfl rfl (by assumption) (getq_map (List.getElem?_eq_getElem ?_)) rfl rfl (by first | exact Nat.add_zero _ | rfl) ⟨rfl, rfl⟩ rfl rfl ?_; omega)
      | refine o_build TtOk rfl rfl rfl rfl rfl rfl (by repeat' (first | exact True.intro | exact rfl | refine ⟨?_, ?_⟩)) ?_
      | refine o_buildArr0 TtOk rfl rfl rfl rfl ?_
      | refine o_eqNil TtOk rfl rfl rfl rfl rfl ?_
      | refine o_eqArr8 TtOk rfl rfl rfl rfl rfl rfl (by kernel_rfl) ?_
      | refine a_condT rfl ?_
      | refine a_condF rfl ?_
      | (refine a_condP rfl (fun hc => ?_) (fun hc => ?_)) <;> (try (exfalso; omega))
      | (refine a_condI rfl (fun hc => ?_) (fun hc => ?_)) <;> (try (exfalso; omega))
      | (refine a_condN rfl (fun hc => ?_) (fun hc => ?_)) <;> (try (exfalso; omega))
      | (refine Awp.cond rfl (fun hc => ?_) (fun hc => ?_))
      | refine a_any 11 [] [] [] [0, 2, 3, 4, 1, 5, 6, 7] (by kernel_rfl) (by kernel_rfl) (by kernel_rfl) rfl rfl rfl ?_)
    refine end_all [22] [] (rfA (p : Nat) (mkB p (8 * nb) (keys.map hashN) z)) rfl ?_ ?_ (rle_one (CLe.agg (.cons (CLe.refl _) (.cons (CLe.fz (.head _)) .nil))) rfl) .nil ⟨rfl, rfl⟩ _ (.inl rfl)
    · repeat' (first | exact True.intro | exact rfl | refine ⟨?_, ?_⟩)
    · exact ⟨trivial, trivial⟩
end Go.Proofs.Ytcnkmfmdadmaaaa
