/- law08.awake by rules. -/
import Derived.Test.YtapbbifcipemfaaKH8
import Derived.Test.YtapbbifcipemfaaKH6
set_option maxHeartbeats 4000000
namespace Go.Proofs.Ytapbbifcipemfaa
open Go Go.RowKit
/-- Of a filter that was made, each key is there. -/
theorem mk_bits (keys : List (List UInt8)) (e : Nat) (x : Nat) : (bitsOf (mkF keys e)).getD x true = ((List.replicate (8 * nbOf keys.length e) false).getD x true || (keys.map hashN).any (fun H => decide (x ∈ placesN H (pOf e) (8 * nbOf keys.length e)))) := by
  unfold mkF
  rw [mkBits_bits, bitsOf_zero, List.length_replicate, mkB_iff]
theorem mkF_len (keys : List (List UInt8)) (e : Nat) : (mkF keys e).length = nbOf keys.length e := by
  unfold mkF; rw [mkBits_len, List.length_replicate]
theorem may_has (keys : List (List UInt8)) (e : Nat) (k : List UInt8) (hk : k ∈ keys) : mayB (pOf e : Nat) (bitsOf (mkF keys e)) (hashN k) = true := by
  unfold mayB
  have h : (placesN (hashN k) (Int.toNat (pOf e : Nat)) (bitsOf (mkF keys e)).length).all (fun x => (bitsOf (mkF keys e)).getD x true) = true := by
    rw [List.all_eq_true]
    intro x hx
    rw [bitsOf_len, mkF_len] at hx
    show (bitsOf (mkF keys e)).getD x true = true
    rw [mk_bits, Bool.or_eq_true, List.any_eq_true]
    exact .inr ⟨hashN k, List.mem_map.2 ⟨k, hk, rfl⟩, by rw [decide_eq_true_eq]; exact hx⟩
  rw [h, Bool.or_true]
theorem fbytes_one : fbytes 1 [0] = ([1, 1, 1, 1, 0], 0) := by
  have h1 : digits 1 = [1] := by rw [digits_pos (by decide), digits_zero]; rfl
  have hn : numBytes 1 = [1, 1] := by unfold numBytes; rw [h1]; rfl
  have ht : txB [0] = [1, 1, 0] := by unfold txB; rw [show ([0] : List UInt8).length = 1 from rfl, hn]; rfl
  unfold fbytes
  rw [if_pos (goodB_iff.2 ⟨by decide, by decide, by rw [bitsOf_len]; decide, by rw [bitsOf_len]; decide⟩), show Int.toNat 1 = 1 from rfl, hn, ht]; rfl
theorem hawake_spec : Spec Try.prog 14 [] [] (fun v os => v = .b true ∧ os = []) := by
  refine spec_of TtOk [] Try.func14 rfl Try.ntmps14 (by kernel_rfl) rfl rfl (fun C => ?_) rfl
  have hmk := make_spec [[97], [98]] 10 (by decide) (by decide) (by decide)
  have hma := may_has [[97], [98]] 10 [97] (by decide)
  have hmb := may_has [[97], [98]] 10 [98] (by decide)
  have hFl := mkF_len [[97], [98]] 10
  have hnb : nbOf ([[97], [98]] : List (List UInt8)).length 10 = 4 := by decide
  have hp7 : (pOf 10 : Int) = 7 := by decide
  rw [hnb] at hFl
  rw [hp7] at hmk hma hmb
  generalize mkF [[97], [98]] 10 = F at hmk hma hmb hFl
  have h1 := may_spec 7 F [97] (by decide) (by omega)
  have h2 := may_spec 7 F [98] (by decide) (by omega)
  rw [hma] at h1
  rw [hmb] at h2
  have hby := fbytes_spec 1 [0] (by decide)
  have hb1 := fbytes_one
  generalize fbytes 1 [0] = q at hby hb1
  repeat' (first
    | refine Awp.seq ?_
    | refine Awp.region ?_
    | (refine Ops.nil ?_; show Awp _ _ _ _ _)
    | (refine Ops.nil ?_; show Exists _)
    | (refine Ops.nil ?_; show endK _ _ _ _ _)
    | (refine Awp.ret ?_; show endK _ _ _ _ _)
    | refine o_offT rfl rfl rfl (by first | exact .inl rfl | exact .inr rfl) ?_
    | refine o_offU rfl rfl rfl (by first | exact .inl rfl | exact .inr rfl) ?_
    | refine o_offF rfl rfl rfl (by first | exact .inl rfl | exact .inr rfl) ?_
    | refine o_len rfl TtOk rfl rfl rfl (fun _ => ?_)
    | refine o_lenOwn rfl TtOk rfl rfl rfl rfl (fun _ => ?_)
    | (refine o_calm rfl TtOk rfl rfl rfl ?_ (fun _ => ?_); first | exact True.intro | exact ⟨rfl, rfl, rfl, rfl⟩ | exact ⟨rfl, True.intro⟩ | exact ⟨rfl, rfl⟩ | exact ⟨rfl, rfl, rfl⟩ | exact rfl | exact ⟨fun h0 => by cases h0, rfl⟩ | exact (fun h0 => by cases h0) | exact ⟨rfl, by omega⟩ | exact ⟨Nat.succ_ne_zero _, rfl⟩ | omega)
    | refine o_alloc (d := 1) rfl TtOk rfl rfl rfl (fun b1 => ?_)
    | refine o_store TtOk rfl rfl rfl rfl rfl rfl rfl ⟨rfl, rfl⟩ rfl rfl rfl rfl rfl ?_
    | refine o_build TtOk rfl rfl rfl rfl rfl rfl (by repeat' (first | exact True.intro | exact rfl | refine ⟨?_, ?_⟩)) ?_
    | refine o_buildArr0 TtOk rfl rfl rfl rfl ?_
    | refine o_buildSlice TtOk rfl rfl rfl rfl rfl rfl rfl rfl rfl rfl rfl (by repeat' (first | exact True.intro | exact rfl | refine ⟨?_, ?_⟩)) (fun _ => ?_)
    | refine o_eqNil TtOk rfl rfl rfl rfl rfl ?_
    | refine o_eqArr8 TtOk rfl rfl rfl rfl rfl rfl (by kernel_rfl) ?_
    | (fail_if_success (refine o_isLit rfl (by first | exact .inl rfl | exact .inr rfl) ?_)); (refine o_splitP rfl rfl (fun hc => ?_) (fun hc => ?_) <;> try (exfalso; omega))
    | (fail_if_success (refine o_isLit rfl (by first | exact .inl rfl | exact .inr rfl) ?_)); (refine o_splitI rfl rfl (fun hc => ?_) (fun hc => ?_) <;> try (exfalso; omega))
    | (fail_if_success (refine o_isLit rfl (by first | exact .inl rfl | exact .inr rfl) ?_)); (refine o_splitN rfl rfl (fun hc => ?_) (fun hc => ?_) <;> try (exfalso; omega))
    | (fail_if_success (refine o_isLit rfl (by first | exact .inl rfl | exact .inr rfl) ?_)); (refine o_split rfl rfl (fun hc => ?_) (fun hc => ?_)))
  refine o_call [6] [] [] rfl hmk ⟨SLe.of_cle (CLe.fz (.head _)) rfl, sle_i rfl, True.intro⟩ rfl True.intro rfl rfl ?_
  rintro _ _ ⟨rfl, rfl⟩; refine ⟨_, rfl, rfl, ?_⟩
  unfold flA at hby h1 h2 ⊢
  repeat' (first
    | refine Awp.seq ?_
    | refine Awp.region ?_
    | (refine Ops.nil ?_; show Awp _ _ _ _ _)
    | (refine Ops.nil ?_; show Exists _)
    | (refine Ops.nil ?_; show endK _ _ _ _ _)
    | (refine Awp.ret ?_; show endK _ _ _ _ _)
    | refine o_offT rfl rfl rfl (by first | exact .inl rfl | exact .inr rfl) ?_
    | refine o_offU rfl rfl rfl (by first | exact .inl rfl | exact .inr rfl) ?_
    | refine o_offF rfl rfl rfl (by first | exact .inl rfl | exact .inr rfl) ?_
    | refine o_len rfl TtOk rfl rfl rfl (fun _ => ?_)
    | refine o_lenOwn rfl TtOk rfl rfl rfl rfl (fun _ => ?_)
    | (refine o_calm rfl TtOk rfl rfl rfl ?_ (fun _ => ?_); first | exact True.intro | exact ⟨rfl, rfl, rfl, rfl⟩ | exact ⟨rfl, True.intro⟩ | exact ⟨rfl, rfl⟩ | exact ⟨rfl, rfl, rfl⟩ | exact rfl | exact ⟨fun h0 => by cases h0, rfl⟩ | exact (fun h0 => by cases h0) | exact ⟨rfl, by omega⟩ | exact ⟨Nat.succ_ne_zero _, rfl⟩ | omega)
    | refine o_alloc (d := 1) rfl TtOk rfl rfl rfl (fun b1 => ?_)
    | refine o_store TtOk rfl rfl rfl rfl rfl rfl rfl ⟨rfl, rfl⟩ rfl rfl rfl rfl rfl ?_
    | refine o_build TtOk rfl rfl rfl rfl rfl rfl (by repeat' (first | exact True.intro | exact rfl | refine ⟨?_, ?_⟩)) ?_
    | refine o_buildArr0 TtOk rfl rfl rfl rfl ?_
    | refine o_buildSlice TtOk rfl rfl rfl rfl rfl rfl rfl rfl rfl rfl rfl (by repeat' (first | exact True.intro | exact rfl | refine ⟨?_, ?_⟩)) (fun _ => ?_)
    | refine o_eqNil TtOk rfl rfl rfl rfl rfl ?_
    | refine o_eqArr8 TtOk rfl rfl rfl rfl rfl rfl (by kernel_rfl) ?_
    | (fail_if_success (refine o_isLit rfl (by first | exact .inl rfl | exact .inr rfl) ?_)); (refine o_splitP rfl rfl (fun hc => ?_) (fun hc => ?_) <;> try (exfalso; omega))
    | (fail_if_success (refine o_isLit rfl (by first | exact .inl rfl | exact .inr rfl) ?_)); (refine o_splitI rfl rfl (fun hc => ?_) (fun hc => ?_) <;> try (exfalso; omega))
    | (fail_if_success (refine o_isLit rfl (by first | exact .inl rfl | exact .inr rfl) ?_)); (refine o_splitN rfl rfl (fun hc => ?_) (fun hc => ?_) <;> try (exfalso; omega))
    | (fail_if_success (refine o_isLit rfl (by first | exact .inl rfl | exact .inr rfl) ?_)); (refine o_split rfl rfl (fun hc => ?_) (fun hc => ?_)))
  refine o_call [11] [] [] rfl hby ⟨SLe.of_cle (CLe.agg (.cons (CLe.refl _) (.cons (CLe.fz (.head _)) .nil))) rfl, True.intro⟩ rfl True.intro rfl rfl ?_
  rintro _ _ ⟨rfl, rfl⟩; refine ⟨_, rfl, rfl, ?_⟩
  obtain ⟨s1, e1⟩ := q
  injection hb1 with hs1 he1
  dsimp only
  have hF4 : (F.length : Int) = 4 := by omega
  repeat' (first
    | refine Awp.seq ?_
    | refine Awp.region ?_
    | (refine Ops.nil ?_; show Awp _ _ _ _ _)
    | (refine Ops.nil ?_; show Exists _)
    | (refine Ops.nil ?_; show endK _ _ _ _ _)
    | (refine Awp.ret ?_; show endK _ _ _ _ _)
    | refine o_offT rfl rfl rfl (by first | exact .inl rfl | exact .inr rfl) ?_
    | refine o_offU rfl rfl rfl (by first | exact .inl rfl | exact .inr rfl) ?_
    | refine o_offF rfl rfl rfl (by first | exact .inl rfl | exact .inr rfl) ?_
    | refine o_len rfl TtOk rfl rfl rfl (fun _ => ?_)
    | refine o_lenOwn rfl TtOk rfl rfl rfl rfl (fun _ => ?_)
    | (refine o_calm rfl TtOk rfl rfl rfl ?_ (fun _ => ?_); first | exact True.intro | exact ⟨rfl, rfl, rfl, rfl⟩ | exact ⟨rfl, True.intro⟩ | exact ⟨rfl, rfl⟩ | exact ⟨rfl, rfl, rfl⟩ | exact rfl | exact ⟨fun h0 => by cases h0, rfl⟩ | exact (fun h0 => by cases h0) | exact ⟨rfl, by omega⟩ | exact ⟨Nat.succ_ne_zero _, rfl⟩ | omega)
    | refine o_alloc (d := 1) rfl TtOk rfl rfl rfl (fun b1 => ?_)
    | refine o_store TtOk rfl rfl rfl rfl rfl rfl rfl ⟨rfl, rfl⟩ rfl rfl rfl rfl rfl ?_
    | refine o_build TtOk rfl rfl rfl rfl rfl rfl (by repeat' (first | exact True.intro | exact rfl | refine ⟨?_, ?_⟩)) ?_
    | refine o_buildArr0 TtOk rfl rfl rfl rfl ?_
    | refine o_buildSlice TtOk rfl rfl rfl rfl rfl rfl rfl rfl rfl rfl rfl (by repeat' (first | exact True.intro | exact rfl | refine ⟨?_, ?_⟩)) (fun _ => ?_)
    | refine o_eqNil TtOk rfl rfl rfl rfl rfl ?_
    | refine o_eqArr8 TtOk rfl rfl rfl rfl rfl rfl (by kernel_rfl) ?_
    | (fail_if_success (refine o_isLit rfl (by first | exact .inl rfl | exact .inr rfl) ?_)); (refine o_splitP rfl rfl (fun hc => ?_) (fun hc => ?_) <;> try (exfalso; omega))
    | (fail_if_success (refine o_isLit rfl (by first | exact .inl rfl | exact .inr rfl) ?_)); (refine o_splitI rfl rfl (fun hc => ?_) (fun hc => ?_) <;> try (exfalso; omega))
    | (fail_if_success (refine o_isLit rfl (by first | exact .inl rfl | exact .inr rfl) ?_)); (refine o_splitN rfl rfl (fun hc => ?_) (fun hc => ?_) <;> try (exfalso; omega))
    | (fail_if_success (refine o_isLit rfl (by first | exact .inl rfl | exact .inr rfl) ?_)); (refine o_split rfl rfl (fun hc => ?_) (fun hc => ?_))
    | (refine o_call0 rfl h1 ⟨SLe.of_eq rfl, SLe.of_eq rfl, True.intro⟩ rfl ?_; rintro _ _ ⟨rfl, rfl⟩; refine ⟨rfl, ?_⟩)
    | (refine o_call0 rfl h2 ⟨SLe.of_eq rfl, SLe.of_eq rfl, True.intro⟩ rfl ?_; rintro _ _ ⟨rfl, rfl⟩; refine ⟨rfl, ?_⟩))
  refine end_tmp rfl rfl rfl [] [] (CLe.of_eq ?_) .nil ⟨rfl, rfl⟩ _ (.inl rfl)
  subst hs1; rfl
end Go.Proofs.Ytapbbifcipemfaa
