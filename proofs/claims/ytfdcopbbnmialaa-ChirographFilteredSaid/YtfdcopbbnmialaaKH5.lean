/- bloom.Make by rules. -/
import Derived.Test.YtfdcopbbnmialaaKH3Z
set_option maxHeartbeats 4000000
namespace Go.Proofs.Ytfdcopbbnmialaa
open Go Go.RowKit
def stA (s : List UInt8) : AV := .s s
theorem or_bit (c : UInt8) (x : Nat) : bitsI .or .u8 (c.toNat : Int) (IntKind.u8.wrap (1 * 2 ^ (min ((x : Int) % 8).toNat (IntKind.bits .u8)))) = ((orBit c (x % 8)).toNat : Int) := by
  have hc := c.toNat_lt
  have hk : min ((x : Int) % 8).toNat (IntKind.bits .u8) = x % 8 := by rw [show IntKind.bits .u8 = 8 from rfl]; omega
  have h2 : 2 ^ (x % 8) < 256 := Nat.pow_lt_pow_right (a := 2) (n := 8) (by decide) (Nat.mod_lt _ (by decide))
  rw [hk, Int.one_mul, show (2 : Int) ^ (x % 8) = ((2 ^ (x % 8) : Nat) : Int) by rw [Int.natCast_pow]; rfl, bwrap_nat, Nat.mod_eq_of_lt h2, or8 hc h2]
  unfold orBit
  rw [UInt8.toNat_ofNat', Nat.mod_eq_of_lt (orBit_lt c (Nat.mod_lt _ (by decide)))]
def nbOf (n e : Nat) : Nat := (n * e + 7) / 8 + 1
def pOf (e : Nat) : Nat := if e * 7 / 10 = 0 then 1 else e * 7 / 10
def mkF (keys : List (List UInt8)) (e : Nat) : List UInt8 := mkBits (pOf e) (keys.map hashN) (List.replicate (nbOf keys.length e) 0)
theorem make_spec (keys : List (List UInt8)) (e : Nat) (he : 1 ≤ e ∧ e ≤ 32) (hk : keys.length ≤ 2048) (hks : ∀ s ∈ keys, s.length ≤ 1000000000000) : Spec Try.prog 10 [.sl 1 (keys.map stA), .i .i64 e] [] (fun v os => v = .tup [flA (pOf e : Nat) (mkF keys e), .i .i64 0] ∧ os = []) := by
  refine spec_of TtOk [] Try.func10 rfl Try.ntmps10 (by kernel_rfl) rfl rfl (fun C => ?_) rfl
  have hp1 : 0 ≤ (keys.length : Int) * (e : Int) := Int.mul_nonneg (by omega) (by omega)
  have hp2 : (keys.length : Int) * (e : Int) ≤ 65536 := by
    have h1 : keys.length * e ≤ 2048 * 32 := Nat.mul_le_mul hk he.2
    have h2 : ((keys.length * e : Nat) : Int) ≤ 65536 := by omega
    rw [Int.natCast_mul] at h2; exact h2
  repeat' (first | refine Awp.seq ?_ | refine Awp.region ?_ | (refine Ops.nil ?_; show Awp _ _ _ _ _) | (refine Awp.skip ?_; show Awp _ _ _ _ _) | (refine o_add rfl rfl rfl rfl ?_ ?_; omega) | (refine o_mul rfl rfl rfl rfl ?_ ?_; omega) | (refine o_quo rfl rfl rfl rfl ?_ ?_ ?_; omega; omega) | refine o_len rfl TtOk rfl rfl rfl (fun _ => ?_) | (refine o_calm rfl TtOk rfl rfl rfl ?_ (fun _ => ?_); first | exact True.intro | exact ⟨rfl, rfl, rfl, rfl⟩ | exact ⟨rfl, True.intro⟩ | exact ⟨rfl, rfl⟩ | exact ⟨rfl, rfl, rfl⟩ | exact rfl | exact ⟨fun h0 => by cases h0, rfl⟩ | exact (fun h0 => by cases h0) | exact ⟨rfl, by omega⟩ | exact ⟨Nat.succ_ne_zero _, rfl⟩ | omega) | refine o_alloc (d := 4) rfl TtOk rfl rfl rfl (fun b4 => ?_) | (fail_if_success (refine o_isLit rfl (by first | exact .inl rfl | exact .inr rfl) ?_)); (refine o_splitP rfl rfl (fun hc => ?_) (fun hc => ?_) <;> try (exfalso; omega)) | (refine a_condP rfl (fun hc => ?_) (fun hc => ?_)) <;> (try (exfalso; omega)))
  refine o_makeSlice TtOk rfl rfl rfl rfl rfl rfl rfl rfl rfl (nbOf keys.length e) ?_ ?_ ?_ ?_ (fun v33 => ?_)
  · show ((keys.length : Int) * (e : Int) + 7) / 8 + 1 = _
    unfold nbOf; rw [← Int.natCast_mul]; omega
  · show ((keys.length : Int) * (e : Int) + 7) / 8 + 1 = _
    unfold nbOf; rw [← Int.natCast_mul]; omega
  · unfold nbOf; rw [← Int.natCast_mul] at hp2; omega
  · unfold nbOf; rw [← Int.natCast_mul] at hp2; omega
  have hn1 : 0 < nbOf keys.length e := by unfold nbOf; omega
  have hn2 : nbOf keys.length e ≤ 65536 := by unfold nbOf; rw [← Int.natCast_mul] at hp2; omega
  have hpe : (if (e : Int) * 7 / 10 > 1 then (e : Int) * 7 / 10 else 1) = (pOf e : Nat) := by
    unfold pOf; split <;> split <;> omega
  have hpn : pOf e ≤ 32 := by unfold pOf; split <;> omega
  have hF : mkF keys e = mkBits (pOf e) (keys.map hashN) (List.replicate (nbOf keys.length e) 0) := rfl
  rw [hpe, hF]
  clear hpe hF hp1 hp2
  have hz : (List.replicate (nbOf keys.length e) (0 : UInt8)).length = nbOf keys.length e := List.length_replicate
  rw [show List.replicate (nbOf keys.length e) (AV.i .u8 0) = (List.replicate (nbOf keys.length e) (0 : UInt8)).map byA by rw [List.map_replicate]; rfl]
  generalize List.replicate (nbOf keys.length e) (0 : UInt8) = z at hz ⊢
  generalize nbOf keys.length e = nb at hz hn1 hn2 ⊢
  generalize pOf e = p at hpn ⊢
  repeat' (first | refine Awp.seq ?_ | refine Awp.block ?_ | refine Awp.region ?_ | (refine Ops.nil ?_; show Awp _ _ _ _ _) | refine o_len rfl TtOk rfl rfl rfl (fun _ => ?_) | (refine o_calm rfl TtOk rfl rfl rfl ?_ (fun _ => ?_); first | exact True.intro | exact ⟨rfl, rfl, rfl, rfl⟩ | exact ⟨rfl, True.intro⟩ | exact ⟨rfl, rfl⟩ | exact ⟨rfl, rfl, rfl⟩ | exact rfl | exact ⟨fun h0 => by cases h0, rfl⟩ | exact (fun h0 => by cases h0) | exact ⟨rfl, by omega⟩ | exact ⟨Nat.succ_ne_zero _, rfl⟩ | omega) | refine o_alloc (d := 6) rfl TtOk rfl rfl rfl (fun b6 => ?_) | refine o_store TtOk rfl rfl rfl rfl rfl rfl rfl ⟨rfl, rfl⟩ rfl rfl rfl rfl rfl ?_ | refine o_build TtOk rfl rfl rfl rfl rfl rfl (by repeat' (first | exact True.intro | exact rfl | refine ⟨?_, ?_⟩)) ?_)
  refine Awp.loop (fun k : Nat => ⟨63, [(37, .i .i64 k), (36, .i .i64 keys.length), (35, .sl 1 (keys.map stA)), (6, .ptr 6 b6 [] 0), (4, .ptr 4 b4 [] 0)], [(6, .var b6 (.agg [.i .i64 p, .own 33 v33])), (33, .row v33 5 1 ((mkBits p ((keys.take k).map hashN) z).map byA)), (4, .var b4 (.agg [.i .i64 0, .nil]))]⟩) (fun k => k ≤ keys.length) (fun k => keys.length - k) [] 0 (Nat.zero_le _) ?_ ?_
  · exact ⟨rfl, ⟨sle_i rfl, sle_i rfl, sle_sl rfl, sle_ptr, sle_ptr, True.intro⟩, HLe.cons 6 rfl (HOLe.refl _) (HLe.cons 33 rfl (HOLe.refl _) (HLe.cons 4 rfl (HOLe.refl _) .nil))⟩
  intro k hk
  have hbl := mkBits_len p ((keys.take k).map hashN) z
  by_cases hlt : k < keys.length
  · have hsu : mkBits p ((keys.take (k + 1)).map hashN) z = setBits (mkBits p ((keys.take k).map hashN) z) (placesN (hashN keys[k]) p (8 * (mkBits p ((keys.take k).map hashN) z).length)) := by
      rw [List.take_succ_eq_append_getElem hlt, List.map_append]; unfold mkBits; rw [List.foldl_append]; rfl
    have hsk := hks _ (List.getElem_mem hlt)
    rw [hbl, hz] at hsu
    rw [hz] at hbl
    generalize mkBits p ((keys.take k).map hashN) z = bs at hbl hsu ⊢
    have hpl := places_spec p bs keys[k] hsk (by omega) (by omega) (by omega)
    rw [hbl] at hpl
    have hf : ∀ z : List Nat, flatAs (z.map ptA) = true := fun z => flatAs_map (fun _ => rfl) z
    repeat' (first | refine Awp.seq ?_ | refine Awp.block ?_ | refine Awp.region ?_ | (refine Ops.nil ?_; show Awp _ _ _ _ _) | (refine Awp.skip ?_; show Awp _ _ _ _ _) | refine o_lenOwn rfl TtOk rfl rfl rfl rfl (fun _ => ?_) | (refine o_calm rfl TtOk rfl rfl rfl ?_ (fun _ => ?_); first | exact True.intro | exact ⟨rfl, rfl, rfl, rfl⟩ | exact ⟨rfl, True.intro⟩ | exact ⟨rfl, rfl⟩ | exact ⟨rfl, rfl, rfl⟩ | exact rfl | exact ⟨fun h0 => by cases h0, rfl⟩ | exact (fun h0 => by cases h0) | exact ⟨rfl, by omega⟩ | exact ⟨Nat.succ_ne_zero _, rfl⟩ | omega) | (refine o_index rfl TtOk rfl rfl rfl rfl rfl rfl ?_ (getq_nat ?_) ?_; omega; omega) | (refine a_condP rfl (fun hc => ?_) (fun hc => ?_)) <;> (try (exfalso; omega)) | (refine o_callLR rfl hpl rfl ⟨SLe.of_cle (CLe.agg (.cons (CLe.refl _) (.cons (CLe.fz (.head _)) .nil))) rfl, SLe.of_eq rfl, True.intro⟩ rfl (hf _) (fun vR => ?_)))
    have hps : ∀ x ∈ placesN (hashN keys[k]) p (8 * nb), x < 8 * nb := placesN_lt (by omega)
    have hpsn := placesN_len (hashN keys[k]) p (8 * nb)
    generalize placesN (hashN keys[k]) p (8 * nb) = ps at hps hsu hpsn ⊢
    refine Awp.loop (fun j : Nat => ⟨63, [(45, .i .i64 j), (44, .i .i64 ps.length), (43, .sl 1 (ps.map ptA)), (37, .i .i64 k), (36, .i .i64 keys.length), (35, .sl 1 (keys.map stA)), (6, .ptr 6 b6 [] 0), (4, .ptr 4 b4 [] 0)], [(6, .var b6 (.agg [.i .i64 p, .own 33 v33])), (33, .row v33 5 1 ((setBits bs (ps.take j)).map byA)), (4, .var b4 (.agg [.i .i64 0, .nil]))]⟩) (fun j => j ≤ ps.length) (fun j => ps.length - j) [43] 0 (Nat.zero_le _) ?_ ?_
    · exact ⟨rfl, ⟨sle_i rfl, sle_i rfl, SLe.of_cle (CLe.fz (.head _)) rfl, sle_i rfl, sle_i rfl, sle_sl rfl, sle_ptr, sle_ptr, True.intro⟩, HLe.cons 6 rfl (HOLe.refl _) (HLe.cons 33 rfl (HOLe.refl _) (HLe.cons 4 rfl (HOLe.refl _) .nil))⟩
    intro j hj
    by_cases hjl : j < ps.length
    · have hx := hps _ (List.getElem_mem hjl)
      have hcl := setBits_len (ps.take j) bs
      have hsj : setBits bs (ps.take (j + 1)) = setBit (setBits bs (ps.take j)) ps[j] := by
        rw [List.take_succ_eq_append_getElem hjl]; unfold setBits; rw [List.foldl_append]; rfl
      generalize setBits bs (ps.take j) = cs at hcl hsj ⊢
      have hx8 : ps[j] / 8 < cs.length := by omega
      repeat' (first | refine Awp.seq ?_ | refine Awp.block ?_ | refine Awp.region ?_ | (refine Ops.nil ?_; show Awp _ _ _ _ _) | (refine Ops.nil ?_; show Exists _) | (refine Awp.skip ?_; show Awp _ _ _ _ _) | (refine o_add rfl rfl rfl rfl ?_ ?_; omega) | (refine o_quo rfl rfl rfl rfl ?_ ?_ ?_; omega; omega) | (refine o_rem rfl rfl rfl rfl ?_ ?_ ?_; omega; omega) | (refine o_calm rfl TtOk rfl rfl rfl ?_ (fun _ => ?_); first | exact True.intro | exact ⟨rfl, rfl, rfl, rfl⟩ | exact ⟨rfl, True.intro⟩ | exact ⟨rfl, rfl⟩ | exact ⟨rfl, rfl, rfl⟩ | exact rfl | exact ⟨fun h0 => by cases h0, rfl⟩ | exact (fun h0 => by cases h0) | exact ⟨rfl, by omega⟩ | exact ⟨Nat.succ_ne_zero _, rfl⟩ | omega) | (refine o_index rfl TtOk rfl rfl rfl rfl rfl rfl ?_ (getq_nat ?_) ?_; omega; omega) | (refine o_indexOwn TtOk rfl rfl rfl rfl rfl rfl rfl rfl _ rfl ?_ (fun bO hbO => ?_); ((repeat' (first | rw [List.length_append] | rw [List.length_map] | rw [List.length_cons] | rw [List.length_nil] | rw [List.length_take] | rw [List.length_drop])) <;> omega)) | (refine o_loadRow TtOk rfl rfl rfl rfl rfl (by assumption) (getq_map (List.getElem?_eq_getElem ?_)) rfl rfl (by first | exact Nat.add_zero _ | rfl) ⟨rfl, rfl⟩ ?_; omega) | (refine o_storeRow TtOk rfl rfl rfl rfl rfl rfl (by assumption) (getq_map (List.getElem?_eq_getElem ?_)) rfl rfl (by first | exact Nat.add_zero _ | rfl) ⟨rfl, rfl⟩ rfl rfl ?_; omega) | (refine a_condP rfl (fun hc => ?_) (fun hc => ?_)) <;> (try (exfalso; omega)) | refine a_any 12 [33] [50, 54] [] [0, 2, 3, 6, 7, 8, 1, 4, 5, 9, 10, 11] (by kernel_rfl) (by kernel_rfl) (by kernel_rfl) rfl rfl rfl ?_)
      refine ⟨j + 1, [], by omega, by omega, rfl, ⟨sle_i (by omega), sle_i rfl, sle_sl rfl, sle_i rfl, sle_i rfl, sle_sl rfl, sle_ptr, sle_ptr, True.intro⟩, HLe.cons 6 rfl (HOLe.refl _) (HLe.cons 33 rfl (HOLe.row ?_) (HLe.cons 4 rfl (HOLe.refl _) .nil))⟩
      rw [or_bit, hsj]
      unfold setBit
      rw [List.getD_eq_getElem?_getD, List.getElem?_eq_getElem hx8, List.map_set]; rfl
    · have hjk : j = ps.length := by omega
      rw [hjk, List.take_length]
      repeat' (first | refine Awp.seq ?_ | refine Awp.region ?_ | (refine Ops.nil ?_; show Awp _ _ _ _ _) | (refine Ops.nil ?_; show Exists _) | (refine Awp.exit ?_; show Awp _ _ _ _ _) | (refine o_add rfl rfl rfl rfl ?_ ?_; omega) | (refine o_calm rfl TtOk rfl rfl rfl ?_ (fun _ => ?_); first | exact True.intro | exact ⟨rfl, rfl, rfl, rfl⟩ | exact ⟨rfl, True.intro⟩ | exact ⟨rfl, rfl⟩ | exact ⟨rfl, rfl, rfl⟩ | exact rfl | exact ⟨fun h0 => by cases h0, rfl⟩ | exact (fun h0 => by cases h0) | exact ⟨rfl, by omega⟩ | exact ⟨Nat.succ_ne_zero _, rfl⟩ | omega) | (refine a_condP rfl (fun hc => ?_) (fun hc => ?_)) <;> (try (exfalso; omega)))
      exact ⟨k + 1, [], by omega, by omega, rfl, ⟨sle_i (by omega), sle_i rfl, sle_sl rfl, sle_ptr, sle_ptr, True.intro⟩, HLe.cons 6 rfl (HOLe.refl _) (HLe.cons 33 rfl (HOLe.row (by rw [hsu])) (HLe.cons 4 rfl (HOLe.refl _) .nil))⟩
  · have hkl : k = keys.length := by omega
    rw [hkl, List.take_length] at hbl ⊢
    repeat' (first | refine Awp.seq ?_ | refine Awp.region ?_ | (refine Ops.nil ?_; show Awp _ _ _ _ _) | (refine Awp.exit ?_; show Awp _ _ _ _ _) | (refine Awp.ret ?_; show endK _ _ _ _ _) | (refine o_calm rfl TtOk rfl rfl rfl ?_ (fun _ => ?_); first | exact True.intro | exact ⟨rfl, rfl, rfl, rfl⟩ | exact ⟨rfl, True.intro⟩ | exact ⟨rfl, rfl⟩ | exact ⟨rfl, rfl, rfl⟩ | exact rfl | exact ⟨fun h0 => by cases h0, rfl⟩ | exact (fun h0 => by cases h0) | exact ⟨rfl, by omega⟩ | exact ⟨Nat.succ_ne_zero _, rfl⟩ | omega) | refine o_store TtOk rfl rfl rfl rfl rfl rfl rfl ⟨rfl, rfl⟩ rfl rfl rfl rfl rfl ?_ | (refine a_condP rfl (fun hc => ?_) (fun hc => ?_)) <;> (try (exfalso; omega)))
    refine end_all [33] [] (.tup [flA (p : Nat) (mkBits p (keys.map hashN) z), .i .i64 0]) rfl ?_ ?_ (rle_tup2 (CLe.agg (.cons (CLe.refl _) (.cons (CLe.fz (.head _)) .nil))) (CLe.refl _) rfl rfl) .nil ⟨rfl, rfl⟩ _ (.inl rfl)
    · repeat' (first | exact True.intro | exact rfl | refine ⟨?_, ?_⟩)
    · exact ⟨trivial, trivial, trivial⟩
end Go.Proofs.Ytfdcopbbnmialaa
