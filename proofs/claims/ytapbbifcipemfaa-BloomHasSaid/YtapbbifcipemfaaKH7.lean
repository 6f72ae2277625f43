/- law03.Cut, law08.Few, bloom.Filter.Bytes, bloom.Read, ref02.Number, Text by rules. -/
import Derived.Test.YtapbbifcipemfaaKH5
import Derived.Test.YtapbbifcipemfaaKW2
import Derived.Test.YtapbbifcipemfaaKR3
set_option maxHeartbeats 4000000
namespace Go.Proofs.Ytapbbifcipemfaa
open Go Go.RowKit
theorem cut_spec (s : List UInt8) (n : Nat) (hn : n ≤ 1000000000000) : Spec Try.prog 36 [.s s, .i .i64 n] [] (fun v os => v = .s (s.take n) ∧ os = []) := by
  refine spec_of TtOk [] Try.func36 rfl Try.ntmps36 (by kernel_rfl) rfl rfl (fun C => ?_) rfl
  repeat' (first
    | refine Awp.seq ?_
    | refine Awp.region ?_
    | (refine Ops.nil ?_; show Awp _ _ _ _ _)
    | (refine Ops.nil ?_; show Exists _)
    | (refine Ops.nil ?_; show endK _ _ _ _ _)
    | (refine Awp.skip ?_; show Awp _ _ _ _ _)
    | (refine Awp.skip ?_; show endK _ _ _ _ _)
    | (refine Awp.skip ?_; show Exists _)
    | (refine Awp.ret ?_; show endK _ _ _ _ _)
    | refine o_len rfl TtOk rfl rfl rfl (fun _ => ?_)
    | refine o_lenOwn rfl TtOk rfl rfl rfl rfl (fun _ => ?_)
    | (refine o_calm rfl TtOk rfl rfl rfl ?_ (fun _ => ?_); first | exact True.intro | exact ⟨rfl, rfl, rfl, rfl⟩ | exact ⟨rfl, True.intro⟩ | exact ⟨rfl, rfl⟩ | exact ⟨rfl, rfl, rfl⟩ | exact rfl | exact ⟨fun h0 => by cases h0, rfl⟩ | exact (fun h0 => by cases h0) | exact ⟨rfl, by omega⟩ | exact ⟨Nat.succ_ne_zero _, rfl⟩ | omega)
    | refine o_sliceCp TtOk rfl rfl rfl rfl rfl rfl ?_
    | refine a_condT rfl ?_
    | refine a_condF rfl ?_
    | (refine a_condP rfl (fun hc => ?_) (fun hc => ?_)) <;> (try (exfalso; omega))
    | (refine a_condI rfl (fun hc => ?_) (fun hc => ?_)) <;> (try (exfalso; omega))
    | (refine a_condN rfl (fun hc => ?_) (fun hc => ?_)) <;> (try (exfalso; omega))
    | (refine Awp.cond rfl (fun hc => ?_) (fun hc => ?_)))
  · refine o_sliceStr TtOk rfl 0 n rfl rfl rfl bnd_none (bnd_some rfl rfl) (by omega) (by omega) ?_
    repeat' (first
      | refine Awp.seq ?_
      | refine Awp.region ?_
      | (refine Ops.nil ?_; show Awp _ _ _ _ _)
      | (refine Ops.nil ?_; show Exists _)
      | (refine Ops.nil ?_; show endK _ _ _ _ _)
      | (refine Awp.skip ?_; show Awp _ _ _ _ _)
      | (refine Awp.skip ?_; show endK _ _ _ _ _)
      | (refine Awp.skip ?_; show Exists _)
      | (refine Awp.ret ?_; show endK _ _ _ _ _)
      | refine o_len rfl TtOk rfl rfl rfl (fun _ => ?_)
      | refine o_lenOwn rfl TtOk rfl rfl rfl rfl (fun _ => ?_)
      | (refine o_calm rfl TtOk rfl rfl rfl ?_ (fun _ => ?_); first | exact True.intro | exact ⟨rfl, rfl, rfl, rfl⟩ | exact ⟨rfl, True.intro⟩ | exact ⟨rfl, rfl⟩ | exact ⟨rfl, rfl, rfl⟩ | exact rfl | exact ⟨fun h0 => by cases h0, rfl⟩ | exact (fun h0 => by cases h0) | exact ⟨rfl, by omega⟩ | exact ⟨Nat.succ_ne_zero _, rfl⟩ | omega)
      | refine o_sliceCp TtOk rfl rfl rfl rfl rfl rfl ?_
      | refine a_condT rfl ?_
      | refine a_condF rfl ?_
      | (refine a_condP rfl (fun hc => ?_) (fun hc => ?_)) <;> (try (exfalso; omega))
      | (refine a_condI rfl (fun hc => ?_) (fun hc => ?_)) <;> (try (exfalso; omega))
      | (refine a_condN rfl (fun hc => ?_) (fun hc => ?_)) <;> (try (exfalso; omega))
      | (refine Awp.cond rfl (fun hc => ?_) (fun hc => ?_)))
    exact end_tmp rfl rfl rfl [] [] (CLe.of_eq rfl) .nil ⟨rfl, rfl⟩ _ (.inl rfl)
  · refine end_tmp rfl rfl rfl [] [] (CLe.of_eq ?_) .nil ⟨rfl, rfl⟩ _ (.inl rfl)
    rw [List.take_of_length_le (by omega)]; rfl
def few8 (l : List (List UInt8)) (n : Nat) : List (List UInt8) := (l.take n).map (fun s => s.take 100)
theorem few8_succ (l : List (List UInt8)) (k : Nat) (h : k < l.length) : few8 l (k + 1) = few8 l k ++ [(l[k]'h).take 100] := by
  unfold few8; rw [List.take_succ_eq_append_getElem h, List.map_append]; rfl
theorem few8_len (l : List (List UInt8)) (n : Nat) : (few8 l n).length ≤ n := by unfold few8; rw [List.length_map, List.length_take]; omega
theorem few8_mem (l : List (List UInt8)) (n : Nat) : ∀ s ∈ few8 l n, s.length ≤ 100 := by
  intro s hs
  obtain ⟨t, _, rfl⟩ := List.mem_map.1 hs
  rw [List.length_take]; omega
theorem few8_spec (l : List (List UInt8)) (hl : l.length ≤ 9223372036854775807) (n : Nat) (hn : n ≤ 1000000) : Spec Try.prog 12 [.sl 1 (l.map stA), .i .i64 n] [] (fun v os => v = .sl 1 ((few8 l n).map stA) ∧ os = []) := by
  refine spec_of TtOk [] Try.func12 rfl Try.ntmps12 (by kernel_rfl) rfl rfl (fun C => ?_) rfl
  repeat' (first
    | refine Awp.seq ?_
    | refine Awp.block ?_
    | refine Awp.region ?_
    | (refine Ops.nil ?_; show Awp _ _ _ _ _)
    | (refine Ops.nil ?_; show Exists _)
    | (refine Ops.nil ?_; show endK _ _ _ _ _)
    | (refine Awp.skip ?_; show Awp _ _ _ _ _)
    | (refine Awp.skip ?_; show endK _ _ _ _ _)
    | (refine Awp.skip ?_; show Exists _)
    | (refine Awp.exit ?_; show Awp _ _ _ _ _)
    | (refine Awp.exit ?_; show Exists _)
    | (refine Awp.exit ?_; show endK _ _ _ _ _)
    | (refine Awp.ret ?_; show endK _ _ _ _ _)
    | refine o_offT rfl rfl rfl (by first | exact .inl rfl | exact .inr rfl) ?_
    | refine o_offU rfl rfl rfl (by first | exact .inl rfl | exact .inr rfl) ?_
    | refine o_offF rfl rfl rfl (by first | exact .inl rfl | exact .inr rfl) ?_
    | (refine o_add rfl rfl rfl rfl ?_ ?_; omega)
    | refine o_len rfl TtOk rfl rfl rfl (fun _ => ?_)
    | refine o_lenOwn rfl TtOk rfl rfl rfl rfl (fun _ => ?_)
    | (refine o_calm rfl TtOk rfl rfl rfl ?_ (fun _ => ?_); first | exact True.intro | exact ⟨rfl, rfl, rfl, rfl⟩ | exact ⟨rfl, True.intro⟩ | exact ⟨rfl, rfl⟩ | exact ⟨rfl, rfl, rfl⟩ | exact rfl | exact ⟨fun h0 => by cases h0, rfl⟩ | exact (fun h0 => by cases h0) | exact ⟨rfl, by omega⟩ | exact ⟨Nat.succ_ne_zero _, rfl⟩ | omega)
    | (refine o_index rfl TtOk rfl rfl rfl rfl rfl rfl ?_ (getq_nat ?_) ?_; omega; omega)
    | (refine o_indexOwn TtOk rfl rfl rfl rfl rfl rfl rfl rfl _ rfl ?_ (fun bO hbO => ?_); (simp only [List.length_map]; omega))
    | (refine o_loadRow TtOk rfl rfl rfl rfl rfl (by assumption) (getq_map (List.getElem?_eq_getElem ?_)) rfl rfl (by first | exact Nat.add_zero _ | rfl) ⟨rfl, rfl⟩ ?_; omega)
    | (refine o_calm rfl TtOk rfl rfl rfl ?_ (fun _ => ?_); (show List.length _ + List.length _ ≤ 9223372036854775807; (try simp only [List.length_append, List.length_cons, List.length_nil]); omega))
    | (refine o_storeRow TtOk rfl rfl rfl rfl rfl rfl (by assumption) (getq_map (List.getElem?_eq_getElem ?_)) rfl rfl (by first | exact Nat.add_zero _ | rfl) ⟨rfl, rfl⟩ rfl rfl ?_; omega)
    | refine o_buildSlice TtOk rfl rfl rfl rfl rfl rfl rfl rfl rfl rfl rfl (by repeat' (first | exact True.intro | exact rfl | refine ⟨?_, ?_⟩)) (fun _ => ?_)
    | (refine o_append TtOk rfl rfl rfl rfl rfl rfl rfl rfl rfl (by first | exact True.intro | exact rfl) rfl rfl (fun _ => rfl) ?_ ?_ (fun _ => ?_); (simp only [List.length_map, List.length_cons, List.length_nil, List.length_append, List.length_take, List.length_drop]; omega); (simp only [List.length_map, List.length_cons, List.length_nil, List.length_append, List.length_take, List.length_drop]; omega))
    | (refine o_appendStr TtOk rfl rfl rfl rfl rfl rfl rfl rfl rfl (fun _ => rfl) ?_ (fun _ => ?_); (simp only [List.length_map, List.length_cons, List.length_nil, List.length_append, List.length_take, List.length_drop]; omega))
    | (fail_if_success (refine o_isLit rfl (by first | exact .inl rfl | exact .inr rfl) ?_)); (refine o_splitP rfl rfl (fun hc => ?_) (fun hc => ?_) <;> try (exfalso; omega))
    | (fail_if_success (refine o_isLit rfl (by first | exact .inl rfl | exact .inr rfl) ?_)); (refine o_splitI rfl rfl (fun hc => ?_) (fun hc => ?_) <;> try (exfalso; omega))
    | (fail_if_success (refine o_isLit rfl (by first | exact .inl rfl | exact .inr rfl) ?_)); (refine o_splitN rfl rfl (fun hc => ?_) (fun hc => ?_) <;> try (exfalso; omega))
    | (fail_if_success (refine o_isLit rfl (by first | exact .inl rfl | exact .inr rfl) ?_)); (refine o_split rfl rfl (fun hc => ?_) (fun hc => ?_))
    | refine a_condT rfl ?_
    | refine a_condF rfl ?_
    | (refine a_condP rfl (fun hc => ?_) (fun hc => ?_)) <;> (try (exfalso; omega))
    | (refine a_condI rfl (fun hc => ?_) (fun hc => ?_)) <;> (try (exfalso; omega))
    | (refine a_condN rfl (fun hc => ?_) (fun hc => ?_)) <;> (try (exfalso; omega))
    | (refine Awp.cond rfl (fun hc => ?_) (fun hc => ?_))
    | (refine o_call0 rfl (cut_spec _ 100 (by decide)) ⟨SLe.of_eq rfl, SLe.of_eq rfl, True.intro⟩ rfl ?_; rintro _ _ ⟨rfl, rfl⟩; refine ⟨rfl, ?_⟩)
    | (refine o_call0 rfl (cut_spec _ 300 (by decide)) ⟨SLe.of_eq rfl, SLe.of_eq rfl, True.intro⟩ rfl ?_; rintro _ _ ⟨rfl, rfl⟩; refine ⟨rfl, ?_⟩)
    | (refine o_call0 rfl (cut_spec _ 500 (by decide)) ⟨SLe.of_eq rfl, SLe.of_eq rfl, True.intro⟩ rfl ?_; rintro _ _ ⟨rfl, rfl⟩; refine ⟨rfl, ?_⟩))
  rename_i _ v7 _ _
  refine Awp.loop (fun q : Nat × Value => ⟨28, [(6, .i .i64 q.1), (5, .own 7 q.2), (0, .sl 1 (l.map stA)), (1, .i .i64 n)], [(7, .row q.2 9 1 ((few8 l q.1).map stA))]⟩) (fun q => q.1 ≤ l.length ∧ q.1 ≤ n) (fun q => l.length - q.1) [] (0, v7) ⟨Nat.zero_le _, Nat.zero_le _⟩ ?_ ?_
  · exact ⟨rfl, ⟨sle_i rfl, sle_own, sle_sl rfl, sle_i rfl, True.intro⟩, HLe.same rfl (HOLe.refl _) .nil⟩
  rintro ⟨k, v⟩ ⟨hk, hkn⟩
  dsimp only at hk hkn ⊢
  have hfl := few8_len l k
  have hsu := fun h => few8_succ l k h
  have hend : ¬ (k < l.length ∧ k < n) → few8 l n = few8 l k := fun h => by
    unfold few8
    by_cases h1 : k = n
    · rw [h1]
    · rw [List.take_of_length_le (show l.length ≤ n by omega), List.take_of_length_le (show l.length ≤ k by omega)]
  generalize few8 l k = out at hfl hsu hend ⊢
  repeat' (first
    | refine Awp.seq ?_
    | refine Awp.block ?_
    | refine Awp.region ?_
    | (refine Ops.nil ?_; show Awp _ _ _ _ _)
    | (refine Ops.nil ?_; show Exists _)
    | (refine Ops.nil ?_; show endK _ _ _ _ _)
    | (refine Awp.skip ?_; show Awp _ _ _ _ _)
    | (refine Awp.skip ?_; show endK _ _ _ _ _)
    | (refine Awp.skip ?_; show Exists _)
    | (refine Awp.exit ?_; show Awp _ _ _ _ _)
    | (refine Awp.exit ?_; show Exists _)
    | (refine Awp.exit ?_; show endK _ _ _ _ _)
    | (refine Awp.ret ?_; show endK _ _ _ _ _)
    | refine o_offT rfl rfl rfl (by first | exact .inl rfl | exact .inr rfl) ?_
    | refine o_offU rfl rfl rfl (by first | exact .inl rfl | exact .inr rfl) ?_
    | refine o_offF rfl rfl rfl (by first | exact .inl rfl | exact .inr rfl) ?_
    | (refine o_add rfl rfl rfl rfl ?_ ?_; omega)
    | refine o_len rfl TtOk rfl rfl rfl (fun _ => ?_)
    | refine o_lenOwn rfl TtOk rfl rfl rfl rfl (fun _ => ?_)
    | (refine o_calm rfl TtOk rfl rfl rfl ?_ (fun _ => ?_); first | exact True.intro | exact ⟨rfl, rfl, rfl, rfl⟩ | exact ⟨rfl, True.intro⟩ | exact ⟨rfl, rfl⟩ | exact ⟨rfl, rfl, rfl⟩ | exact rfl | exact ⟨fun h0 => by cases h0, rfl⟩ | exact (fun h0 => by cases h0) | exact ⟨rfl, by omega⟩ | exact ⟨Nat.succ_ne_zero _, rfl⟩ | omega)
    | (refine o_index rfl TtOk rfl rfl rfl rfl rfl rfl ?_ (getq_nat ?_) ?_; omega; omega)
    | (refine o_indexOwn TtOk rfl rfl rfl rfl rfl rfl rfl rfl _ rfl ?_ (fun bO hbO => ?_); (simp only [List.length_map]; omega))
    | (refine o_loadRow TtOk rfl rfl rfl rfl rfl (by assumption) (getq_map (List.getElem?_eq_getElem ?_)) rfl rfl (by first | exact Nat.add_zero _ | rfl) ⟨rfl, rfl⟩ ?_; omega)
    | (refine o_calm rfl TtOk rfl rfl rfl ?_ (fun _ => ?_); (show List.length _ + List.length _ ≤ 9223372036854775807; (try simp only [List.length_append, List.length_cons, List.length_nil]); omega))
    | (refine o_storeRow TtOk rfl rfl rfl rfl rfl rfl (by assumption) (getq_map (List.getElem?_eq_getElem ?_)) rfl rfl (by first | exact Nat.add_zero _ | rfl) ⟨rfl, rfl⟩ rfl rfl ?_; omega)
    | refine o_buildSlice TtOk rfl rfl rfl rfl rfl rfl rfl rfl rfl rfl rfl (by repeat' (first | exact True.intro | exact rfl | refine ⟨?_, ?_⟩)) (fun _ => ?_)
    | (refine o_append TtOk rfl rfl rfl rfl rfl rfl rfl rfl rfl (by first | exact True.intro | exact rfl) rfl rfl (fun _ => rfl) ?_ ?_ (fun _ => ?_); (simp only [List.length_map, List.length_cons, List.length_nil, List.length_append, List.length_take, List.length_drop]; omega); (simp only [List.length_map, List.length_cons, List.length_nil, List.length_append, List.length_take, List.length_drop]; omega))
    | (refine o_appendStr TtOk rfl rfl rfl rfl rfl rfl rfl rfl rfl (fun _ => rfl) ?_ (fun _ => ?_); (simp only [List.length_map, List.length_cons, List.length_nil, List.length_append, List.length_take, List.length_drop]; omega))
    | (fail_if_success (refine o_isLit rfl (by first | exact .inl rfl | exact .inr rfl) ?_)); (refine o_splitP rfl rfl (fun hc => ?_) (fun hc => ?_) <;> try (exfalso; omega))
    | (fail_if_success (refine o_isLit rfl (by first | exact .inl rfl | exact .inr rfl) ?_)); (refine o_splitI rfl rfl (fun hc => ?_) (fun hc => ?_) <;> try (exfalso; omega))
    | (fail_if_success (refine o_isLit rfl (by first | exact .inl rfl | exact .inr rfl) ?_)); (refine o_splitN rfl rfl (fun hc => ?_) (fun hc => ?_) <;> try (exfalso; omega))
    | (fail_if_success (refine o_isLit rfl (by first | exact .inl rfl | exact .inr rfl) ?_)); (refine o_split rfl rfl (fun hc => ?_) (fun hc => ?_))
    | refine a_condT rfl ?_
    | refine a_condF rfl ?_
    | (refine a_condP rfl (fun hc => ?_) (fun hc => ?_)) <;> (try (exfalso; omega))
    | (refine a_condI rfl (fun hc => ?_) (fun hc => ?_)) <;> (try (exfalso; omega))
    | (refine a_condN rfl (fun hc => ?_) (fun hc => ?_)) <;> (try (exfalso; omega))
    | (refine Awp.cond rfl (fun hc => ?_) (fun hc => ?_))
    | (refine o_call0 rfl (cut_spec _ 100 (by decide)) ⟨SLe.of_eq rfl, SLe.of_eq rfl, True.intro⟩ rfl ?_; rintro _ _ ⟨rfl, rfl⟩; refine ⟨rfl, ?_⟩)
    | (refine o_call0 rfl (cut_spec _ 300 (by decide)) ⟨SLe.of_eq rfl, SLe.of_eq rfl, True.intro⟩ rfl ?_; rintro _ _ ⟨rfl, rfl⟩; refine ⟨rfl, ?_⟩)
    | (refine o_call0 rfl (cut_spec _ 500 (by decide)) ⟨SLe.of_eq rfl, SLe.of_eq rfl, True.intro⟩ rfl ?_; rintro _ _ ⟨rfl, rfl⟩; refine ⟨rfl, ?_⟩))
  · refine ⟨(k + 1, _), [], ⟨by show k + 1 ≤ l.length; omega, by show k + 1 ≤ n; omega⟩, by show l.length - (k + 1) < l.length - k; omega, rfl, ⟨sle_i (by omega), sle_own, sle_sl rfl, sle_i rfl, True.intro⟩, HLe.cons 7 rfl (HOLe.row ?_) .nil⟩
    rw [hsu (by omega), List.map_append]; rfl
  · refine end_tmp rfl rfl rfl [7] [] (CLe.fz ?_) .nil ⟨rfl, rfl⟩ _ (.inl rfl)
    rw [hend (by omega)]; exact .head _
  · refine end_tmp rfl rfl rfl [7] [] (CLe.fz ?_) .nil ⟨rfl, rfl⟩ _ (.inl rfl)
    rw [hend (by omega)]; exact .head _
def txB (t : List UInt8) : List UInt8 := numBytes t.length ++ t
def fbytes (p : Int) (b : List UInt8) : List UInt8 × Int := if goodB p (bitsOf b).length then (numBytes p.toNat ++ txB b, 0) else ([], 3)
theorem wdone_good {p : Int} {b : List UInt8} (hg : goodB p (bitsOf b).length = true) : (((⟨[], 0⟩ : WS).number p).text b).done = (numBytes p.toNat ++ txB b, 0) := by
  rw [bitsOf_len, goodB_iff] at hg
  have h1 := numBytes_len p.toNat (by omega)
  have h2 := numBytes_len b.length (by omega)
  have e1 : (⟨[], 0⟩ : WS).number p = ⟨numBytes p.toNat, 0⟩ := by unfold WS.number; rw [if_neg (by omega)]; rfl
  have e2 : (⟨numBytes p.toNat, 0⟩ : WS).text b = ⟨numBytes p.toNat ++ txB b, 0⟩ := by
    unfold WS.text WS.number; rw [if_neg (by omega), if_neg (by omega)]
    unfold WS.put txB; rw [List.append_assoc]; rfl
  rw [e1, e2]
  unfold WS.done
  have hl : (numBytes p.toNat ++ txB b).length ≤ 65536 := by unfold txB; rw [List.length_append, List.length_append]; omega
  rw [if_neg (fun h => h rfl), if_neg (by show ¬ 65536 < (numBytes p.toNat ++ txB b).length; omega)]
theorem fbytes_spec (p : Int) (b : List UInt8) (hb : b.length ≤ 1000000000) : Spec Try.prog 15 [flA p b] [] (fun v os => v = .tup [.s (fbytes p b).1, .i .i64 (fbytes p b).2] ∧ os = []) := by
  refine spec_of TtOk [] Try.func15 rfl Try.ntmps15 (by kernel_rfl) rfl rfl (fun C => ?_) rfl
  have hgd := good_spec p b (by omega)
  cases hg : goodB p (bitsOf b).length
  · have hF : fbytes p b = ([], 3) := by unfold fbytes; rw [hg]; rfl
    rw [hF]
    rw [hg] at hgd
    repeat' (first
      | refine Awp.seq ?_
      | refine Awp.region ?_
      | (refine Ops.nil ?_; show Awp _ _ _ _ _)
      | (refine Ops.nil ?_; show Exists _)
      | (refine Ops.nil ?_; show endK _ _ _ _ _)
      | (refine Awp.skip ?_; show Awp _ _ _ _ _)
      | (refine Awp.skip ?_; show endK _ _ _ _ _)
      | (refine Awp.skip ?_; show Exists _)
      | (refine Awp.ret ?_; show endK _ _ _ _ _)
      | refine o_convB rfl TtOk rfl rfl rfl rfl ?_
      | (refine o_conv64 rfl TtOk rfl rfl rfl rfl ?_ ?_; omega)
      | (refine o_calm rfl TtOk rfl rfl rfl ?_ (fun _ => ?_); first | exact True.intro | exact ⟨rfl, rfl, rfl, rfl⟩ | exact ⟨rfl, True.intro⟩ | exact ⟨rfl, rfl⟩ | exact ⟨rfl, rfl, rfl⟩ | exact rfl | exact ⟨fun h0 => by cases h0, rfl⟩ | exact (fun h0 => by cases h0) | exact ⟨rfl, by omega⟩ | exact ⟨Nat.succ_ne_zero _, rfl⟩ | omega)
      | refine o_alloc (d := 4) rfl TtOk rfl rfl rfl (fun b4 => ?_)
      | refine o_box (d := 1) rfl rfl rfl rfl (fun b1 => ?_)
      | refine o_toBytes TtOk rfl rfl rfl rfl rfl rfl ?_
      | refine a_condT rfl ?_
      | refine a_condF rfl ?_
      | (refine a_condP rfl (fun hc => ?_) (fun hc => ?_)) <;> (try (exfalso; omega))
      | (refine a_condI rfl (fun hc => ?_) (fun hc => ?_)) <;> (try (exfalso; omega))
      | (refine a_condN rfl (fun hc => ?_) (fun hc => ?_)) <;> (try (exfalso; omega))
      | (refine Awp.cond rfl (fun hc => ?_) (fun hc => ?_))
      | refine o_toString TtOk rfl rfl rfl rfl rfl (by first | exact True.intro | exact rfl) rfl rfl rfl rfl ?_
      | (refine o_call0 rfl hgd ⟨SLe.of_eq rfl, True.intro⟩ rfl ?_; rintro _ _ ⟨rfl, rfl⟩; refine ⟨rfl, ?_⟩))
    refine end_all [] [] (.tup [.s [], .i .i64 3]) rfl ?_ ?_ (rle_tup2 (CLe.refl _) (CLe.refl _) rfl rfl) .nil ⟨rfl, rfl⟩ _ (.inl rfl)
    · repeat' (first | exact True.intro | exact rfl | refine ⟨?_, ?_⟩)
    · exact ⟨trivial, trivial, trivial⟩
  · have hF : fbytes p b = (((⟨[], 0⟩ : WS).number p).text b).done := by unfold fbytes; rw [hg, wdone_good hg]; rfl
    rw [hF]
    rw [hg] at hgd
    rw [goodB_iff] at hg
    have h0 : (⟨[], 0⟩ : WS).bs.length ≤ 1000000000000 := by decide
    have h1 := WS.len_number ⟨[], 0⟩ p (by omega)
    have h10 : (⟨[], 0⟩ : WS).bs.length = 0 := rfl
    refine Awp.seq ?_
    repeat' (first
      | refine Awp.region ?_
      | (refine Ops.nil ?_; show Awp _ _ _ _ _)
      | (refine Ops.nil ?_; show Exists _)
      | (refine Ops.nil ?_; show endK _ _ _ _ _)
      | (refine Awp.skip ?_; show Awp _ _ _ _ _)
      | (refine Awp.skip ?_; show endK _ _ _ _ _)
      | (refine Awp.skip ?_; show Exists _)
      | (refine Awp.ret ?_; show endK _ _ _ _ _)
      | refine o_convB rfl TtOk rfl rfl rfl rfl ?_
      | (refine o_conv64 rfl TtOk rfl rfl rfl rfl ?_ ?_; omega)
      | (refine o_calm rfl TtOk rfl rfl rfl ?_ (fun _ => ?_); first | exact True.intro | exact ⟨rfl, rfl, rfl, rfl⟩ | exact ⟨rfl, True.intro⟩ | exact ⟨rfl, rfl⟩ | exact ⟨rfl, rfl, rfl⟩ | exact rfl | exact ⟨fun h0 => by cases h0, rfl⟩ | exact (fun h0 => by cases h0) | exact ⟨rfl, by omega⟩ | exact ⟨Nat.succ_ne_zero _, rfl⟩ | omega)
      | refine o_alloc (d := 4) rfl TtOk rfl rfl rfl (fun b4 => ?_)
      | refine o_box (d := 1) rfl rfl rfl rfl (fun b1 => ?_)
      | refine o_toBytes TtOk rfl rfl rfl rfl rfl rfl ?_
      | refine o_toString TtOk rfl rfl rfl rfl rfl (by first | exact True.intro | exact rfl) rfl rfl rfl rfl ?_)
    refine a_freezeV 1 1 rfl rfl rfl ?_
    repeat' (first
      | refine Awp.seq ?_
      | refine Awp.region ?_
      | (refine Ops.nil ?_; show Awp _ _ _ _ _)
      | (refine Ops.nil ?_; show Exists _)
      | (refine Ops.nil ?_; show endK _ _ _ _ _)
      | (refine Awp.skip ?_; show Awp _ _ _ _ _)
      | (refine Awp.skip ?_; show endK _ _ _ _ _)
      | (refine Awp.skip ?_; show Exists _)
      | (refine Awp.ret ?_; show endK _ _ _ _ _)
      | refine o_convB rfl TtOk rfl rfl rfl rfl ?_
      | (refine o_conv64 rfl TtOk rfl rfl rfl rfl ?_ ?_; omega)
      | (refine o_calm rfl TtOk rfl rfl rfl ?_ (fun _ => ?_); first | exact True.intro | exact ⟨rfl, rfl, rfl, rfl⟩ | exact ⟨rfl, True.intro⟩ | exact ⟨rfl, rfl⟩ | exact ⟨rfl, rfl, rfl⟩ | exact rfl | exact ⟨fun h0 => by cases h0, rfl⟩ | exact (fun h0 => by cases h0) | exact ⟨rfl, by omega⟩ | exact ⟨Nat.succ_ne_zero _, rfl⟩ | omega)
      | refine o_alloc (d := 4) rfl TtOk rfl rfl rfl (fun b4 => ?_)
      | refine o_box (d := 1) rfl rfl rfl rfl (fun b1 => ?_)
      | refine o_toBytes TtOk rfl rfl rfl rfl rfl rfl ?_
      | refine a_condT rfl ?_
      | refine a_condF rfl ?_
      | (refine a_condP rfl (fun hc => ?_) (fun hc => ?_)) <;> (try (exfalso; omega))
      | (refine a_condI rfl (fun hc => ?_) (fun hc => ?_)) <;> (try (exfalso; omega))
      | (refine a_condN rfl (fun hc => ?_) (fun hc => ?_)) <;> (try (exfalso; omega))
      | (refine Awp.cond rfl (fun hc => ?_) (fun hc => ?_))
      | refine o_toString TtOk rfl rfl rfl rfl rfl (by first | exact True.intro | exact rfl) rfl rfl rfl rfl ?_
      | (refine o_call0 rfl hgd ⟨SLe.of_eq rfl, True.intro⟩ rfl ?_; rintro _ _ ⟨rfl, rfl⟩; refine ⟨rfl, ?_⟩))
    refine Ops.weaken [] (S' := ⟨18, [(9, .i .i64 p), (4, .ptr 4 b4 [] 0), (1, .cp (.agg [.i .i64 p, .sl 1 (b.map byA)]))], [(4, .var b4 (wrA (.slice none 0 0) ⟨[], 0⟩)), (1, .row (.slice none 0 0) 5 1 [])]⟩) ⟨rfl, ⟨sle_i rfl, sle_ptr, SLe.of_eq rfl, True.intro⟩, HLe.cons 4 rfl (HOLe.var (CLe.agg (.cons CLe.nilown (.cons (CLe.refl _) .nil)))) (.none .nil)⟩ ?_
    repeat' (first
      | refine Awp.seq ?_
      | refine Awp.region ?_
      | (refine Ops.nil ?_; show Awp _ _ _ _ _)
      | (refine Ops.nil ?_; show Exists _)
      | (refine Ops.nil ?_; show endK _ _ _ _ _)
      | (refine Awp.skip ?_; show Awp _ _ _ _ _)
      | (refine Awp.skip ?_; show endK _ _ _ _ _)
      | (refine Awp.skip ?_; show Exists _)
      | (refine Awp.ret ?_; show endK _ _ _ _ _)
      | refine o_convB rfl TtOk rfl rfl rfl rfl ?_
      | (refine o_conv64 rfl TtOk rfl rfl rfl rfl ?_ ?_; omega)
      | (refine o_calm rfl TtOk rfl rfl rfl ?_ (fun _ => ?_); first | exact True.intro | exact ⟨rfl, rfl, rfl, rfl⟩ | exact ⟨rfl, True.intro⟩ | exact ⟨rfl, rfl⟩ | exact ⟨rfl, rfl, rfl⟩ | exact rfl | exact ⟨fun h0 => by cases h0, rfl⟩ | exact (fun h0 => by cases h0) | exact ⟨rfl, by omega⟩ | exact ⟨Nat.succ_ne_zero _, rfl⟩ | omega)
      | refine o_alloc rfl TtOk rfl rfl rfl (fun bA => ?_)
      | refine o_box rfl rfl rfl rfl (fun _ => ?_)
      | refine o_toBytes TtOk rfl rfl rfl rfl rfl rfl ?_
      | refine a_condT rfl ?_
      | refine a_condF rfl ?_
      | (refine a_condP rfl (fun hc => ?_) (fun hc => ?_)) <;> (try (exfalso; omega))
      | (refine a_condI rfl (fun hc => ?_) (fun hc => ?_)) <;> (try (exfalso; omega))
      | (refine a_condN rfl (fun hc => ?_) (fun hc => ?_)) <;> (try (exfalso; omega))
      | (refine Awp.cond rfl (fun hc => ?_) (fun hc => ?_))
      | refine o_toString TtOk rfl rfl rfl rfl rfl (by first | exact True.intro | exact rfl) rfl rfl rfl rfl ?_
      | (refine o_call0 rfl (good_spec _ _ (by first | assumption | omega)) ⟨SLe.of_eq rfl, True.intro⟩ rfl ?_; rintro _ _ ⟨rfl, rfl⟩; refine ⟨rfl, ?_⟩)
      | (refine o_callPR rfl rfl rfl rfl rfl (wdone_spec _ _ _) ⟨sle_ptr, True.intro⟩ (HOLe.refl _) (HOLe.refl _) rfl rfl ?_; rintro _ _ ⟨rfl, wv, rfl⟩; refine ⟨_, _, rfl, _, rfl, ?_⟩)
      | (refine o_callPR rfl rfl rfl rfl rfl (wnumber_spec _ _ (by first | assumption | omega) _ _ (by first | assumption | omega)) ⟨sle_ptr, SLe.of_eq rfl, True.intro⟩ (HOLe.refl _) (HOLe.refl _) rfl rfl ?_; rintro _ _ ⟨rfl, wv, rfl⟩; refine ⟨_, _, rfl, _, rfl, ?_⟩)
      | (refine o_callPR rfl rfl rfl rfl rfl (wtext_spec _ _ _ _ (by first | assumption | omega)) ⟨sle_ptr, SLe.of_eq rfl, True.intro⟩ (HOLe.refl _) (HOLe.refl _) rfl rfl ?_; rintro _ _ ⟨rfl, wv, rfl⟩; refine ⟨_, _, rfl, _, rfl, ?_⟩))
    generalize (((⟨[], 0⟩ : WS).number p).text b).done = q
    refine end_all [] [] (.tup [.s q.1, .i .i64 q.2]) rfl ?_ ?_ (rle_tup2 (CLe.refl _) (CLe.refl _) rfl rfl) .nil ⟨rfl, rfl⟩ _ (.inl rfl)
    · repeat' (first | exact True.intro | exact rfl | refine ⟨?_, ?_⟩)
    · exact ⟨trivial, trivial, trivial⟩
def fread (s : List UInt8) : Int × List UInt8 × Int :=
  if (RS.open s).number.2.text.2.done ≠ 0 then (0, [], (RS.open s).number.2.text.2.done)
  else if goodB ((RS.open s).number.1 : Nat) (bitsOf (RS.open s).number.2.text.1).length then (((RS.open s).number.1 : Nat), (RS.open s).number.2.text.1, 0) else (0, [], 3)
theorem text_len (r : RS) : r.text.1.length ≤ 65536 := by
  unfold RS.text RS.big
  split
  · rename_i h
    unfold RS.take RS.fail
    rw [if_pos h.1, if_pos (show (2 : Int) ≠ 0 by decide)]; exact Nat.zero_le _
  · rename_i h
    unfold RS.take
    split
    · exact Nat.zero_le _
    · split
      · exact Nat.zero_le _
      · rename_i h1 h2
        rw [List.length_take]
        have : ¬ 65536 < r.number.1 := fun h3 => h ⟨by omega, h3⟩
        omega
theorem fread_spec (s : List UInt8) (hs : s.length ≤ 1000000000) : Spec Try.prog 16 [.s s] [] (fun v os => v = .tup [flA (fread s).1 (fread s).2.1, .i .i64 (fread s).2.2] ∧ os = []) := by
  refine spec_of TtOk [] Try.func16 rfl Try.ntmps16 (by kernel_rfl) rfl rfl (fun C => ?_) rfl
  have hok0 := RS.ok_open (s := s) (by omega)
  have hok1 := RS.ok_number hok0
  have hok2 := RS.ok_text hok1
  have htl : (RS.open s).number.2.text.1.length ≤ 1000000000000 := Nat.le_trans (text_len _) (by decide)
  repeat' (first
    | refine Awp.seq ?_
    | refine Awp.region ?_
    | (refine Ops.nil ?_; show Awp _ _ _ _ _)
    | (refine Ops.nil ?_; show Exists _)
    | (refine Ops.nil ?_; show endK _ _ _ _ _)
    | (refine Awp.skip ?_; show Awp _ _ _ _ _)
    | (refine Awp.skip ?_; show endK _ _ _ _ _)
    | (refine Awp.skip ?_; show Exists _)
    | (refine Awp.ret ?_; show endK _ _ _ _ _)
    | refine o_convB rfl TtOk rfl rfl rfl rfl ?_
    | (refine o_conv64 rfl TtOk rfl rfl rfl rfl ?_ ?_; omega)
    | (refine o_calm rfl TtOk rfl rfl rfl ?_ (fun _ => ?_); first | exact True.intro | exact ⟨rfl, rfl, rfl, rfl⟩ | exact ⟨rfl, True.intro⟩ | exact ⟨rfl, rfl⟩ | exact ⟨rfl, rfl, rfl⟩ | exact rfl | exact ⟨fun h0 => by cases h0, rfl⟩ | exact (fun h0 => by cases h0) | exact ⟨rfl, by omega⟩ | exact ⟨Nat.succ_ne_zero _, rfl⟩ | omega)
    | refine o_alloc (d := 2) rfl TtOk rfl rfl rfl (fun b2 => ?_)
    | refine o_alloc (d := 5) rfl TtOk rfl rfl rfl (fun b5 => ?_)
    | refine o_store TtOk rfl rfl rfl rfl rfl rfl rfl ⟨rfl, rfl⟩ rfl rfl rfl rfl rfl ?_
    | refine o_build TtOk rfl rfl rfl rfl rfl rfl (by repeat' (first | exact True.intro | exact rfl | refine ⟨?_, ?_⟩)) ?_
    | refine o_buildArr0 TtOk rfl rfl rfl rfl ?_
    | refine o_toBytes TtOk rfl rfl rfl rfl rfl rfl ?_
    | refine a_condT rfl ?_
    | refine a_condF rfl ?_
    | (refine a_condP rfl (fun hc => ?_) (fun hc => ?_)) <;> (try (exfalso; omega))
    | (refine a_condI rfl (fun hc => ?_) (fun hc => ?_)) <;> (try (exfalso; omega))
    | (refine a_condN rfl (fun hc => ?_) (fun hc => ?_)) <;> (try (exfalso; omega))
    | (refine Awp.cond rfl (fun hc => ?_) (fun hc => ?_))
    | refine o_toString TtOk rfl rfl rfl rfl rfl (by first | exact True.intro | exact rfl) rfl rfl rfl rfl ?_
    | (refine o_call0 rfl (good_spec _ _ (by first | assumption | omega)) ⟨SLe.of_eq rfl, True.intro⟩ rfl ?_; rintro _ _ ⟨rfl, rfl⟩; refine ⟨rfl, ?_⟩)
    | (refine o_callN rfl (ropen_spec _) ⟨SLe.of_eq rfl, True.intro⟩ rfl (fun bN => ?_))
    | (refine o_callP rfl rfl rfl rfl (rdone_spec _ _) ⟨sle_ptr, True.intro⟩ (HOLe.refl _) rfl rfl ?_; rintro _ _ ⟨rfl, rfl⟩; refine ⟨_, rfl, _, rfl, ?_⟩)
    | (refine o_callP rfl rfl rfl rfl (rnumber_spec _ _ (by assumption)) ⟨sle_ptr, True.intro⟩ (HOLe.refl _) rfl rfl ?_; rintro _ _ ⟨rfl, rfl⟩; refine ⟨_, rfl, _, rfl, ?_⟩)
    | (refine o_callP rfl rfl rfl rfl (rtext_spec _ _ (by assumption)) ⟨sle_ptr, True.intro⟩ (HOLe.refl _) rfl rfl ?_; rintro _ _ ⟨rfl, rfl⟩; refine ⟨_, rfl, _, rfl, ?_⟩))
  · have hF : fread s = (0, [], (RS.open s).number.2.text.2.done) := by unfold fread; rw [if_pos hc]
    rw [hF]
    refine end_all [] [] (.tup [flA 0 [], .i .i64 (RS.open s).number.2.text.2.done]) rfl ?_ ?_ (rle_tup2 (CLe.agg (.cons (CLe.refl _) (.cons CLe.nilsl .nil))) (CLe.refl _) rfl rfl) .nil ⟨rfl, rfl⟩ _ (.inl rfl)
    · repeat' (first | exact True.intro | exact rfl | refine ⟨?_, ?_⟩)
    · exact ⟨trivial, trivial, trivial⟩
  · have hF : fread s = (0, [], 3) := by
      unfold fread; rw [if_neg (fun h => h (by assumption)), if_neg (by intro h; rw [h] at hc; exact absurd hc (by decide))]
    rw [hF]
    refine end_all [] [] (.tup [flA 0 [], .i .i64 3]) rfl ?_ ?_ (rle_tup2 (CLe.agg (.cons (CLe.refl _) (.cons CLe.nilsl .nil))) (CLe.refl _) rfl rfl) .nil ⟨rfl, rfl⟩ _ (.inl rfl)
    · repeat' (first | exact True.intro | exact rfl | refine ⟨?_, ?_⟩)
    · exact ⟨trivial, trivial, trivial⟩
  · have hF : fread s = ((((RS.open s).number.1 : Nat) : Int), (RS.open s).number.2.text.1, 0) := by
      unfold fread; rw [if_neg (fun h => h (by assumption)), if_pos (by simpa using hc)]
    rw [hF]
    refine end_all [] [] (.tup [flA ((RS.open s).number.1 : Nat) (RS.open s).number.2.text.1, .i .i64 0]) rfl ?_ ?_ (rle_tup2 (CLe.of_eq rfl) (CLe.refl _) rfl rfl) .nil ⟨rfl, rfl⟩ _ (.inl rfl)
    · repeat' (first | exact True.intro | exact rfl | refine ⟨?_, ?_⟩)
    · exact ⟨trivial, trivial, trivial⟩
end Go.Proofs.Ytapbbifcipemfaa
