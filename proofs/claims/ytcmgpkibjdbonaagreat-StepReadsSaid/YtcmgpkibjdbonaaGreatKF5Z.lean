/- ref02's ReadLabel, Label, Flag by rules. -/
import Derived.Test.YtcmgpkibjdbonaaGreatKF3
import Derived.Test.YtcmgpkibjdbonaaGreatV15Z
import Derived.Test.YtcmgpkibjdbonaaGreatTypesZ
set_option maxHeartbeats 16000000
namespace Go.Proofs.YtcmgpkibjdbonaaGreat
open Go Go.RowKit

def RS.label (r : RS) : List UInt8 × RS := ((r.take 32).1 ++ List.replicate (32 - (r.take 32).1.length) 0, (r.take 32).2)
theorem clabel_spec (r : RS) (hok : r.ok) : Spec Tryz.prog 195 [rdA r] [] (fun v os => v = .tup [rdA r.label.2, labA r.label.1] ∧ os = []) := by
  refine spec_of TtOk [] Tryz.func195 rfl Tryz.ntmps195 (by kernel_rfl) rfl rfl (fun C => ?_) rfl
  repeat' (first | refine Awp.seq ?_ | refine Awp.block ?_ | refine Awp.region ?_ | (refine Ops.nil ?_; show Awp _ _ _ _ _) | (refine Ops.nil ?_; show Exists _) | (refine Ops.nil ?_; show endK _ _ _ _ _) | (refine Awp.skip ?_; show Awp _ _ _ _ _) | (refine Awp.skip ?_; show endK _ _ _ _ _) | (refine Awp.skip ?_; show Exists _) | (refine Awp.exit ?_; show Awp _ _ _ _ _) | (refine Awp.exit ?_; show Exists _) | (refine Awp.exit ?_; show endK _ _ _ _ _) | (refine Awp.ret ?_; show endK _ _ _ _ _) | (refine o_add rfl rfl rfl rfl ?_ ?_; omega) | refine o_len rfl TtOk rfl rfl rfl (fun _ => ?_) | refine o_lenOwn rfl TtOk rfl rfl rfl rfl (fun _ => ?_) | (refine o_calm rfl TtOk rfl rfl rfl ?_ (fun _ => ?_); exact nd) | refine o_alloc rfl TtOk rfl rfl rfl (fun _ => ?_) | refine o_box rfl rfl rfl rfl (fun _ => ?_) | refine o_store TtOk rfl rfl rfl rfl rfl rfl rfl ⟨rfl, rfl⟩ rfl rfl rfl rfl rfl ?_ | (refine o_index rfl TtOk rfl rfl rfl rfl rfl rfl ?_ (getq_nat ?_) ?_; omega; omega) | (refine o_indexOwn TtOk rfl rfl rfl rfl rfl rfl rfl rfl _ rfl ?_ (fun bO hbO => ?_); ((repeat' (first | rw [List.length_append] | rw [List.length_map] | rw [List.length_cons] | rw [List.length_nil] | rw [List.length_take] | rw [List.length_drop])) <;> omega)) | (refine o_loadRow TtOk rfl rfl rfl rfl rfl (by assumption) (getq_map (List.getElem?_eq_getElem ?_)) rfl rfl (by first | exact Nat.add_zero _ | rfl) ⟨rfl, rfl⟩ ?_; omega) | (refine o_calm rfl TtOk rfl rfl rfl ?_ (fun _ => ?_); (show List.length _ + List.length _ ≤ 9223372036854775807; (repeat' (first | rw [List.length_append] | rw [List.length_map] | rw [List.length_cons] | rw [List.length_nil] | rw [List.length_take] | rw [List.length_drop])) <;> omega)) | (refine o_storeRow TtOk rfl rfl rfl rfl rfl rfl (by assumption) (getq_map (List.getElem?_eq_getElem ?_)) rfl rfl (by first | exact Nat.add_zero _ | rfl) ⟨rfl, rfl⟩ rfl rfl ?_; omega) | refine o_build TtOk rfl rfl rfl rfl rfl rfl (by repeat' (first | exact True.intro | exact rfl | refine ⟨?_, ?_⟩)) ?_ | refine o_buildArr0 TtOk rfl rfl rfl rfl ?_ | refine a_condT rfl ?_ | refine a_condF rfl ?_ | (refine a_condP rfl (fun hc => ?_) (fun hc => ?_)) <;> (try (exfalso; omega)) | (refine a_condI rfl (fun hc => ?_) (fun hc => ?_)) <;> (try (exfalso; omega)) | (refine a_condN rfl (fun hc => ?_) (fun hc => ?_)) <;> (try (exfalso; omega)) | (refine Awp.cond rfl (fun hc => ?_) (fun hc => ?_)) | refine a_any 7 [2, 3] [24] [] [0, 1, 2, 3] (by kernel_rfl) (by kernel_rfl) (by kernel_rfl) rfl rfl rfl ?_)
  rename_i b1 b2 b3 b4 _
  refine o_call0 rfl (ctake_spec 32 r hok) ⟨SLe.of_eq rfl, sle_i rfl, True.intro⟩ rfl ?_
  rintro v os' ⟨rfl, rfl⟩; refine ⟨rfl, ?_⟩
  have hlen := take_len r 32
  have hlab : r.label = ((r.take 32).1 ++ List.replicate (32 - (r.take 32).1.length) 0, (r.take 32).2) := rfl
  generalize (r.take 32).1 = t at hlen hlab ⊢
  generalize (r.take 32).2 = r1 at hlab ⊢
  repeat' (first | refine Awp.seq ?_ | refine Awp.block ?_ | refine Awp.region ?_ | (refine Ops.nil ?_; show Awp _ _ _ _ _) | (refine Ops.nil ?_; show Exists _) | (refine Ops.nil ?_; show endK _ _ _ _ _) | (refine Awp.skip ?_; show Awp _ _ _ _ _) | (refine Awp.skip ?_; show endK _ _ _ _ _) | (refine Awp.skip ?_; show Exists _) | (refine Awp.exit ?_; show Awp _ _ _ _ _) | (refine Awp.exit ?_; show Exists _) | (refine Awp.exit ?_; show endK _ _ _ _ _) | (refine Awp.ret ?_; show endK _ _ _ _ _) | (refine o_add rfl rfl rfl rfl ?_ ?_; omega) | refine o_len rfl TtOk rfl rfl rfl (fun _ => ?_) | refine o_lenOwn rfl TtOk rfl rfl rfl rfl (fun _ => ?_) | (refine o_calm rfl TtOk rfl rfl rfl ?_ (fun _ => ?_); exact nd) | refine o_alloc rfl TtOk rfl rfl rfl (fun _ => ?_) | refine o_box rfl rfl rfl rfl (fun _ => ?_) | refine o_store TtOk rfl rfl rfl rfl rfl rfl rfl ⟨rfl, rfl⟩ rfl rfl rfl rfl rfl ?_ | (refine o_index rfl TtOk rfl rfl rfl rfl rfl rfl ?_ (getq_nat ?_) ?_; omega; omega) | (refine o_indexOwn TtOk rfl rfl rfl rfl rfl rfl rfl rfl _ rfl ?_ (fun bO hbO => ?_); ((repeat' (first | rw [List.length_append] | rw [List.length_map] | rw [List.length_cons] | rw [List.length_nil] | rw [List.length_take] | rw [List.length_drop])) <;> omega)) | (refine o_loadRow TtOk rfl rfl rfl rfl rfl (by assumption) (getq_map (List.getElem?_eq_getElem ?_)) rfl rfl (by first | exact Nat.add_zero _ | rfl) ⟨rfl, rfl⟩ ?_; omega) | (refine o_calm rfl TtOk rfl rfl rfl ?_ (fun _ => ?_); (show List.length _ + List.length _ ≤ 9223372036854775807; (repeat' (first | rw [List.length_append] | rw [List.length_map] | rw [List.length_cons] | rw [List.length_nil] | rw [List.length_take] | rw [List.length_drop])) <;> omega)) | (refine o_storeRow TtOk rfl rfl rfl rfl rfl rfl (by assumption) (getq_map (List.getElem?_eq_getElem ?_)) rfl rfl (by first | exact Nat.add_zero _ | rfl) ⟨rfl, rfl⟩ rfl rfl ?_; omega) | refine o_build TtOk rfl rfl rfl rfl rfl rfl (by repeat' (first | exact True.intro | exact rfl | refine ⟨?_, ?_⟩)) ?_ | refine o_buildArr0 TtOk rfl rfl rfl rfl ?_ | refine a_condT rfl ?_ | refine a_condF rfl ?_ | (refine a_condP rfl (fun hc => ?_) (fun hc => ?_)) <;> (try (exfalso; omega)) | (refine a_condI rfl (fun hc => ?_) (fun hc => ?_)) <;> (try (exfalso; omega)) | (refine a_condN rfl (fun hc => ?_) (fun hc => ?_)) <;> (try (exfalso; omega)) | (refine Awp.cond rfl (fun hc => ?_) (fun hc => ?_)) | refine a_any 7 [2, 3] [24] [] [0, 1, 2, 3] (by kernel_rfl) (by kernel_rfl) (by kernel_rfl) rfl rfl rfl ?_)
  refine Awp.loop (fun k : Nat => ⟨26, [(6, .i .i64 k), (5, .s t), (4, .ptr 4 b4 [] 0), (1, .ptr 1 b1 [] 0), (2, .ptr 2 b2 [] 0), (3, .ptr 3 b3 [] 0)], [(4, .var b4 (.arr 1 32 ((t.take k ++ List.replicate (32 - k) 0).map byA))), (1, .var b1 (rdA r1)), (2, .var b2 (.agg [.s [], .i .i64 0, .i .i64 0])), (3, .var b3 (.arr 1 32 (List.replicate 32 (.i .u8 0))))]⟩) (fun k => k ≤ t.length) (fun k => t.length - k) [] 0 (Nat.zero_le _) ?_ ?_
  · refine ⟨rfl, ?_, ?_⟩ <;> repeat' (first | exact True.intro | refine sle_i ?_ | refine sle_s ?_ | refine sle_b ?_ | refine sle_sl ?_ | exact sle_ptr | exact sle_own | exact sle_nilown | exact SLe.any | exact HLe.nil | exact HOLe.refl _ | refine HLe.same rfl ?_ ?_ | refine HLe.none ?_ | refine HOLe.row ?_ | refine HOLe.var ?_ | exact CLe.refl _ | exact CLe.own | exact CLe.ptr | exact CLe.nilown | refine CLe.agg ?_ | refine CLeL.cons ?_ ?_ | exact CLeL.nil | with_reducible rfl | refine ⟨?_, ?_⟩ | exact SLe.of_eq rfl)
    all_goals rfl
  rintro k hk
  have hal : (t.take k ++ List.replicate (32 - k) 0).length = 32 := by rw [List.length_append, List.length_take, List.length_replicate]; omega
  generalize ha : t.take k ++ List.replicate (32 - k) 0 = a at hal ⊢
  repeat' (first | refine Awp.seq ?_ | refine Awp.block ?_ | refine Awp.region ?_ | (refine Ops.nil ?_; show Awp _ _ _ _ _) | (refine Ops.nil ?_; show Exists _) | (refine Ops.nil ?_; show endK _ _ _ _ _) | (refine Awp.skip ?_; show Awp _ _ _ _ _) | (refine Awp.skip ?_; show endK _ _ _ _ _) | (refine Awp.skip ?_; show Exists _) | (refine Awp.exit ?_; show Awp _ _ _ _ _) | (refine Awp.exit ?_; show Exists _) | (refine Awp.exit ?_; show endK _ _ _ _ _) | (refine Awp.ret ?_; show endK _ _ _ _ _) | (refine o_add rfl rfl rfl rfl ?_ ?_; omega) | refine o_len rfl TtOk rfl rfl rfl (fun _ => ?_) | refine o_lenOwn rfl TtOk rfl rfl rfl rfl (fun _ => ?_) | (refine o_calm rfl TtOk rfl rfl rfl ?_ (fun _ => ?_); exact nd) | refine o_alloc rfl TtOk rfl rfl rfl (fun _ => ?_) | refine o_box rfl rfl rfl rfl (fun _ => ?_) | refine o_store TtOk rfl rfl rfl rfl rfl rfl rfl ⟨rfl, rfl⟩ rfl rfl rfl rfl rfl ?_ | (refine o_index rfl TtOk rfl rfl rfl rfl rfl rfl ?_ (getq_nat ?_) ?_; omega; omega) | (refine o_indexOwn TtOk rfl rfl rfl rfl rfl rfl rfl rfl _ rfl ?_ (fun bO hbO => ?_); ((repeat' (first | rw [List.length_append] | rw [List.length_map] | rw [List.length_cons] | rw [List.length_nil] | rw [List.length_take] | rw [List.length_drop])) <;> omega)) | (refine o_loadRow TtOk rfl rfl rfl rfl rfl (by assumption) (getq_map (List.getElem?_eq_getElem ?_)) rfl rfl (by first | exact Nat.add_zero _ | rfl) ⟨rfl, rfl⟩ ?_; omega) | (refine o_calm rfl TtOk rfl rfl rfl ?_ (fun _ => ?_); (show List.length _ + List.length _ ≤ 9223372036854775807; (repeat' (first | rw [List.length_append] | rw [List.length_map] | rw [List.length_cons] | rw [List.length_nil] | rw [List.length_take] | rw [List.length_drop])) <;> omega)) | (refine o_storeRow TtOk rfl rfl rfl rfl rfl rfl (by assumption) (getq_map (List.getElem?_eq_getElem ?_)) rfl rfl (by first | exact Nat.add_zero _ | rfl) ⟨rfl, rfl⟩ rfl rfl ?_; omega) | refine o_build TtOk rfl rfl rfl rfl rfl rfl (by repeat' (first | exact True.intro | exact rfl | refine ⟨?_, ?_⟩)) ?_ | refine o_buildArr0 TtOk rfl rfl rfl rfl ?_ | refine a_condT rfl ?_ | refine a_condF rfl ?_ | (refine a_condP rfl (fun hc => ?_) (fun hc => ?_)) <;> (try (exfalso; omega)) | (refine a_condI rfl (fun hc => ?_) (fun hc => ?_)) <;> (try (exfalso; omega)) | (refine a_condN rfl (fun hc => ?_) (fun hc => ?_)) <;> (try (exfalso; omega)) | (refine Awp.cond rfl (fun hc => ?_) (fun hc => ?_)) | refine a_any 7 [2, 3] [24] [] [0, 1, 2, 3] (by kernel_rfl) (by kernel_rfl) (by kernel_rfl) rfl rfl rfl ?_)
  · have hkl : k < t.length := by omega
    refine o_indexStr TtOk rfl (c := t[k]) rfl rfl rfl rfl (by omega) (getq_nat hkl) ?_
    repeat' (first | refine Awp.seq ?_ | refine Awp.block ?_ | refine Awp.region ?_ | (refine Ops.nil ?_; show Awp _ _ _ _ _) | (refine Ops.nil ?_; show Exists _) | (refine Ops.nil ?_; show endK _ _ _ _ _) | (refine Awp.skip ?_; show Awp _ _ _ _ _) | (refine Awp.skip ?_; show endK _ _ _ _ _) | (refine Awp.skip ?_; show Exists _) | (refine Awp.exit ?_; show Awp _ _ _ _ _) | (refine Awp.exit ?_; show Exists _) | (refine Awp.exit ?_; show endK _ _ _ _ _) | (refine Awp.ret ?_; show endK _ _ _ _ _) | (refine o_add rfl rfl rfl rfl ?_ ?_; omega) | refine o_len rfl TtOk rfl rfl rfl (fun _ => ?_) | refine o_lenOwn rfl TtOk rfl rfl rfl rfl (fun _ => ?_) | (refine o_calm rfl TtOk rfl rfl rfl ?_ (fun _ => ?_); exact nd) | refine o_alloc rfl TtOk rfl rfl rfl (fun _ => ?_) | refine o_box rfl rfl rfl rfl (fun _ => ?_) | refine o_store TtOk rfl rfl rfl rfl rfl rfl rfl ⟨rfl, rfl⟩ rfl rfl rfl rfl rfl ?_ | (refine o_index rfl TtOk rfl rfl rfl rfl rfl rfl ?_ (getq_nat ?_) ?_; omega; omega) | (refine o_indexOwn TtOk rfl rfl rfl rfl rfl rfl rfl rfl _ rfl ?_ (fun bO hbO => ?_); ((repeat' (first | rw [List.length_append] | rw [List.length_map] | rw [List.length_cons] | rw [List.length_nil] | rw [List.length_take] | rw [List.length_drop])) <;> omega)) | (refine o_loadRow TtOk rfl rfl rfl rfl rfl (by assumption) (getq_map (List.getElem?_eq_getElem ?_)) rfl rfl (by first | exact Nat.add_zero _ | rfl) ⟨rfl, rfl⟩ ?_; omega) | (refine o_calm rfl TtOk rfl rfl rfl ?_ (fun _ => ?_); (show List.length _ + List.length _ ≤ 9223372036854775807; (repeat' (first | rw [List.length_append] | rw [List.length_map] | rw [List.length_cons] | rw [List.length_nil] | rw [List.length_take] | rw [List.length_drop])) <;> omega)) | (refine o_storeRow TtOk rfl rfl rfl rfl rfl rfl (by assumption) (getq_map (List.getElem?_eq_getElem ?_)) rfl rfl (by first | exact Nat.add_zero _ | rfl) ⟨rfl, rfl⟩ rfl rfl ?_; omega) | refine o_build TtOk rfl rfl rfl rfl rfl rfl (by repeat' (first | exact True.intro | exact rfl | refine ⟨?_, ?_⟩)) ?_ | refine o_buildArr0 TtOk rfl rfl rfl rfl ?_ | refine a_condT rfl ?_ | refine a_condF rfl ?_ | (refine a_condP rfl (fun hc => ?_) (fun hc => ?_)) <;> (try (exfalso; omega)) | (refine a_condI rfl (fun hc => ?_) (fun hc => ?_)) <;> (try (exfalso; omega)) | (refine a_condN rfl (fun hc => ?_) (fun hc => ?_)) <;> (try (exfalso; omega)) | (refine Awp.cond rfl (fun hc => ?_) (fun hc => ?_)) | refine a_any 7 [2, 3] [24] [] [0, 1, 2, 3] (by kernel_rfl) (by kernel_rfl) (by kernel_rfl) rfl rfl rfl ?_)
    refine o_indexArr TtOk rfl rfl rfl rfl rfl rfl k rfl (by omega) ?_
    repeat' (first | refine Awp.seq ?_ | refine Awp.block ?_ | refine Awp.region ?_ | (refine Ops.nil ?_; show Awp _ _ _ _ _) | (refine Ops.nil ?_; show Exists _) | (refine Ops.nil ?_; show endK _ _ _ _ _) | (refine Awp.skip ?_; show Awp _ _ _ _ _) | (refine Awp.skip ?_; show endK _ _ _ _ _) | (refine Awp.skip ?_; show Exists _) | (refine Awp.exit ?_; show Awp _ _ _ _ _) | (refine Awp.exit ?_; show Exists _) | (refine Awp.exit ?_; show endK _ _ _ _ _) | (refine Awp.ret ?_; show endK _ _ _ _ _) | (refine o_add rfl rfl rfl rfl ?_ ?_; omega) | refine o_len rfl TtOk rfl rfl rfl (fun _ => ?_) | refine o_lenOwn rfl TtOk rfl rfl rfl rfl (fun _ => ?_) | (refine o_calm rfl TtOk rfl rfl rfl ?_ (fun _ => ?_); exact nd) | refine o_alloc rfl TtOk rfl rfl rfl (fun _ => ?_) | refine o_box rfl rfl rfl rfl (fun _ => ?_) | refine o_store TtOk rfl rfl rfl rfl rfl rfl rfl ⟨rfl, rfl⟩ rfl rfl rfl rfl rfl ?_ | (refine o_index rfl TtOk rfl rfl rfl rfl rfl rfl ?_ (getq_nat ?_) ?_; omega; omega) | (refine o_indexOwn TtOk rfl rfl rfl rfl rfl rfl rfl rfl _ rfl ?_ (fun bO hbO => ?_); ((repeat' (first | rw [List.length_append] | rw [List.length_map] | rw [List.length_cons] | rw [List.length_nil] | rw [List.length_take] | rw [List.length_drop])) <;> omega)) | (refine o_loadRow TtOk rfl rfl rfl rfl rfl (by assumption) (getq_map (List.getElem?_eq_getElem ?_)) rfl rfl (by first | exact Nat.add_zero _ | rfl) ⟨rfl, rfl⟩ ?_; omega) | (refine o_calm rfl TtOk rfl rfl rfl ?_ (fun _ => ?_); (show List.length _ + List.length _ ≤ 9223372036854775807; (repeat' (first | rw [List.length_append] | rw [List.length_map] | rw [List.length_cons] | rw [List.length_nil] | rw [List.length_take] | rw [List.length_drop])) <;> omega)) | (refine o_storeRow TtOk rfl rfl rfl rfl rfl rfl (by assumption) (getq_map (List.getElem?_eq_getElem ?_)) rfl rfl (by first | exact Nat.add_zero _ | rfl) ⟨rfl, rfl⟩ rfl rfl ?_; omega) | refine o_build TtOk rfl rfl rfl rfl rfl rfl (by repeat' (first | exact True.intro | exact rfl | refine ⟨?_, ?_⟩)) ?_ | refine o_buildArr0 TtOk rfl rfl rfl rfl ?_ | refine a_condT rfl ?_ | refine a_condF rfl ?_ | (refine a_condP rfl (fun hc => ?_) (fun hc => ?_)) <;> (try (exfalso; omega)) | (refine a_condI rfl (fun hc => ?_) (fun hc => ?_)) <;> (try (exfalso; omega)) | (refine a_condN rfl (fun hc => ?_) (fun hc => ?_)) <;> (try (exfalso; omega)) | (refine Awp.cond rfl (fun hc => ?_) (fun hc => ?_)) | refine a_any 7 [2, 3] [24] [] [0, 1, 2, 3] (by kernel_rfl) (by kernel_rfl) (by kernel_rfl) rfl rfl rfl ?_)
    have hak : (a.map byA)[k]? = some (byA (a[k]'(by omega))) := by rw [List.getElem?_map, List.getElem?_eq_getElem (by omega)]; rfl
    refine o_storeArr TtOk rfl rfl rfl rfl rfl rfl ⟨rfl, rfl⟩ rfl rfl hak rfl rfl ?_
    repeat' (first | refine Awp.seq ?_ | refine Awp.block ?_ | refine Awp.region ?_ | (refine Ops.nil ?_; show Awp _ _ _ _ _) | (refine Ops.nil ?_; show Exists _) | (refine Ops.nil ?_; show endK _ _ _ _ _) | (refine Awp.skip ?_; show Awp _ _ _ _ _) | (refine Awp.skip ?_; show endK _ _ _ _ _) | (refine Awp.skip ?_; show Exists _) | (refine Awp.exit ?_; show Awp _ _ _ _ _) | (refine Awp.exit ?_; show Exists _) | (refine Awp.exit ?_; show endK _ _ _ _ _) | (refine Awp.ret ?_; show endK _ _ _ _ _) | (refine o_add rfl rfl rfl rfl ?_ ?_; omega) | refine o_len rfl TtOk rfl rfl rfl (fun _ => ?_) | refine o_lenOwn rfl TtOk rfl rfl rfl rfl (fun _ => ?_) | (refine o_calm rfl TtOk rfl rfl rfl ?_ (fun _ => ?_); exact nd) | refine o_alloc rfl TtOk rfl rfl rfl (fun _ => ?_) | refine o_box rfl rfl rfl rfl (fun _ => ?_) | refine o_store TtOk rfl rfl rfl rfl rfl rfl rfl ⟨rfl, rfl⟩ rfl rfl rfl rfl rfl ?_ | (refine o_index rfl TtOk rfl rfl rfl rfl rfl rfl ?_ (getq_nat ?_) ?_; omega; omega) | (refine o_indexOwn TtOk rfl rfl rfl rfl rfl rfl rfl rfl _ rfl ?_ (fun bO hbO => ?_); ((repeat' (first | rw [List.length_append] | rw [List.length_map] | rw [List.length_cons] | rw [List.length_nil] | rw [List.length_take] | rw [List.length_drop])) <;> omega)) | (refine o_loadRow TtOk rfl rfl rfl rfl rfl (by assumption) (getq_map (List.getElem?_eq_getElem ?_)) rfl rfl (by first | exact Nat.add_zero _ | rfl) ⟨rfl, rfl⟩ ?_; omega) | (refine o_calm rfl TtOk rfl rfl rfl ?_ (fun _ => ?_); (show List.length _ + List.length _ ≤ 9223372036854775807; (repeat' (first | rw [List.length_append] | rw [List.length_map] | rw [List.length_cons] | rw [List.length_nil] | rw [List.length_take] | rw [List.length_drop])) <;> omega)) | (refine o_storeRow TtOk rfl rfl rfl rfl rfl rfl (by assumption) (getq_map (List.getElem?_eq_getElem ?_)) rfl rfl (by first | exact Nat.add_zero _ | rfl) ⟨rfl, rfl⟩ rfl rfl ?_; omega) | refine o_build TtOk rfl rfl rfl rfl rfl rfl (by repeat' (first | exact True.intro | exact rfl | refine ⟨?_, ?_⟩)) ?_ | refine o_buildArr0 TtOk rfl rfl rfl rfl ?_ | refine a_condT rfl ?_ | refine a_condF rfl ?_ | (refine a_condP rfl (fun hc => ?_) (fun hc => ?_)) <;> (try (exfalso; omega)) | (refine a_condI rfl (fun hc => ?_) (fun hc => ?_)) <;> (try (exfalso; omega)) | (refine a_condN rfl (fun hc => ?_) (fun hc => ?_)) <;> (try (exfalso; omega)) | (refine Awp.cond rfl (fun hc => ?_) (fun hc => ?_)) | refine a_any 7 [2, 3] [24] [] [0, 1, 2, 3] (by kernel_rfl) (by kernel_rfl) (by kernel_rfl) rfl rfl rfl ?_)
    have hset : (a.map byA).set k (AV.i .u8 (t[k].toNat : Int)) = (t.take (k + 1) ++ List.replicate (32 - (k + 1)) 0).map byA := by
      rw [show AV.i .u8 (t[k].toNat : Int) = byA t[k] from rfl, ← List.map_set, ← ha]
      congr 1
      rw [List.set_append, if_neg (by rw [List.length_take]; omega), List.length_take, show k - min k t.length = 0 by omega, show 32 - k = (32 - (k + 1)) + 1 by omega, List.replicate_succ, List.set_cons_zero, List.take_succ_eq_append_getElem hkl, List.append_assoc]; rfl
    refine ⟨k + 1, [], hkl, by omega, ?_⟩
    refine ⟨rfl, ?_, ?_⟩ <;> repeat' (first | exact True.intro | refine sle_i ?_ | refine sle_s ?_ | refine sle_b ?_ | refine sle_sl ?_ | exact sle_ptr | exact sle_own | exact sle_nilown | exact SLe.any | exact HLe.nil | exact HOLe.refl _ | refine HLe.same rfl ?_ ?_ | refine HLe.none ?_ | refine HOLe.row ?_ | refine HOLe.var ?_ | exact CLe.refl _ | exact CLe.own | exact CLe.ptr | exact CLe.nilown | refine CLe.agg ?_ | refine CLeL.cons ?_ ?_ | exact CLeL.nil | with_reducible rfl | refine ⟨?_, ?_⟩ | exact SLe.of_eq rfl)
    all_goals first | omega | rfl | (intro w F cs hf h1; rw [← hset]; exact h1)
  · have hkl : k = t.length := by omega
    subst hkl
    rw [List.take_length] at ha
    repeat' (first | refine Awp.seq ?_ | refine Awp.block ?_ | refine Awp.region ?_ | (refine Ops.nil ?_; show Awp _ _ _ _ _) | (refine Ops.nil ?_; show Exists _) | (refine Ops.nil ?_; show endK _ _ _ _ _) | (refine Awp.skip ?_; show Awp _ _ _ _ _) | (refine Awp.skip ?_; show endK _ _ _ _ _) | (refine Awp.skip ?_; show Exists _) | (refine Awp.exit ?_; show Awp _ _ _ _ _) | (refine Awp.exit ?_; show Exists _) | (refine Awp.exit ?_; show endK _ _ _ _ _) | (refine Awp.ret ?_; show endK _ _ _ _ _) | (refine o_add rfl rfl rfl rfl ?_ ?_; omega) | refine o_len rfl TtOk rfl rfl rfl (fun _ => ?_) | refine o_lenOwn rfl TtOk rfl rfl rfl rfl (fun _ => ?_) | (refine o_calm rfl TtOk rfl rfl rfl ?_ (fun _ => ?_); exact nd) | refine o_alloc rfl TtOk rfl rfl rfl (fun _ => ?_) | refine o_box rfl rfl rfl rfl (fun _ => ?_) | refine o_store TtOk rfl rfl rfl rfl rfl rfl rfl ⟨rfl, rfl⟩ rfl rfl rfl rfl rfl ?_ | (refine o_index rfl TtOk rfl rfl rfl rfl rfl rfl ?_ (getq_nat ?_) ?_; omega; omega) | (refine o_indexOwn TtOk rfl rfl rfl rfl rfl rfl rfl rfl _ rfl ?_ (fun bO hbO => ?_); ((repeat' (first | rw [List.length_append] | rw [List.length_map] | rw [List.length_cons] | rw [List.length_nil] | rw [List.length_take] | rw [List.length_drop])) <;> omega)) | (refine o_loadRow TtOk rfl rfl rfl rfl rfl (by assumption) (getq_map (List.getElem?_eq_getElem ?_)) rfl rfl (by first | exact Nat.add_zero _ | rfl) ⟨rfl, rfl⟩ ?_; omega) | (refine o_calm rfl TtOk rfl rfl rfl ?_ (fun _ => ?_); (show List.length _ + List.length _ ≤ 9223372036854775807; (repeat' (first | rw [List.length_append] | rw [List.length_map] | rw [List.length_cons] | rw [List.length_nil] | rw [List.length_take] | rw [List.length_drop])) <;> omega)) | (refine o_storeRow TtOk rfl rfl rfl rfl rfl rfl (by assumption) (getq_map (List.getElem?_eq_getElem ?_)) rfl rfl (by first | exact Nat.add_zero _ | rfl) ⟨rfl, rfl⟩ rfl rfl ?_; omega) | refine o_build TtOk rfl rfl rfl rfl rfl rfl (by repeat' (first | exact True.intro | exact rfl | refine ⟨?_, ?_⟩)) ?_ | refine o_buildArr0 TtOk rfl rfl rfl rfl ?_ | refine a_condT rfl ?_ | refine a_condF rfl ?_ | (refine a_condP rfl (fun hc => ?_) (fun hc => ?_)) <;> (try (exfalso; omega)) | (refine a_condI rfl (fun hc => ?_) (fun hc => ?_)) <;> (try (exfalso; omega)) | (refine a_condN rfl (fun hc => ?_) (fun hc => ?_)) <;> (try (exfalso; omega)) | (refine Awp.cond rfl (fun hc => ?_) (fun hc => ?_)) | refine a_any 7 [2, 3] [24] [] [0, 1, 2, 3] (by kernel_rfl) (by kernel_rfl) (by kernel_rfl) rfl rfl rfl ?_)
    refine end_all [] [] (.tup [rdA r.label.2, labA r.label.1]) rfl ?_ ?_ (rle_tup2 (CLe.of_eq (by rw [hlab]; rfl)) (CLe.of_eq (by rw [hlab, ha]; rfl)) rfl rfl) .nil ⟨rfl, rfl⟩ _ (.inl rfl)
    · repeat' (first | exact True.intro | exact rfl | refine ⟨?_, ?_⟩)
    · exact ⟨trivial, trivial, trivial⟩
end Go.Proofs.YtcmgpkibjdbonaaGreat
set_option maxHeartbeats 4000000
namespace Go.Proofs.YtcmgpkibjdbonaaGreat
open Go Go.RowKit

theorem rlabel_spec (b : Nat) (r : RS) (hok : r.ok) : Spec Tryz.prog 114 [.ptr 0 b [] 0] [.var b (rdA r)] (fun v os => v = labA r.label.1 ∧ os = [.var b (rdA r.label.2)]) := by
  refine spec_of TtOk [(0, .var b (rdA r))] Tryz.func114 rfl Tryz.ntmps114 (by kernel_rfl) rfl rfl (fun C => ?_) rfl
  repeat' (first | refine Awp.seq ?_ | refine Awp.region ?_ | (refine Ops.nil ?_; show Awp _ _ _ _ _) | refine o_alloc rfl TtOk rfl rfl rfl (fun bA => ?_) | refine a_any 2 [0, 3] [] [] [0, 1, 2, 3] (by kernel_rfl) (by kernel_rfl) (by kernel_rfl) rfl rfl rfl ?_)
  refine o_sliceVw TtOk rfl rfl rfl rfl rfl rfl ?_
  repeat' (first | (refine o_calm rfl TtOk rfl rfl rfl ?_ (fun _ => ?_); exact nd))
  refine o_call [] [0] [0] rfl (rtake_spec b 32 r hok) ⟨sle_ptr, sle_i rfl, True.intro⟩ rfl ⟨HOLe.refl _, True.intro⟩ rfl rfl ?_
  rintro v os' ⟨rfl, rfl⟩; refine ⟨_, rfl, rfl, ?_⟩
  have hlen := take_len r 32
  have hlab : r.label = ((r.take 32).1 ++ List.replicate (32 - (r.take 32).1.length) 0, (r.take 32).2) := rfl
  generalize (r.take 32).1 = t at hlen hlab ⊢
  generalize (r.take 32).2 = r1 at hlab ⊢
  refine o_copyStr TtOk rfl rfl rfl rfl rfl rfl rfl rfl hlen rfl ?_
  repeat' (first | refine Awp.seq ?_ | refine Awp.region ?_ | (refine Ops.nil ?_; show Awp _ _ _ _ _) | (refine Awp.ret ?_; show endK _ _ _ _ _) | (refine o_calm rfl TtOk rfl rfl rfl ?_ (fun _ => ?_); exact nd) | refine o_store TtOk rfl rfl rfl rfl rfl rfl rfl ⟨rfl, rfl⟩ rfl rfl rfl rfl rfl ?_)
  have hq : AV.arr 1 32 (List.map byA t ++ List.drop t.length (List.replicate 32 (AV.i .u8 0))) = labA r.label.1 := by
    rw [hlab]
    show _ = AV.arr 1 32 ((t ++ List.replicate (32 - t.length) 0).map byA)
    rw [List.map_append, List.map_replicate, List.drop_replicate]; rfl
  refine end_all [] [(0, _)] (labA r.label.1) rfl ?_ ?_ (rle_one (CLe.of_eq hq) rfl) (HLe.same rfl (HOLe.refl _) .nil) ⟨rfl, by rw [hlab]; rfl⟩ _ (.inl rfl)
  · repeat' (first | exact True.intro | exact rfl | refine ⟨?_, ?_⟩)
  · exact ⟨trivial, trivial⟩
end Go.Proofs.YtcmgpkibjdbonaaGreat
set_option maxHeartbeats 4000000
namespace Go.Proofs.YtcmgpkibjdbonaaGreat
open Go Go.RowKit

/-- What a Writer holds: its bytes, its first error. -/
structure WS where
  bs : List UInt8
  e : Int
def WS.fail (s : WS) (x : Int) : WS := if s.e = 0 then { s with e := x } else s
def WS.put (s : WS) (l : List UInt8) : WS := { s with bs := s.bs ++ l }
def digits (n : Nat) : List UInt8 := if n = 0 then [] else digits (n / 256) ++ [UInt8.ofNat n]
termination_by n
decreasing_by omega
def numBytes (n : Nat) : List UInt8 := UInt8.ofNat (digits n).length :: digits n
theorem digits_zero : digits 0 = [] := by unfold digits; rfl
theorem digits_pos {n : Nat} (h : n ≠ 0) : digits n = digits (n / 256) ++ [UInt8.ofNat n] := by rw [digits]; rw [if_neg h]
theorem digits_le : ∀ (k n : Nat), n < 256 ^ k → (digits n).length ≤ k
  | 0, n, h => by
    have : n = 0 := by simpa using h
    subst this; rw [digits_zero]; simp
  | k + 1, n, h => by
    by_cases h0 : n = 0
    · subst h0; rw [digits_zero]; simp
    · rw [digits_pos h0, List.length_append, List.length_singleton]
      have := digits_le k (n / 256) (by rw [Nat.div_lt_iff_lt_mul (by omega)]; rw [Nat.pow_succ] at h; exact h)
      omega
theorem digits_at : ∀ (k n : Nat), n < 256 ^ k → ∀ i, i < (digits n).length → (digits n)[(digits n).length - 1 - i]? = some (UInt8.ofNat (n / 256 ^ i))
  | 0, n, h, i, hi => by
    have : n = 0 := by simpa using h
    subst this; rw [digits_zero] at hi; simp at hi
  | k + 1, n, h, i, hi => by
    by_cases h0 : n = 0
    · subst h0; rw [digits_zero] at hi; simp at hi
    · have hd := digits_pos h0
      rw [hd] at hi ⊢
      rw [List.length_append, List.length_singleton] at hi ⊢
      rcases i with _ | i
      · rw [show (digits (n / 256)).length + 1 - 1 - 0 = (digits (n / 256)).length by omega, List.getElem?_append_right (Nat.le_refl _)]
        simp
      · rw [List.getElem?_append_left (by omega)]
        have := digits_at k (n / 256) (by rw [Nat.div_lt_iff_lt_mul (by omega)]; rw [Nat.pow_succ] at h; exact h) i (by omega)
        rw [show (digits (n / 256)).length + 1 - 1 - (i + 1) = (digits (n / 256)).length - 1 - i by omega, this, Nat.div_div_eq_div_mul, Nat.pow_succ, Nat.mul_comm 256]
def WS.number (s : WS) (n : Int) : WS := if n < 0 then s.fail 1 else s.put (numBytes n.toNat)

def wrA (v : Value) (s : WS) : AV := .agg [.own 1 v, .i .i64 s.e]
def wrO (b : Nat) (v : Value) (s : WS) : List HO := [.var b (wrA v s), .row v 5 1 (s.bs.map byA)]
theorem byA_nat (n : Nat) : AV.i .u8 (IntKind.u8.wrap (n : Int)) = byA (UInt8.ofNat n) := by
  show AV.i _ _ = AV.i _ _
  rw [UInt8.toNat_ofNat', show IntKind.u8.wrap (n : Int) = ((n % 256 : Nat) : Int) from by rw [Int.natCast_emod]; rfl]
theorem shr_nat (n k : Nat) : (n : Int).fdiv (2 ^ k) = ((n / 2 ^ k : Nat) : Int) := by
  rw [show (2 : Int) ^ k = ((2 ^ k : Nat) : Int) by rw [Int.natCast_pow]; rfl, Int.ofNat_fdiv]
theorem shr_at (n t : Nat) (ht : t ≤ 7) : AV.i .u8 (IntKind.u8.wrap ((n : Int).fdiv (2 ^ (min (8 * (t : Int)).toNat (IntKind.bits .i64))))) = byA (UInt8.ofNat (n / 256 ^ t)) := by
  rw [show min (8 * (t : Int)).toNat (IntKind.bits .i64) = 8 * t by rw [show IntKind.bits .i64 = 64 from rfl]; omega, shr_nat, byA_nat, Nat.pow_mul]
theorem wfail_spec (b : Nat) (x : Int) (v : Value) (s : WS) : Spec Tryz.prog 198 [.ptr 0 b [] 0, .i .i64 x] (wrO b v s) (fun r os => r = .tup [] ∧ ∃ v', os = wrO b v' (s.fail x)) := by
  refine spec_of TtOk [(0, .var b (wrA v s)), (1, .row v 5 1 (s.bs.map byA))] Tryz.func198 rfl Tryz.ntmps198 (by kernel_rfl) rfl rfl (fun C => ?_) rfl
  repeat' (first | refine Awp.seq ?_ | refine Awp.region ?_ | (refine Ops.nil ?_; show Awp _ _ _ _ _) | (refine Ops.nil ?_; show endK _ _ _ _ _) | (refine Awp.skip ?_; show endK _ _ _ _ _) | (refine o_calm rfl TtOk rfl rfl rfl ?_ (fun _ => ?_); exact nd) | refine o_store TtOk rfl rfl rfl rfl rfl rfl rfl ⟨rfl, rfl⟩ rfl rfl rfl rfl rfl ?_ | (refine a_condP rfl (fun hc => ?_) (fun hc => ?_)) <;> (try (exfalso; omega)))
  · refine end_none rfl [] [(0, _), (1, _)] (HLe.same rfl (HOLe.refl _) (HLe.same rfl (HOLe.refl _) .nil)) ⟨rfl, v, ?_⟩ _ (by first | exact .inl rfl | exact .inr rfl)
    unfold WS.fail; rw [if_pos hc]; rfl
  · refine end_none rfl [] [(0, _), (1, _)] (HLe.same rfl (HOLe.refl _) (HLe.same rfl (HOLe.refl _) .nil)) ⟨rfl, v, ?_⟩ _ (by first | exact .inl rfl | exact .inr rfl)
    unfold WS.fail; rw [if_neg hc]; rfl
theorem wnumber_spec (b : Nat) (n : Int) (hn : n < 9223372036854775808) (v : Value) (s : WS) (hs : s.bs.length ≤ 1000000000000) : Spec Tryz.prog 125 [.ptr 0 b [] 0, .i .i64 n] (wrO b v s) (fun r os => r = .tup [] ∧ ∃ v', os = wrO b v' (s.number n)) := by
  refine spec_of TtOk [(0, .var b (wrA v s)), (1, .row v 5 1 (s.bs.map byA))] Tryz.func125 rfl Tryz.ntmps125 (by kernel_rfl) rfl rfl (fun C => ?_) rfl
  repeat' (first | refine Awp.seq ?_ | refine Awp.block ?_ | refine Awp.region ?_ | (refine Ops.nil ?_; show Awp _ _ _ _ _) | (refine Awp.skip ?_; show Awp _ _ _ _ _) | (refine o_calm rfl TtOk rfl rfl rfl ?_ (fun _ => ?_); exact nd) | (refine a_condP rfl (fun hc => ?_) (fun hc => ?_)) <;> (try (exfalso; omega)))
  · refine o_call [] [0, 1] [0, 1] rfl (wfail_spec b 1 v s) ⟨sle_ptr, sle_i rfl, True.intro⟩ rfl ⟨HOLe.refl _, HOLe.refl _, True.intro⟩ rfl rfl ?_
    rintro r os' ⟨rfl, v', rfl⟩; refine ⟨_, rfl, rfl, ?_⟩
    repeat' (first | (refine Ops.nil ?_; show Awp _ _ _ _ _) | (refine Awp.ret ?_; show endK _ _ _ _ _))
    refine end_none rfl [] [(0, _), (1, _)] (HLe.same rfl (HOLe.refl _) (HLe.same rfl (HOLe.refl _) .nil)) ⟨rfl, v', ?_⟩ _ (by first | exact .inl rfl | exact .inr rfl)
    unfold WS.number; rw [if_pos hc]; rfl
  obtain ⟨n, rfl⟩ := Int.eq_ofNat_of_zero_le (Int.not_lt.1 hc)
  have hW : s.number n = s.put (numBytes n) := by unfold WS.number; rw [if_neg hc]; rfl
  have hle := digits_le 8 n (by omega)
  have hD := digits_at 8 n (by omega)
  have hNB : numBytes n = UInt8.ofNat (digits n).length :: digits n := rfl
  obtain ⟨L, hL⟩ : ∃ L, (digits n).length = L := ⟨_, rfl⟩
  rw [hL] at hle hD hNB
  refine Awp.loop (fun (x : Nat × Nat) => ⟨49, [(4, .i .i64 x.1), (5, .i .i64 x.2), (1, .i .i64 n), (0, .ptr 0 b [] 0)], [(0, .var b (wrA v s)), (1, .row v 5 1 (s.bs.map byA))]⟩) (fun x => x.2 ≤ n ∧ x.1 + (digits x.2).length = L ∧ x.1 ≤ 8) (fun x => x.2) [] (0, n) ⟨Nat.le_refl _, by simpa using hL, by omega⟩ ?_ ?_
  · refine ⟨rfl, ?_, ?_⟩ <;> repeat' (first | exact True.intro | refine sle_i ?_ | exact sle_ptr | exact HLe.nil | exact HOLe.refl _ | refine HLe.same rfl ?_ ?_ | with_reducible rfl | refine ⟨?_, ?_⟩ | fail)
    all_goals rfl
  rintro ⟨i, j⟩ ⟨hj, hij, hi8⟩
  dsimp only at hj hij hi8 ⊢
  repeat' (first | refine Awp.seq ?_ | refine Awp.block ?_ | refine Awp.region ?_ | (refine Ops.nil ?_; show Awp _ _ _ _ _) | (refine Ops.nil ?_; show Exists _) | (refine Awp.skip ?_; show Awp _ _ _ _ _) | (refine Awp.exit ?_; show Awp _ _ _ _ _) | (refine o_add rfl rfl rfl rfl ?_ ?_; omega) | (refine o_sub rfl rfl rfl rfl ?_ ?_; omega) | (refine o_calm rfl TtOk rfl rfl rfl ?_ (fun _ => ?_); exact nd) | refine o_store TtOk rfl rfl rfl rfl rfl rfl rfl ⟨rfl, rfl⟩ rfl rfl rfl rfl rfl ?_ | refine o_buildSlice TtOk rfl rfl rfl rfl rfl rfl rfl rfl rfl rfl rfl (by repeat' (first | exact True.intro | exact rfl | refine ⟨?_, ?_⟩)) (fun _ => ?_) | (refine o_append TtOk rfl rfl rfl rfl rfl rfl rfl rfl rfl (by first | exact True.intro | exact rfl) rfl rfl (fun _ => rfl) ?_ ?_ (fun _ => ?_); ((repeat' (first | rw [List.length_append] | rw [List.length_map] | rw [List.length_cons] | rw [List.length_nil] | rw [List.length_take] | rw [List.length_drop])) <;> omega); ((repeat' (first | rw [List.length_append] | rw [List.length_map] | rw [List.length_cons] | rw [List.length_nil] | rw [List.length_take] | rw [List.length_drop])) <;> omega)) | (refine a_condP rfl (fun hc => ?_) (fun hc => ?_)) <;> (try (exfalso; omega)))
  · have hd := congrArg List.length (digits_pos (n := j) (by omega))
    rw [List.length_append, List.length_singleton] at hd
    refine ⟨(i + 1, j / 256), [], ⟨by show j / 256 ≤ n; omega, by show i + 1 + (digits (j / 256)).length = L; omega, by show i + 1 ≤ 8; omega⟩, by show j / 256 < j; omega, ?_⟩
    refine ⟨rfl, ?_, ?_⟩ <;> repeat' (first | exact True.intro | refine sle_i ?_ | exact sle_ptr | exact HLe.nil | exact HOLe.refl _ | refine HLe.same rfl ?_ ?_ | with_reducible rfl | refine ⟨?_, ?_⟩ | fail)
    all_goals first | rfl | (exact shr_nat j 8)
  have hj0 : j = 0 := by omega
  subst hj0
  have hiL : i = L := by rw [digits_zero] at hij; simpa using hij
  subst hiL
  rename_i v1 _ _ _ _
  refine Awp.loop (fun (x : Nat × Value) => ⟨49, [(6, .i .i64 ((x.1 : Int) - 1)), (1, .i .i64 n), (0, .ptr 0 b [] 0)], [(0, .var b (.agg [.own 1 x.2, .i .i64 s.e])), (1, .row x.2 5 1 ((s.bs ++ (UInt8.ofNat i :: (digits n).take (i - x.1))).map byA))]⟩) (fun x => x.1 ≤ i) (fun x => x.1) [] (i, v1) (Nat.le_refl _) ?_ ?_
  · refine ⟨rfl, ?_, ?_⟩ <;> repeat' (first | exact True.intro | refine sle_i ?_ | exact sle_ptr | exact HLe.nil | exact HOLe.refl _ | refine HLe.same rfl ?_ ?_ | refine HOLe.row ?_ | with_reducible rfl | refine ⟨?_, ?_⟩ | fail)
    all_goals first | rfl | skip
    show List.map byA s.bs ++ [AV.i .u8 (IntKind.u8.wrap (i : Int))] = _
    rw [byA_nat, Nat.sub_self, List.take_zero, List.map_append]; rfl
  rintro ⟨t, v2⟩ ht
  dsimp only at ht ⊢
  have hlen : (s.bs ++ (UInt8.ofNat i :: (digits n).take (i - t))).length < 2000000000000 := by simp; omega
  generalize hbs : s.bs ++ (UInt8.ofNat i :: (digits n).take (i - t)) = bs at hlen ⊢
  repeat' (first | refine Awp.seq ?_ | refine Awp.block ?_ | refine Awp.region ?_ | (refine Ops.nil ?_; show Awp _ _ _ _ _) | (refine Ops.nil ?_; show Exists _) | (refine Awp.skip ?_; show Awp _ _ _ _ _) | (refine Awp.exit ?_; show endK _ _ _ _ _) | (refine o_sub rfl rfl rfl rfl ?_ ?_; omega) | (refine o_mul rfl rfl rfl rfl ?_ ?_; omega) | (refine o_calm rfl TtOk rfl rfl rfl ?_ (fun _ => ?_); exact nd) | refine o_store TtOk rfl rfl rfl rfl rfl rfl rfl ⟨rfl, rfl⟩ rfl rfl rfl rfl rfl ?_ | refine o_buildSlice TtOk rfl rfl rfl rfl rfl rfl rfl rfl rfl rfl rfl (by repeat' (first | exact True.intro | exact rfl | refine ⟨?_, ?_⟩)) (fun _ => ?_) | (refine o_append TtOk rfl rfl rfl rfl rfl rfl rfl rfl rfl (by first | exact True.intro | exact rfl) rfl rfl (fun _ => rfl) ?_ ?_ (fun _ => ?_); ((repeat' (first | rw [List.length_append] | rw [List.length_map] | rw [List.length_cons] | rw [List.length_nil] | rw [List.length_take] | rw [List.length_drop])) <;> omega); ((repeat' (first | rw [List.length_append] | rw [List.length_map] | rw [List.length_cons] | rw [List.length_nil] | rw [List.length_take] | rw [List.length_drop])) <;> omega)) | (refine a_condP rfl (fun hc => ?_) (fun hc => ?_)) <;> (try (exfalso; omega)) | refine a_any 11 [0, 1] [39] [45] [0, 1, 2, 3, 5, 6, 7, 8, 9, 4, 10, 11, 12, 13, 14] (by kernel_rfl) (by kernel_rfl) (by kernel_rfl) rfl rfl rfl ?_)
  · rename_i v3 _ _ _ _
    have ht7 : t - 1 ≤ 7 := by omega
    have htk : (digits n).take (i - (t - 1)) = (digits n).take (i - t) ++ [UInt8.ofNat (n / 256 ^ (t - 1))] := by
      have h1 := hD (t - 1) (by omega)
      rw [show i - (t - 1) = (i - t) + 1 by omega, List.take_add_one, show i - t = i - 1 - (t - 1) by omega, h1]; rfl
    have hrow : List.map byA bs ++ [AV.i .u8 (IntKind.u8.wrap ((n : Int).fdiv (2 ^ (min (8 * ((t : Int) - 1)).toNat (IntKind.bits .i64)))))] = List.map byA (s.bs ++ (UInt8.ofNat i :: (digits n).take (i - (t - 1)))) := by
      rw [show ((t : Int) - 1) = ((t - 1 : Nat) : Int) by omega, shr_at n (t - 1) ht7, htk, ← hbs, ← List.cons_append, ← List.append_assoc, List.map_append (l₂ := [_])]; rfl
    refine ⟨(t - 1, v3), [], by show t - 1 ≤ i; omega, by show t - 1 < t; omega, ?_⟩
    refine ⟨rfl, ?_, ?_⟩ <;> repeat' (first | exact True.intro | refine sle_i ?_ | exact sle_ptr | exact HLe.nil | exact HOLe.refl _ | refine HLe.same rfl ?_ ?_ | refine HOLe.row ?_ | with_reducible rfl | refine ⟨?_, ?_⟩ | fail)
    all_goals first | rfl | exact hrow | (show (t : Int) - 1 - 1 = ((t - 1 : Nat) : Int) - 1; omega)
  · have ht0 : t = 0 := by omega
    subst ht0
    refine end_none rfl [] [(0, _), (1, _)] (HLe.same rfl (HOLe.refl _) (HLe.same rfl (HOLe.refl _) .nil)) ⟨rfl, v2, ?_⟩ _ (by first | exact .inl rfl | exact .inr rfl)
    rw [hW]
    show _ = [HO.var b (wrA v2 ⟨s.bs ++ numBytes n, s.e⟩), HO.row v2 _ 1 ((s.bs ++ numBytes n).map byA)]
    rw [hNB, ← hbs, Nat.sub_zero, List.take_of_length_le (by omega)]; rfl
end Go.Proofs.YtcmgpkibjdbonaaGreat
