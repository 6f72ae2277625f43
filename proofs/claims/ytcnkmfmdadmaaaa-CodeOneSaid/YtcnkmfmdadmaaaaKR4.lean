/- code.Reader.Label by rules. -/
import Derived.Test.YtcnkmfmdadmaaaaKF5
set_option maxHeartbeats 4000000
namespace Go.Proofs.Ytcnkmfmdadmaaaa
open Go Go.RowKit

theorem rlabel_spec (b : Nat) (r : RS) (hok : r.ok) : Spec Try.prog 54 [.ptr 0 b [] 0] [.var b (rdA r)] (fun v os => v = labA r.label.1 ∧ os = [.var b (rdA r.label.2)]) := by
  refine spec_of TtOk [(0, .var b (rdA r))] Try.func54 rfl Try.ntmps54 (by kernel_rfl) rfl rfl (fun C => ?_) rfl
  repeat' (first
    | refine Awp.seq ?_
    | refine Awp.region ?_
    | (refine Ops.nil ?_; show Awp _ _ _ _ _)
    | (refine Ops.nil ?_; show Exists _)
    | (refine Ops.nil ?_; show endK _ _ _ _ _)
    | (refine Awp.ret ?_; show endK _ _ _ _ _)
    | (refine o_calm rfl TtOk rfl rfl rfl ?_ (fun _ => ?_); first | exact True.intro | exact ⟨rfl, rfl, rfl, rfl⟩ | exact ⟨rfl, True.intro⟩ | exact ⟨rfl, rfl⟩ | exact ⟨rfl, rfl, rfl⟩ | exact rfl | exact ⟨fun h0 => by cases h0, rfl⟩ | exact (fun h0 => by cases h0) | omega)
    | refine o_alloc rfl TtOk rfl rfl rfl (fun _ => ?_)
    | refine o_store TtOk rfl rfl rfl rfl rfl rfl rfl ⟨rfl, rfl⟩ rfl rfl rfl rfl rfl ?_
    | refine o_sliceCp TtOk rfl rfl rfl rfl rfl rfl ?_
    | refine a_any 2 [0, 3] [] [] [0, 1, 2, 3] (by kernel_rfl) (by kernel_rfl) (by kernel_rfl) rfl rfl rfl ?_)
  refine o_sliceVw TtOk rfl rfl rfl rfl rfl rfl ?_
  repeat' (first
    | refine Awp.seq ?_
    | refine Awp.region ?_
    | (refine Ops.nil ?_; show Awp _ _ _ _ _)
    | (refine Ops.nil ?_; show Exists _)
    | (refine Ops.nil ?_; show endK _ _ _ _ _)
    | (refine Awp.ret ?_; show endK _ _ _ _ _)
    | (refine o_calm rfl TtOk rfl rfl rfl ?_ (fun _ => ?_); first | exact True.intro | exact ⟨rfl, rfl, rfl, rfl⟩ | exact ⟨rfl, True.intro⟩ | exact ⟨rfl, rfl⟩ | exact ⟨rfl, rfl, rfl⟩ | exact rfl | exact ⟨fun h0 => by cases h0, rfl⟩ | exact (fun h0 => by cases h0) | omega)
    | refine o_alloc rfl TtOk rfl rfl rfl (fun _ => ?_)
    | refine o_store TtOk rfl rfl rfl rfl rfl rfl rfl ⟨rfl, rfl⟩ rfl rfl rfl rfl rfl ?_
    | refine o_sliceCp TtOk rfl rfl rfl rfl rfl rfl ?_
    | refine a_any 2 [0, 3] [] [] [0, 1, 2, 3] (by kernel_rfl) (by kernel_rfl) (by kernel_rfl) rfl rfl rfl ?_)
  refine o_call [] [0] [0] rfl (rtake_spec b 32 r hok) ⟨sle_ptr, sle_i rfl, True.intro⟩ rfl ⟨HOLe.refl _, True.intro⟩ rfl rfl ?_
  rintro v os' ⟨rfl, rfl⟩; refine ⟨_, rfl, rfl, ?_⟩
  have hlen := take_len r 32
  have hlab : r.label = ((r.take 32).1 ++ List.replicate (32 - (r.take 32).1.length) 0, (r.take 32).2) := rfl
  generalize (r.take 32).1 = t at hlen hlab ⊢
  generalize (r.take 32).2 = r1 at hlab ⊢
  refine o_copyStr TtOk rfl rfl rfl rfl rfl rfl rfl rfl hlen rfl ?_
  repeat' (first
    | refine Awp.seq ?_
    | refine Awp.region ?_
    | (refine Ops.nil ?_; show Awp _ _ _ _ _)
    | (refine Ops.nil ?_; show Exists _)
    | (refine Ops.nil ?_; show endK _ _ _ _ _)
    | (refine Awp.ret ?_; show endK _ _ _ _ _)
    | (refine o_calm rfl TtOk rfl rfl rfl ?_ (fun _ => ?_); first | exact True.intro | exact ⟨rfl, rfl, rfl, rfl⟩ | exact ⟨rfl, True.intro⟩ | exact ⟨rfl, rfl⟩ | exact ⟨rfl, rfl, rfl⟩ | exact rfl | exact ⟨fun h0 => by cases h0, rfl⟩ | exact (fun h0 => by cases h0) | omega)
    | refine o_alloc rfl TtOk rfl rfl rfl (fun _ => ?_)
    | refine o_store TtOk rfl rfl rfl rfl rfl rfl rfl ⟨rfl, rfl⟩ rfl rfl rfl rfl rfl ?_
    | refine o_sliceCp TtOk rfl rfl rfl rfl rfl rfl ?_
    | refine a_any 2 [0, 3] [] [] [0, 1, 2, 3] (by kernel_rfl) (by kernel_rfl) (by kernel_rfl) rfl rfl rfl ?_)
  have hq : AV.arr 1 32 (List.map byA t ++ List.drop t.length (List.replicate 32 (AV.i .u8 0))) = labA r.label.1 := by
    rw [hlab]
    show _ = AV.arr 1 32 ((t ++ List.replicate (32 - t.length) 0).map byA)
    rw [List.map_append, List.map_replicate, List.drop_replicate]; rfl
  refine end_all [] [(0, _)] (labA r.label.1) rfl ?_ ?_ (rle_one (CLe.of_eq hq) rfl) (HLe.same rfl (HOLe.refl _) .nil) ⟨rfl, by rw [hlab]; rfl⟩ _ (.inl rfl)
  · repeat' (first | exact True.intro | exact rfl | refine ⟨?_, ?_⟩)
  · exact ⟨trivial, trivial⟩
end Go.Proofs.Ytcnkmfmdadmaaaa
