/- code.Writer.Label by rules. -/
import Derived.Test.YtcnkmfmdadmaaaaKW2
import Derived.Test.YtcnkmfmdadmaaaaV15
set_option maxHeartbeats 4000000
namespace Go.Proofs.Ytcnkmfmdadmaaaa
open Go Go.RowKit

theorem wlabel_spec (b : Nat) (l : List UInt8) (hl : l.length = 32) (v : Value) (s : WS) (hs : s.bs.length ≤ 1000000000000) : Spec Try.prog 46 [.ptr 0 b [] 0, labA l] (wrO b v s) (fun r os => r = .tup [] ∧ ∃ v', os = wrO b v' (s.put l)) := by
  refine spec_of TtOk [(0, .var b (wrA v s)), (1, .row v 5 1 (s.bs.map byA))] Try.func46 rfl Try.ntmps46 (by kernel_rfl) rfl rfl (fun C => ?_) rfl
  refine Awp.seq ?_
  refine Awp.region ?_
  refine o_box rfl rfl rfl rfl (fun _ => ?_)
  refine Ops.nil ?_; show Awp _ _ _ _ _
  refine a_freezeV 3 3 rfl rfl rfl ?_
  repeat' (first
    | refine Awp.seq ?_
    | refine Awp.region ?_
    | (refine Ops.nil ?_; show Awp _ _ _ _ _)
    | (refine Ops.nil ?_; show Exists _)
    | (refine Ops.nil ?_; show endK _ _ _ _ _)
    | (refine o_calm rfl TtOk rfl rfl rfl ?_ (fun _ => ?_); first | exact True.intro | exact ⟨rfl, rfl, rfl, rfl⟩ | exact ⟨rfl, True.intro⟩ | exact ⟨rfl, rfl⟩ | exact ⟨rfl, rfl, rfl⟩ | exact rfl | exact ⟨fun h0 => by cases h0, rfl⟩ | exact (fun h0 => by cases h0) | omega)
    | refine o_box rfl rfl rfl rfl (fun _ => ?_)
    | refine o_store TtOk rfl rfl rfl rfl rfl rfl rfl ⟨rfl, rfl⟩ rfl rfl rfl rfl rfl ?_
    | (refine o_append TtOk rfl rfl rfl rfl rfl rfl rfl rfl rfl (by first | exact True.intro | exact rfl) rfl rfl (fun _ => rfl) ?_ ?_ (fun _ => ?_); (simp only [List.length_map, List.length_cons, List.length_nil, List.length_append, List.length_take, List.length_drop]; omega); (simp only [List.length_map, List.length_cons, List.length_nil, List.length_append, List.length_take, List.length_drop]; omega))
    | (refine o_appendStr TtOk rfl rfl rfl rfl rfl rfl rfl rfl rfl (fun _ => rfl) ?_ (fun _ => ?_); (simp only [List.length_map, List.length_cons, List.length_nil, List.length_append, List.length_take, List.length_drop]; omega))
    | refine o_sliceCp TtOk rfl rfl rfl rfl rfl rfl ?_
    | refine a_any 1 [0, 1] [8] [] [0, 1, 2, 3, 5, 4, 6, 7, 8, 9] (by kernel_rfl) (by kernel_rfl) (by kernel_rfl) rfl rfl rfl ?_)
  rename_i v2 _ _
  refine end_none rfl [] [(0, _), (1, _)] (HLe.same rfl (HOLe.refl _) (HLe.same rfl (HOLe.refl _) .nil)) ⟨rfl, v2, ?_⟩ _ (by first | exact .inl rfl | exact .inr rfl)
  show _ = [HO.var b (wrA v2 ⟨s.bs ++ l, s.e⟩), HO.row v2 _ 1 ((s.bs ++ l).map byA)]
  rw [List.map_append]; rfl
end Go.Proofs.Ytcnkmfmdadmaaaa
