/- slices.Clone, slices.Insert at the end, merge.cost, Mem.Size, Get, All, Clear by rules. -/
import Derived.Test.YtapbbifcipemfaaME1
import Derived.Test.YtapbbifcipemfaaIN2
import Derived.Test.YtapbbifcipemfaaV23
set_option maxHeartbeats 8000000
namespace Go.Proofs.Ytapbbifcipemfaa
open Go Go.RowKit
theorem clone_spec (xs : List AV) (hl : xs.length ≤ 1000000) :
    Spec Try.prog 53 [.sl 3 xs] [] (fun r os => ∃ v, r = .own 0 v ∧ os = [.row v 42 3 xs]) := by
  refine spec_of TtOk [] Try.func53 rfl Try.ntmps53 (by kernel_rfl) rfl rfl (fun C => ?_) rfl
  repeat' (first | refine Awp.seq ?_ | refine Awp.region ?_ | (refine Ops.nil ?_; show Awp _ _ _ _ _) | (refine Ops.nil ?_; show Exists _) | (refine Ops.nil ?_; show endK _ _ _ _ _) | (refine Awp.skip ?_; show Awp _ _ _ _ _) | (refine Awp.skip ?_; show endK _ _ _ _ _) | (refine Awp.skip ?_; show Exists _) | (refine Awp.ret ?_; show endK _ _ _ _ _) | (refine o_calm rfl TtOk rfl rfl rfl ?_ (fun _ => ?_); first | exact True.intro | exact ⟨rfl, rfl, rfl, rfl⟩ | exact ⟨rfl, True.intro⟩ | exact ⟨rfl, rfl⟩ | exact ⟨rfl, rfl, rfl⟩ | exact rfl | exact ⟨fun h0 => by cases h0, rfl⟩ | exact (fun h0 => by cases h0) | exact ⟨rfl, by omega⟩ | exact ⟨Nat.succ_ne_zero _, rfl⟩ | omega) | refine o_buildSlice TtOk rfl rfl rfl rfl rfl rfl rfl rfl rfl rfl rfl (by repeat' (first | exact True.intro | exact rfl | refine ⟨?_, ?_⟩)) (fun _ => ?_) | (refine o_append TtOk rfl rfl rfl rfl rfl rfl rfl rfl rfl (by first | exact True.intro | exact rfl) rfl rfl (fun _ => rfl) ?_ ?_ (fun _ => ?_); (simp only [List.length_map, List.length_cons, List.length_nil, List.length_append, List.length_take, List.length_drop]; omega); (simp only [List.length_map, List.length_cons, List.length_nil, List.length_append, List.length_take, List.length_drop]; omega)) | (refine o_appendStr TtOk rfl rfl rfl rfl rfl rfl rfl rfl rfl (fun _ => rfl) ?_ (fun _ => ?_); (simp only [List.length_map, List.length_cons, List.length_nil, List.length_append, List.length_take, List.length_drop]; omega)) | refine o_eqNil TtOk rfl rfl rfl rfl rfl ?_ | refine o_eqArr8 TtOk rfl rfl rfl rfl rfl rfl (by kernel_rfl) ?_ | refine a_condT rfl ?_ | refine a_condF rfl ?_ | (refine a_condP rfl (fun hc => ?_) (fun hc => ?_)) <;> (try (exfalso; omega)) | (refine a_condI rfl (fun hc => ?_) (fun hc => ?_)) <;> (try (exfalso; omega)) | (refine a_condN rfl (fun hc => ?_) (fun hc => ?_)) <;> (try (exfalso; omega)) | (refine Awp.cond rfl (fun hc => ?_) (fun hc => ?_)) | (refine o_eqNilSl TtOk rfl rfl rfl rfl rfl (fun c hc0 => ?_)))
  · have := hc0 hc
    subst this
    exact end_tmp rfl rfl rfl [] [(0, _)] (CLe.nilown (k := 0)) (.none .nil) ⟨_, rfl, rfl⟩ _ (.inl rfl)
  · exact end_tmp rfl rfl rfl [] [(0, _)] CLe.own (HLe.cons 5 rfl (HOLe.refl _) .nil) ⟨_, rfl, rfl⟩ _ (.inl rfl)
theorem insert_end (xs : List AV) (x : AV) (v : Value) (hl : xs.length ≤ 1000000) :
    Spec Try.prog 54 [.own 0 v, .i .i64 xs.length, .sl 3 [x]] [.row v 42 3 xs] (fun r os => ∃ v', r = .own 0 v' ∧ os = [.row v' 42 3 (xs ++ [x])]) := by
  refine spec_of TtOk [(0, .row v 42 3 xs)] Try.func54 rfl Try.ntmps54 (by kernel_rfl) rfl rfl (fun C => ?_) rfl
  repeat' (first | refine Awp.seq ?_ | refine Awp.region ?_ | (refine Ops.nil ?_; show Awp _ _ _ _ _) | (refine Ops.nil ?_; show Exists _) | (refine Ops.nil ?_; show endK _ _ _ _ _) | (refine Awp.skip ?_; show Awp _ _ _ _ _) | (refine Awp.skip ?_; show endK _ _ _ _ _) | (refine Awp.skip ?_; show Exists _) | (refine Awp.ret ?_; show endK _ _ _ _ _) | (refine o_add rfl rfl rfl rfl ?_ ?_; omega) | (refine o_sub rfl rfl rfl rfl ?_ ?_; omega) | refine o_len rfl TtOk rfl rfl rfl (fun _ => ?_) | refine o_lenOwn rfl TtOk rfl rfl rfl rfl (fun _ => ?_) | (refine o_calm rfl TtOk rfl rfl rfl ?_ (fun _ => ?_); first | exact True.intro | exact ⟨rfl, rfl, rfl, rfl⟩ | exact ⟨rfl, True.intro⟩ | exact ⟨rfl, rfl⟩ | exact ⟨rfl, rfl, rfl⟩ | exact rfl | exact ⟨fun h0 => by cases h0, rfl⟩ | exact (fun h0 => by cases h0) | exact ⟨rfl, by omega⟩ | exact ⟨Nat.succ_ne_zero _, rfl⟩ | omega) | (refine o_calm rfl TtOk rfl rfl rfl ?_ (fun _ => ?_); (show List.length _ + List.length _ ≤ 9223372036854775807; (try simp only [List.length_append, List.length_cons, List.length_nil]); omega)) | (refine o_append TtOk rfl rfl rfl rfl rfl rfl rfl rfl rfl (by first | exact True.intro | exact rfl) rfl rfl (fun _ => rfl) ?_ ?_ (fun _ => ?_); (simp only [List.length_map, List.length_cons, List.length_nil, List.length_append, List.length_take, List.length_drop]; omega); (simp only [List.length_map, List.length_cons, List.length_nil, List.length_append, List.length_take, List.length_drop]; omega)) | (refine o_appendStr TtOk rfl rfl rfl rfl rfl rfl rfl rfl rfl (fun _ => rfl) ?_ (fun _ => ?_); (simp only [List.length_map, List.length_cons, List.length_nil, List.length_append, List.length_take, List.length_drop]; omega)) | refine o_sliceCp TtOk rfl rfl rfl rfl rfl rfl ?_ | refine o_eqNil TtOk rfl rfl rfl rfl rfl ?_ | refine o_eqArr8 TtOk rfl rfl rfl rfl rfl rfl (by kernel_rfl) ?_ | refine a_condT rfl ?_ | refine a_condF rfl ?_ | (refine a_condP rfl (fun hc => ?_) (fun hc => ?_)) <;> (try (exfalso; omega)) | (refine a_condI rfl (fun hc => ?_) (fun hc => ?_)) <;> (try (exfalso; omega)) | (refine a_condN rfl (fun hc => ?_) (fun hc => ?_)) <;> (try (exfalso; omega)) | (refine Awp.cond rfl (fun hc => ?_) (fun hc => ?_)) | refine a_any 11 [] [] [] [0, 1, 2, 3, 4, 5, 6, 7, 8] (by kernel_rfl) (by kernel_rfl) (by kernel_rfl) rfl rfl rfl ?_ | refine a_any 15 [] [] [] [0, 1, 2, 3, 4, 5, 6, 7, 8] (by kernel_rfl) (by kernel_rfl) (by kernel_rfl) rfl rfl rfl ?_ | (refine o_sliceOwnAny TtOk rfl xs.length xs.length rfl rfl ⟨_, rfl⟩ rfl rfl rfl rfl (Nat.le_refl _) (Nat.le_refl _) ?_))
  exact end_tmp rfl rfl rfl [] [(0, _)] CLe.own (HLe.cons 0 rfl (HOLe.refl _) .nil) ⟨_, rfl, rfl⟩ _ (.inl rfl)
theorem insert_spec (xs : List AV) (x : AV) (i : Nat) (v : Value) (hi : i ≤ xs.length) (hl : xs.length ≤ 1000000) :
    Spec Try.prog 54 [.own 0 v, .i .i64 i, .sl 3 [x]] [.row v 42 3 xs] (fun r os => ∃ v', r = .own 0 v' ∧ os = [.row v' 42 3 (xs.take i ++ x :: xs.drop i)]) := by
  rcases Nat.lt_or_eq_of_le hi with h | h
  · exact insert_mid xs x i v h hl
  · subst h
    rw [List.take_length, List.drop_length]
    exact insert_end xs x v hl
/-- What an entry costs, as the machine counts. -/
def cw (x : Etr) : Int := IntKind.i64.wrap (IntKind.i64.wrap ((x.k.length : Int) + (x.v.length : Int)) + 8)
theorem cost_spec (x : Etr) : Spec Try.prog 52 [eA x] [] (fun r os => r = .i .i64 (cw x) ∧ os = []) := by
  refine spec_of TtOk [] Try.func52 rfl Try.ntmps52 (by kernel_rfl) rfl rfl (fun C => ?_) rfl
  unfold eA
  repeat' (first | refine Awp.seq ?_ | refine Awp.region ?_ | (refine Ops.nil ?_; show Awp _ _ _ _ _) | (refine Ops.nil ?_; show Exists _) | (refine Ops.nil ?_; show endK _ _ _ _ _) | (refine Awp.ret ?_; show endK _ _ _ _ _) | refine o_len rfl TtOk rfl rfl rfl (fun _ => ?_) | refine o_lenOwn rfl TtOk rfl rfl rfl rfl (fun _ => ?_) | (refine o_calm rfl TtOk rfl rfl rfl ?_ (fun _ => ?_); first | exact True.intro | exact ⟨rfl, rfl, rfl, rfl⟩ | exact ⟨rfl, True.intro⟩ | exact ⟨rfl, rfl⟩ | exact ⟨rfl, rfl, rfl⟩ | exact rfl | exact ⟨fun h0 => by cases h0, rfl⟩ | exact (fun h0 => by cases h0) | exact ⟨rfl, by omega⟩ | exact ⟨Nat.succ_ne_zero _, rfl⟩ | omega) | refine o_box rfl rfl rfl rfl (fun _ => ?_) | (refine o_calm rfl TtOk rfl rfl rfl ?_ (fun _ => ?_); (show List.length _ + List.length _ ≤ 9223372036854775807; (try simp only [List.length_append, List.length_cons, List.length_nil]); omega)))
  exact end_tmp rfl rfl rfl [] [] (CLe.of_eq rfl) .nil ⟨rfl, rfl⟩ _ (.inl rfl)
/-- Entries in memory. -/
def memA (l : List Etr) (s : Int) : AV := .agg [.sl 3 (l.map eA), .i .i64 s]
theorem msize_spec (b : Nat) (l : List Etr) (s : Int) : Spec Try.prog 29 [.ptr 0 b [] 0] [.var b (memA l s)] (fun r os => r = .i .i64 s ∧ os = [.var b (memA l s)]) := by
  refine spec_of TtOk [(0, .var b (memA l s))] Try.func29 rfl Try.ntmps29 (by kernel_rfl) rfl rfl (fun C => ?_) rfl
  unfold memA
  repeat' (first | refine Awp.seq ?_ | refine Awp.region ?_ | (refine Ops.nil ?_; show Awp _ _ _ _ _) | (refine Ops.nil ?_; show Exists _) | (refine Ops.nil ?_; show endK _ _ _ _ _) | (refine Awp.ret ?_; show endK _ _ _ _ _) | (refine o_calm rfl TtOk rfl rfl rfl ?_ (fun _ => ?_); first | exact True.intro | exact ⟨rfl, rfl, rfl, rfl⟩ | exact ⟨rfl, True.intro⟩ | exact ⟨rfl, rfl⟩ | exact ⟨rfl, rfl, rfl⟩ | exact rfl | exact ⟨fun h0 => by cases h0, rfl⟩ | exact (fun h0 => by cases h0) | exact ⟨rfl, by omega⟩ | exact ⟨Nat.succ_ne_zero _, rfl⟩ | omega))
  exact end_tmp rfl rfl rfl [] [(0, _)] (CLe.of_eq rfl) (HLe.same rfl (HOLe.refl _) .nil) ⟨rfl, rfl⟩ _ (.inl rfl)
theorem mclear_spec (b : Nat) (l : List Etr) (s : Int) : Spec Try.prog 25 [.ptr 0 b [] 0] [.var b (memA l s)] (fun r os => r = .tup [] ∧ os = [.var b (memA [] 0)]) := by
  refine spec_of TtOk [(0, .var b (memA l s))] Try.func25 rfl Try.ntmps25 (by kernel_rfl) rfl rfl (fun C => ?_) rfl
  unfold memA
  repeat' (first | refine Awp.seq ?_ | refine Awp.region ?_ | (refine Ops.nil ?_; show Awp _ _ _ _ _) | (refine Ops.nil ?_; show Exists _) | (refine Ops.nil ?_; show endK _ _ _ _ _) | (refine o_calm rfl TtOk rfl rfl rfl ?_ (fun _ => ?_); first | exact True.intro | exact ⟨rfl, rfl, rfl, rfl⟩ | exact ⟨rfl, True.intro⟩ | exact ⟨rfl, rfl⟩ | exact ⟨rfl, rfl, rfl⟩ | exact rfl | exact ⟨fun h0 => by cases h0, rfl⟩ | exact (fun h0 => by cases h0) | exact ⟨rfl, by omega⟩ | exact ⟨Nat.succ_ne_zero _, rfl⟩ | omega) | refine o_store TtOk rfl rfl rfl rfl rfl rfl rfl ⟨rfl, rfl⟩ rfl rfl rfl rfl rfl ?_ | refine o_build TtOk rfl rfl rfl rfl rfl rfl (by repeat' (first | exact True.intro | exact rfl | refine ⟨?_, ?_⟩)) ?_ | refine o_buildArr0 TtOk rfl rfl rfl rfl ?_)
  exact end_none rfl [] [(0, _)] (HLe.same rfl (HOLe.var (CLe.agg (.cons CLe.nilsl (.cons (CLe.refl _) .nil)))) .nil) ⟨rfl, rfl⟩ _ (.inr rfl)
theorem mall_spec (b : Nat) (l : List Etr) (s : Int) (hl : l.length ≤ 1000000) : Spec Try.prog 22 [.ptr 0 b [] 0] [.var b (memA l s)] (fun r os => r = .sl 3 (l.map eA) ∧ os = [.var b (memA l s)]) := by
  refine spec_of TtOk [(0, .var b (memA l s))] Try.func22 rfl Try.ntmps22 (by kernel_rfl) rfl rfl (fun C => ?_) rfl
  unfold memA
  have hc := clone_spec (l.map eA) (by rw [List.length_map]; exact hl)
  repeat' (first | refine Awp.seq ?_ | refine Awp.region ?_ | (refine Ops.nil ?_; show Awp _ _ _ _ _) | (refine Ops.nil ?_; show Exists _) | (refine Ops.nil ?_; show endK _ _ _ _ _) | (refine Awp.ret ?_; show endK _ _ _ _ _) | (refine o_calm rfl TtOk rfl rfl rfl ?_ (fun _ => ?_); first | exact True.intro | exact ⟨rfl, rfl, rfl, rfl⟩ | exact ⟨rfl, True.intro⟩ | exact ⟨rfl, rfl⟩ | exact ⟨rfl, rfl, rfl⟩ | exact rfl | exact ⟨fun h0 => by cases h0, rfl⟩ | exact (fun h0 => by cases h0) | exact ⟨rfl, by omega⟩ | exact ⟨Nat.succ_ne_zero _, rfl⟩ | omega) | (refine o_callR rfl hc ⟨SLe.of_eq rfl, True.intro⟩ rfl (fun vR => ?_)))
  refine end_tmp rfl rfl rfl [7] [(0, _)] (CLe.fz ?_) (HLe.cons 0 rfl (HOLe.refl _) .nil) ⟨rfl, rfl⟩ _ (.inl rfl)
  exact .head _
theorem mget_spec (b : Nat) (l : List Etr) (s : Int) (k : List UInt8) (hl : l.length ≤ 400000) (hr : Rise l) :
    Spec Try.prog 27 [.ptr 0 b [] 0, .s k] [.var b (memA l s)] (fun r os => r = .tup [eA (rfnd l k).1, .b (rfnd l k).2] ∧ os = [.var b (memA l s)]) := by
  refine spec_of TtOk [(0, .var b (memA l s))] Try.func27 rfl Try.ntmps27 (by kernel_rfl) rfl rfl (fun C => ?_) rfl
  rw [rfnd_eq hr]
  have h1 := bfind_spec l k hl (rise_mono hr k)
  generalize fndE l k (plc l k) = E at h1 ⊢
  generalize fndB l k (plc l k) = B at h1 ⊢
  unfold memA
  unfold eA at h1 ⊢
  repeat' (first | refine Awp.seq ?_ | refine Awp.region ?_ | (refine Ops.nil ?_; show Awp _ _ _ _ _) | (refine Ops.nil ?_; show Exists _) | (refine Ops.nil ?_; show endK _ _ _ _ _) | (refine Awp.ret ?_; show endK _ _ _ _ _) | (refine o_calm rfl TtOk rfl rfl rfl ?_ (fun _ => ?_); first | exact True.intro | exact ⟨rfl, rfl, rfl, rfl⟩ | exact ⟨rfl, True.intro⟩ | exact ⟨rfl, rfl⟩ | exact ⟨rfl, rfl, rfl⟩ | exact rfl | exact ⟨fun h0 => by cases h0, rfl⟩ | exact (fun h0 => by cases h0) | exact ⟨rfl, by omega⟩ | exact ⟨Nat.succ_ne_zero _, rfl⟩ | omega) | refine o_alloc rfl TtOk rfl rfl rfl (fun bA => ?_) | refine o_store TtOk rfl rfl rfl rfl rfl rfl rfl ⟨rfl, rfl⟩ rfl rfl rfl rfl rfl ?_ | (refine o_call0 rfl (h1) ⟨SLe.of_eq rfl, SLe.of_eq rfl, True.intro⟩ rfl ?_; rintro _ _ ⟨rfl, rfl⟩; refine ⟨rfl, ?_⟩))
  refine end_all [] [(0, _)] (.tup [.agg [.s E.k, .s E.v, .b E.g], .b B]) rfl ?_ ?_ (rle_tup2 (CLe.of_eq rfl) (CLe.of_eq rfl) rfl rfl) (HLe.cons 0 rfl (HOLe.refl _) .nil) ⟨rfl, rfl⟩ _ (.inl rfl)
  all_goals first | exact ⟨trivial, trivial⟩ | trivial | exact ⟨trivial, trivial, trivial⟩ | trace_state
end Go.Proofs.Ytapbbifcipemfaa
