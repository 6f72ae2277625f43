/- journal.Segments by rules. -/
import Derived.Test.YtfdcopbbnmialaaJ1
import Derived.Test.YtfdcopbbnmialaaJ2Z
set_option maxHeartbeats 16000000
set_option maxRecDepth 100000
namespace Go.Proofs.Ytfdcopbbnmialaa
open Go Go.RowKit
def natA (x : Nat) : AV := .i .i64 x
theorem segs_spec (bd bm : Nat) (D : Dsk) (ok : D.ok) (hl : D.fs.length ≤ 1000000) : Spec Try.prog 13 [.ptr 0 bd [] 0] (dskL bd bm D) (fun v os => v = .sl 1 ((segN (listN D)).map natA) ∧ os = dskL bd bm D) := by
  have hd := dlist_spec bd bm D ok hl
  have hL : dskL bd bm D = [.var bd (.agg [.i .i64 D.room, .own 1 (.map (some bm)), .i .i64 D.fuse, .b D.dead]), .obj bm (mpO D.es D.clk), grpL (D.fs.map Fil.O)] := rfl
  have hsl : ∀ s ∈ listN D, s.length ≤ 1000000 := fun s h => by
    unfold listN at h
    split at h
    · cases h
    · have h1 : s ∈ D.fs.map (·.nm) := (List.mergeSort_perm _ _).mem_iff.1 h
      obtain ⟨f, hf, rfl⟩ := List.mem_map.1 h1
      have := ok.nl f hf
      omega
  have hll : (listN D).length ≤ 1000000 := by
    unfold listN
    split
    · exact Nat.zero_le _
    · unfold sortN; rw [List.length_mergeSort, List.length_map]; exact hl
  rw [hL] at hd ⊢
  generalize listN D = S at hd hsl hll ⊢
  generalize D.room = rm, D.fuse = fu, D.dead = dd, mpO D.es D.clk = mo, D.fs.map Fil.O = fo at hd ⊢
  refine spec_of TtOk [(0, .var bd (.agg [.i .i64 rm, .own 1 (.map (some bm)), .i .i64 fu, .b dd])), (1, .obj bm mo), (2, grpL fo)] Try.func13 rfl Try.ntmps13 (by kernel_rfl) rfl rfl (fun C => ?_) rfl
  repeat' (first | refine Awp.seq ?_ | refine Awp.block ?_ | refine Awp.region ?_ | (refine Ops.nil ?_; show Awp _ _ _ _ _) | refine o_len rfl TtOk rfl rfl rfl (fun _ => ?_) | (refine o_calm rfl TtOk rfl rfl rfl ?_ (fun _ => ?_); first | exact True.intro | exact ⟨rfl, rfl, rfl, rfl⟩ | exact ⟨rfl, True.intro⟩ | exact ⟨rfl, rfl⟩ | exact ⟨rfl, rfl, rfl⟩ | exact rfl | exact ⟨fun h0 => by cases h0, rfl⟩ | exact (fun h0 => by cases h0) | exact ⟨rfl, by omega⟩ | exact ⟨Nat.succ_ne_zero _, rfl⟩ | omega) | (refine o_call [] [0, 1, 2] [0, 1, 2] rfl hd ⟨sle_ptr, True.intro⟩ rfl ⟨HOLe.refl _, HOLe.refl _, HOLe.refl _, True.intro⟩ rfl rfl ?_; rintro _ _ ⟨rfl, rfl⟩; refine ⟨_, rfl, rfl, ?_⟩))
  refine Awp.loop (fun q : Nat × Value => ⟨24, [(10, .i .i64 q.1), (9, .i .i64 S.length), (8, .sl 1 (S.map AV.s)), (3, .own 3 q.2)], [(0, .var bd (.agg [.i .i64 rm, .own 1 (.map (some bm)), .i .i64 fu, .b dd])), (1, .obj bm mo), (2, grpL fo), (3, .row q.2 3 1 ((segN (S.take q.1)).map natA))]⟩) (fun q => q.1 ≤ S.length) (fun q => S.length - q.1) [] (0, .slice none 0 0) (Nat.zero_le _) ?_ ?_
  · exact ⟨rfl, ⟨sle_i rfl, sle_i rfl, sle_sl rfl, sle_nilown, True.intro⟩, HLe.cons 0 rfl (HOLe.refl _) (HLe.cons 1 rfl (HOLe.refl _) (HLe.cons 2 rfl (HOLe.refl _) (HLe.none .nil)))⟩
  rintro ⟨i, v⟩ hi
  dsimp only at hi ⊢
  have hsgl : (segN (S.take i)).length ≤ i := by
    unfold segN
    refine Nat.le_trans (List.length_filterMap_le ..) ?_
    rw [List.length_take]; omega
  by_cases hlt : i < S.length
  · have hn := number_spec S[i] (hsl _ (List.getElem_mem hlt))
    have htk : S.take (i + 1) = S.take i ++ [S[i]] := by rw [List.take_succ_eq_append_getElem hlt]
    have hsg : segN (S.take (i + 1)) = segN (S.take i) ++ segN [S[i]] := by rw [htk]; unfold segN; rw [List.filterMap_append]
    cases hnn : numN S[i] with
    | none =>
      have hI : numI S[i] = -1 := by unfold numI; rw [hnn]
      have hse : segN [S[i]] = [] := by unfold segN; rw [List.filterMap_cons, hnn]; rfl
      rw [hse, List.append_nil] at hsg
      rw [hI] at hn
      repeat' (first | refine Awp.seq ?_ | refine Awp.block ?_ | refine Awp.region ?_ | (refine Ops.nil ?_; show Awp _ _ _ _ _) | (refine Ops.nil ?_; show Exists _) | (refine Awp.skip ?_; show Awp _ _ _ _ _) | (refine o_add rfl rfl rfl rfl ?_ ?_; omega) | (refine o_calm rfl TtOk rfl rfl rfl ?_ (fun _ => ?_); first | exact True.intro | exact ⟨rfl, rfl, rfl, rfl⟩ | exact ⟨rfl, True.intro⟩ | exact ⟨rfl, rfl⟩ | exact ⟨rfl, rfl, rfl⟩ | exact rfl | exact ⟨fun h0 => by cases h0, rfl⟩ | exact (fun h0 => by cases h0) | exact ⟨rfl, by omega⟩ | exact ⟨Nat.succ_ne_zero _, rfl⟩ | omega) | (refine o_index rfl TtOk rfl rfl rfl rfl rfl rfl ?_ (getq_nat ?_) ?_; omega; omega) | refine a_condF rfl ?_ | (refine a_condP rfl (fun hc => ?_) (fun hc => ?_)) <;> (try (exfalso; omega)) | (refine o_call0 rfl (hn) ⟨SLe.of_eq rfl, True.intro⟩ rfl ?_; rintro _ _ ⟨rfl, rfl⟩; refine ⟨rfl, ?_⟩))
      exact ⟨(i + 1, v), [], by show i + 1 ≤ S.length; omega, by show S.length - (i + 1) < S.length - i; omega, rfl, ⟨sle_i (by show (i : Int) + 1 = ((i + 1 : Nat) : Int); omega), sle_i rfl, sle_sl rfl, sle_own, True.intro⟩, HLe.cons 0 rfl (HOLe.refl _) (HLe.cons 1 rfl (HOLe.refl _) (HLe.cons 2 rfl (HOLe.refl _) (HLe.cons 3 rfl (by rw [hsg]; exact HOLe.refl _) .nil)))⟩
    | some n =>
      have hI : numI S[i] = n := by unfold numI; rw [hnn]
      have hse : segN [S[i]] = [n] := by unfold segN; rw [List.filterMap_cons, hnn]; rfl
      rw [hse] at hsg
      rw [hI] at hn
      repeat' (first | refine Awp.seq ?_ | refine Awp.block ?_ | refine Awp.region ?_ | (refine Ops.nil ?_; show Awp _ _ _ _ _) | (refine Ops.nil ?_; show Exists _) | (refine Awp.skip ?_; show Awp _ _ _ _ _) | (refine o_add rfl rfl rfl rfl ?_ ?_; omega) | (refine o_calm rfl TtOk rfl rfl rfl ?_ (fun _ => ?_); first | exact True.intro | exact ⟨rfl, rfl, rfl, rfl⟩ | exact ⟨rfl, True.intro⟩ | exact ⟨rfl, rfl⟩ | exact ⟨rfl, rfl, rfl⟩ | exact rfl | exact ⟨fun h0 => by cases h0, rfl⟩ | exact (fun h0 => by cases h0) | exact ⟨rfl, by omega⟩ | exact ⟨Nat.succ_ne_zero _, rfl⟩ | omega) | (refine o_index rfl TtOk rfl rfl rfl rfl rfl rfl ?_ (getq_nat ?_) ?_; omega; omega) | refine o_buildSlice TtOk rfl rfl rfl rfl rfl rfl rfl rfl rfl rfl rfl (by repeat' (first | exact True.intro | exact rfl | refine ⟨?_, ?_⟩)) (fun _ => ?_) | (refine o_append TtOk rfl rfl rfl rfl rfl rfl rfl rfl rfl (by first | exact True.intro | exact rfl) rfl rfl (fun _ => rfl) ?_ ?_ (fun _ => ?_); ((repeat' (first | rw [List.length_append] | rw [List.length_map] | rw [List.length_cons] | rw [List.length_nil] | rw [List.length_take] | rw [List.length_drop])) <;> omega); ((repeat' (first | rw [List.length_append] | rw [List.length_map] | rw [List.length_cons] | rw [List.length_nil] | rw [List.length_take] | rw [List.length_drop])) <;> omega)) | refine a_condT rfl ?_ | (refine a_condP rfl (fun hc => ?_) (fun hc => ?_)) <;> (try (exfalso; omega)) | (refine o_call0 rfl (hn) ⟨SLe.of_eq rfl, True.intro⟩ rfl ?_; rintro _ _ ⟨rfl, rfl⟩; refine ⟨rfl, ?_⟩))
      exact ⟨(i + 1, _), [], by show i + 1 ≤ S.length; omega, by show S.length - (i + 1) < S.length - i; omega, rfl, ⟨sle_i (by show (i : Int) + 1 = ((i + 1 : Nat) : Int); omega), sle_i rfl, sle_sl rfl, sle_own, True.intro⟩, HLe.cons 0 rfl (HOLe.refl _) (HLe.cons 1 rfl (HOLe.refl _) (HLe.cons 2 rfl (HOLe.refl _) (HLe.cons 3 rfl (by rw [hsg, List.map_append]; exact HOLe.refl _) .nil)))⟩
  · have hS : S.take i = S := List.take_of_length_le (by omega)
    rw [hS] at hsgl ⊢
    repeat' (first | refine Awp.seq ?_ | refine Awp.region ?_ | (refine Ops.nil ?_; show Awp _ _ _ _ _) | (refine Awp.exit ?_; show Awp _ _ _ _ _) | (refine Awp.ret ?_; show endK _ _ _ _ _) | (refine o_calm rfl TtOk rfl rfl rfl ?_ (fun _ => ?_); first | exact True.intro | exact ⟨rfl, rfl, rfl, rfl⟩ | exact ⟨rfl, True.intro⟩ | exact ⟨rfl, rfl⟩ | exact ⟨rfl, rfl, rfl⟩ | exact rfl | exact ⟨fun h0 => by cases h0, rfl⟩ | exact (fun h0 => by cases h0) | exact ⟨rfl, by omega⟩ | exact ⟨Nat.succ_ne_zero _, rfl⟩ | omega) | (refine a_condP rfl (fun hc => ?_) (fun hc => ?_)) <;> (try (exfalso; omega)))
    all_goals
      refine end_all [3] [(0, _), (1, _), (2, _)] (.sl 1 ((segN S).map natA)) rfl ?_ ?_ (rle_one (CLe.fz (.head _)) rfl) (HLe.cons 0 rfl (HOLe.refl _) (HLe.cons 1 rfl (HOLe.refl _) (HLe.cons 2 rfl (HOLe.refl _) .nil))) ⟨rfl, rfl⟩ _ (.inl rfl)
      · repeat' (first | exact True.intro | exact rfl | refine ⟨?_, ?_⟩)
      · exact ⟨trivial, trivial⟩
end Go.Proofs.Ytfdcopbbnmialaa
