/- step.superseded, theirs, Drops, Buries by rules. -/
import Derived.Test.YtcmgpkibjdbonaaLF2Z
set_option maxHeartbeats 16000000
set_option maxRecDepth 100000
namespace Go.Proofs.Ytcmgpkibjdbonaa
open Go Go.RowKit
/-- Was a seed superseded so many epochs ago? -/
def supE (l : List Lef) (s : List UInt8) (ep ag : Int) : Bool := (hasLf l (frL s) && hasLf l (stL s)) && (((fndL l (stL s)).v == markL) && decide (ag ≤ ep - (fndL l (stL s)).t))
theorem fnd_t {l : List Lef} (h : ∀ x ∈ l, 0 ≤ x.t ∧ x.t ≤ 1073741824) (g : List UInt8) : 0 ≤ (fndL l g).t ∧ (fndL l g).t ≤ 1073741824 := by
  unfold fndL
  cases hf : l.find? (fun y => y.l == g) with
  | none => exact ⟨Int.le_refl _, by show (0 : Int) ≤ 1073741824; decide⟩
  | some x => exact h x (List.mem_of_find?_eq_some hf)
theorem superseded_spec (l : List Lef) (s : List UInt8) (ep ag : Int) (hl : l.length ≤ 100000) (hs : s.length = 32) (ht : ∀ x ∈ l, 0 ≤ x.t ∧ x.t ≤ 1073741824) (he : 0 ≤ ep ∧ ep ≤ 1073741824) : Spec Try.prog 95 [.sl 65 (l.map Lef.A), labA s, .i .i64 ep, .i .i64 ag] [] (fun v os => v = .tup [(fndL l (frL s)).A, .b (supE l s ep ag)] ∧ os = []) := by
  have h1 := lfresh_spec s hs
  have h2 := lstale_spec s hs
  have h3 := sfind_spec l (frL s) hl
  have h4 := sfind_spec l (stL s) hl
  have h5 := lmark_spec
  have htt := fnd_t ht (stL s)
  unfold supE
  generalize frL s = g1 at *
  generalize stL s = g2 at *
  generalize fndL l g1 = f at *
  generalize fndL l g2 = m at *
  generalize hasLf l g1 = A at *
  generalize hasLf l g2 = B at *
  generalize markL = mk at *
  generalize hq : (m.v == mk) = q at *
  refine spec_of TtOk [] Try.func95 rfl Try.ntmps95 (by kernel_rfl) rfl rfl (fun C => ?_) rfl
  cases A with
  | false =>
    repeat' (first | refine Awp.seq ?_ | refine Awp.region ?_ | (refine Ops.nil ?_; show Awp _ _ _ _ _) | (refine Awp.ret ?_; show endK _ _ _ _ _) | refine o_noT rfl rfl rfl ?_ | (refine o_calm rfl TtOk rfl rfl rfl ?_ (fun _ => ?_); first | exact True.intro | exact ⟨rfl, rfl, rfl, rfl⟩ | exact ⟨rfl, True.intro⟩ | exact ⟨rfl, rfl⟩ | exact ⟨rfl, rfl, rfl⟩ | exact rfl | exact ⟨fun h0 => by cases h0, rfl⟩ | exact (fun h0 => by cases h0) | exact ⟨rfl, by omega⟩ | exact ⟨Nat.succ_ne_zero _, rfl⟩ | omega) | refine o_alloc (d := 8) rfl TtOk rfl rfl rfl (fun b8 => ?_) | refine o_alloc (d := 10) rfl TtOk rfl rfl rfl (fun b10 => ?_) | refine o_alloc (d := 12) rfl TtOk rfl rfl rfl (fun b12 => ?_) | refine o_box (d := 5) rfl rfl rfl rfl (fun b5 => ?_) | refine o_store TtOk rfl rfl rfl rfl rfl rfl rfl ⟨rfl, rfl⟩ rfl rfl rfl rfl rfl ?_ | refine a_any 3 [8] [28, 35] [36] [1, 2, 3, 4, 5, 6, 0, 7, 8, 9, 10, 11, 12, 13, 16, 14, 15, 17, 18, 19, 20] (by kernel_rfl) (by kernel_rfl) (by kernel_rfl) rfl rfl rfl ?_ | (refine o_call0 rfl (h1) ⟨SLe.of_eq rfl, True.intro⟩ rfl ?_; rintro _ _ ⟨rfl, rfl⟩; refine ⟨rfl, ?_⟩) | (refine o_call0 rfl (h2) ⟨SLe.of_eq rfl, True.intro⟩ rfl ?_; rintro _ _ ⟨rfl, rfl⟩; refine ⟨rfl, ?_⟩) | (refine o_call0 rfl (h3) ⟨SLe.of_eq rfl, SLe.of_eq rfl, True.intro⟩ rfl ?_; rintro _ _ ⟨rfl, rfl⟩; refine ⟨rfl, ?_⟩) | (refine o_call0 rfl (h4) ⟨SLe.of_eq rfl, SLe.of_eq rfl, True.intro⟩ rfl ?_; rintro _ _ ⟨rfl, rfl⟩; refine ⟨rfl, ?_⟩))
    all_goals
      refine end_all [] [] (.tup [f.A, .b false]) rfl ?_ ?_ (rle_tup2 (CLe.of_eq rfl) (CLe.of_eq rfl) rfl rfl) .nil ⟨rfl, rfl⟩ _ (.inl rfl)
      · repeat' (first | exact True.intro | exact rfl | refine ⟨?_, ?_⟩)
      · exact ⟨trivial, trivial, trivial⟩
  | true =>
    cases B with
    | false =>
      repeat' (first | refine Awp.seq ?_ | refine Awp.region ?_ | (refine Ops.nil ?_; show Awp _ _ _ _ _) | (refine Awp.ret ?_; show endK _ _ _ _ _) | refine o_noT rfl rfl rfl ?_ | (refine o_calm rfl TtOk rfl rfl rfl ?_ (fun _ => ?_); first | exact True.intro | exact ⟨rfl, rfl, rfl, rfl⟩ | exact ⟨rfl, True.intro⟩ | exact ⟨rfl, rfl⟩ | exact ⟨rfl, rfl, rfl⟩ | exact rfl | exact ⟨fun h0 => by cases h0, rfl⟩ | exact (fun h0 => by cases h0) | exact ⟨rfl, by omega⟩ | exact ⟨Nat.succ_ne_zero _, rfl⟩ | omega) | refine o_alloc (d := 8) rfl TtOk rfl rfl rfl (fun b8 => ?_) | refine o_alloc (d := 10) rfl TtOk rfl rfl rfl (fun b10 => ?_) | refine o_alloc (d := 12) rfl TtOk rfl rfl rfl (fun b12 => ?_) | refine o_box (d := 5) rfl rfl rfl rfl (fun b5 => ?_) | refine o_store TtOk rfl rfl rfl rfl rfl rfl rfl ⟨rfl, rfl⟩ rfl rfl rfl rfl rfl ?_ | refine a_any 3 [8] [28, 35] [36] [1, 2, 3, 4, 5, 6, 0, 7, 8, 9, 10, 11, 12, 13, 16, 14, 15, 17, 18, 19, 20] (by kernel_rfl) (by kernel_rfl) (by kernel_rfl) rfl rfl rfl ?_ | (refine o_call0 rfl (h1) ⟨SLe.of_eq rfl, True.intro⟩ rfl ?_; rintro _ _ ⟨rfl, rfl⟩; refine ⟨rfl, ?_⟩) | (refine o_call0 rfl (h2) ⟨SLe.of_eq rfl, True.intro⟩ rfl ?_; rintro _ _ ⟨rfl, rfl⟩; refine ⟨rfl, ?_⟩) | (refine o_call0 rfl (h3) ⟨SLe.of_eq rfl, SLe.of_eq rfl, True.intro⟩ rfl ?_; rintro _ _ ⟨rfl, rfl⟩; refine ⟨rfl, ?_⟩) | (refine o_call0 rfl (h4) ⟨SLe.of_eq rfl, SLe.of_eq rfl, True.intro⟩ rfl ?_; rintro _ _ ⟨rfl, rfl⟩; refine ⟨rfl, ?_⟩))
      all_goals
        refine end_all [] [] (.tup [f.A, .b false]) rfl ?_ ?_ (rle_tup2 (CLe.of_eq rfl) (CLe.of_eq rfl) rfl rfl) .nil ⟨rfl, rfl⟩ _ (.inl rfl)
        · repeat' (first | exact True.intro | exact rfl | refine ⟨?_, ?_⟩)
        · exact ⟨trivial, trivial, trivial⟩
    | true =>
      cases q with
      | false =>
        repeat' (first | (rw [hq]) | refine Awp.seq ?_ | refine Awp.region ?_ | (refine Ops.nil ?_; show Awp _ _ _ _ _) | (refine Awp.ret ?_; show endK _ _ _ _ _) | refine o_noT rfl rfl rfl ?_ | (refine o_calm rfl TtOk rfl rfl rfl ?_ (fun _ => ?_); first | exact True.intro | exact ⟨rfl, rfl, rfl, rfl⟩ | exact ⟨rfl, True.intro⟩ | exact ⟨rfl, rfl⟩ | exact ⟨rfl, rfl, rfl⟩ | exact rfl | exact ⟨fun h0 => by cases h0, rfl⟩ | exact (fun h0 => by cases h0) | exact ⟨rfl, by omega⟩ | exact ⟨Nat.succ_ne_zero _, rfl⟩ | omega) | refine o_alloc (d := 8) rfl TtOk rfl rfl rfl (fun b8 => ?_) | refine o_alloc (d := 10) rfl TtOk rfl rfl rfl (fun b10 => ?_) | refine o_alloc (d := 12) rfl TtOk rfl rfl rfl (fun b12 => ?_) | refine o_box (d := 5) rfl rfl rfl rfl (fun b5 => ?_) | refine o_store TtOk rfl rfl rfl rfl rfl rfl rfl ⟨rfl, rfl⟩ rfl rfl rfl rfl rfl ?_ | refine o_eqArr8 TtOk rfl rfl rfl rfl rfl rfl (by kernel_rfl) ?_ | refine a_any 3 [8] [28, 35] [36] [1, 2, 3, 4, 5, 6, 0, 7, 8, 9, 10, 11, 12, 13, 16, 14, 15, 17, 18, 19, 20] (by kernel_rfl) (by kernel_rfl) (by kernel_rfl) rfl rfl rfl ?_ | (refine o_call0 rfl (h1) ⟨SLe.of_eq rfl, True.intro⟩ rfl ?_; rintro _ _ ⟨rfl, rfl⟩; refine ⟨rfl, ?_⟩) | (refine o_call0 rfl (h2) ⟨SLe.of_eq rfl, True.intro⟩ rfl ?_; rintro _ _ ⟨rfl, rfl⟩; refine ⟨rfl, ?_⟩) | (refine o_call0 rfl (h3) ⟨SLe.of_eq rfl, SLe.of_eq rfl, True.intro⟩ rfl ?_; rintro _ _ ⟨rfl, rfl⟩; refine ⟨rfl, ?_⟩) | (refine o_call0 rfl (h4) ⟨SLe.of_eq rfl, SLe.of_eq rfl, True.intro⟩ rfl ?_; rintro _ _ ⟨rfl, rfl⟩; refine ⟨rfl, ?_⟩) | (refine o_call0 rfl (h5) True.intro rfl ?_; rintro _ _ ⟨rfl, rfl⟩; refine ⟨rfl, ?_⟩))
        all_goals
          refine end_all [] [] (.tup [f.A, .b false]) rfl ?_ ?_ (rle_tup2 (CLe.of_eq rfl) (CLe.of_eq rfl) rfl rfl) .nil ⟨rfl, rfl⟩ _ (.inl rfl)
          · repeat' (first | exact True.intro | exact rfl | refine ⟨?_, ?_⟩)
          · exact ⟨trivial, trivial, trivial⟩
      | true =>
        repeat' (first | (rw [hq]) | refine Awp.seq ?_ | refine Awp.region ?_ | (refine Ops.nil ?_; show Awp _ _ _ _ _) | (refine Awp.ret ?_; show endK _ _ _ _ _) | (refine o_sub rfl rfl rfl rfl ?_ ?_; omega) | (refine o_calm rfl TtOk rfl rfl rfl ?_ (fun _ => ?_); first | exact True.intro | exact ⟨rfl, rfl, rfl, rfl⟩ | exact ⟨rfl, True.intro⟩ | exact ⟨rfl, rfl⟩ | exact ⟨rfl, rfl, rfl⟩ | exact rfl | exact ⟨fun h0 => by cases h0, rfl⟩ | exact (fun h0 => by cases h0) | exact ⟨rfl, by omega⟩ | exact ⟨Nat.succ_ne_zero _, rfl⟩ | omega) | refine o_alloc (d := 8) rfl TtOk rfl rfl rfl (fun b8 => ?_) | refine o_alloc (d := 10) rfl TtOk rfl rfl rfl (fun b10 => ?_) | refine o_alloc (d := 12) rfl TtOk rfl rfl rfl (fun b12 => ?_) | refine o_box (d := 5) rfl rfl rfl rfl (fun b5 => ?_) | refine o_store TtOk rfl rfl rfl rfl rfl rfl rfl ⟨rfl, rfl⟩ rfl rfl rfl rfl rfl ?_ | refine o_eqArr8 TtOk rfl rfl rfl rfl rfl rfl (by kernel_rfl) ?_ | refine a_any 3 [8] [28, 35] [36] [1, 2, 3, 4, 5, 6, 0, 7, 8, 9, 10, 11, 12, 13, 16, 14, 15, 17, 18, 19, 20] (by kernel_rfl) (by kernel_rfl) (by kernel_rfl) rfl rfl rfl ?_ | (refine o_call0 rfl (h1) ⟨SLe.of_eq rfl, True.intro⟩ rfl ?_; rintro _ _ ⟨rfl, rfl⟩; refine ⟨rfl, ?_⟩) | (refine o_call0 rfl (h2) ⟨SLe.of_eq rfl, True.intro⟩ rfl ?_; rintro _ _ ⟨rfl, rfl⟩; refine ⟨rfl, ?_⟩) | (refine o_call0 rfl (h3) ⟨SLe.of_eq rfl, SLe.of_eq rfl, True.intro⟩ rfl ?_; rintro _ _ ⟨rfl, rfl⟩; refine ⟨rfl, ?_⟩) | (refine o_call0 rfl (h4) ⟨SLe.of_eq rfl, SLe.of_eq rfl, True.intro⟩ rfl ?_; rintro _ _ ⟨rfl, rfl⟩; refine ⟨rfl, ?_⟩) | (refine o_call0 rfl (h5) True.intro rfl ?_; rintro _ _ ⟨rfl, rfl⟩; refine ⟨rfl, ?_⟩))
        all_goals
          refine end_all [] [] (.tup [f.A, .b (decide (ag ≤ ep - m.t))]) rfl ?_ ?_ (rle_tup2 (CLe.of_eq rfl) (CLe.of_eq rfl) rfl rfl) .nil ⟨rfl, rfl⟩ _ (.inl rfl)
          · repeat' (first | exact True.intro | exact rfl | refine ⟨?_, ?_⟩)
          · exact ⟨trivial, trivial, trivial⟩
def mineL (seeds : List (List UInt8)) : List (List UInt8) := seeds.foldl (fun m s => addK (addK m (frL s)) (stL s)) []
theorem mine_step (seeds : List (List UInt8)) {i : Nat} (h : i < seeds.length) : mineL (seeds.take (i + 1)) = addK (addK (mineL (seeds.take i)) (frL seeds[i])) (stL seeds[i]) := by
  unfold mineL
  rw [List.take_succ_eq_append_getElem h, List.foldl_append]; rfl
theorem mine_len (seeds : List (List UInt8)) : ∀ x ∈ mineL seeds, x.length = 32 := by
  unfold mineL
  suffices h : ∀ (s m : List (List UInt8)), (∀ x ∈ m, x.length = 32) → ∀ x ∈ s.foldl (fun m s => addK (addK m (frL s)) (stL s)) m, x.length = 32 from h seeds [] (fun x hx => by cases hx)
  intro s
  induction s with
  | nil => intro m hm; exact hm
  | cons a r ih => intro m hm; exact ih _ (addK_len (addK_len hm (frL_len a)) (stL_len a))
theorem mine_has (seeds : List (List UInt8)) (g : List UInt8) : (mineL seeds).contains g = seeds.any (fun s => g == frL s || g == stL s) := by
  unfold mineL
  suffices h : ∀ (s m : List (List UInt8)), (s.foldl (fun m s => addK (addK m (frL s)) (stL s)) m).contains g = (m.contains g || s.any (fun s => g == frL s || g == stL s)) by
    rw [h seeds []]; rfl
  intro s
  induction s with
  | nil => intro m; simp
  | cons a r ih =>
    intro m
    rw [List.foldl_cons, ih, addK_mem, addK_mem, List.any_cons, Bool.or_assoc, Bool.or_assoc, Bool.or_assoc]
/-- Has each leaf a label of one of these seeds? -/
def thE (l : List Lef) (seeds : List (List UInt8)) : Bool := l.all (fun x => seeds.any (fun s => x.l == frL s || x.l == stL s))
theorem theirs_spec (l : List Lef) (seeds : List (List UInt8)) (hl : l.length ≤ 100000) (hs : seeds.length ≤ 100000) (hso : ∀ x ∈ seeds, x.length = 32) : Spec Try.prog 94 [.sl 65 (l.map Lef.A), .sl 32 (seeds.map labA)] [] (fun v os => v = .b (thE l seeds) ∧ os = []) := by
  refine spec_of TtOk [] Try.func94 rfl Try.ntmps94 (by kernel_rfl) rfl rfl (fun C => ?_) rfl
  repeat' (first | refine Awp.seq ?_ | refine Awp.block ?_ | refine Awp.region ?_ | (refine Ops.nil ?_; show Awp _ _ _ _ _) | refine o_len rfl TtOk rfl rfl rfl (fun _ => ?_) | (refine o_calm rfl TtOk rfl rfl rfl ?_ (fun _ => ?_); first | exact True.intro | exact ⟨rfl, rfl, rfl, rfl⟩ | exact ⟨rfl, True.intro⟩ | exact ⟨rfl, rfl⟩ | exact ⟨rfl, rfl, rfl⟩ | exact rfl | exact ⟨fun h0 => by cases h0, rfl⟩ | exact (fun h0 => by cases h0) | exact ⟨rfl, by omega⟩ | exact ⟨Nat.succ_ne_zero _, rfl⟩ | omega) | (refine o_makeMap rfl rfl (fun bm => ?_)))
  refine Awp.loop (fun i : Nat => ⟨38, [(13, .i .i64 i), (12, .i .i64 seeds.length), (11, .sl 32 (seeds.map labA)), (5, .own 10 (.map (some bm))), (0, .sl 65 (l.map Lef.A))], [(10, .obj bm (setO ((mineL (seeds.take i)).map vL)))]⟩) (fun i => i ≤ seeds.length) (fun i => seeds.length - i) [] 0 (Nat.zero_le _) ?_ ?_
  · exact ⟨rfl, ⟨sle_i rfl, sle_i rfl, sle_sl rfl, sle_own, sle_sl rfl, True.intro⟩, HLe.cons 10 rfl (HOLe.refl _) .nil⟩
  intro i hi
  by_cases hlt : i < seeds.length
  · have hi1 : ((i : Int) + 1 = ((i + 1 : Nat) : Int)) := by omega
    have h1 := lfresh_spec seeds[i] (hso _ (List.getElem_mem hlt))
    have h2 := lstale_spec seeds[i] (hso _ (List.getElem_mem hlt))
    have hst := mine_step seeds hlt
    have hM := mine_len (seeds.take i)
    have hM2 := addK_len hM (frL_len seeds[i])
    generalize mineL (seeds.take i) = M at *
    generalize frL seeds[i] = g1 at *
    generalize stL seeds[i] = g2 at *
    repeat' (first | refine Awp.seq ?_ | refine Awp.block ?_ | refine Awp.region ?_ | (refine Ops.nil ?_; show Awp _ _ _ _ _) | (refine Ops.nil ?_; show Exists _) | (refine Awp.skip ?_; show Awp _ _ _ _ _) | (refine o_add rfl rfl rfl rfl ?_ ?_; omega) | (refine o_calm rfl TtOk rfl rfl rfl ?_ (fun _ => ?_); first | exact True.intro | exact ⟨rfl, rfl, rfl, rfl⟩ | exact ⟨rfl, True.intro⟩ | exact ⟨rfl, rfl⟩ | exact ⟨rfl, rfl, rfl⟩ | exact rfl | exact ⟨fun h0 => by cases h0, rfl⟩ | exact (fun h0 => by cases h0) | exact ⟨rfl, by omega⟩ | exact ⟨Nat.succ_ne_zero _, rfl⟩ | omega) | refine o_alloc (d := 7) rfl TtOk rfl rfl rfl (fun b7 => ?_) | refine o_store TtOk rfl rfl rfl rfl rfl rfl rfl ⟨rfl, rfl⟩ rfl rfl rfl rfl rfl ?_ | (refine o_index rfl TtOk rfl rfl rfl rfl rfl rfl ?_ (getq_nat ?_) ?_; omega; omega) | (refine a_condP rfl (fun hc => ?_) (fun hc => ?_)) <;> (try (exfalso; omega)) | refine a_any 5 [10] [18, 21] [19, 22] [0, 3, 1, 4, 2, 5, 6, 7, 8, 9] (by kernel_rfl) (by kernel_rfl) (by kernel_rfl) rfl rfl rfl ?_ | (refine o_entryLab TtOk rfl M hM g1 rfl rfl rfl rfl rfl rfl rfl rfl rfl rfl ?_) | (refine o_entryStoreLab rfl M g1 rfl rfl rfl rfl rfl rfl ?_) | (refine o_updateLab TtOk rfl (addK M g1) hM2 g2 rfl rfl rfl rfl rfl rfl rfl rfl rfl ?_) | (refine o_call0 rfl (h1) ⟨SLe.of_eq rfl, True.intro⟩ rfl ?_; rintro _ _ ⟨rfl, rfl⟩; refine ⟨rfl, ?_⟩) | (refine o_call0 rfl (h2) ⟨SLe.of_eq rfl, True.intro⟩ rfl ?_; rintro _ _ ⟨rfl, rfl⟩; refine ⟨rfl, ?_⟩))
    all_goals exact ⟨i + 1, [], hlt, by show seeds.length - (i + 1) < seeds.length - i; omega, rfl, ⟨sle_i hi1, sle_i rfl, sle_sl rfl, sle_own, sle_sl rfl, True.intro⟩, HLe.cons 10 rfl (by rw [hst]; exact HOLe.refl _) .nil⟩
  · have hie : i = seeds.length := by omega
    subst hie
    rw [List.take_length]
    have hM := mine_len seeds
    have hmh := mine_has seeds
    have hE : thE l seeds = l.all (fun x => (mineL seeds).contains x.l) := by unfold thE; congr 1; funext x; exact (hmh x.l).symm
    rw [hE]
    clear hmh hE
    generalize mineL seeds = M at *
    repeat' (first | refine Awp.seq ?_ | refine Awp.block ?_ | refine Awp.region ?_ | (refine Ops.nil ?_; show Awp _ _ _ _ _) | (refine Awp.exit ?_; show Awp _ _ _ _ _) | refine o_len rfl TtOk rfl rfl rfl (fun _ => ?_) | (refine o_calm rfl TtOk rfl rfl rfl ?_ (fun _ => ?_); first | exact True.intro | exact ⟨rfl, rfl, rfl, rfl⟩ | exact ⟨rfl, True.intro⟩ | exact ⟨rfl, rfl⟩ | exact ⟨rfl, rfl, rfl⟩ | exact rfl | exact ⟨fun h0 => by cases h0, rfl⟩ | exact (fun h0 => by cases h0) | exact ⟨rfl, by omega⟩ | exact ⟨Nat.succ_ne_zero _, rfl⟩ | omega) | (refine a_condP rfl (fun hc => ?_) (fun hc => ?_)) <;> (try (exfalso; omega)))
    refine Awp.loop (fun j : Nat => ⟨38, [(28, .i .i64 j), (27, .i .i64 l.length), (26, .sl 65 (l.map Lef.A)), (5, .own 10 (.map (some bm)))], [(10, .obj bm (setO (M.map vL)))]⟩) (fun j => j ≤ l.length ∧ ∀ i (h : i < l.length), i < j → M.contains l[i].l = true) (fun j => l.length - j) [] 0 ⟨Nat.zero_le _, fun i _ h => absurd h (Nat.not_lt_zero _)⟩ ?_ ?_
    · exact ⟨rfl, ⟨sle_i rfl, sle_i rfl, sle_sl rfl, sle_own, True.intro⟩, HLe.cons 10 rfl (HOLe.refl _) .nil⟩
    rintro j ⟨hj, hall⟩
    by_cases hjl : j < l.length
    · have hj1 : ((j : Int) + 1 = ((j + 1 : Nat) : Int)) := by omega
      cases hq : M.contains l[j].l with
      | true =>
        repeat' (first | (rw [hq]) | refine Awp.seq ?_ | refine Awp.block ?_ | refine Awp.region ?_ | (refine Ops.nil ?_; show Awp _ _ _ _ _) | (refine Ops.nil ?_; show Exists _) | (refine Awp.skip ?_; show Awp _ _ _ _ _) | (refine o_add rfl rfl rfl rfl ?_ ?_; omega) | (refine o_calm rfl TtOk rfl rfl rfl ?_ (fun _ => ?_); first | exact True.intro | exact ⟨rfl, rfl, rfl, rfl⟩ | exact ⟨rfl, True.intro⟩ | exact ⟨rfl, rfl⟩ | exact ⟨rfl, rfl, rfl⟩ | exact rfl | exact ⟨fun h0 => by cases h0, rfl⟩ | exact (fun h0 => by cases h0) | exact ⟨rfl, by omega⟩ | exact ⟨Nat.succ_ne_zero _, rfl⟩ | omega) | refine o_alloc (d := 9) rfl TtOk rfl rfl rfl (fun b9 => ?_) | refine o_store TtOk rfl rfl rfl rfl rfl rfl rfl ⟨rfl, rfl⟩ rfl rfl rfl rfl rfl ?_ | (refine o_index rfl TtOk rfl rfl rfl rfl rfl rfl ?_ (getq_nat ?_) ?_; omega; omega) | refine a_condF rfl ?_ | (refine a_condP rfl (fun hc => ?_) (fun hc => ?_)) <;> (try (exfalso; omega)) | (refine o_lookupLab TtOk rfl M hM l[j].l rfl rfl rfl rfl rfl rfl rfl rfl ?_))
        all_goals exact ⟨j + 1, [], ⟨hjl, fun i h hi => by
          rcases Nat.lt_succ_iff_lt_or_eq.1 hi with h2 | rfl
          · exact hall i h h2
          · exact hq⟩, by show l.length - (j + 1) < l.length - j; omega, rfl, ⟨sle_i hj1, sle_i rfl, sle_sl rfl, sle_own, True.intro⟩, HLe.cons 10 rfl (HOLe.refl _) .nil⟩
      | false =>
        have hT : l.all (fun x => M.contains x.l) = false := by
          rw [List.all_eq_false]
          exact ⟨l[j], List.getElem_mem _, by rw [hq]; decide⟩
        rw [hT]
        repeat' (first | (rw [hq]) | refine Awp.seq ?_ | refine Awp.block ?_ | refine Awp.region ?_ | (refine Ops.nil ?_; show Awp _ _ _ _ _) | (refine Awp.skip ?_; show Awp _ _ _ _ _) | (refine Awp.ret ?_; show endK _ _ _ _ _) | (refine o_calm rfl TtOk rfl rfl rfl ?_ (fun _ => ?_); first | exact True.intro | exact ⟨rfl, rfl, rfl, rfl⟩ | exact ⟨rfl, True.intro⟩ | exact ⟨rfl, rfl⟩ | exact ⟨rfl, rfl, rfl⟩ | exact rfl | exact ⟨fun h0 => by cases h0, rfl⟩ | exact (fun h0 => by cases h0) | exact ⟨rfl, by omega⟩ | exact ⟨Nat.succ_ne_zero _, rfl⟩ | omega) | refine o_alloc (d := 9) rfl TtOk rfl rfl rfl (fun b9 => ?_) | refine o_store TtOk rfl rfl rfl rfl rfl rfl rfl ⟨rfl, rfl⟩ rfl rfl rfl rfl rfl ?_ | (refine o_index rfl TtOk rfl rfl rfl rfl rfl rfl ?_ (getq_nat ?_) ?_; omega; omega) | refine a_condT rfl ?_ | (refine a_condP rfl (fun hc => ?_) (fun hc => ?_)) <;> (try (exfalso; omega)) | (refine o_lookupLab TtOk rfl M hM l[j].l rfl rfl rfl rfl rfl rfl rfl rfl ?_))
        all_goals exact end_tmp rfl rfl rfl [] [] (CLe.of_eq rfl) .nil ⟨rfl, rfl⟩ _ (.inl rfl)
    · have hT : l.all (fun x => M.contains x.l) = true := List.all_eq_true.2 (fun x hx => by
        obtain ⟨i, hi, rfl⟩ := List.getElem_of_mem hx
        exact hall i hi (by omega))
      rw [hT]
      repeat' (first | refine Awp.seq ?_ | refine Awp.region ?_ | (refine Ops.nil ?_; show Awp _ _ _ _ _) | (refine Awp.exit ?_; show Awp _ _ _ _ _) | (refine Awp.ret ?_; show endK _ _ _ _ _) | (refine o_calm rfl TtOk rfl rfl rfl ?_ (fun _ => ?_); first | exact True.intro | exact ⟨rfl, rfl, rfl, rfl⟩ | exact ⟨rfl, True.intro⟩ | exact ⟨rfl, rfl⟩ | exact ⟨rfl, rfl, rfl⟩ | exact rfl | exact ⟨fun h0 => by cases h0, rfl⟩ | exact (fun h0 => by cases h0) | exact ⟨rfl, by omega⟩ | exact ⟨Nat.succ_ne_zero _, rfl⟩ | omega) | (refine a_condP rfl (fun hc => ?_) (fun hc => ?_)) <;> (try (exfalso; omega)))
      exact end_tmp rfl rfl rfl [] [] (CLe.of_eq rfl) .nil ⟨rfl, rfl⟩ _ (.inl rfl)
end Go.Proofs.Ytcmgpkibjdbonaa
set_option maxHeartbeats 16000000
set_option maxRecDepth 100000
namespace Go.Proofs.Ytcmgpkibjdbonaa
open Go Go.RowKit
/-- What is summed of the top of told parts. -/
def tdT (T : List Itm) (O : List Lef) : List UInt8 := if T.length = 0 then [18] else if T.length = 1 then leafB (fndL O (T.headD default).l) else innB (parA T) (parB T)
/-- A part that isn't told. -/
def unT (T : List Itm) (O : List Lef) : Bool := T.length == 1 && (!(hasLf O (T.headD default).l) || decide ((T.headD default).n < 256))
def spR (R : List Lef) : Nat := if 2 ≤ R.length then splI (R.map leafI) else 0
def hld : Nat → List Itm → List Lef → List Lef → List UInt8 × List UInt8 × Bool
  | 0, _, _, _ => ([], [], false)
  | k + 1, T, O, R =>
    if unT T O = true then ([], [], false) else
    if tdT T O = rlT R then
      if T.length < 2 then ([], [], false) else
      if (hld k (T.take (splI T)) O (R.take (spR R))).1 = (hld k (T.take (splI T)) O (R.take (spR R))).2.1 then hld k (T.drop (splI T)) O (R.drop (spR R))
      else hld k (T.take (splI T)) O (R.take (spR R))
    else (tdT T O, rlT R, clsh (tdT T O) (rlT R))
theorem fndL_ok {l : List Lef} {g : List UInt8} (h : ∀ x ∈ l, x.ok) : (fndL l g).ok := by
  unfold fndL
  cases hf : l.find? (fun y => y.l == g) with
  | none => exact ⟨rfl, rfl⟩
  | some x => exact h x (List.mem_of_find?_eq_some hf)
end Go.Proofs.Ytcmgpkibjdbonaa
