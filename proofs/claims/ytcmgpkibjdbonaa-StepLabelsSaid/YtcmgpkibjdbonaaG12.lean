/- patch.Cover's inner function by rules. -/
import Derived.Test.YtcmgpkibjdbonaaG10Z
set_option maxHeartbeats 16000000
set_option maxRecDepth 100000
namespace Go.Proofs.Ytcmgpkibjdbonaa
open Go Go.RowKit
theorem itms_rise {l : List Lef} (hr : RiseI (l.map leafI)) : itmsL l = l.map leafI := sortS_id woI (hr.imp (fun {a b} h => by
  show decide (cmpS b.l a.l < 0) = false
  exact decide_eq_false (fun h2 => by
    have := cmp_trans h h2
    rw [cmpS_eq] at this; omega)))
def openF : Nat → List (List UInt8) → List Lef → List Itm × List Lef
  | 0, _, _ => ([], [])
  | k + 1, ls, l => if l = [] then ([], []) else if ls.any (hasP (joinF l.length (l.map leafI)).p) = false then ([joinF l.length (l.map leafI)], []) else if l.length = 1 then ([], l)
    else ((openF k ls (l.take (splI (l.map leafI)))).1 ++ (openF k ls (l.drop (splI (l.map leafI)))).1, (openF k ls (l.take (splI (l.map leafI)))).2 ++ (openF k ls (l.drop (splI (l.map leafI)))).2)
theorem openF_len : ∀ (k : Nat) (ls : List (List UInt8)) (l : List Lef), (openF k ls l).1.length ≤ l.length ∧ (openF k ls l).2.length ≤ l.length
  | 0, ls, l => ⟨Nat.zero_le _, Nat.zero_le _⟩
  | k + 1, ls, l => by
    unfold openF
    by_cases hn : l = []
    · rw [if_pos hn]; exact ⟨Nat.zero_le _, Nat.zero_le _⟩
    rw [if_neg hn]
    have hp : 0 < l.length := List.length_pos_iff.2 hn
    by_cases hh : ls.any (hasP (joinF l.length (l.map leafI)).p) = false
    · rw [if_pos hh]; exact ⟨hp, Nat.zero_le _⟩
    rw [if_neg hh]
    by_cases h1 : l.length = 1
    · rw [if_pos h1]; exact ⟨Nat.zero_le _, Nat.le_refl _⟩
    rw [if_neg h1]
    obtain ⟨a1, a2⟩ := openF_len k ls (l.take (splI (l.map leafI)))
    obtain ⟨b1, b2⟩ := openF_len k ls (l.drop (splI (l.map leafI)))
    rw [List.length_take] at a1 a2
    rw [List.length_drop] at b1 b2
    exact ⟨by rw [List.length_append]; omega, by rw [List.length_append]; omega⟩
theorem cover21_spec (n : Nat) (hn : n < 256) (z : Itm) (hz : z.n = n) (y : Lef) (hy : y.ok) : Spec Try.prog 142 ([y.A] ++ [.cp z.A]) [] (fun v os => v = .b (bitL y.l n == 1) ∧ os = []) := by
  have h1 := bit_spec y.l hy.1 n (by omega) (by omega)
  rw [if_pos (by omega), Int.toNat_natCast] at h1
  have hb := bitL_or y.l n
  generalize bitL y.l n = b at h1 hb
  obtain ⟨l, u, t⟩ := y
  obtain ⟨m, zl, zs, zt⟩ := z
  dsimp only at h1 hz
  subst hz
  show Spec Try.prog 142 [.agg [labA l, labA u, .i .i64 t], .cp (.agg [pfxA n zl, labA zs, .i .i64 zt])] [] _
  refine spec_of TtOk [] Try.func142 rfl Try.ntmps142 (by kernel_rfl) rfl rfl (fun C => ?_) rfl
  repeat' (first | refine Awp.seq ?_ | refine Awp.region ?_ | (refine Ops.nil ?_; show Awp _ _ _ _ _) | (refine Awp.ret ?_; show endK _ _ _ _ _) | (refine o_calm rfl TtOk rfl rfl rfl ?_ (fun _ => ?_); first | exact True.intro | exact ⟨rfl, rfl, rfl, rfl⟩ | exact ⟨rfl, True.intro⟩ | exact ⟨rfl, rfl⟩ | exact ⟨rfl, rfl, rfl⟩ | exact rfl | exact ⟨fun h0 => by cases h0, rfl⟩ | exact (fun h0 => by cases h0) | exact ⟨rfl, by omega⟩ | exact ⟨Nat.succ_ne_zero _, rfl⟩ | omega) | refine o_box (d := 2) rfl rfl rfl rfl (fun b2 => ?_) | (refine o_call0 rfl (h1) ⟨SLe.of_eq rfl, SLe.of_eq rfl, True.intro⟩ rfl ?_; rintro _ _ ⟨rfl, rfl⟩; refine ⟨rfl, ?_⟩))
  refine end_tmp rfl rfl rfl [] [] (CLe.of_eq ?_) .nil ⟨rfl, rfl⟩ _ (.inl rfl)
  refine congrArg AV.b ?_
  rcases hb with rfl | rfl <;> rfl
def cvA (ls : List (List UInt8)) (b1 b2 b3 : Nat) : List AV := [.cp (.sl 32 (ls.map labA)), .ptr 0 b1 [] 0, .ptr 2 b2 [] 0, .ptr 4 b3 [] 0]
theorem tokF : TOk Try.prog 195 ⟨.func, 1, 8, .nilf⟩ := ⟨by kernel_rfl, by kernel_rfl, Or.inr ⟨_, rfl, by kernel_rfl⟩⟩
def Tf : List (Nat × TI) := [(195, ⟨.func, 1, 8, .nilf⟩)]
theorem TfOk : TTOk Try.prog Tf := by
  unfold TTOk Tf
  simp only [List.forall_mem_cons, List.not_mem_nil, false_implies, implies_true, and_true]
  exact tokF
theorem open_nil (ls : List (List UInt8)) (b1 b2 b3 : Nat) (v1 v2 : Value) (S : List Itm) (T : List Lef) :
    Spec Try.prog 140 [.sl 65 (([] : List Lef).map Lef.A), .cp (.sl 32 (ls.map labA)), .ptr 0 b1 [] 0, .ptr 2 b2 [] 0, .ptr 4 b3 [] 0] [.var b1 (.own 1 v1), .row v1 33 66 (S.map Itm.A), .var b2 (.own 3 v2), .row v2 29 65 (T.map Lef.A), .var b3 (.fn (.func 140) [.cp (.sl 32 (ls.map labA)), .ptr 0 b1 [] 0, .ptr 2 b2 [] 0, .ptr 4 b3 [] 0])]
      (fun r os => r = .tup [] ∧ ∃ w1 w2, os = [.var b1 (.own 1 w1), .row w1 33 66 (S.map Itm.A), .var b2 (.own 3 w2), .row w2 29 65 (T.map Lef.A), .var b3 (.fn (.func 140) [.cp (.sl 32 (ls.map labA)), .ptr 0 b1 [] 0, .ptr 2 b2 [] 0, .ptr 4 b3 [] 0])]) := by
  refine spec_of TtOk [(0, .var b1 (.own 1 v1)), (1, .row v1 33 66 (S.map Itm.A)), (2, .var b2 (.own 3 v2)), (3, .row v2 29 65 (T.map Lef.A)), (4, .var b3 (.fn (.func 140) [.cp (.sl 32 (ls.map labA)), .ptr 0 b1 [] 0, .ptr 2 b2 [] 0, .ptr 4 b3 [] 0]))] Try.func140 rfl Try.ntmps140 (by kernel_rfl) rfl rfl (fun C => ?_) rfl
  repeat' (first | refine Awp.seq ?_ | refine Awp.region ?_ | (refine Ops.nil ?_; show Awp _ _ _ _ _) | (refine Awp.ret ?_; show endK _ _ _ _ _) | refine o_len rfl TtOk rfl rfl rfl (fun _ => ?_) | (refine o_calm rfl TtOk rfl rfl rfl ?_ (fun _ => ?_); first | exact True.intro | exact ⟨rfl, rfl, rfl, rfl⟩ | exact ⟨rfl, True.intro⟩ | exact ⟨rfl, rfl⟩ | exact ⟨rfl, rfl, rfl⟩ | exact rfl | exact ⟨fun h0 => by cases h0, rfl⟩ | exact (fun h0 => by cases h0) | exact ⟨rfl, by omega⟩ | exact ⟨Nat.succ_ne_zero _, rfl⟩ | omega) | refine a_condT rfl ?_)
  exact end_none rfl [] [(0, _), (1, _), (2, _), (3, _), (4, _)] (HLe.cons 0 rfl (HOLe.refl _) (HLe.cons 1 rfl (HOLe.refl _) (HLe.cons 2 rfl (HOLe.refl _) (HLe.cons 3 rfl (HOLe.refl _) (HLe.cons 4 rfl (HOLe.refl _) .nil))))) ⟨rfl, _, _, rfl⟩ _ (by first | exact .inl rfl | exact .inr rfl)
theorem open_spec (ls : List (List UInt8)) (hls : ls.length ≤ 100000) (hlo : ∀ x ∈ ls, x.length = 32) (b1 b2 b3 : Nat) : ∀ (k : Nat) (l : List Lef), l.length ≤ k → RiseI (l.map leafI) → (∀ x ∈ l, x.ok) → ∀ (v1 v2 : Value) (S : List Itm) (T : List Lef), S.length + l.length ≤ 100000 → T.length + l.length ≤ 100000 →
    Spec Try.prog 140 [.sl 65 (l.map Lef.A), .cp (.sl 32 (ls.map labA)), .ptr 0 b1 [] 0, .ptr 2 b2 [] 0, .ptr 4 b3 [] 0] [.var b1 (.own 1 v1), .row v1 33 66 (S.map Itm.A), .var b2 (.own 3 v2), .row v2 29 65 (T.map Lef.A), .var b3 (.fn (.func 140) [.cp (.sl 32 (ls.map labA)), .ptr 0 b1 [] 0, .ptr 2 b2 [] 0, .ptr 4 b3 [] 0])]
      (fun r os => r = .tup [] ∧ ∃ w1 w2, os = [.var b1 (.own 1 w1), .row w1 33 66 ((S ++ (openF k ls l).1).map Itm.A), .var b2 (.own 3 w2), .row w2 29 65 ((T ++ (openF k ls l).2).map Lef.A), .var b3 (.fn (.func 140) [.cp (.sl 32 (ls.map labA)), .ptr 0 b1 [] 0, .ptr 2 b2 [] 0, .ptr 4 b3 [] 0])]) := by
  intro k
  induction k with
  | zero =>
    intro l hk _ _ v1 v2 S T _ _
    have hn : l = [] := List.length_eq_zero_iff.1 (by omega)
    subst hn
    rw [show openF 0 ls [] = ([], []) from rfl, List.append_nil, List.append_nil]
    exact open_nil ls b1 b2 b3 v1 v2 S T
  | succ k ih =>
    intro l hk hr hok v1 v2 S T hS hT
    by_cases hn : l = []
    · subst hn
      rw [show openF (k + 1) ls [] = ([], []) from rfl, List.append_nil, List.append_nil]
      exact open_nil ls b1 b2 b3 v1 v2 S T
    refine spec_of TtOk [(0, .var b1 (.own 1 v1)), (1, .row v1 33 66 (S.map Itm.A)), (2, .var b2 (.own 3 v2)), (3, .row v2 29 65 (T.map Lef.A)), (4, .var b3 (.fn (.func 140) [.cp (.sl 32 (ls.map labA)), .ptr 0 b1 [] 0, .ptr 2 b2 [] 0, .ptr 4 b3 [] 0]))] Try.func140 rfl Try.ntmps140 (by kernel_rfl) rfl rfl (fun C => ?_) rfl
    have hp : 0 < l.length := List.length_pos_iff.2 hn
    unfold openF
    rw [if_neg hn]
    have hml : (l.map leafI).length = l.length := List.length_map ..
    have hof := of_spec l (by omega) hok
    rw [itms_rise hr] at hof
    have hne : l.map leafI ≠ [] := fun h => hn (List.map_eq_nil_iff.1 h)
    have hok2 : ∀ x ∈ l.map leafI, x.ok := fun x hx => by
      obtain ⟨y, hy, rfl⟩ := List.mem_map.1 hx
      exact leafI_ok y (hok y hy)
    have hjn := join_spec l.length (l.map leafI) hne (by omega) (by omega) hr hok2
    have hjo := joinF_ok l.length (l.map leafI) hne (by omega) hr hok2
    obtain ⟨-, hpf⟩ := join_pfx l.length (l.map leafI) (by omega) (by omega) hr hok2
    have hct : Spec Try.prog 141 _ [] _ := ctB_spec ls 51 (pfxA (joinF l.length (l.map leafI)).n (joinF l.length (l.map leafI)).l) _ (pfx_rep _ _ hjo.1) (hasP (joinF l.length (l.map leafI)).p) (fun x hx => bhas_spec _ _ x hjo.1 (hlo x hx)) hls
    generalize ls.any (hasP (joinF l.length (l.map leafI)).p) = any at hct ⊢
    cases any with
    | false =>
      rw [if_pos rfl]
      clear hpf
      generalize joinF l.length (l.map leafI) = x at hjn hjo hct ⊢
      generalize l.map leafI = I at hof hjn
      repeat' (first | refine Awp.seq ?_ | refine Awp.block ?_ | refine Awp.region ?_ | (refine Ops.nil ?_; show Awp _ _ _ _ _) | (refine Ops.nil ?_; show endK _ _ _ _ _) | (refine Awp.skip ?_; show Awp _ _ _ _ _) | refine o_len rfl TtOk rfl rfl rfl (fun _ => ?_) | (refine o_calm rfl TtOk rfl rfl rfl ?_ (fun _ => ?_); first | exact True.intro | exact ⟨rfl, rfl, rfl, rfl⟩ | exact ⟨rfl, True.intro⟩ | exact ⟨rfl, rfl⟩ | exact ⟨rfl, rfl, rfl⟩ | exact rfl | exact ⟨fun h0 => by cases h0, rfl⟩ | exact (fun h0 => by cases h0) | exact ⟨rfl, by omega⟩ | exact ⟨Nat.succ_ne_zero _, rfl⟩ | omega) | refine o_alloc (d := 6) rfl TtOk rfl rfl rfl (fun b6 => ?_) | refine o_store TtOk rfl rfl rfl rfl rfl rfl rfl ⟨rfl, rfl⟩ rfl rfl rfl rfl rfl ?_ | refine o_buildSlice TtOk rfl rfl rfl rfl rfl rfl rfl rfl rfl rfl rfl (by repeat' (first | exact True.intro | exact rfl | refine ⟨?_, ?_⟩)) (fun _ => ?_) | (refine o_append TtOk rfl rfl rfl rfl rfl rfl rfl rfl rfl (by first | exact True.intro | exact rfl) rfl rfl (fun _ => rfl) ?_ ?_ (fun _ => ?_); ((repeat' (first | rw [List.length_append] | rw [List.length_map] | rw [List.length_cons] | rw [List.length_nil] | rw [List.length_take] | rw [List.length_drop])) <;> omega); ((repeat' (first | rw [List.length_append] | rw [List.length_map] | rw [List.length_cons] | rw [List.length_nil] | rw [List.length_take] | rw [List.length_drop])) <;> omega)) | refine a_condT rfl ?_ | (refine a_condP rfl (fun hc => ?_) (fun hc => ?_)) <;> (try (exfalso; omega)) | (refine o_makeFuncB rfl rfl (pfx_val x.n x.l) rfl ?_) | (refine o_call0 rfl hct ⟨SLe.of_eq rfl, sle_own, True.intro⟩ rfl ?_; rintro _ _ ⟨rfl, rfl⟩; refine ⟨rfl, ?_⟩) | (refine o_call0 rfl (hof) ⟨SLe.of_eq rfl, True.intro⟩ rfl ?_; rintro _ _ ⟨rfl, rfl⟩; refine ⟨rfl, ?_⟩) | (refine o_call0 rfl (hjn) ⟨SLe.of_eq rfl, True.intro⟩ rfl ?_; rintro _ _ ⟨rfl, rfl⟩; refine ⟨rfl, ?_⟩))
      refine end_none rfl [] [(0, _), (1, _), (2, _), (3, _), (4, _)] (HLe.cons 0 rfl (HOLe.refl _) (HLe.cons 1 rfl (HOLe.row ?_) (HLe.cons 2 rfl (HOLe.refl _) (HLe.cons 3 rfl (HOLe.row ?_) (HLe.cons 4 rfl (HOLe.refl _) .nil))))) ⟨rfl, _, _, rfl⟩ _ (by first | exact .inl rfl | exact .inr rfl)
      · rw [List.map_append]; rfl
      · rw [List.append_nil]
    | true =>
      rw [if_neg (by decide)]
      by_cases h1 : l.length = 1
      · rw [if_pos h1]
        clear hpf
        obtain ⟨y, rfl⟩ := List.length_eq_one_iff.1 h1
        generalize joinF [y].length ([y].map leafI) = x at hjn hjo hct ⊢
        generalize [y].map leafI = I at hof hjn
        repeat' (first | refine Awp.seq ?_ | refine Awp.block ?_ | refine Awp.region ?_ | (refine Ops.nil ?_; show Awp _ _ _ _ _) | (refine Ops.nil ?_; show endK _ _ _ _ _) | (refine Awp.skip ?_; show Awp _ _ _ _ _) | refine o_len rfl TtOk rfl rfl rfl (fun _ => ?_) | (refine o_calm rfl TtOk rfl rfl rfl ?_ (fun _ => ?_); first | exact True.intro | exact ⟨rfl, rfl, rfl, rfl⟩ | exact ⟨rfl, True.intro⟩ | exact ⟨rfl, rfl⟩ | exact ⟨rfl, rfl, rfl⟩ | exact rfl | exact ⟨fun h0 => by cases h0, rfl⟩ | exact (fun h0 => by cases h0) | exact ⟨rfl, by omega⟩ | exact ⟨Nat.succ_ne_zero _, rfl⟩ | omega) | refine o_alloc (d := 6) rfl TtOk rfl rfl rfl (fun b6 => ?_) | refine o_store TtOk rfl rfl rfl rfl rfl rfl rfl ⟨rfl, rfl⟩ rfl rfl rfl rfl rfl ?_ | (refine o_index rfl TtOk rfl rfl rfl rfl rfl rfl ?_ (getq_nat ?_) ?_; omega; omega) | refine o_buildSlice TtOk rfl rfl rfl rfl rfl rfl rfl rfl rfl rfl rfl (by repeat' (first | exact True.intro | exact rfl | refine ⟨?_, ?_⟩)) (fun _ => ?_) | (refine o_append TtOk rfl rfl rfl rfl rfl rfl rfl rfl rfl (by first | exact True.intro | exact rfl) rfl rfl (fun _ => rfl) ?_ ?_ (fun _ => ?_); ((repeat' (first | rw [List.length_append] | rw [List.length_map] | rw [List.length_cons] | rw [List.length_nil] | rw [List.length_take] | rw [List.length_drop])) <;> omega); ((repeat' (first | rw [List.length_append] | rw [List.length_map] | rw [List.length_cons] | rw [List.length_nil] | rw [List.length_take] | rw [List.length_drop])) <;> omega)) | refine a_condT rfl ?_ | refine a_condF rfl ?_ | refine a_any 8 [2, 3] [42, 45] [46] [1, 2, 0, 3, 4, 5, 6] (by kernel_rfl) (by kernel_rfl) (by kernel_rfl) rfl rfl rfl ?_ | (refine o_makeFuncB rfl rfl (pfx_val x.n x.l) rfl ?_) | (refine o_call0 rfl hct ⟨SLe.of_eq rfl, sle_own, True.intro⟩ rfl ?_; rintro _ _ ⟨rfl, rfl⟩; refine ⟨rfl, ?_⟩) | (refine o_call0 rfl (hof) ⟨SLe.of_eq rfl, True.intro⟩ rfl ?_; rintro _ _ ⟨rfl, rfl⟩; refine ⟨rfl, ?_⟩) | (refine o_call0 rfl (hjn) ⟨SLe.of_eq rfl, True.intro⟩ rfl ?_; rintro _ _ ⟨rfl, rfl⟩; refine ⟨rfl, ?_⟩))
        refine end_none rfl [] [(0, _), (1, _), (2, _), (3, _), (4, _)] (HLe.cons 0 rfl (HOLe.refl _) (HLe.cons 1 rfl (HOLe.row ?_) (HLe.cons 2 rfl (HOLe.refl _) (HLe.cons 3 rfl (HOLe.row ?_) (HLe.cons 4 rfl (HOLe.refl _) .nil))))) ⟨rfl, _, _, rfl⟩ _ (by first | exact .inl rfl | exact .inr rfl)
        · rw [List.append_nil]
        · rw [List.map_append]; rfl
      · rw [if_neg h1]
        obtain ⟨s0, s1, s2, s3⟩ := spl_ok hr hok2 (by omega)
        rw [hml] at s2
        have hxn := (hpf (by omega)).1
        have hix := ixL_spec l 142 [.cp (joinF l.length (l.map leafI)).A] rfl (fun y => bitL y.l (frkI (l.map leafI)) == 1) (fun y hy => cover21_spec _ s0 _ hxn y (hok y hy)) (by omega)
        have hia : l.any (fun y => bitL y.l (frkI (l.map leafI)) == 1) = true := by rw [List.any_map] at s3; exact s3
        have hif : l.findIdx (fun y => bitL y.l (frkI (l.map leafI)) == 1) = splI (l.map leafI) := by unfold splI; rw [List.findIdx_map]; rfl
        rw [if_pos hia, hif] at hix
        have hA := fun v1 v2 => ih (l.take (splI (l.map leafI))) (by rw [List.length_take]; omega) (by rw [List.map_take]; exact hr.sublist (List.take_sublist ..)) (fun x hx => hok x (List.mem_of_mem_take hx)) v1 v2 S T (by rw [List.length_take]; omega) (by rw [List.length_take]; omega)
        obtain ⟨q1, q2⟩ := openF_len k ls (l.take (splI (l.map leafI)))
        rw [List.length_take] at q1 q2
        have hB := fun v1 v2 => ih (l.drop (splI (l.map leafI))) (by rw [List.length_drop]; omega) (by rw [List.map_drop]; exact hr.sublist (List.drop_sublist ..)) (fun x hx => hok x (List.mem_of_mem_drop hx)) v1 v2 (S ++ (openF k ls (l.take (splI (l.map leafI)))).1) (T ++ (openF k ls (l.take (splI (l.map leafI)))).2) (by rw [List.length_drop, List.length_append]; omega) (by rw [List.length_drop, List.length_append]; omega)
        clear ih hpf hr hok hok2 hne s3 hif hia hxn
        generalize openF k ls (l.take (splI (l.map leafI))) = o1 at *
        generalize openF k ls (l.drop (splI (l.map leafI))) = o2 at *
        generalize joinF l.length (l.map leafI) = x at *
        generalize splI (l.map leafI) = i at *
        generalize l.map leafI = I at *
        rw [show l.drop i = (l.take l.length).drop i by rw [List.take_length]] at hB
        repeat' (first | (refine a_freezeV 6 6 rfl rfl rfl ?_) | refine Awp.seq ?_ | refine Awp.block ?_ | refine Awp.region ?_ | (refine Ops.nil ?_; show Awp _ _ _ _ _) | (refine Ops.nil ?_; show endK _ _ _ _ _) | (refine Awp.skip ?_; show Awp _ _ _ _ _) | refine o_len rfl TtOk rfl rfl rfl (fun _ => ?_) | (refine o_calm rfl TtOk rfl rfl rfl ?_ (fun _ => ?_); first | exact True.intro | exact ⟨rfl, rfl, rfl, rfl⟩ | exact ⟨rfl, True.intro⟩ | exact ⟨rfl, rfl⟩ | exact ⟨rfl, rfl, rfl⟩ | exact rfl | exact ⟨fun h0 => by cases h0, rfl⟩ | exact (fun h0 => by cases h0) | exact ⟨rfl, by omega⟩ | exact ⟨Nat.succ_ne_zero _, rfl⟩ | omega) | refine o_alloc (d := 6) rfl TtOk rfl rfl rfl (fun b6 => ?_) | refine o_store TtOk rfl rfl rfl rfl rfl rfl rfl ⟨rfl, rfl⟩ rfl rfl rfl rfl rfl ?_ | refine a_condF rfl ?_ | (refine a_condP rfl (fun hc => ?_) (fun hc => ?_)) <;> (try (exfalso; omega)) | refine a_any 3 [0, 1, 2, 3, 4] [17] [] [1, 2, 3, 0, 4] (by kernel_rfl) (by kernel_rfl) (by kernel_rfl) rfl rfl rfl ?_ | refine a_any 4 [0, 1, 2, 3, 4] [22] [] [1, 2, 3, 0, 4] (by kernel_rfl) (by kernel_rfl) (by kernel_rfl) rfl rfl rfl ?_ | (refine o_makeFuncB rfl rfl (pfx_val x.n x.l) rfl ?_) | (refine o_call0 rfl hct ⟨SLe.of_eq rfl, sle_own, True.intro⟩ rfl ?_; rintro _ _ ⟨rfl, rfl⟩; refine ⟨rfl, ?_⟩) | (refine o_calm rfl TfOk rfl rfl rfl ?_ (fun _ => ?_); exact ⟨rfl, rfl, rfl, rfl⟩) | (refine o_makeFunc1 rfl rfl rfl rfl rfl ?_) | (refine o_sliceSl TtOk rfl 0 i rfl rfl rfl rfl rfl bnd_none (bnd_some rfl rfl) (by omega) (by omega) ?_) | (refine o_sliceSl TtOk rfl i l.length rfl rfl rfl rfl rfl (bnd_some rfl rfl) bnd_none (by omega) (by omega) ?_) | (refine o_callCloG [] [0,1,2,3,4] [0,1,2,3,4] rfl rfl rfl (hA _ _) ⟨SLe.of_eq rfl, SLe.of_eq rfl, sle_ptr, sle_ptr, sle_ptr, True.intro⟩ rfl ⟨HOLe.refl _, HOLe.refl _, HOLe.refl _, HOLe.refl _, HOLe.refl _, True.intro⟩ rfl rfl rfl ?_; rintro _ _ ⟨rfl, _, _, rfl⟩; refine ⟨_, rfl, rfl, ?_⟩) | (refine o_callCloG [] [0,1,2,3,4] [0,1,2,3,4] rfl rfl rfl (hB _ _) ⟨SLe.of_eq rfl, SLe.of_eq rfl, sle_ptr, sle_ptr, sle_ptr, True.intro⟩ rfl ⟨HOLe.refl _, HOLe.refl _, HOLe.refl _, HOLe.refl _, HOLe.refl _, True.intro⟩ rfl rfl rfl ?_; rintro _ _ ⟨rfl, _, _, rfl⟩; refine ⟨_, rfl, rfl, ?_⟩) | (refine o_call0 rfl (hof) ⟨SLe.of_eq rfl, True.intro⟩ rfl ?_; rintro _ _ ⟨rfl, rfl⟩; refine ⟨rfl, ?_⟩) | (refine o_call0 rfl (hjn) ⟨SLe.of_eq rfl, True.intro⟩ rfl ?_; rintro _ _ ⟨rfl, rfl⟩; refine ⟨rfl, ?_⟩) | (refine o_call0 rfl (hix) ⟨SLe.of_eq rfl, SLe.of_eq rfl, True.intro⟩ rfl ?_; rintro _ _ ⟨rfl, rfl⟩; refine ⟨rfl, ?_⟩))
        refine end_none rfl [] [(0, _), (1, _), (2, _), (3, _), (4, _)] (HLe.cons 0 rfl (HOLe.refl _) (HLe.cons 1 rfl (HOLe.row ?_) (HLe.cons 2 rfl (HOLe.refl _) (HLe.cons 3 rfl (HOLe.row ?_) (HLe.cons 4 rfl (HOLe.refl _) .nil))))) ⟨rfl, _, _, rfl⟩ _ (by first | exact .inl rfl | exact .inr rfl)
        · rw [List.append_assoc]
        · rw [List.append_assoc]
end Go.Proofs.Ytcmgpkibjdbonaa
