/- patch.Cover's inner function by rules. -/
import Derived.Test.YtcmgpkibjdbonaaGreatG10Z
import Derived.Test.YtcmgpkibjdbonaaGreatG9Z
import Derived.Test.YtcmgpkibjdbonaaGreatG6Z
import Derived.Test.YtcmgpkibjdbonaaGreatV16Z
set_option maxHeartbeats 16000000
set_option maxRecDepth 100000
namespace Go.Proofs.YtcmgpkibjdbonaaGreat
open Go Go.RowKit
theorem itms_rise {l : List Lef} (hr : RiseI (l.map leafI)) : itmsL l = l.map leafI := sortS_id woI (hr.imp (fun {a b} h => by
  show decide (cmpS b.l a.l < 0) = false
  exact decide_eq_false (fun h2 => by
    have := cmp_trans h h2
    rw [cmpS_eq] at this; omega)))
def openF : Nat → List (List UInt8) → List Lef → List Itm × List Lef
  | 0, _, _ => ([], [])
  | k + 1, ls, l => if l = [] then ([], []) else if ls.any (hasP (joinF l.length (l.map leafI)).p) = false then ([joinF l.length (l.map leafI)], []) else if l.length = 1 then ([], l)
    else ((openF k ls (l.take (splI (l.map leafI)))).1 ++ (openF k ls (l.drop (splI (l.map leafI)))).1, (openF k ls (l.take (splI (l.map leafI)))).2 ++ (openF k ls (l.drop (splI (l.map leafI)))).2)
theorem openF_len : ∀ (k : Nat) (ls : List (List UInt8)) (l : List Lef), (openF k ls l).1.length ≤ l.length ∧ (openF k ls l).2.length ≤ l.length
  | 0, ls, l => ⟨Nat.zero_le _, Nat.zero_le _⟩
  | k + 1, ls, l => by
    unfold openF
    by_cases hn : l = []
    · rw [if_pos hn]; exact ⟨Nat.zero_le _, Nat.zero_le _⟩
    rw [if_neg hn]
    have hp : 0 < l.length := List.length_pos_iff.2 hn
    by_cases hh : ls.any (hasP (joinF l.length (l.map leafI)).p) = false
    · rw [if_pos hh]; exact ⟨hp, Nat.zero_le _⟩
    rw [if_neg hh]
    by_cases h1 : l.length = 1
    · rw [if_pos h1]; exact ⟨Nat.zero_le _, Nat.le_refl _⟩
    rw [if_neg h1]
    obtain ⟨a1, a2⟩ := openF_len k ls (l.take (splI (l.map leafI)))
    obtain ⟨b1, b2⟩ := openF_len k ls (l.drop (splI (l.map leafI)))
    rw [List.length_take] at a1 a2
    rw [List.length_drop] at b1 b2
    exact ⟨by rw [List.length_append]; omega, by rw [List.length_append]; omega⟩
theorem cover21_spec (n : Nat) (hn : n < 256) (z : Itm) (hz : z.n = n) (y : Lef) (hy : y.ok) : Spec Tryz.prog 148 ([y.A] ++ [.cp z.A]) [] (fun v os => v = .b (bitL y.l n == 1) ∧ os = []) := by
  have h1 := bit_spec y.l hy.1 n (by omega) (by omega)
  rw [if_pos (by omega), Int.toNat_natCast] at h1
  have hb := bitL_or y.l n
  generalize bitL y.l n = b at h1 hb
  obtain ⟨l, u, t⟩ := y
  obtain ⟨m, zl, zs, zt⟩ := z
  dsimp only at h1 hz
  subst hz
  show Spec Tryz.prog 148 [.agg [labA l, labA u, .i .i64 t], .cp (.agg [pfxA n zl, labA zs, .i .i64 zt])] [] _
  refine spec_of TtOk [] Tryz.func148 rfl Tryz.ntmps148 (by kernel_rfl) rfl rfl (fun C => ?_) rfl
  repeat' (first | refine Awp.seq ?_ | refine Awp.region ?_ | refine Ops.nil (nqA ?_) | refine Awp.ret (nqE ?_) | (refine o_calm rfl TtOk rfl rfl rfl ?_ (fun _ => ?_); exact nd) | refine o_box (d := 2) rfl rfl rfl rfl (fun b2 => ?_) | refine o_callE rfl (h1) ⟨nqS, nqS, True.intro⟩ rfl ?_)
  refine end_tmp rfl rfl rfl [] [] (CLe.of_eq ?_) .nil ⟨rfl, rfl⟩ _ (.inl rfl)
  refine congrArg AV.b ?_
  rcases hb with rfl | rfl <;> rfl
def cvA (ls : List (List UInt8)) (b1 b2 b3 : Nat) : List AV := [.cp (.sl 32 (ls.map labA)), .ptr 0 b1 [] 0, .ptr 2 b2 [] 0, .ptr 4 b3 [] 0]
theorem tokF : TOk Tryz.prog 214 ⟨.func, 1, 8, .nilf⟩ := ⟨by kernel_rfl, by kernel_rfl, Or.inr ⟨_, rfl, by kernel_rfl⟩⟩
def Tf : List (Nat × TI) := [(214, ⟨.func, 1, 8, .nilf⟩)]
theorem TfOk : TTOk Tryz.prog Tf := by
  unfold TTOk Tf
  simp only [List.forall_mem_cons, List.not_mem_nil, false_implies, implies_true, and_true]
  exact tokF
theorem open_nil (ls : List (List UInt8)) (b1 b2 b3 : Nat) (v1 v2 : Value) (S : List Itm) (T : List Lef) :
    Spec Tryz.prog 144 [.sl 65 (([] : List Lef).map Lef.A), .cp (.sl 32 (ls.map labA)), .ptr 0 b1 [] 0, .ptr 2 b2 [] 0, .ptr 4 b3 [] 0] [.var b1 (.own 1 v1), .row v1 50 66 (S.map Itm.A), .var b2 (.own 3 v2), .row v2 46 65 (T.map Lef.A), .var b3 (.fn (.func 144) [.cp (.sl 32 (ls.map labA)), .ptr 0 b1 [] 0, .ptr 2 b2 [] 0, .ptr 4 b3 [] 0])]
      (fun r os => r = .tup [] ∧ ∃ w1 w2, os = [.var b1 (.own 1 w1), .row w1 50 66 (S.map Itm.A), .var b2 (.own 3 w2), .row w2 46 65 (T.map Lef.A), .var b3 (.fn (.func 144) [.cp (.sl 32 (ls.map labA)), .ptr 0 b1 [] 0, .ptr 2 b2 [] 0, .ptr 4 b3 [] 0])]) := by
  refine spec_of TtOk [(0, .var b1 (.own 1 v1)), (1, .row v1 50 66 (S.map Itm.A)), (2, .var b2 (.own 3 v2)), (3, .row v2 46 65 (T.map Lef.A)), (4, .var b3 (.fn (.func 144) [.cp (.sl 32 (ls.map labA)), .ptr 0 b1 [] 0, .ptr 2 b2 [] 0, .ptr 4 b3 [] 0]))] Tryz.func144 rfl Tryz.ntmps144 (by kernel_rfl) rfl rfl (fun C => ?_) rfl
  repeat' (first | refine Awp.seq ?_ | refine Awp.region ?_ | refine Ops.nil (nqA ?_) | refine Awp.ret (nqE ?_) | refine o_len rfl TtOk rfl rfl rfl (fun _ => ?_) | (refine o_calm rfl TtOk rfl rfl rfl ?_ (fun _ => ?_); exact nd) | refine a_condT rfl ?_)
  exact end_none rfl [] [(0, _), (1, _), (2, _), (3, _), (4, _)] (HLe.cons 0 rfl (HOLe.refl _) (HLe.cons 1 rfl (HOLe.refl _) (HLe.cons 2 rfl (HOLe.refl _) (HLe.cons 3 rfl (HOLe.refl _) (HLe.cons 4 rfl (HOLe.refl _) .nil))))) ⟨rfl, _, _, rfl⟩ _ (by first | exact .inl rfl | exact .inr rfl)
theorem open_spec (ls : List (List UInt8)) (hls : ls.length ≤ 100000) (hlo : ∀ x ∈ ls, x.length = 32) (b1 b2 b3 : Nat) : ∀ (k : Nat) (l : List Lef), l.length ≤ k → RiseI (l.map leafI) → (∀ x ∈ l, x.ok) → ∀ (v1 v2 : Value) (S : List Itm) (T : List Lef), S.length + l.length ≤ 100000 → T.length + l.length ≤ 100000 →
    Spec Tryz.prog 144 [.sl 65 (l.map Lef.A), .cp (.sl 32 (ls.map labA)), .ptr 0 b1 [] 0, .ptr 2 b2 [] 0, .ptr 4 b3 [] 0] [.var b1 (.own 1 v1), .row v1 50 66 (S.map Itm.A), .var b2 (.own 3 v2), .row v2 46 65 (T.map Lef.A), .var b3 (.fn (.func 144) [.cp (.sl 32 (ls.map labA)), .ptr 0 b1 [] 0, .ptr 2 b2 [] 0, .ptr 4 b3 [] 0])]
      (fun r os => r = .tup [] ∧ ∃ w1 w2, os = [.var b1 (.own 1 w1), .row w1 50 66 ((S ++ (openF k ls l).1).map Itm.A), .var b2 (.own 3 w2), .row w2 46 65 ((T ++ (openF k ls l).2).map Lef.A), .var b3 (.fn (.func 144) [.cp (.sl 32 (ls.map labA)), .ptr 0 b1 [] 0, .ptr 2 b2 [] 0, .ptr 4 b3 [] 0])]) := by
  intro k
  induction k with
  | zero =>
    intro l hk _ _ v1 v2 S T _ _
    have hn : l = [] := List.length_eq_zero_iff.1 (by omega)
    subst hn
    rw [show openF 0 ls [] = ([], []) from rfl, List.append_nil, List.append_nil]
    exact open_nil ls b1 b2 b3 v1 v2 S T
  | succ k ih =>
    intro l hk hr hok v1 v2 S T hS hT
    by_cases hn : l = []
    · subst hn
      rw [show openF (k + 1) ls [] = ([], []) from rfl, List.append_nil, List.append_nil]
      exact open_nil ls b1 b2 b3 v1 v2 S T
    refine spec_of TtOk [(0, .var b1 (.own 1 v1)), (1, .row v1 50 66 (S.map Itm.A)), (2, .var b2 (.own 3 v2)), (3, .row v2 46 65 (T.map Lef.A)), (4, .var b3 (.fn (.func 144) [.cp (.sl 32 (ls.map labA)), .ptr 0 b1 [] 0, .ptr 2 b2 [] 0, .ptr 4 b3 [] 0]))] Tryz.func144 rfl Tryz.ntmps144 (by kernel_rfl) rfl rfl (fun C => ?_) rfl
    have hp : 0 < l.length := List.length_pos_iff.2 hn
    unfold openF
    rw [if_neg hn]
    have hml : (l.map leafI).length = l.length := List.length_map ..
    have hof := of_spec l (by omega) hok
    rw [itms_rise hr] at hof
    have hne : l.map leafI ≠ [] := fun h => hn (List.map_eq_nil_iff.1 h)
    have hok2 : ∀ x ∈ l.map leafI, x.ok := fun x hx => by
      obtain ⟨y, hy, rfl⟩ := List.mem_map.1 hx
      exact leafI_ok y (hok y hy)
    have hjn := join_spec l.length (l.map leafI) hne (by omega) (by omega) hr hok2
    have hjo := joinF_ok l.length (l.map leafI) hne (by omega) hr hok2
    obtain ⟨-, hpf⟩ := join_pfx l.length (l.map leafI) (by omega) (by omega) hr hok2
    have hct : Spec Tryz.prog 146 _ [] _ := ctB_spec ls 84 (pfxA (joinF l.length (l.map leafI)).n (joinF l.length (l.map leafI)).l) _ (pfx_rep _ _ hjo.1) (hasP (joinF l.length (l.map leafI)).p) (fun x hx => bhas_spec _ _ x hjo.1 (hlo x hx)) hls
    generalize ls.any (hasP (joinF l.length (l.map leafI)).p) = any at hct ⊢
    cases any with
    | false =>
      rw [if_pos rfl]
      clear hpf
      generalize joinF l.length (l.map leafI) = x at hjn hjo hct ⊢
      generalize l.map leafI = I at hof hjn
      repeat' (first | refine Awp.seq ?_ | refine Awp.block ?_ | refine Awp.region ?_ | refine Ops.nil (nqA ?_) | refine Ops.nil (nqE ?_) | refine Awp.skip (nqA ?_) | refine o_len rfl TtOk rfl rfl rfl (fun _ => ?_) | (refine o_calm rfl TtOk rfl rfl rfl ?_ (fun _ => ?_); exact nd) | refine o_alloc (d := 6) rfl TtOk rfl rfl rfl (fun b6 => ?_) | refine o_store TtOk rfl rfl rfl rfl rfl rfl rfl ⟨rfl, rfl⟩ rfl rfl rfl rfl rfl ?_ | refine o_buildSlice TtOk rfl rfl rfl rfl rfl rfl rfl rfl rfl rfl rfl nq1 (fun _ => ?_) | (refine o_append TtOk rfl rfl rfl rfl rfl rfl rfl rfl rfl (by first | exact True.intro | exact rfl) rfl rfl (fun _ => rfl) ?_ ?_ (fun _ => ?_); ((repeat' (first | rw [List.length_append] | rw [List.length_map] | rw [List.length_cons] | rw [List.length_nil] | rw [List.length_take] | rw [List.length_drop])) <;> omega); ((repeat' (first | rw [List.length_append] | rw [List.length_map] | rw [List.length_cons] | rw [List.length_nil] | rw [List.length_take] | rw [List.length_drop])) <;> omega)) | refine a_condT rfl ?_ | (refine a_condP rfl (fun hc => ?_) (fun hc => ?_)) <;> (try (exfalso; omega)) | (refine o_makeFuncB rfl rfl (pfx_val x.n x.l) rfl ?_) | refine o_callE rfl hct ⟨nqS, sle_own, True.intro⟩ rfl ?_ | refine o_callE rfl (hof) ⟨nqS, True.intro⟩ rfl ?_ | refine o_callE rfl (hjn) ⟨nqS, True.intro⟩ rfl ?_)
      refine end_none rfl [] [(0, _), (1, _), (2, _), (3, _), (4, _)] (HLe.cons 0 rfl (HOLe.refl _) (HLe.cons 1 rfl (HOLe.row ?_) (HLe.cons 2 rfl (HOLe.refl _) (HLe.cons 3 rfl (HOLe.row ?_) (HLe.cons 4 rfl (HOLe.refl _) .nil))))) ⟨rfl, _, _, rfl⟩ _ (by first | exact .inl rfl | exact .inr rfl)
      · rw [List.map_append]; rfl
      · rw [List.append_nil]
    | true =>
      rw [if_neg (by decide)]
      by_cases h1 : l.length = 1
      · rw [if_pos h1]
        clear hpf
        obtain ⟨y, rfl⟩ := List.length_eq_one_iff.1 h1
        generalize joinF [y].length ([y].map leafI) = x at hjn hjo hct ⊢
        generalize [y].map leafI = I at hof hjn
        repeat' (first | refine Awp.seq ?_ | refine Awp.block ?_ | refine Awp.region ?_ | refine Ops.nil (nqA ?_) | refine Ops.nil (nqE ?_) | refine Awp.skip (nqA ?_) | refine o_len rfl TtOk rfl rfl rfl (fun _ => ?_) | (refine o_calm rfl TtOk rfl rfl rfl ?_ (fun _ => ?_); exact nd) | refine o_alloc (d := 6) rfl TtOk rfl rfl rfl (fun b6 => ?_) | refine o_store TtOk rfl rfl rfl rfl rfl rfl rfl ⟨rfl, rfl⟩ rfl rfl rfl rfl rfl ?_ | (refine o_index rfl TtOk rfl rfl rfl rfl rfl rfl ?_ (getq_nat ?_) ?_; omega; omega) | refine o_buildSlice TtOk rfl rfl rfl rfl rfl rfl rfl rfl rfl rfl rfl nq1 (fun _ => ?_) | (refine o_append TtOk rfl rfl rfl rfl rfl rfl rfl rfl rfl (by first | exact True.intro | exact rfl) rfl rfl (fun _ => rfl) ?_ ?_ (fun _ => ?_); ((repeat' (first | rw [List.length_append] | rw [List.length_map] | rw [List.length_cons] | rw [List.length_nil] | rw [List.length_take] | rw [List.length_drop])) <;> omega); ((repeat' (first | rw [List.length_append] | rw [List.length_map] | rw [List.length_cons] | rw [List.length_nil] | rw [List.length_take] | rw [List.length_drop])) <;> omega)) | refine a_condT rfl ?_ | refine a_condF rfl ?_ | refine a_any 8 [2, 3] [42, 45] [46] [1, 2, 0, 3, 4, 5, 6] (by kernel_rfl) (by kernel_rfl) (by kernel_rfl) rfl rfl rfl ?_ | (refine o_makeFuncB rfl rfl (pfx_val x.n x.l) rfl ?_) | refine o_callE rfl hct ⟨nqS, sle_own, True.intro⟩ rfl ?_ | refine o_callE rfl (hof) ⟨nqS, True.intro⟩ rfl ?_ | refine o_callE rfl (hjn) ⟨nqS, True.intro⟩ rfl ?_)
        refine end_none rfl [] [(0, _), (1, _), (2, _), (3, _), (4, _)] (HLe.cons 0 rfl (HOLe.refl _) (HLe.cons 1 rfl (HOLe.row ?_) (HLe.cons 2 rfl (HOLe.refl _) (HLe.cons 3 rfl (HOLe.row ?_) (HLe.cons 4 rfl (HOLe.refl _) .nil))))) ⟨rfl, _, _, rfl⟩ _ (by first | exact .inl rfl | exact .inr rfl)
        · rw [List.append_nil]
        · rw [List.map_append]; rfl
      · rw [if_neg h1]
        obtain ⟨s0, s1, s2, s3⟩ := spl_ok hr hok2 (by omega)
        rw [hml] at s2
        have hxn := (hpf (by omega)).1
        have hix := ixL_spec l 148 [.cp (joinF l.length (l.map leafI)).A] rfl (fun y => bitL y.l (frkI (l.map leafI)) == 1) (fun y hy => cover21_spec _ s0 _ hxn y (hok y hy)) (by omega)
        have hia : l.any (fun y => bitL y.l (frkI (l.map leafI)) == 1) = true := by rw [List.any_map] at s3; exact s3
        have hif : l.findIdx (fun y => bitL y.l (frkI (l.map leafI)) == 1) = splI (l.map leafI) := by unfold splI; rw [List.findIdx_map]; rfl
        rw [if_pos hia, hif] at hix
        have hA := fun v1 v2 => ih (l.take (splI (l.map leafI))) (by rw [List.length_take]; omega) (by rw [List.map_take]; exact hr.sublist (List.take_sublist ..)) (fun x hx => hok x (List.mem_of_mem_take hx)) v1 v2 S T (by rw [List.length_take]; omega) (by rw [List.length_take]; omega)
        obtain ⟨q1, q2⟩ := openF_len k ls (l.take (splI (l.map leafI)))
        rw [List.length_take] at q1 q2
        have hB := fun v1 v2 => ih (l.drop (splI (l.map leafI))) (by rw [List.length_drop]; omega) (by rw [List.map_drop]; exact hr.sublist (List.drop_sublist ..)) (fun x hx => hok x (List.mem_of_mem_drop hx)) v1 v2 (S ++ (openF k ls (l.take (splI (l.map leafI)))).1) (T ++ (openF k ls (l.take (splI (l.map leafI)))).2) (by rw [List.length_drop, List.length_append]; omega) (by rw [List.length_drop, List.length_append]; omega)
        clear ih hpf hr hok hok2 hne s3 hif hia hxn
        generalize openF k ls (l.take (splI (l.map leafI))) = o1 at *
        generalize openF k ls (l.drop (splI (l.map leafI))) = o2 at *
        generalize joinF l.length (l.map leafI) = x at *
        generalize splI (l.map leafI) = i at *
        generalize l.map leafI = I at *
        rw [show l.drop i = (l.take l.length).drop i by rw [List.take_length]] at hB
        repeat' (first | (refine a_freezeV 6 6 rfl rfl rfl ?_) | refine Awp.seq ?_ | refine Awp.block ?_ | refine Awp.region ?_ | refine Ops.nil (nqA ?_) | refine Ops.nil (nqE ?_) | refine Awp.skip (nqA ?_) | refine o_len rfl TtOk rfl rfl rfl (fun _ => ?_) | (refine o_calm rfl TtOk rfl rfl rfl ?_ (fun _ => ?_); exact nd) | refine o_alloc (d := 6) rfl TtOk rfl rfl rfl (fun b6 => ?_) | refine o_store TtOk rfl rfl rfl rfl rfl rfl rfl ⟨rfl, rfl⟩ rfl rfl rfl rfl rfl ?_ | refine a_condF rfl ?_ | (refine a_condP rfl (fun hc => ?_) (fun hc => ?_)) <;> (try (exfalso; omega)) | refine a_any 3 [0, 1, 2, 3, 4] [17] [] [1, 2, 3, 0, 4] (by kernel_rfl) (by kernel_rfl) (by kernel_rfl) rfl rfl rfl ?_ | refine a_any 4 [0, 1, 2, 3, 4] [22] [] [1, 2, 3, 0, 4] (by kernel_rfl) (by kernel_rfl) (by kernel_rfl) rfl rfl rfl ?_ | (refine o_makeFuncB rfl rfl (pfx_val x.n x.l) rfl ?_) | refine o_callE rfl hct ⟨nqS, sle_own, True.intro⟩ rfl ?_ | (refine o_calm rfl TfOk rfl rfl rfl ?_ (fun _ => ?_); exact ⟨rfl, rfl, rfl, rfl⟩) | (refine o_makeFunc1 rfl rfl rfl rfl rfl ?_) | (refine o_sliceSl TtOk rfl 0 i rfl rfl rfl rfl rfl bnd_none (bnd_some rfl rfl) (by omega) (by omega) ?_) | (refine o_sliceSl TtOk rfl i l.length rfl rfl rfl rfl rfl (bnd_some rfl rfl) bnd_none (by omega) (by omega) ?_) | (refine o_callCloG [] [0,1,2,3,4] [0,1,2,3,4] rfl rfl rfl (hA _ _) ⟨nqS, nqS, sle_ptr, sle_ptr, sle_ptr, True.intro⟩ rfl ⟨HOLe.refl _, HOLe.refl _, HOLe.refl _, HOLe.refl _, HOLe.refl _, True.intro⟩ rfl rfl rfl ?_; rintro _ _ ⟨rfl, _, _, rfl⟩; refine ⟨_, rfl, rfl, ?_⟩) | (refine o_callCloG [] [0,1,2,3,4] [0,1,2,3,4] rfl rfl rfl (hB _ _) ⟨nqS, nqS, sle_ptr, sle_ptr, sle_ptr, True.intro⟩ rfl ⟨HOLe.refl _, HOLe.refl _, HOLe.refl _, HOLe.refl _, HOLe.refl _, True.intro⟩ rfl rfl rfl ?_; rintro _ _ ⟨rfl, _, _, rfl⟩; refine ⟨_, rfl, rfl, ?_⟩) | refine o_callE rfl (hof) ⟨nqS, True.intro⟩ rfl ?_ | refine o_callE rfl (hjn) ⟨nqS, True.intro⟩ rfl ?_ | refine o_callE rfl (hix) ⟨nqS, nqS, True.intro⟩ rfl ?_)
        refine end_none rfl [] [(0, _), (1, _), (2, _), (3, _), (4, _)] (HLe.cons 0 rfl (HOLe.refl _) (HLe.cons 1 rfl (HOLe.row ?_) (HLe.cons 2 rfl (HOLe.refl _) (HLe.cons 3 rfl (HOLe.row ?_) (HLe.cons 4 rfl (HOLe.refl _) .nil))))) ⟨rfl, _, _, rfl⟩ _ (by first | exact .inl rfl | exact .inr rfl)
        · rw [List.append_assoc]
        · rw [List.append_assoc]
end Go.Proofs.YtcmgpkibjdbonaaGreat
set_option maxHeartbeats 16000000
set_option maxRecDepth 100000
namespace Go.Proofs.YtcmgpkibjdbonaaGreat
open Go Go.RowKit
theorem swapRange_specL (v : Value) (gf : Fn) (gc : List AV) (A X B Y D : List Lef) (hX : X.length = Y.length) (hl : (A ++ X ++ B ++ Y ++ D).length ≤ 100000) :
    Spec Tryz.prog 222 [.own 0 v, .i .i64 (A.length : Nat), .i .i64 ((A ++ X ++ B).length : Nat), .i .i64 (X.length : Nat), .fn gf gc] [.row v 46 65 ((A ++ X ++ B ++ Y ++ D).map Lef.A)]
      (fun r os => r = .tup [] ∧ os = [.row v 46 65 ((A ++ Y ++ B ++ X ++ D).map Lef.A)]) := by
  refine spec_of TtOk [(0, .row v 46 65 ((A ++ X ++ B ++ Y ++ D).map Lef.A))] Tryz.func222 rfl Tryz.ntmps222 (by kernel_rfl) rfl rfl (fun C => ?_) rfl
  repeat' (first | refine Awp.seq ?_ | refine Awp.block ?_ | refine Awp.region ?_ | refine Ops.nil (nqA ?_) | (refine o_calm rfl TtOk rfl rfl rfl ?_ (fun _ => ?_); exact nd))
  refine Awp.loop (fun q : Nat => ⟨38, [(10, .i .i64 q), (0, .own 0 v), (1, .i .i64 (A.length : Nat)), (2, .i .i64 ((A ++ X ++ B).length : Nat)), (3, .i .i64 (X.length : Nat)), (4, .fn gf gc)], [(0, .row v 46 65 ((A ++ Y.take q ++ X.drop q ++ B ++ X.take q ++ Y.drop q ++ D).map Lef.A))]⟩) (fun q => q ≤ X.length) (fun q => X.length - q) [] 0 (Nat.zero_le _) ?_ ?_
  · refine ⟨rfl, ⟨sle_i rfl, sle_own, sle_i rfl, sle_i rfl, sle_i rfl, nqS, True.intro⟩, HLe.cons 0 rfl (HOLe.row ?_) .nil⟩
    simp
  intro k hk
  by_cases hlt : k < X.length
  · have hky : k < Y.length := by omega
    have e0 : A ++ Y.take k ++ X.drop k ++ B ++ X.take k ++ Y.drop k ++ D = (A ++ Y.take k) ++ X[k] :: ((X.drop (k + 1) ++ B ++ X.take k) ++ Y[k] :: (Y.drop (k + 1) ++ D)) := by
      rw [List.drop_eq_getElem_cons hlt, List.drop_eq_getElem_cons hky]; simp only [List.append_assoc, List.cons_append]
    have e1 : A ++ Y.take (k + 1) ++ X.drop (k + 1) ++ B ++ X.take (k + 1) ++ Y.drop (k + 1) ++ D = (A ++ Y.take k) ++ Y[k] :: ((X.drop (k + 1) ++ B ++ X.take k) ++ X[k] :: (Y.drop (k + 1) ++ D)) := by
      rw [List.take_succ_eq_append_getElem hlt, List.take_succ_eq_append_getElem hky]; simp only [List.append_assoc, List.cons_append, List.nil_append]
    have e2 := swap_at (A ++ Y.take k) X[k] (X.drop (k + 1) ++ B ++ X.take k) Y[k] (Y.drop (k + 1) ++ D)
    obtain ⟨e3, e4⟩ := swap_get (A ++ Y.take k) X[k] (X.drop (k + 1) ++ B ++ X.take k) Y[k] (Y.drop (k + 1) ++ D)
    rw [← e0] at e2 e3 e4
    rw [← e1] at e2
    generalize hL' : A ++ Y.take (k + 1) ++ X.drop (k + 1) ++ B ++ X.take (k + 1) ++ Y.drop (k + 1) ++ D = L' at e2
    have hll : (A ++ Y.take k ++ X.drop k ++ B ++ X.take k ++ Y.drop k ++ D).length = A.length + X.length + B.length + Y.length + D.length := by
      simp only [List.length_append, List.length_take, List.length_drop]; omega
    have h1 : (A ++ Y.take k).length = A.length + k := by simp only [List.length_append, List.length_take]; omega
    have h2 : ((A ++ Y.take k) ++ X[k] :: (X.drop (k + 1) ++ B ++ X.take k)).length = A.length + X.length + B.length + k := by simp only [List.length_append, List.length_take, List.length_drop, List.length_cons]; omega
    have h3 : (A ++ X ++ B).length = A.length + X.length + B.length := by simp only [List.length_append]
    have h4 : (A ++ X ++ B ++ Y ++ D).length = A.length + X.length + B.length + Y.length + D.length := by simp only [List.length_append]
    generalize A ++ Y.take k ++ X.drop k ++ B ++ X.take k ++ Y.drop k ++ D = L at e2 e3 e4 hll ⊢
    generalize X[k] = x at e2 e3 e4 h2
    generalize Y[k] = y at e2 e3 e4
    generalize (A ++ Y.take k).length = i1 at e2 e3 h1
    generalize ((A ++ Y.take k) ++ x :: (X.drop (k + 1) ++ B ++ X.take k)).length = i2 at e2 e4 h2
    generalize (A ++ X ++ B).length = bb at h3 ⊢
    have hne : i1 ≠ i2 := by omega
    repeat' (first | (refine o_storeRow TtOk rfl rfl rfl rfl rfl rfl (by assumption) ((List.getElem?_set_ne hne).trans (getq_map e4)) rfl rfl (by first | exact Nat.add_zero _ | rfl) ⟨rfl, rfl⟩ rfl rfl ?_) | (refine o_storeRow TtOk rfl rfl rfl rfl rfl rfl (by assumption) (getq_map e3) rfl rfl (by first | exact Nat.add_zero _ | rfl) ⟨rfl, rfl⟩ rfl rfl ?_) | (refine o_loadRow TtOk rfl rfl rfl rfl rfl (by assumption) (getq_map e4) rfl rfl (by first | exact Nat.add_zero _ | rfl) ⟨rfl, rfl⟩ ?_) | (refine o_loadRow TtOk rfl rfl rfl rfl rfl (by assumption) (getq_map e3) rfl rfl (by first | exact Nat.add_zero _ | rfl) ⟨rfl, rfl⟩ ?_) | (refine o_indexOwn TtOk rfl rfl rfl rfl rfl rfl rfl rfl i2 ?_ ?_ (fun bO hbO => ?_); omega; ((repeat' (first | rw [List.length_map] | rw [List.length_set])) <;> omega)) | (refine o_indexOwn TtOk rfl rfl rfl rfl rfl rfl rfl rfl i1 ?_ ?_ (fun bO hbO => ?_); omega; ((repeat' (first | rw [List.length_map] | rw [List.length_set])) <;> omega)) | refine Awp.seq ?_ | refine Awp.block ?_ | refine Awp.region ?_ | refine Ops.nil (nqA ?_) | refine Ops.nil (nqX ?_) | refine Awp.skip (nqA ?_) | (refine o_add rfl rfl rfl rfl ?_ ?_; omega) | (refine o_calm rfl TtOk rfl rfl rfl ?_ (fun _ => ?_); exact nd) | (refine a_condP rfl (fun hc => ?_) (fun hc => ?_)) <;> (try (exfalso; omega)) | refine a_any 3 [0] [29, 35] [] [0, 1, 2, 3, 4, 5, 6, 7, 8, 9, 10, 11, 12, 14, 15, 16, 17, 18, 13, 19, 20, 21, 22, 23] (by kernel_rfl) (by kernel_rfl) (by kernel_rfl) rfl rfl rfl ?_)
    refine ⟨k + 1, [], hlt, by show X.length - (k + 1) < X.length - k; omega, rfl, ⟨sle_i rfl, sle_own, sle_i rfl, sle_i rfl, sle_i rfl, nqS, True.intro⟩, HLe.cons 0 rfl (HOLe.row ?_) .nil⟩
    rw [hL', ← e2, List.map_set, List.map_set]; rfl
  · have hkx : k = X.length := by omega
    have e0 : A ++ Y.take k ++ X.drop k ++ B ++ X.take k ++ Y.drop k ++ D = A ++ Y ++ B ++ X ++ D := by
      rw [hkx, List.drop_length, List.take_length, hX, List.drop_length, List.take_length]; simp only [List.append_assoc, List.nil_append]
    rw [e0]
    generalize A ++ Y ++ B ++ X ++ D = L
    generalize (A ++ X ++ B).length = bb
    repeat' (first | refine Awp.seq ?_ | refine Awp.region ?_ | refine Ops.nil (nqA ?_) | refine Awp.exit (nqE ?_) | (refine o_calm rfl TtOk rfl rfl rfl ?_ (fun _ => ?_); exact nd) | (refine a_condP rfl (fun hc => ?_) (fun hc => ?_)) <;> (try (exfalso; omega)))
    exact end_none rfl [] [(0, _)] (HLe.cons 0 rfl (HOLe.refl _) .nil) ⟨rfl, rfl⟩ _ (.inr rfl)
theorem rotate_specL (v : Value) (gf : Fn) (gc : List AV) (A U V D : List Lef) (hU : 0 < U.length) (hV : 0 < V.length) (hl : (A ++ U ++ V ++ D).length ≤ 100000) :
    Spec Tryz.prog 219 [.own 0 v, .i .i64 (A.length : Nat), .i .i64 ((A ++ U).length : Nat), .i .i64 ((A ++ U ++ V).length : Nat), .fn gf gc] [.row v 46 65 ((A ++ U ++ V ++ D).map Lef.A)]
      (fun r os => r = .tup [] ∧ os = [.row v 46 65 ((A ++ V ++ U ++ D).map Lef.A)]) := by
  refine spec_of TtOk [(0, .row v 46 65 ((A ++ U ++ V ++ D).map Lef.A))] Tryz.func219 rfl Tryz.ntmps219 (by kernel_rfl) rfl rfl (fun C => ?_) rfl
  have h1 : (A ++ U).length = A.length + U.length := List.length_append
  have h2 : (A ++ U ++ V).length = A.length + U.length + V.length := by simp only [List.length_append]
  have h0 : (A ++ U ++ V ++ D).length = A.length + U.length + V.length + D.length := by simp only [List.length_append]
  obtain ⟨T, hT⟩ : ∃ T, A ++ V ++ U ++ D = T := ⟨_, rfl⟩
  rw [hT]
  generalize hmm : (A ++ U).length = m at h1 ⊢
  generalize (A ++ U ++ V).length = bb at h2 ⊢
  repeat' (first | refine Awp.seq ?_ | refine Awp.block ?_ | refine Awp.region ?_ | refine Ops.nil (nqA ?_) | (refine o_sub rfl rfl rfl rfl ?_ ?_; omega) | (refine o_calm rfl TtOk rfl rfl rfl ?_ (fun _ => ?_); exact nd))
  refine Awp.loop (fun q : List Lef × List Lef × List Lef × List Lef => ⟨58, [(10, .i .i64 (q.2.1.length : Nat)), (11, .i .i64 (q.2.2.1.length : Nat)), (0, .own 0 v), (2, .i .i64 m), (4, .fn gf gc)], [(0, .row v 46 65 ((q.1 ++ q.2.1 ++ q.2.2.1 ++ q.2.2.2).map Lef.A))]⟩)
    (fun q => 0 < q.2.1.length ∧ 0 < q.2.2.1.length ∧ q.1.length + q.2.1.length = m ∧ q.1 ++ q.2.2.1 ++ q.2.1 ++ q.2.2.2 = T ∧ (q.1 ++ q.2.1 ++ q.2.2.1 ++ q.2.2.2).length ≤ 100000) (fun q => q.2.1.length + q.2.2.1.length) [] (A, U, V, D) ⟨hU, hV, h1.symm, hT, hl⟩ ?_ ?_
  · exact ⟨rfl, ⟨sle_i (by show _ = ((U.length : Nat) : Int); omega), sle_i (by show _ = ((V.length : Nat) : Int); omega), sle_own, sle_i rfl, nqS, True.intro⟩, HLe.cons 0 rfl (HOLe.refl _) .nil⟩
  rintro ⟨P, X, Y, S⟩ ⟨hx, hy, hm, hg, hl3⟩
  dsimp only at hx hy hm hg hl3 ⊢
  have h4 : (P ++ X ++ Y ++ S).length = P.length + X.length + Y.length + S.length := by simp only [List.length_append]
  by_cases hgt : Y.length < X.length
  · have e1 : X.take Y.length ++ X.drop Y.length = X := List.take_append_drop _ _
    have hx1 : (X.take Y.length).length = Y.length := by rw [List.length_take]; omega
    have hx2 : (X.drop Y.length).length = X.length - Y.length := List.length_drop
    generalize X.take Y.length = X1 at e1 hx1
    generalize X.drop Y.length = X2 at e1 hx2
    subst e1
    have hxl : (X1 ++ X2).length = X1.length + X2.length := List.length_append
    have e2 : P ++ (X1 ++ X2) ++ Y ++ S = P ++ X1 ++ X2 ++ Y ++ S := by simp only [List.append_assoc]
    rw [e2] at hl3 h4 ⊢
    rw [hxl] at hx hm hgt hx2 h4 ⊢
    have hsw := swapRange_specL v gf gc P X1 X2 Y S hx1 hl3
    have hpl : (P ++ X1 ++ X2).length = m := by simp only [List.length_append]; omega
    rw [hpl, hx1] at hsw
    have e3 : P ++ Y ++ X2 ++ X1 ++ S = (P ++ Y) ++ X2 ++ X1 ++ S := rfl
    rw [e3] at hsw
    repeat' (first | refine Awp.seq ?_ | refine Awp.block ?_ | refine Awp.region ?_ | refine Ops.nil (nqA ?_) | refine Ops.nil (nqX ?_) | refine Awp.skip (nqA ?_) | (refine o_sub rfl rfl rfl rfl ?_ ?_; omega) | (refine o_calm rfl TtOk rfl rfl rfl ?_ (fun _ => ?_); exact nd) | (refine a_condP rfl (fun hc => ?_) (fun hc => ?_)) <;> (try (exfalso; omega)) | (refine a_condN rfl (fun hc => ?_) (fun hc => ?_)) <;> (try (exfalso; omega)) | (refine o_call [] [0] [0] rfl hsw ⟨sle_own, sle_i (by omega), sle_i (by omega), sle_i (by omega), nqS, True.intro⟩ rfl ⟨HOLe.refl _, True.intro⟩ rfl rfl ?_; rintro _ _ ⟨rfl, rfl⟩; refine ⟨_, rfl, rfl, ?_⟩))
    refine ⟨(P ++ Y, X2, X1, S), [], ⟨by show 0 < X2.length; omega, by show 0 < X1.length; omega, by show (P ++ Y).length + X2.length = m; rw [List.length_append]; omega, by rw [← hg]; simp only [List.append_assoc], by show ((P ++ Y) ++ X2 ++ X1 ++ S).length ≤ _; simp only [List.length_append] at hl3 ⊢; omega⟩, by show X2.length + X1.length < X1.length + X2.length + Y.length; omega, rfl, ⟨sle_i (by show _ = ((X2.length : Nat) : Int); omega), sle_i (by show _ = ((X1.length : Nat) : Int); omega), sle_own, sle_i rfl, nqS, True.intro⟩, HLe.cons 0 rfl (HOLe.refl _) .nil⟩
  by_cases hlt : X.length < Y.length
  · have e1 : Y.take (Y.length - X.length) ++ Y.drop (Y.length - X.length) = Y := List.take_append_drop _ _
    have hy1 : (Y.take (Y.length - X.length)).length = Y.length - X.length := by rw [List.length_take]; omega
    have hy2 : (Y.drop (Y.length - X.length)).length = X.length := by rw [List.length_drop]; omega
    generalize Y.take (Y.length - X.length) = Y1 at e1 hy1
    generalize Y.drop (Y.length - X.length) = Y2 at e1 hy2
    subst e1
    have hyl : (Y1 ++ Y2).length = Y1.length + Y2.length := List.length_append
    have e2 : P ++ X ++ (Y1 ++ Y2) ++ S = P ++ X ++ Y1 ++ Y2 ++ S := by simp only [List.append_assoc]
    rw [e2] at hl3 h4 ⊢
    rw [hyl] at hy hlt hgt hy1 h4 ⊢
    have hsw := swapRange_specL v gf gc P X Y1 Y2 S hy2.symm hl3
    have hpl : ((P ++ X ++ Y1).length : Int) = (m : Int) + Y1.length := by simp only [List.length_append]; omega
    rw [hpl] at hsw
    have e3 : P ++ Y2 ++ Y1 ++ X ++ S = P ++ Y2 ++ Y1 ++ (X ++ S) := by simp only [List.append_assoc]
    rw [e3] at hsw
    repeat' (first | refine Awp.seq ?_ | refine Awp.block ?_ | refine Awp.region ?_ | refine Ops.nil (nqA ?_) | refine Ops.nil (nqX ?_) | refine Awp.skip (nqA ?_) | (refine o_add rfl rfl rfl rfl ?_ ?_; omega) | (refine o_sub rfl rfl rfl rfl ?_ ?_; omega) | (refine o_calm rfl TtOk rfl rfl rfl ?_ (fun _ => ?_); exact nd) | (refine a_condP rfl (fun hc => ?_) (fun hc => ?_)) <;> (try (exfalso; omega)) | (refine a_condN rfl (fun hc => ?_) (fun hc => ?_)) <;> (try (exfalso; omega)) | (refine o_call [] [0] [0] rfl hsw ⟨sle_own, sle_i (by omega), sle_i (by omega), sle_i (by omega), nqS, True.intro⟩ rfl ⟨HOLe.refl _, True.intro⟩ rfl rfl ?_; rintro _ _ ⟨rfl, rfl⟩; refine ⟨_, rfl, rfl, ?_⟩))
    refine ⟨(P, Y2, Y1, X ++ S), [], ⟨by show 0 < Y2.length; omega, by show 0 < Y1.length; omega, by show P.length + Y2.length = m; omega, by rw [← hg]; simp only [List.append_assoc], by show (P ++ Y2 ++ Y1 ++ (X ++ S)).length ≤ _; simp only [List.length_append] at hl3 ⊢; omega⟩, by show Y2.length + Y1.length < X.length + (Y1.length + Y2.length); omega, rfl, ⟨sle_i (by show _ = ((Y2.length : Nat) : Int); omega), sle_i (by show _ = ((Y1.length : Nat) : Int); omega), sle_own, sle_i rfl, nqS, True.intro⟩, HLe.cons 0 rfl (HOLe.refl _) .nil⟩
  · have hxy : X.length = Y.length := by omega
    have hsw := swapRange_specL v gf gc P X [] Y S hxy (by rw [List.append_nil]; exact hl3)
    rw [List.append_nil, List.append_nil] at hsw
    have hpl : (P ++ X).length = m := by rw [List.length_append]; omega
    rw [hpl, hg] at hsw
    repeat' (first | refine Awp.seq ?_ | refine Awp.region ?_ | refine Ops.nil (nqA ?_) | refine Ops.nil (nqE ?_) | refine Awp.exit (nqA ?_) | (refine o_sub rfl rfl rfl rfl ?_ ?_; omega) | (refine o_calm rfl TtOk rfl rfl rfl ?_ (fun _ => ?_); exact nd) | (refine a_condN rfl (fun hc => ?_) (fun hc => ?_)) <;> (try (exfalso; omega)) | (refine o_call [] [0] [0] rfl hsw ⟨sle_own, sle_i (by omega), sle_i (by omega), sle_i (by omega), nqS, True.intro⟩ rfl ⟨HOLe.refl _, True.intro⟩ rfl rfl ?_; rintro _ _ ⟨rfl, rfl⟩; refine ⟨_, rfl, rfl, ?_⟩))
    exact end_none rfl [] [(0, _)] (HLe.cons 0 rfl (HOLe.refl _) .nil) ⟨rfl, rfl⟩ _ (.inr rfl)
end Go.Proofs.YtcmgpkibjdbonaaGreat
set_option maxHeartbeats 16000000
set_option maxRecDepth 100000
namespace Go.Proofs.YtcmgpkibjdbonaaGreat
open Go Go.RowKit
def ltCL (cmp : Lef → Lef → Int) (x y : Lef) : Bool := decide (cmp x y < 0)
theorem isort_specL (v : Value) (f : Nat) (gc : List AV) (ho : gc.all isOne = true) (cmp : Lef → Lef → Int) (hcmp : ∀ x y, Spec Tryz.prog f ([Lef.A x, Lef.A y] ++ gc) [] (fun v os => v = .i .i64 (cmp x y) ∧ os = [])) (W : WO (ltCL cmp)) (A X D : List Lef) (hl : (A ++ X ++ D).length ≤ 100000) :
    Spec Tryz.prog 208 [.own 0 v, .i .i64 (A.length : Nat), .i .i64 ((A ++ X).length : Nat), .fn (.func f) gc] [.row v 46 65 ((A ++ X ++ D).map Lef.A)]
      (fun r os => r = .tup [] ∧ os = [.row v 46 65 ((A ++ sortS (ltCL cmp) X ++ D).map Lef.A)]) := by
  refine spec_of TtOk [(0, .row v 46 65 ((A ++ X ++ D).map Lef.A))] Tryz.func208 rfl Tryz.ntmps208 (by kernel_rfl) rfl rfl (fun C => ?_) rfl
  have hb : (A ++ X).length = A.length + X.length := List.length_append
  have hl0 : (A ++ X ++ D).length = A.length + X.length + D.length := by simp only [List.length_append]
  generalize (A ++ X).length = b at hb ⊢
  repeat' (first | refine Awp.seq ?_ | refine Awp.block ?_ | refine Awp.region ?_ | refine Ops.nil (nqA ?_) | (refine o_add rfl rfl rfl rfl ?_ ?_; omega) | (refine o_calm rfl TtOk rfl rfl rfl ?_ (fun _ => ?_); exact nd))
  refine Awp.loop (fun q : Nat => ⟨53, [(8, .i .i64 ((A.length + q : Nat) : Int)), (0, .own 0 v), (1, .i .i64 (A.length : Nat)), (2, .i .i64 b), (3, .fn (.func f) gc)], [(0, .row v 46 65 ((A ++ sortS (ltCL cmp) (X.take q) ++ X.drop q ++ D).map Lef.A))]⟩) (fun q => 1 ≤ q ∧ q ≤ max 1 X.length) (fun q => X.length + 1 - q) [] 1 ⟨Nat.le_refl _, by omega⟩ ?_ ?_
  · have e1 : sortS (ltCL cmp) (X.take 1) = X.take 1 := by
      cases X with
      | nil => rfl
      | cons x l => rfl
    refine ⟨rfl, ⟨sle_i (by omega), sle_own, sle_i rfl, sle_i rfl, nqS, True.intro⟩, HLe.cons 0 rfl (HOLe.row ?_) .nil⟩
    have e2 : A ++ X.take 1 ++ X.drop 1 = A ++ X := by rw [List.append_assoc, List.take_append_drop]
    rw [e1, e2]
  rintro k ⟨hk1, hk⟩
  by_cases hlt : k < X.length
  · have hss := sortS_srt W (X.take k)
    have hsu := sortS_succ (lt := ltCL cmp) X k hlt
    have hsl := sortS_len W (X.take k)
    rw [List.length_take] at hsl
    have e0 : A ++ sortS (ltCL cmp) (X.take k) ++ X.drop k ++ D = A ++ sortS (ltCL cmp) (X.take k) ++ X[k] :: ([] ++ (X.drop (k + 1) ++ D)) := by
      rw [List.drop_eq_getElem_cons hlt]; simp only [List.append_assoc, List.cons_append, List.nil_append]
    rw [e0]
    have e9 : A ++ sortS (ltCL cmp) (X.take (k + 1)) ++ X.drop (k + 1) ++ D = A ++ insS (ltCL cmp) X[k] (sortS (ltCL cmp) (X.take k)) ++ (X.drop (k + 1) ++ D) := by
      rw [hsu]; simp only [List.append_assoc]
    have hR : (X.drop (k + 1) ++ D).length = X.length - (k + 1) + D.length := by rw [List.length_append, List.length_drop]
    obtain ⟨T, hT⟩ : ∃ T, A ++ sortS (ltCL cmp) (X.take (k + 1)) ++ X.drop (k + 1) ++ D = T := ⟨_, rfl⟩
    rw [hT] at e9
    have hk2 : min k X.length = k := by omega
    rw [hk2] at hsl
    generalize sortS (ltCL cmp) (X.take k) = S at hss hsl e9 ⊢
    generalize X[k] = x at e9 ⊢
    generalize X.drop (k + 1) ++ D = R at hR e9 ⊢
    repeat' (first | refine Awp.seq ?_ | refine Awp.block ?_ | refine Awp.region ?_ | refine Ops.nil (nqA ?_) | refine Awp.skip (nqA ?_) | (refine o_calm rfl TtOk rfl rfl rfl ?_ (fun _ => ?_); exact nd) | (refine a_condP rfl (fun hc => ?_) (fun hc => ?_)) <;> (try (exfalso; omega)))
    refine Awp.loop (fun q : List Lef × List Lef => ⟨53, [(9, .i .i64 ((A.length + q.1.length : Nat) : Int)), (8, .i .i64 ((A.length + k : Nat) : Int)), (0, .own 0 v), (1, .i .i64 (A.length : Nat)), (2, .i .i64 b), (3, .fn (.func f) gc)], [(0, .row v 46 65 ((A ++ q.1 ++ x :: (q.2 ++ R)).map Lef.A))]⟩) (fun q => q.1 ++ q.2 = S ∧ ∀ s ∈ q.2, ltCL cmp x s = true) (fun q => q.1.length) [] (S, []) ⟨List.append_nil _, fun s hs => by cases hs⟩ ?_ ?_
    · exact ⟨rfl, ⟨sle_i (by show _ = ((A.length + S.length : Nat) : Int); omega), sle_i rfl, sle_own, sle_i rfl, sle_i rfl, nqS, True.intro⟩, HLe.cons 0 rfl (HOLe.refl _) .nil⟩
    rintro ⟨S1, S2⟩ ⟨hS, hS2⟩
    dsimp only at hS hS2 ⊢
    have hSl : S1.length + S2.length = S.length := by rw [← hS, List.length_append]
    rcases List.eq_nil_or_concat S1 with h1 | ⟨S0, y, h1⟩
    · subst h1
      have hi := insS_at (lt := ltCL cmp) (x := x) [] S2 (fun s hs => by cases hs) hS2
      have hT2 : A ++ [] ++ x :: (S2 ++ R) = T := by rw [e9, ← hS, hi]; simp only [List.append_assoc, List.cons_append, List.nil_append]
      rw [hT2]
      have hnil : ([] : List Lef).length = 0 := rfl
      repeat' (first | refine Awp.seq ?_ | refine Awp.region ?_ | refine Ops.nil (nqA ?_) | refine Ops.nil (nqX ?_) | refine Awp.exit (nqA ?_) | refine o_noT rfl rfl rfl ?_ | (refine o_add rfl rfl rfl rfl ?_ ?_; omega) | (refine o_calm rfl TtOk rfl rfl rfl ?_ (fun _ => ?_); exact nd) | (fail_if_success (refine o_isLit rfl (by first | exact .inl rfl | exact .inr rfl) ?_)); (refine o_splitP rfl rfl (fun hc => ?_) (fun hc => ?_) <;> try (exfalso; omega)) | refine a_condF rfl ?_ | refine a_any 4 [] [] [] [0, 1, 2, 3, 4, 5, 6, 7, 9, 10, 11, 12, 8, 13, 14, 15, 16] (by kernel_rfl) (by kernel_rfl) (by kernel_rfl) rfl rfl rfl ?_)
      refine ⟨k + 1, [], ⟨by omega, by omega⟩, by omega, rfl, ⟨sle_i (by omega), sle_own, sle_i rfl, sle_i rfl, nqS, True.intro⟩, HLe.cons 0 rfl (HOLe.row ?_) .nil⟩
      rw [hT]
    · rw [List.concat_eq_append] at h1
      subst h1
      have hlen0 : (S0 ++ [y]).length = S0.length + 1 := by simp
      have e0 : A ++ (S0 ++ [y]) ++ x :: (S2 ++ R) = (A ++ S0) ++ y :: ([] ++ x :: (S2 ++ R)) := by simp only [List.append_assoc, List.cons_append, List.nil_append]
      have e2 := swap_at' (A ++ S0) y [] x (S2 ++ R)
      obtain ⟨e3, e4⟩ := swap_get (A ++ S0) y [] x (S2 ++ R)
      have hL2 : (A ++ S0) ++ x :: ([] ++ y :: (S2 ++ R)) = A ++ S0 ++ x :: ((y :: S2) ++ R) := by simp only [List.append_assoc, List.cons_append, List.nil_append]
      rw [hL2] at e2
      rw [← e0] at e2 e3 e4
      have i1e : (A ++ S0).length = A.length + S0.length := List.length_append
      have i2e : ((A ++ S0) ++ y :: []).length = A.length + S0.length + 1 := by simp only [List.length_append, List.length_cons, List.length_nil]
      have hll : (A ++ (S0 ++ [y]) ++ x :: (S2 ++ R)).length = A.length + S0.length + 1 + (S2.length + R.length + 1) := by simp only [List.length_append, List.length_cons, List.length_nil]; omega
      have hcx := hcmp x y
      have hlt2 : ltCL cmp x y = decide (cmp x y < 0) := rfl
      generalize (A ++ S0).length = i1 at i1e e2 e3
      generalize ((A ++ S0) ++ y :: []).length = i2 at i2e e2 e4
      obtain ⟨L, hL⟩ : ∃ L, A ++ (S0 ++ [y]) ++ x :: (S2 ++ R) = L := ⟨_, rfl⟩
      rw [hL] at e2 e3 e4 hll ⊢
      have hne : i2 ≠ i1 := by omega
      generalize hcv : cmp x y = cv at hcx hlt2
      repeat' (first | (refine o_storeRow TtOk rfl rfl rfl rfl rfl rfl (by assumption) ((List.getElem?_set_ne hne).trans (getq_map e3)) rfl rfl (by first | exact Nat.add_zero _ | rfl) ⟨rfl, rfl⟩ rfl rfl ?_) | (refine o_storeRow TtOk rfl rfl rfl rfl rfl rfl (by assumption) (getq_map e4) rfl rfl (by first | exact Nat.add_zero _ | rfl) ⟨rfl, rfl⟩ rfl rfl ?_) | (refine o_loadRow TtOk rfl rfl rfl rfl rfl (by assumption) (getq_map e4) rfl rfl (by first | exact Nat.add_zero _ | rfl) ⟨rfl, rfl⟩ ?_) | (refine o_loadRow TtOk rfl rfl rfl rfl rfl (by assumption) (getq_map e3) rfl rfl (by first | exact Nat.add_zero _ | rfl) ⟨rfl, rfl⟩ ?_) | (refine o_indexOwn TtOk rfl rfl rfl rfl rfl rfl rfl rfl i2 ?_ ?_ (fun bO hbO => ?_); omega; ((repeat' (first | rw [List.length_map] | rw [List.length_set])) <;> omega)) | (refine o_indexOwn TtOk rfl rfl rfl rfl rfl rfl rfl rfl i1 ?_ ?_ (fun bO hbO => ?_); omega; ((repeat' (first | rw [List.length_map] | rw [List.length_set])) <;> omega)) | refine Awp.seq ?_ | refine Awp.block ?_ | refine Awp.region ?_ | refine Ops.nil (nqA ?_) | refine Ops.nil (nqX ?_) | refine Awp.skip (nqA ?_) | refine Awp.exit (nqA ?_) | (refine o_add rfl rfl rfl rfl ?_ ?_; omega) | (refine o_sub rfl rfl rfl rfl ?_ ?_; omega) | (refine o_calm rfl TtOk rfl rfl rfl ?_ (fun _ => ?_); exact nd) | (fail_if_success (refine o_isLit rfl (by first | exact .inl rfl | exact .inr rfl) ?_)); (refine o_splitP rfl rfl (fun hc => ?_) (fun hc => ?_) <;> try (exfalso; omega)) | (refine a_condP rfl (fun hc => ?_) (fun hc => ?_)) <;> (try (exfalso; omega)) | refine a_any 4 [] [] [] [0, 1, 2, 3, 4, 5, 6, 7, 9, 10, 11, 12, 8, 13, 14, 15, 16] (by kernel_rfl) (by kernel_rfl) (by kernel_rfl) rfl rfl rfl ?_ | refine a_any 6 [0] [46, 50] [] [0, 1, 2, 3, 4, 5, 6, 7, 8, 10, 11, 12, 9, 13, 14, 15, 16, 17] (by kernel_rfl) (by kernel_rfl) (by kernel_rfl) rfl rfl rfl ?_ | (refine o_callClo rfl rfl ho hcx ⟨nqS, nqS, argsLe_self _⟩ rfl rfl ?_; rintro _ _ ⟨rfl, rfl⟩; refine ⟨rfl, ?_⟩))
      · have hxy : ltCL cmp x y = true := by rw [hlt2]; exact decide_eq_true (by assumption)
        refine ⟨(S0, y :: S2), [], ⟨by rw [← hS]; simp only [List.append_assoc, List.cons_append, List.nil_append], fun s hs => ?_⟩, by show S0.length < (S0 ++ [y]).length; omega, rfl, ⟨sle_i (by show _ = ((A.length + S0.length : Nat) : Int); omega), sle_i rfl, sle_own, sle_i rfl, sle_i rfl, nqS, True.intro⟩, HLe.cons 0 rfl (HOLe.row ?_) .nil⟩
        · rcases List.mem_cons.1 hs with rfl | hs
          · exact hxy
          · exact hS2 s hs
        · show _ = List.map Lef.A (A ++ S0 ++ x :: ((y :: S2) ++ R))
          rw [← e2, List.map_set, List.map_set]; rfl
      · have hxy : ltCL cmp x y = false := by rw [hlt2]; exact decide_eq_false (by assumption)
        have hS1 : Srt (ltCL cmp) (S0 ++ [y]) := by rw [← hS] at hss; exact (List.pairwise_append.1 hss).1
        have hall : ∀ s ∈ S0 ++ [y], ltCL cmp x s = false := fun s hs => by
          rcases List.mem_append.1 hs with hs | hs
          · exact W.neg x y s hxy ((List.pairwise_append.1 hS1).2.2 s hs y (by simp))
          · rw [List.mem_singleton.1 hs]; exact hxy
        have hi := insS_at (lt := ltCL cmp) (x := x) (S0 ++ [y]) S2 hall hS2
        have hT2 : L = T := by rw [e9, ← hS, hi, ← hL]; simp only [List.append_assoc, List.cons_append, List.nil_append]
        refine ⟨k + 1, [], ⟨by omega, by omega⟩, by omega, rfl, ⟨sle_i (by omega), sle_own, sle_i rfl, sle_i rfl, nqS, True.intro⟩, HLe.cons 0 rfl (HOLe.row ?_) .nil⟩
        rw [hT, hT2]
  · have e0 : A ++ sortS (ltCL cmp) (X.take k) ++ X.drop k ++ D = A ++ sortS (ltCL cmp) X ++ D := by
      rw [List.take_of_length_le (by omega), List.drop_eq_nil_iff.2 (by omega), List.append_nil]
    rw [e0]
    generalize A ++ sortS (ltCL cmp) X ++ D = L
    repeat' (first | refine Awp.seq ?_ | refine Awp.region ?_ | refine Ops.nil (nqA ?_) | refine Awp.exit (nqE ?_) | (refine o_calm rfl TtOk rfl rfl rfl ?_ (fun _ => ?_); exact nd) | (refine a_condP rfl (fun hc => ?_) (fun hc => ?_)) <;> (try (exfalso; omega)))
    exact end_none rfl [] [(0, _)] (HLe.cons 0 rfl (HOLe.refl _) .nil) ⟨rfl, rfl⟩ _ (.inr rfl)
end Go.Proofs.YtcmgpkibjdbonaaGreat
