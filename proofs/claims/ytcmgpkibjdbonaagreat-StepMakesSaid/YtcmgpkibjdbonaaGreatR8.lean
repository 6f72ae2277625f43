/- ref16.some, Cover by rules. -/
import Derived.Test.YtcmgpkibjdbonaaGreatR5Z
import Derived.Test.YtcmgpkibjdbonaaGreatV31Z
set_option maxHeartbeats 16000000
set_option maxRecDepth 100000
namespace Go.Proofs.YtcmgpkibjdbonaaGreat
open Go Go.RowKit
theorem good_parts {p : Pfx} (h : goodP p = true) : 0 ≤ p.n ∧ p.n ≤ 256 ∧ cutL p.l p.n.toNat = p.l := by
  unfold goodP at h
  simp only [Bool.and_eq_true, decide_eq_true_eq, beq_iff_eq] at h
  exact ⟨h.1, h.2.1, h.2.2⟩
theorem cut_has {p : Pfx} (hp : goodP p = true) (hl : p.l.length = 32) {l : List UInt8} (hl2 : l.length = 32) : (cutL l (clamp p.n) == p.l) = hasP p l := by
  obtain ⟨h0, h1, h2⟩ := good_parts hp
  have hc : clamp p.n = p.n.toNat := by unfold clamp; omega
  unfold hasP
  rw [hp, Bool.true_and, hc]
  have hn : p.n.toNat ≤ 256 := by omega
  have hiff : cutL l p.n.toNat = p.l ↔ p.n ≤ (comL p.l l : Nat) := by
    have hg := com_ge hl hl2 hn
    constructor
    · intro h
      have : p.n.toNat ≤ comL p.l l := hg.2 (fun i hi => by rw [← h, cut_bit l hl2 _ i hn, if_pos hi])
      omega
    · intro h
      have h3 := hg.1 (by omega)
      rw [← h2]
      exact cut_eq hl2 hl hn (fun i hi => (h3 i hi).symm)
  by_cases hh : cutL l p.n.toNat = p.l
  · rw [beq_iff_eq.2 hh, decide_eq_true (hiff.1 hh)]
  · rw [beq_eq_false_iff_ne.2 hh, decide_eq_false (fun h => hh (hiff.2 h))]
theorem good_cut {l : List UInt8} (hl : l.length = 32) {n : Nat} (hn : n ≤ 256) : goodP ⟨(n : Nat), cutL l n⟩ = true := by
  unfold goodP
  have h2 : cutL (cutL l n) n = cutL l n := cut_eq (cutL_len l n hl hn) hl hn (fun i hi => by rw [cut_bit l hl n i hn, if_pos hi])
  have e : (((n : Nat) : Int)).toNat = n := Int.toNat_natCast n
  show (decide (0 ≤ ((n : Nat) : Int)) && (decide (((n : Nat) : Int) ≤ 256) && (cutL (cutL l n) ((n : Nat) : Int).toNat == cutL l n))) = true
  rw [e, h2, beq_self_eq_true, decide_eq_true (by omega), decide_eq_true (by omega)]; rfl
theorem join_good {l : List Itm} (h0 : 0 < l.length) (hr : RiseI l) (hok : ∀ x ∈ l, x.ok) (hg : ∀ x ∈ l, goodI x = true) : goodP (joinF l.length l).p = true := by
  obtain ⟨a, b⟩ := join_pfx l.length l h0 (Nat.le_refl _) hr hok
  by_cases h1 : l.length = 1
  · rw [a h1]
    have := hg _ (List.getElem_mem h0)
    unfold goodI at this
    simp only [Bool.and_eq_true] at this
    exact this.1
  · obtain ⟨b1, b2⟩ := b (by omega)
    have hc := (spl_ok hr hok (by omega)).1
    show goodP ⟨(joinF l.length l).n, (joinF l.length l).l⟩ = true
    rw [b1, b2]
    exact good_cut (hok _ (List.getElem_mem h0)).1 (by omega)
theorem any_drop {α : Type} (p : α → Bool) (l : List α) {i : Nat} (hi : i < l.length) : (l.drop i).any p = (p l[i] || (l.drop (i + 1)).any p) := by
  rw [List.drop_eq_getElem_cons hi, List.any_cons]
theorem rsome_spec (ls : List (List UInt8)) (hls : ls.length ≤ 100000) (hlo : ∀ x ∈ ls, x.length = 32) (x : Itm) (hx : x.ok) (hg : goodP x.p = true) : Spec Tryz.prog 159 [.sl 32 (ls.map labA), x.R] [] (fun v os => v = .b (ls.any (hasP x.p)) ∧ os = []) := by
  obtain ⟨R, hR⟩ : ∃ R, ls.any (hasP x.p) = R := ⟨_, rfl⟩
  rw [hR]
  have hcp : ∀ l : List UInt8, l.length = 32 → (cutL l (clamp x.n) == x.l) = hasP x.p l := fun l hl => cut_has hg hx.1 hl
  have hR0 : (ls.drop 0).any (hasP x.p) = R := hR
  clear hR
  generalize hasP x.p = P at hR0 hcp
  obtain ⟨n, xl, s, t⟩ := x
  dsimp only at hcp
  clear hg
  show Spec Tryz.prog 159 [.sl 32 (ls.map labA), .agg [.i .i64 n, labA xl, labA s, .i .i64 t]] [] _
  refine spec_of TtOk [] Tryz.func159 rfl Tryz.ntmps159 (by kernel_rfl) rfl rfl (fun C => ?_) rfl
  repeat' (first | refine Awp.seq ?_ | refine Awp.block ?_ | refine Awp.region ?_ | (refine Ops.nil ?_; show Awp _ _ _ _ _) | refine o_len rfl TtOk rfl rfl rfl (fun _ => ?_) | (refine o_calm rfl TtOk rfl rfl rfl ?_ (fun _ => ?_); exact nd) | refine o_box (d := 3) rfl rfl rfl rfl (fun b3 => ?_))
  refine Awp.loop (fun i : Nat => ⟨21, [(9, .i .i64 i), (8, .i .i64 ls.length), (7, .sl 32 (ls.map labA)), (3, .ptr 3 b3 [] 0)], [(3, .var b3 (.agg [.i .i64 n, labA xl, labA s, .i .i64 t]))]⟩) (fun i => i ≤ ls.length ∧ (ls.drop i).any P = R) (fun i => ls.length - i) [] 0 ⟨Nat.zero_le _, hR0⟩ ?_ ?_
  · exact ⟨rfl, ⟨sle_i rfl, sle_i rfl, sle_sl rfl, sle_ptr, True.intro⟩, HLe.cons 3 rfl (HOLe.refl _) .nil⟩
  rintro i ⟨hi, hst⟩
  by_cases hlt : i < ls.length
  · have hl32 := hlo _ (List.getElem_mem hlt)
    have hcu := rcut_spec ls[i] hl32 n
    have hi1 : ((i : Int) + 1 = ((i + 1 : Nat) : Int)) := by omega
    rw [any_drop P ls hlt, ← hcp _ hl32] at hst
    generalize cutL ls[i] (clamp n) = c at hcu hst
    by_cases hq : (c == xl) = true
    · rw [hq, Bool.true_or] at hst
      subst hst
      repeat' (first | (rw [hq]) | refine Awp.seq ?_ | refine Awp.block ?_ | refine Awp.region ?_ | (refine Ops.nil ?_; show Awp _ _ _ _ _) | (refine Awp.skip ?_; show Awp _ _ _ _ _) | (refine Awp.ret ?_; show endK _ _ _ _ _) | (refine o_calm rfl TtOk rfl rfl rfl ?_ (fun _ => ?_); exact nd) | refine o_alloc (d := 6) rfl TtOk rfl rfl rfl (fun b6 => ?_) | refine o_store TtOk rfl rfl rfl rfl rfl rfl rfl ⟨rfl, rfl⟩ rfl rfl rfl rfl rfl ?_ | (refine o_index rfl TtOk rfl rfl rfl rfl rfl rfl ?_ (getq_nat ?_) ?_; omega; omega) | refine o_eqArr8 TtOk rfl rfl rfl rfl rfl rfl (by kernel_rfl) ?_ | refine a_condT rfl ?_ | (refine a_condP rfl (fun hc => ?_) (fun hc => ?_)) <;> (try (exfalso; omega)) | refine a_any 4 [] [] [] [1, 4, 0, 2, 5, 3, 6] (by kernel_rfl) (by kernel_rfl) (by kernel_rfl) rfl rfl rfl ?_ | (refine o_call0 rfl (hcu) ⟨SLe.of_eq rfl, SLe.of_eq rfl, True.intro⟩ rfl ?_; rintro _ _ ⟨rfl, rfl⟩; refine ⟨rfl, ?_⟩))
      exact end_tmp rfl rfl rfl [] [] (CLe.of_eq rfl) .nil ⟨rfl, rfl⟩ _ (.inl rfl)
    · have hq : (c == xl) = false := by revert hq; cases (c == xl) <;> simp
      rw [hq, Bool.false_or] at hst
      repeat' (first | (rw [hq]) | refine Awp.seq ?_ | refine Awp.block ?_ | refine Awp.region ?_ | (refine Ops.nil ?_; show Awp _ _ _ _ _) | (refine Ops.nil ?_; show Exists _) | (refine Awp.skip ?_; show Awp _ _ _ _ _) | (refine o_add rfl rfl rfl rfl ?_ ?_; omega) | (refine o_calm rfl TtOk rfl rfl rfl ?_ (fun _ => ?_); exact nd) | refine o_alloc (d := 6) rfl TtOk rfl rfl rfl (fun b6 => ?_) | refine o_store TtOk rfl rfl rfl rfl rfl rfl rfl ⟨rfl, rfl⟩ rfl rfl rfl rfl rfl ?_ | (refine o_index rfl TtOk rfl rfl rfl rfl rfl rfl ?_ (getq_nat ?_) ?_; omega; omega) | refine o_eqArr8 TtOk rfl rfl rfl rfl rfl rfl (by kernel_rfl) ?_ | refine a_condF rfl ?_ | (refine a_condP rfl (fun hc => ?_) (fun hc => ?_)) <;> (try (exfalso; omega)) | refine a_any 4 [] [] [] [1, 4, 0, 2, 5, 3, 6] (by kernel_rfl) (by kernel_rfl) (by kernel_rfl) rfl rfl rfl ?_ | (refine o_call0 rfl (hcu) ⟨SLe.of_eq rfl, SLe.of_eq rfl, True.intro⟩ rfl ?_; rintro _ _ ⟨rfl, rfl⟩; refine ⟨rfl, ?_⟩))
      exact ⟨i + 1, [], ⟨hlt, hst⟩, by omega, rfl, ⟨sle_i hi1, sle_i rfl, sle_sl rfl, sle_ptr, True.intro⟩, HLe.cons 3 rfl (HOLe.refl _) .nil⟩
  · have hie : i = ls.length := by omega
    subst hie
    rw [List.drop_length] at hst
    have hst : false = R := hst
    subst hst
    repeat' (first | refine Awp.seq ?_ | refine Awp.region ?_ | (refine Ops.nil ?_; show Awp _ _ _ _ _) | (refine Awp.exit ?_; show Awp _ _ _ _ _) | (refine Awp.ret ?_; show endK _ _ _ _ _) | (refine o_calm rfl TtOk rfl rfl rfl ?_ (fun _ => ?_); exact nd) | (refine a_condP rfl (fun hc => ?_) (fun hc => ?_)) <;> (try (exfalso; omega)))
    exact end_tmp rfl rfl rfl [] [] (CLe.of_eq rfl) .nil ⟨rfl, rfl⟩ _ (.inl rfl)
def covI : Nat → List (List UInt8) → List Itm → List Itm × List Itm
  | 0, _, _ => ([], [])
  | k + 1, ls, l => if l = [] then ([], []) else if ls.any (hasP (joinF l.length l).p) = false then ([joinF l.length l], []) else if l.length = 1 then ([], l)
    else ((covI k ls (l.take (splI l))).1 ++ (covI k ls (l.drop (splI l))).1, (covI k ls (l.take (splI l))).2 ++ (covI k ls (l.drop (splI l))).2)
theorem covI_open (ls : List (List UInt8)) : ∀ (k : Nat) (l : List Lef), covI k ls (l.map leafI) = ((openF k ls l).1, (openF k ls l).2.map leafI)
  | 0, _ => rfl
  | k + 1, l => by
    have h1 := covI_open ls k (l.take (splI (l.map leafI)))
    have h2 := covI_open ls k (l.drop (splI (l.map leafI)))
    rw [List.map_take] at h1
    rw [List.map_drop] at h2
    unfold covI openF
    rw [h1, h2]
    by_cases hn : l = []
    · subst hn; rfl
    rw [if_neg hn, if_neg (fun h => hn (List.map_eq_nil_iff.1 h)), List.length_map]
    by_cases hh : ls.any (hasP (joinF l.length (l.map leafI)).p) = false
    · rw [if_pos hh, if_pos hh]; rfl
    rw [if_neg hh, if_neg hh]
    by_cases h1 : l.length = 1
    · rw [if_pos h1, if_pos h1]
    rw [if_neg h1, if_neg h1, List.map_append]
theorem covI_len : ∀ (k : Nat) (ls : List (List UInt8)) (l : List Itm), (covI k ls l).1.length ≤ l.length ∧ (covI k ls l).2.length ≤ l.length
  | 0, ls, l => ⟨Nat.zero_le _, Nat.zero_le _⟩
  | k + 1, ls, l => by
    unfold covI
    by_cases hn : l = []
    · rw [if_pos hn]; exact ⟨Nat.zero_le _, Nat.zero_le _⟩
    rw [if_neg hn]
    have hp : 0 < l.length := List.length_pos_iff.2 hn
    by_cases hh : ls.any (hasP (joinF l.length l).p) = false
    · rw [if_pos hh]; exact ⟨hp, Nat.zero_le _⟩
    rw [if_neg hh]
    by_cases h1 : l.length = 1
    · rw [if_pos h1]; exact ⟨Nat.zero_le _, Nat.le_refl _⟩
    rw [if_neg h1]
    obtain ⟨a1, a2⟩ := covI_len k ls (l.take (splI l))
    obtain ⟨b1, b2⟩ := covI_len k ls (l.drop (splI l))
    rw [List.length_take] at a1 a2
    rw [List.length_drop] at b1 b2
    exact ⟨by rw [List.length_append]; omega, by rw [List.length_append]; omega⟩
theorem rcover_spec (ls : List (List UInt8)) (hls : ls.length ≤ 100000) (hlo : ∀ x ∈ ls, x.length = 32) : ∀ (k : Nat) (l : List Itm), l.length ≤ k → l.length ≤ 100000 → RiseI l → (∀ x ∈ l, x.ok) → (∀ x ∈ l, goodI x = true) → Spec Tryz.prog 61 [.sl 66 (l.map Itm.R), .sl 32 (ls.map labA)] [] (fun v os => v = .tup [.sl 66 ((covI k ls l).1.map Itm.R), .sl 66 ((covI k ls l).2.map Itm.R)] ∧ os = []) := by
  intro k
  induction k with
  | zero =>
    intro l hk _ _ _ _
    have hn : l = [] := List.length_eq_zero_iff.1 (by omega)
    subst hn
    refine spec_of TtOk [] Tryz.func61 rfl Tryz.ntmps61 (by kernel_rfl) rfl rfl (fun C => ?_) rfl
    repeat' (first | refine Awp.seq ?_ | refine Awp.region ?_ | (refine Ops.nil ?_; show Awp _ _ _ _ _) | (refine Awp.ret ?_; show endK _ _ _ _ _) | refine o_len rfl TtOk rfl rfl rfl (fun _ => ?_) | (refine o_calm rfl TtOk rfl rfl rfl ?_ (fun _ => ?_); exact nd) | refine a_condT rfl ?_)
    refine end_all [] [] (.tup [.sl 66 (([] : List Itm).map Itm.R), .sl 66 (([] : List Itm).map Itm.R)]) rfl ?_ ?_ (rle_tup2 CLe.nilsl CLe.nilsl rfl rfl) .nil ⟨rfl, rfl⟩ _ (.inl rfl)
    · repeat' (first | exact True.intro | exact rfl | refine ⟨?_, ?_⟩)
    · exact ⟨trivial, trivial, trivial⟩
  | succ k ih =>
    intro l hk hl hr hok hgd
    by_cases hn : l = []
    · subst hn
      refine spec_of TtOk [] Tryz.func61 rfl Tryz.ntmps61 (by kernel_rfl) rfl rfl (fun C => ?_) rfl
      repeat' (first | refine Awp.seq ?_ | refine Awp.region ?_ | (refine Ops.nil ?_; show Awp _ _ _ _ _) | (refine Awp.ret ?_; show endK _ _ _ _ _) | refine o_len rfl TtOk rfl rfl rfl (fun _ => ?_) | (refine o_calm rfl TtOk rfl rfl rfl ?_ (fun _ => ?_); exact nd) | refine a_condT rfl ?_)
      refine end_all [] [] (.tup [.sl 66 (([] : List Itm).map Itm.R), .sl 66 (([] : List Itm).map Itm.R)]) rfl ?_ ?_ (rle_tup2 CLe.nilsl CLe.nilsl rfl rfl) .nil ⟨rfl, rfl⟩ _ (.inl rfl)
      · repeat' (first | exact True.intro | exact rfl | refine ⟨?_, ?_⟩)
      · exact ⟨trivial, trivial, trivial⟩
    refine spec_of TtOk [] Tryz.func61 rfl Tryz.ntmps61 (by kernel_rfl) rfl rfl (fun C => ?_) rfl
    have hp : 0 < l.length := List.length_pos_iff.2 hn
    unfold covI
    rw [if_neg hn]
    have hjn := rjoin_spec l.length l hn (Nat.le_refl _) hl hr hok
    have hjo := joinF_ok l.length l hn (Nat.le_refl _) hr hok
    have hsm := rsome_spec ls hls hlo _ hjo (join_good hp hr hok hgd)
    obtain ⟨-, hpf⟩ := join_pfx l.length l hp (Nat.le_refl _) hr hok
    generalize ls.any (hasP (joinF l.length l).p) = any at hsm ⊢
    cases any with
    | false =>
      rw [if_pos rfl]
      clear hpf hjo ih
      generalize joinF l.length l = x at hjn hsm ⊢
      repeat' (first | refine Awp.seq ?_ | refine Awp.region ?_ | (refine Ops.nil ?_; show Awp _ _ _ _ _) | (refine Awp.skip ?_; show Awp _ _ _ _ _) | (refine Awp.ret ?_; show endK _ _ _ _ _) | refine o_len rfl TtOk rfl rfl rfl (fun _ => ?_) | (refine o_calm rfl TtOk rfl rfl rfl ?_ (fun _ => ?_); exact nd) | refine o_alloc (d := 6) rfl TtOk rfl rfl rfl (fun b6 => ?_) | refine o_store TtOk rfl rfl rfl rfl rfl rfl rfl ⟨rfl, rfl⟩ rfl rfl rfl rfl rfl ?_ | refine o_buildSlice (d := 25) TtOk rfl rfl rfl rfl rfl rfl rfl rfl rfl rfl rfl (by repeat' (first | exact True.intro | exact rfl | refine ⟨?_, ?_⟩)) (fun v25 => ?_) | refine a_condT rfl ?_ | (refine a_condP rfl (fun hc => ?_) (fun hc => ?_)) <;> (try (exfalso; omega)) | (refine o_call0 rfl (hjn) ⟨SLe.of_eq rfl, True.intro⟩ rfl ?_; rintro _ _ ⟨rfl, rfl⟩; refine ⟨rfl, ?_⟩) | (refine o_call0 rfl (hsm) ⟨SLe.of_eq rfl, SLe.of_eq rfl, True.intro⟩ rfl ?_; rintro _ _ ⟨rfl, rfl⟩; refine ⟨rfl, ?_⟩))
      refine end_all [25] [] (.tup [.sl 66 ([x].map Itm.R), .sl 66 (([] : List Itm).map Itm.R)]) rfl ?_ ?_ (rle_tup2 (CLe.fz (.head _)) CLe.nilsl rfl rfl) .nil ⟨rfl, rfl⟩ _ (.inl rfl)
      · repeat' (first | exact True.intro | exact rfl | refine ⟨?_, ?_⟩)
      · exact ⟨trivial, trivial, trivial⟩
    | true =>
      rw [if_neg (by decide)]
      by_cases h1 : l.length = 1
      · rw [if_pos h1]
        clear hpf hjo ih
        generalize joinF l.length l = x at hjn hsm
        repeat' (first | refine Awp.seq ?_ | refine Awp.region ?_ | (refine Ops.nil ?_; show Awp _ _ _ _ _) | (refine Awp.skip ?_; show Awp _ _ _ _ _) | (refine Awp.ret ?_; show endK _ _ _ _ _) | refine o_len rfl TtOk rfl rfl rfl (fun _ => ?_) | (refine o_calm rfl TtOk rfl rfl rfl ?_ (fun _ => ?_); exact nd) | refine o_alloc (d := 6) rfl TtOk rfl rfl rfl (fun b6 => ?_) | refine o_store TtOk rfl rfl rfl rfl rfl rfl rfl ⟨rfl, rfl⟩ rfl rfl rfl rfl rfl ?_ | refine a_condF rfl ?_ | (refine a_condP rfl (fun hc => ?_) (fun hc => ?_)) <;> (try (exfalso; omega)) | (refine o_call0 rfl (hjn) ⟨SLe.of_eq rfl, True.intro⟩ rfl ?_; rintro _ _ ⟨rfl, rfl⟩; refine ⟨rfl, ?_⟩) | (refine o_call0 rfl (hsm) ⟨SLe.of_eq rfl, SLe.of_eq rfl, True.intro⟩ rfl ?_; rintro _ _ ⟨rfl, rfl⟩; refine ⟨rfl, ?_⟩))
        refine end_all [] [] (.tup [.sl 66 (([] : List Itm).map Itm.R), .sl 66 (l.map Itm.R)]) rfl ?_ ?_ (rle_tup2 CLe.nilsl (CLe.of_eq rfl) rfl rfl) .nil ⟨rfl, rfl⟩ _ (.inl rfl)
        · repeat' (first | exact True.intro | exact rfl | refine ⟨?_, ?_⟩)
        · exact ⟨trivial, trivial, trivial⟩
      · rw [if_neg h1]
        obtain ⟨hf, s1, s2, s3⟩ := spl_ok hr hok (by omega)
        obtain ⟨f1, f2⟩ := filt_lo hr hok (by omega)
        have hxn := (hpf (by omega)).1
        have cA := ih (l.take (splI l)) (by rw [List.length_take]; omega) (by rw [List.length_take]; omega) (hr.sublist (List.take_sublist ..)) (fun x hx => hok x (List.mem_of_mem_take hx)) (fun x hx => hgd x (List.mem_of_mem_take hx))
        have cB := ih (l.drop (splI l)) (by rw [List.length_drop]; omega) (by rw [List.length_drop]; omega) (hr.sublist (List.drop_sublist ..)) (fun x hx => hok x (List.mem_of_mem_drop hx)) (fun x hx => hgd x (List.mem_of_mem_drop hx))
        obtain ⟨qa1, qa2⟩ := covI_len k ls (l.take (splI l))
        obtain ⟨qb1, qb2⟩ := covI_len k ls (l.drop (splI l))
        rw [List.length_take] at qa1 qa2
        rw [List.length_drop] at qb1 qb2
        generalize covI k ls (l.take (splI l)) = oA at cA qa1 qa2 ⊢
        generalize covI k ls (l.drop (splI l)) = oB at cB qb1 qb2 ⊢
        rw [← f1] at cA
        rw [← f2] at cB
        clear f1 f2 ih hpf hjo s3
        have hbt : ∀ (i : Nat) (h : i < l.length), Spec Tryz.prog 93 [labA l[i].l, .i .i64 (frkI l : Nat)] [] (fun v os => v = .i .i64 (bitL l[i].l (frkI l) : Nat) ∧ os = []) := fun i h => rbit_spec _ (hok _ (List.getElem_mem h)).1 _ hf
        have hfs := fun (p : Itm → Bool) (i : Nat) (h : i < l.length) => filt_succ p l h
        have hfl : ∀ (p : Itm → Bool) (i : Nat), ((l.take i).filter p).length ≤ l.length := fun p i => Nat.le_trans (List.length_filter_le ..) (by rw [List.length_take]; omega)
        generalize frkI l = n at *
        generalize joinF l.length l = x at *
        obtain ⟨xn, xl, xs, xt⟩ := x
        dsimp only at hxn
        subst hxn
        have hjn : Spec Tryz.prog 64 [.sl 66 (l.map Itm.R)] [] (fun v os => v = .agg [.i .i64 (n : Nat), labA xl, labA xs, .i .i64 xt] ∧ os = []) := hjn
        have hsm : Spec Tryz.prog 159 [.sl 32 (ls.map labA), .agg [.i .i64 (n : Nat), labA xl, labA xs, .i .i64 xt]] [] (fun v os => v = .b true ∧ os = []) := hsm
        repeat' (first | refine Awp.seq ?_ | refine Awp.block ?_ | refine Awp.region ?_ | (refine Ops.nil ?_; show Awp _ _ _ _ _) | (refine Awp.skip ?_; show Awp _ _ _ _ _) | refine o_len rfl TtOk rfl rfl rfl (fun _ => ?_) | (refine o_calm rfl TtOk rfl rfl rfl ?_ (fun _ => ?_); exact nd) | refine o_alloc (d := 6) rfl TtOk rfl rfl rfl (fun b6 => ?_) | refine o_store TtOk rfl rfl rfl rfl rfl rfl rfl ⟨rfl, rfl⟩ rfl rfl rfl rfl rfl ?_ | refine o_buildSlice (d := 30) TtOk rfl rfl rfl rfl rfl rfl rfl rfl rfl rfl rfl (by repeat' (first | exact True.intro | exact rfl | refine ⟨?_, ?_⟩)) (fun v30 => ?_) | refine o_buildSlice (d := 31) TtOk rfl rfl rfl rfl rfl rfl rfl rfl rfl rfl rfl (by repeat' (first | exact True.intro | exact rfl | refine ⟨?_, ?_⟩)) (fun v31 => ?_) | refine a_condF rfl ?_ | (refine a_condP rfl (fun hc => ?_) (fun hc => ?_)) <;> (try (exfalso; omega)) | (refine o_call0 rfl (hjn) ⟨SLe.of_eq rfl, True.intro⟩ rfl ?_; rintro _ _ ⟨rfl, rfl⟩; refine ⟨rfl, ?_⟩) | (refine o_call0 rfl (hsm) ⟨SLe.of_eq rfl, SLe.of_eq rfl, True.intro⟩ rfl ?_; rintro _ _ ⟨rfl, rfl⟩; refine ⟨rfl, ?_⟩))
        refine Awp.loop (fun q : Nat × Value × Value => ⟨75, [(34, .i .i64 q.1), (33, .i .i64 l.length), (32, .sl 66 (l.map Itm.R)), (7, .own 30 q.2.1), (8, .own 31 q.2.2), (1, .sl 32 (ls.map labA)), (6, .ptr 6 b6 [] 0)], [(30, .row q.2.1 62 66 (((l.take q.1).filter (fun x => bitL x.l n == 0)).map Itm.R)), (31, .row q.2.2 62 66 (((l.take q.1).filter (fun x => !(bitL x.l n == 0))).map Itm.R)), (6, .var b6 (.agg [.i .i64 (n : Nat), labA xl, labA xs, .i .i64 xt]))]⟩) (fun q => q.1 ≤ l.length) (fun q => l.length - q.1) [] (0, v30, v31) (Nat.zero_le _) ?_ ?_
        · exact ⟨rfl, ⟨sle_i rfl, sle_i rfl, sle_sl rfl, sle_own, sle_own, sle_sl rfl, sle_ptr, True.intro⟩, HLe.cons 30 rfl (HOLe.refl _) (HLe.cons 31 rfl (HOLe.refl _) (HLe.cons 6 rfl (HOLe.refl _) .nil))⟩
        rintro ⟨i, u, v⟩ hi
        dsimp only at hi ⊢
        by_cases hlt : i < l.length
        · have hi1 : ((i : Int) + 1 = ((i + 1 : Nat) : Int)) := by omega
          have g1 := hfs (fun x => bitL x.l n == 0) i hlt
          have g2 := hfs (fun x => !(bitL x.l n == 0)) i hlt
          have g3 := hfl (fun x => bitL x.l n == 0) i
          have g4 := hfl (fun x => !(bitL x.l n == 0)) i
          have hb := hbt i hlt
          clear hfs hfl hbt cA cB hjn hsm
          generalize (l.take i).filter (fun x => bitL x.l n == 0) = A at g1 g3 ⊢
          generalize (l.take i).filter (fun x => !(bitL x.l n == 0)) = B at g2 g4 ⊢
          have hx01 := bitL_or l[i].l n
          generalize bitL l[i].l n = z at hb hx01 g1 g2
          rcases hx01 with rfl | rfl
          · rw [if_pos (by rfl)] at g1
            rw [if_neg (by decide)] at g2
            repeat' (first | refine Awp.seq ?_ | refine Awp.block ?_ | refine Awp.region ?_ | (refine Ops.nil ?_; show Awp _ _ _ _ _) | (refine Ops.nil ?_; show Exists _) | (refine Awp.skip ?_; show Awp _ _ _ _ _) | (refine o_add rfl rfl rfl rfl ?_ ?_; omega) | (refine o_calm rfl TtOk rfl rfl rfl ?_ (fun _ => ?_); exact nd) | refine o_alloc (d := 10) rfl TtOk rfl rfl rfl (fun b10 => ?_) | refine o_store TtOk rfl rfl rfl rfl rfl rfl rfl ⟨rfl, rfl⟩ rfl rfl rfl rfl rfl ?_ | (refine o_index rfl TtOk rfl rfl rfl rfl rfl rfl ?_ (getq_nat ?_) ?_; omega; omega) | refine o_buildSlice TtOk rfl rfl rfl rfl rfl rfl rfl rfl rfl rfl rfl (by repeat' (first | exact True.intro | exact rfl | refine ⟨?_, ?_⟩)) (fun _ => ?_) | (refine o_append TtOk rfl rfl rfl rfl rfl rfl rfl rfl rfl (by first | exact True.intro | exact rfl) rfl rfl (fun _ => rfl) ?_ ?_ (fun _ => ?_); ((repeat' (first | rw [List.length_append] | rw [List.length_map] | rw [List.length_cons] | rw [List.length_nil] | rw [List.length_take] | rw [List.length_drop])) <;> omega); ((repeat' (first | rw [List.length_append] | rw [List.length_map] | rw [List.length_cons] | rw [List.length_nil] | rw [List.length_take] | rw [List.length_drop])) <;> omega)) | refine a_condT rfl ?_ | (refine a_condP rfl (fun hc => ?_) (fun hc => ?_)) <;> (try (exfalso; omega)) | (refine o_call0 rfl (hb) ⟨SLe.of_eq rfl, SLe.of_eq rfl, True.intro⟩ rfl ?_; rintro _ _ ⟨rfl, rfl⟩; refine ⟨rfl, ?_⟩))
            exact ⟨(i + 1, _, v), [], hlt, by show l.length - (i + 1) < l.length - i; omega, rfl, ⟨sle_i hi1, sle_i rfl, sle_sl rfl, sle_own, sle_own, sle_sl rfl, sle_ptr, True.intro⟩, HLe.cons 30 rfl (HOLe.row (by rw [g1, List.map_append]; rfl)) (HLe.cons 31 rfl (HOLe.row (by rw [g2])) (HLe.cons 6 rfl (HOLe.refl _) .nil))⟩
          · rw [if_neg (by decide)] at g1
            rw [if_pos (by rfl)] at g2
            repeat' (first | refine Awp.seq ?_ | refine Awp.block ?_ | refine Awp.region ?_ | (refine Ops.nil ?_; show Awp _ _ _ _ _) | (refine Ops.nil ?_; show Exists _) | (refine Awp.skip ?_; show Awp _ _ _ _ _) | (refine o_add rfl rfl rfl rfl ?_ ?_; omega) | (refine o_calm rfl TtOk rfl rfl rfl ?_ (fun _ => ?_); exact nd) | refine o_alloc (d := 10) rfl TtOk rfl rfl rfl (fun b10 => ?_) | refine o_store TtOk rfl rfl rfl rfl rfl rfl rfl ⟨rfl, rfl⟩ rfl rfl rfl rfl rfl ?_ | (refine o_index rfl TtOk rfl rfl rfl rfl rfl rfl ?_ (getq_nat ?_) ?_; omega; omega) | refine o_buildSlice TtOk rfl rfl rfl rfl rfl rfl rfl rfl rfl rfl rfl (by repeat' (first | exact True.intro | exact rfl | refine ⟨?_, ?_⟩)) (fun _ => ?_) | (refine o_append TtOk rfl rfl rfl rfl rfl rfl rfl rfl rfl (by first | exact True.intro | exact rfl) rfl rfl (fun _ => rfl) ?_ ?_ (fun _ => ?_); ((repeat' (first | rw [List.length_append] | rw [List.length_map] | rw [List.length_cons] | rw [List.length_nil] | rw [List.length_take] | rw [List.length_drop])) <;> omega); ((repeat' (first | rw [List.length_append] | rw [List.length_map] | rw [List.length_cons] | rw [List.length_nil] | rw [List.length_take] | rw [List.length_drop])) <;> omega)) | refine a_condF rfl ?_ | (refine a_condP rfl (fun hc => ?_) (fun hc => ?_)) <;> (try (exfalso; omega)) | (refine o_call0 rfl (hb) ⟨SLe.of_eq rfl, SLe.of_eq rfl, True.intro⟩ rfl ?_; rintro _ _ ⟨rfl, rfl⟩; refine ⟨rfl, ?_⟩))
            exact ⟨(i + 1, u, _), [], hlt, by show l.length - (i + 1) < l.length - i; omega, rfl, ⟨sle_i hi1, sle_i rfl, sle_sl rfl, sle_own, sle_own, sle_sl rfl, sle_ptr, True.intro⟩, HLe.cons 30 rfl (HOLe.row (by rw [g1])) (HLe.cons 31 rfl (HOLe.row (by rw [g2, List.map_append]; rfl)) (HLe.cons 6 rfl (HOLe.refl _) .nil))⟩
        · have hie : i = l.length := by omega
          subst hie
          rw [List.take_length]
          generalize l.filter (fun x => bitL x.l n == 0) = A at cA ⊢
          generalize l.filter (fun x => !(bitL x.l n == 0)) = B at cB ⊢
          clear hfs hfl hbt hjn hsm
          repeat' (first | (refine o_freezeR 31 8 rfl rfl rfl ?_) | (refine o_freezeR 30 7 rfl rfl rfl ?_) | refine Awp.seq ?_ | refine Awp.region ?_ | (refine Ops.nil ?_; show Awp _ _ _ _ _) | (refine Awp.exit ?_; show Awp _ _ _ _ _) | (refine Awp.ret ?_; show endK _ _ _ _ _) | (refine o_calm rfl TtOk rfl rfl rfl ?_ (fun _ => ?_); exact nd) | refine o_buildSlice TtOk rfl rfl rfl rfl rfl rfl rfl rfl rfl rfl rfl (by repeat' (first | exact True.intro | exact rfl | refine ⟨?_, ?_⟩)) (fun _ => ?_) | (refine o_append TtOk rfl rfl rfl rfl rfl rfl rfl rfl rfl (by first | exact True.intro | exact rfl) rfl rfl (fun _ => rfl) ?_ ?_ (fun _ => ?_); ((repeat' (first | rw [List.length_append] | rw [List.length_map] | rw [List.length_cons] | rw [List.length_nil] | rw [List.length_take] | rw [List.length_drop])) <;> omega); ((repeat' (first | rw [List.length_append] | rw [List.length_map] | rw [List.length_cons] | rw [List.length_nil] | rw [List.length_take] | rw [List.length_drop])) <;> omega)) | (refine a_condP rfl (fun hc => ?_) (fun hc => ?_)) <;> (try (exfalso; omega)) | (refine o_call0 rfl (cA) ⟨SLe.of_eq rfl, SLe.of_eq rfl, True.intro⟩ rfl ?_; rintro _ _ ⟨rfl, rfl⟩; refine ⟨rfl, ?_⟩) | (refine o_call0 rfl (cB) ⟨SLe.of_eq rfl, SLe.of_eq rfl, True.intro⟩ rfl ?_; rintro _ _ ⟨rfl, rfl⟩; refine ⟨rfl, ?_⟩))
          refine end_all [65, 70] [] (.tup [.sl 66 ((oA.1 ++ oB.1).map Itm.R), .sl 66 ((oA.2 ++ oB.2).map Itm.R)]) rfl ?_ ?_ (rle_tup2 (CLe.fz ?_) (CLe.fz ?_) rfl rfl) .nil ⟨rfl, rfl⟩ _ (.inl rfl)
          · repeat' (first | exact True.intro | exact rfl | refine ⟨?_, ?_⟩)
          · exact ⟨trivial, trivial, trivial⟩
          · rw [List.map_append]; exact .head _
          · rw [List.map_append]; exact .tail _ (.head _)
end Go.Proofs.YtcmgpkibjdbonaaGreat
