/- law18.ProofSure by rules. -/
import Derived.Test.YtcmgpkibjdbonaaV38Z
import Derived.Test.YtcmgpkibjdbonaaPF6
set_option maxHeartbeats 16000000
set_option maxRecDepth 100000
namespace Go.Proofs.Ytcmgpkibjdbonaa
open Go Go.RowKit
theorem Rsn.side {l : List Lef} (h : Rsn l) (lb : List UInt8) : Rsn (sdL l lb) := by
  by_cases h2 : 1 < l.length
  · exact (side_step h (by omega) lb).1
  · unfold sdL; rw [if_neg h2]; exact h
theorem exL_len : ∀ (c : List Nod) (l : List Lef) (lb : List UInt8), (∀ n ∈ c, n.gd) → Rsn l → (exL c l lb).1.length ≤ 1000 ∧ (exL c l lb).2.1.length ≤ 1000
  | [], _, _, _, _ => ⟨Nat.zero_le _, Nat.zero_le _⟩
  | n :: r, l, lb, hg, h => by
    unfold exL
    by_cases he : n.txt = rlT l
    · rw [if_pos he]; exact exL_len r _ lb (fun m hm => hg m (List.mem_cons_of_mem _ hm)) (h.side lb)
    · rw [if_neg he]; exact ⟨nod_txt_len (hg n (List.mem_cons_self ..)), rlT_len h⟩
theorem exP_len {L : List Lef} {p : Prf} {lb : List UInt8} (hok : ∀ x ∈ L, x.ok) (hp : p.ok) : (exP L p lb).1.length ≤ 1000 ∧ (exP L p lb).2.1.length ≤ 1000 := by
  unfold exP
  by_cases hc : (ndsF p lb).2 ≠ 0 ∨ mkE L ≠ 0
  · rw [if_pos hc]; exact ⟨Nat.zero_le _, Nat.zero_le _⟩
  · rw [if_neg hc]
    have h1 : (ndsF p lb).2 = 0 := Decidable.not_not.1 (fun h => hc (.inl h))
    have h2 : mkE L = 0 := Decidable.not_not.1 (fun h => hc (.inr h))
    have hS := rsn_srt hok h2
    unfold exC
    by_cases h0 : (ndsF p lb).1.reverse = []
    · rw [if_pos h0]
      split
      · exact ⟨Nat.zero_le _, Nat.zero_le _⟩
      · exact ⟨by show [18].length ≤ 1000; decide, rlT_len hS⟩
    · rw [if_neg h0]
      refine exL_len _ _ _ (fun n hn => ?_) hS
      rcases nds_chain hp h1 with ⟨_, h, _⟩ | ⟨_, h, _⟩
      · rw [h] at hn; cases hn
      · exact h.all n hn
theorem chkLok {p : Prf} (top lb : List UInt8) (h : p.ok) : (chkL_ p top lb).ok := by
  unfold chkL_
  by_cases a : chkE p top lb = 0
  · rw [if_pos a]
    cases hb : chkB p lb with
    | false => rw [if_neg (by decide)]; exact ⟨rfl, rfl⟩
    | true => rw [if_pos rfl]; exact h.lf
  · rw [if_neg a]; exact ⟨rfl, rfl⟩
theorem proofSure_spec (l : List Lef) (lb : List UInt8) (p0 : Prf) (hl : l.length ≤ 9223372036854775807) (hp0 : p0.path.length ≤ 9223372036854775807) (hok : ∀ x ∈ l, x.ok) (hlb : lb.length = 32) (hok0 : p0.ok) : Spec Try.prog 5 [.sl 65 (l.map Lef.A), labA lb, p0.A] [] (fun v os => v = .b true ∧ os = []) := by
  have h1 := few_spec l 20 hl (by decide)
  have hll : (l.take 20).length ≤ 20 := by rw [List.length_take]; omega
  have hok1 : ∀ x ∈ l.take 20, x.ok := fun x hx => hok x (List.mem_of_mem_take hx)
  clear hok
  generalize l.take 20 = L at h1 hll hok1
  have h2 := cut18_spec p0 hp0
  obtain ⟨okp, hpl⟩ := cutP_ok hok0
  generalize cutP18 p0 = p at *
  have hio : ∀ x ∈ itmsL L, x.ok := fun x hx => by
    obtain ⟨y, hy, rfl⟩ := List.mem_map.1 (srtI_mem.1 hx)
    exact leafI_ok y (hok1 y hy)
  have hil : (itmsL L).length = L.length := by unfold itmsL; rw [srtI_len, List.length_map]
  have h3 := of_spec L (by omega) hok1
  have h4 := top_spec (itmsL L) (by omega) hio
  rw [show chkI (itmsL L) = mkE L from rfl] at h4
  have h5 := awake18_spec
  have htl := topS_len (itmsL L) hio
  have h6 := prcheck_spec (topS (itmsL L)) lb p okp (by omega) htl hlb
  have h7 := pextract_spec L lb p (by omega) hok1 hlb okp (by omega)
  obtain ⟨l1, l2⟩ := exP_len (lb := lb) hok1 okp
  have h8 := sum_spec (exP L p lb).1 (by omega)
  have h9 := sum_spec (exP L p lb).2.1 (by omega)
  have hE0 : chkE p (topS (itmsL L)) lb ≠ 0 → chkL_ p (topS (itmsL L)) lb = lef0 ∧ chkO p (topS (itmsL L)) lb = false := fun h => ⟨if_neg h, if_neg h⟩
  have hE1 : mkE L = 0 → chkE p (topS (itmsL L)) lb = 0 → (exP L p lb).2.2 = true ∧ (exP L p lb).1 ≠ (exP L p lb).2.1 ∧ shaN (exP L p lb).1 = shaN (exP L p lb).2.1 ∨ ((chkO p (topS (itmsL L)) lb = true → chkL_ p (topS (itmsL L)) lb ∈ L ∧ (chkL_ p (topS (itmsL L)) lb).l = lb) ∧ (chkO p (topS (itmsL L)) lb = false → chkL_ p (topS (itmsL L)) lb = lef0) ∧ ∀ y ∈ L, y.l = lb → chkO p (topS (itmsL L)) lb = true ∧ chkL_ p (topS (itmsL L)) lb = y) := fun hc he => by
    have hn : (ndsF p lb).2 = 0 := by
      unfold chkE at he
      by_cases h : (ndsF p lb).2 ≠ 0
      · rw [if_pos h] at he; exact absurd he h
      · exact Decidable.not_not.1 h
    have hs : nsum (ndsF p lb).1 = topS (itmsL L) := by
      unfold chkE at he
      rw [if_neg (fun h => h hn)] at he
      by_cases h : nsum (ndsF p lb).1 = topS (itmsL L)
      · exact h
      · rw [if_neg h] at he; exact absurd he (by decide)
    rcases sure_law hok1 okp hc hn hs with ⟨a, b, e1, e2, e3⟩ | ⟨e1, e2⟩
    · left
      have hx : exP L p lb = (a, b, true) := by
        unfold exP
        rw [if_neg (fun h => h.elim (fun h => h hn) (fun h => h hc))]; exact e1
      rw [hx]; exact ⟨rfl, e2, e3⟩
    · right
      unfold chkO chkL_
      rw [he, if_pos rfl, if_pos rfl]
      unfold chkB
      refine ⟨fun h => ?_, fun h => ?_, fun y hy hyl => ?_⟩
      · rw [h, if_pos rfl]
        obtain ⟨q1, q2⟩ := (Bool.and_eq_true_iff).1 h
        have q2 := beq_iff_eq.1 q2
        exact ⟨e1 (beq_iff_eq.1 q1) q2, q2⟩
      · rw [h]; exact if_neg (by decide)
      · obtain ⟨q1, q2⟩ := e2 y hy hyl
        have hb : (p.e == 1 && p.lf.l == lb) = true := by rw [q1, q2, hyl]; simp
        rw [hb, if_pos rfl]
        exact ⟨rfl, q2⟩
  have hX0 := chkLok (topS (itmsL L)) lb okp
  have hpA : p.A = .agg [.i .i64 p.e, p.lf.A, .agg [p.a.A, p.b.A], .sl 66 (p.path.map Itm.A)] := rfl
  have hpA0 : p0.A = .agg [.i .i64 p0.e, p0.lf.A, .agg [p0.a.A, p0.b.A], .sl 66 (p0.path.map Itm.A)] := rfl
  have hXA : (chkL_ p (topS (itmsL L)) lb).A = .agg [labA (chkL_ p (topS (itmsL L)) lb).l, labA (chkL_ p (topS (itmsL L)) lb).v, .i .i64 (chkL_ p (topS (itmsL L)) lb).t] := rfl
  rw [hpA] at h2 h6 h7
  rw [hpA0] at h2 ⊢
  rw [hXA] at h6
  clear hio hil hpA hpA0 hXA l1 l2 htl hp0 hok0
  generalize chkL_ p (topS (itmsL L)) lb = X at *
  generalize chkO p (topS (itmsL L)) lb = ok at *
  generalize chkE p (topS (itmsL L)) lb = ce at *
  generalize exP L p lb = E at *
  obtain ⟨ea, eb, ec⟩ := E
  dsimp only at h7 h8 h9 hE1
  generalize topS (itmsL L) = top at *
  generalize itmsL L = I at *
  generalize mkE L = c at *
  refine spec_of TtOk [] Try.func5 rfl Try.ntmps5 (by kernel_rfl) rfl rfl (fun C => ?_) rfl
  by_cases hc : c ≠ 0
  · clear hE1 h6 h7 h8 h9
    repeat' (first | (refine o_freezeR 20 0 rfl rfl rfl ?_) | refine Awp.seq ?_ | refine Awp.region ?_ | (refine Ops.nil ?_; show Awp _ _ _ _ _) | (refine Awp.ret ?_; show endK _ _ _ _ _) | (refine o_calm rfl TtOk rfl rfl rfl ?_ (fun _ => ?_); first | exact True.intro | exact ⟨rfl, rfl, rfl, rfl⟩ | exact ⟨rfl, True.intro⟩ | exact ⟨rfl, rfl⟩ | exact ⟨rfl, rfl, rfl⟩ | exact rfl | exact ⟨fun h0 => by cases h0, rfl⟩ | exact (fun h0 => by cases h0) | exact ⟨rfl, by omega⟩ | exact ⟨Nat.succ_ne_zero _, rfl⟩ | omega) | refine o_alloc (d := 7) rfl TtOk rfl rfl rfl (fun b7 => ?_) | refine o_box (d := 4) rfl rfl rfl rfl (fun b4 => ?_) | refine o_box (d := 5) rfl rfl rfl rfl (fun b5 => ?_) | refine o_store TtOk rfl rfl rfl rfl rfl rfl rfl ⟨rfl, rfl⟩ rfl rfl rfl rfl rfl ?_ | (refine a_condN rfl (fun hc => ?_) (fun hc => ?_)) <;> (try (exfalso; omega)) | (refine o_callR rfl h1 ⟨SLe.of_eq rfl, SLe.of_eq rfl, True.intro⟩ rfl (fun vR => ?_)) | (refine o_call0 rfl (h2) ⟨SLe.of_eq rfl, True.intro⟩ rfl ?_; rintro _ _ ⟨rfl, rfl⟩; refine ⟨rfl, ?_⟩) | (refine o_call0 rfl (h3) ⟨SLe.of_eq rfl, True.intro⟩ rfl ?_; rintro _ _ ⟨rfl, rfl⟩; refine ⟨rfl, ?_⟩) | (refine o_call0 rfl (h4) ⟨SLe.of_eq rfl, True.intro⟩ rfl ?_; rintro _ _ ⟨rfl, rfl⟩; refine ⟨rfl, ?_⟩) | (refine o_call0 rfl (h5) True.intro rfl ?_; rintro _ _ ⟨rfl, rfl⟩; refine ⟨rfl, ?_⟩))
    all_goals exact end_tmp rfl rfl rfl [] [] (CLe.of_eq rfl) .nil ⟨rfl, rfl⟩ _ (.inl rfl)
  have hc := Decidable.not_not.1 hc
  subst hc
  have hE1 := hE1 rfl
  by_cases hce : ce ≠ 0
  · obtain ⟨rfl, rfl⟩ := hE0 hce
    have hq : eqLf lef0 lef0 = true := eqLf_self _
    clear hE1 h7 h8 h9
    repeat' (first | (refine o_freezeR 20 0 rfl rfl rfl ?_) | refine Awp.seq ?_ | refine Awp.region ?_ | (refine Ops.nil ?_; show Awp _ _ _ _ _) | (refine Awp.skip ?_; show Awp _ _ _ _ _) | (refine Awp.ret ?_; show endK _ _ _ _ _) | (refine o_calm rfl TtOk rfl rfl rfl ?_ (fun _ => ?_); first | exact True.intro | exact ⟨rfl, rfl, rfl, rfl⟩ | exact ⟨rfl, True.intro⟩ | exact ⟨rfl, rfl⟩ | exact ⟨rfl, rfl, rfl⟩ | exact rfl | exact ⟨fun h0 => by cases h0, rfl⟩ | exact (fun h0 => by cases h0) | exact ⟨rfl, by omega⟩ | exact ⟨Nat.succ_ne_zero _, rfl⟩ | omega) | refine o_alloc (d := 7) rfl TtOk rfl rfl rfl (fun b7 => ?_) | refine o_alloc (d := 9) rfl TtOk rfl rfl rfl (fun b9 => ?_) | refine o_box (d := 4) rfl rfl rfl rfl (fun b4 => ?_) | refine o_box (d := 5) rfl rfl rfl rfl (fun b5 => ?_) | refine o_store TtOk rfl rfl rfl rfl rfl rfl rfl ⟨rfl, rfl⟩ rfl rfl rfl rfl rfl ?_ | refine o_build TtOk rfl rfl rfl rfl rfl rfl (by repeat' (first | exact True.intro | exact rfl | refine ⟨?_, ?_⟩)) ?_ | refine a_condF rfl ?_ | (refine a_condN rfl (fun hc => ?_) (fun hc => ?_)) <;> (try (exfalso; omega)) | (refine o_callR rfl h1 ⟨SLe.of_eq rfl, SLe.of_eq rfl, True.intro⟩ rfl (fun vR => ?_)) | (refine o_eqLefN (p := lef0) (q := lef0) rfl rfl rfl rfl ?_; rw [hq]) | (refine o_call0 rfl (h2) ⟨SLe.of_eq rfl, True.intro⟩ rfl ?_; rintro _ _ ⟨rfl, rfl⟩; refine ⟨rfl, ?_⟩) | (refine o_call0 rfl (h3) ⟨SLe.of_eq rfl, True.intro⟩ rfl ?_; rintro _ _ ⟨rfl, rfl⟩; refine ⟨rfl, ?_⟩) | (refine o_call0 rfl (h4) ⟨SLe.of_eq rfl, True.intro⟩ rfl ?_; rintro _ _ ⟨rfl, rfl⟩; refine ⟨rfl, ?_⟩) | (refine o_call0 rfl (h5) True.intro rfl ?_; rintro _ _ ⟨rfl, rfl⟩; refine ⟨rfl, ?_⟩) | (refine o_call0 rfl (h6) ⟨SLe.of_eq rfl, SLe.of_eq rfl, SLe.of_eq rfl, True.intro⟩ rfl ?_; rintro _ _ ⟨rfl, rfl⟩; refine ⟨rfl, ?_⟩))
    all_goals exact end_tmp rfl rfl rfl [] [] (CLe.of_eq rfl) .nil ⟨rfl, rfl⟩ _ (.inl rfl)
  have hce := Decidable.not_not.1 hce
  subst hce
  have hE1 := hE1 rfl
  clear hE0
  repeat' (first | (refine o_freezeR 20 0 rfl rfl rfl ?_) | refine Awp.seq ?_ | refine Awp.block ?_ | refine Awp.region ?_ | (refine Ops.nil ?_; show Awp _ _ _ _ _) | (refine Awp.skip ?_; show Awp _ _ _ _ _) | refine o_len rfl TtOk rfl rfl rfl (fun _ => ?_) | (refine o_calm rfl TtOk rfl rfl rfl ?_ (fun _ => ?_); first | exact True.intro | exact ⟨rfl, rfl, rfl, rfl⟩ | exact ⟨rfl, True.intro⟩ | exact ⟨rfl, rfl⟩ | exact ⟨rfl, rfl, rfl⟩ | exact rfl | exact ⟨fun h0 => by cases h0, rfl⟩ | exact (fun h0 => by cases h0) | exact ⟨rfl, by omega⟩ | exact ⟨Nat.succ_ne_zero _, rfl⟩ | omega) | refine o_alloc (d := 7) rfl TtOk rfl rfl rfl (fun b7 => ?_) | refine o_alloc (d := 9) rfl TtOk rfl rfl rfl (fun b9 => ?_) | refine o_alloc (d := 13) rfl TtOk rfl rfl rfl (fun b13 => ?_) | refine o_box (d := 4) rfl rfl rfl rfl (fun b4 => ?_) | refine o_box (d := 5) rfl rfl rfl rfl (fun b5 => ?_) | refine o_store TtOk rfl rfl rfl rfl rfl rfl rfl ⟨rfl, rfl⟩ rfl rfl rfl rfl rfl ?_ | refine o_build TtOk rfl rfl rfl rfl rfl rfl (by repeat' (first | exact True.intro | exact rfl | refine ⟨?_, ?_⟩)) ?_ | refine a_condF rfl ?_ | (refine o_callR rfl h1 ⟨SLe.of_eq rfl, SLe.of_eq rfl, True.intro⟩ rfl (fun vR => ?_)) | (refine o_call0 rfl (h2) ⟨SLe.of_eq rfl, True.intro⟩ rfl ?_; rintro _ _ ⟨rfl, rfl⟩; refine ⟨rfl, ?_⟩) | (refine o_call0 rfl (h3) ⟨SLe.of_eq rfl, True.intro⟩ rfl ?_; rintro _ _ ⟨rfl, rfl⟩; refine ⟨rfl, ?_⟩) | (refine o_call0 rfl (h4) ⟨SLe.of_eq rfl, True.intro⟩ rfl ?_; rintro _ _ ⟨rfl, rfl⟩; refine ⟨rfl, ?_⟩) | (refine o_call0 rfl (h6) ⟨SLe.of_eq rfl, SLe.of_eq rfl, SLe.of_eq rfl, True.intro⟩ rfl ?_; rintro _ _ ⟨rfl, rfl⟩; refine ⟨rfl, ?_⟩))
  refine Awp.loop (fun q : Nat × Lef => ⟨98, [(55, .i .i64 q.1), (54, .i .i64 L.length), (53, .sl 65 (L.map Lef.A)), (12, .b ((L.take q.1).any (fun y => y.l == lb))), (0, .sl 65 (L.map Lef.A)), (10, .b ok), (4, .ptr 4 b4 [] 0), (5, .ptr 5 b5 [] 0), (9, .ptr 9 b9 [] 0), (13, .ptr 13 b13 [] 0)], [(13, .var b13 (.agg [labA q.2.l, labA q.2.v, .i .i64 q.2.t])), (9, .var b9 (.agg [labA X.l, labA X.v, .i .i64 X.t])), (5, .var b5 (.agg [.i .i64 p.e, p.lf.A, .agg [p.a.A, p.b.A], .sl 66 (p.path.map Itm.A)])), (4, .var b4 (labA lb))]⟩) (fun q => q.1 ≤ L.length ∧ ((L.take q.1).any (fun y => y.l == lb) = false → q.2 = lef0) ∧ ((L.take q.1).any (fun y => y.l == lb) = true → q.2 ∈ L ∧ q.2.l = lb)) (fun q => L.length - q.1) [] (0, lef0) ⟨Nat.zero_le _, fun _ => rfl, fun h => by cases h⟩ ?_ ?_
  · exact ⟨rfl, ⟨sle_i rfl, sle_i rfl, sle_sl rfl, sle_b rfl, sle_sl rfl, sle_b rfl, sle_ptr, sle_ptr, sle_ptr, sle_ptr, True.intro⟩, HLe.cons 13 rfl (HOLe.var (CLe.of_eq rfl)) (HLe.cons 9 rfl (HOLe.refl _) (HLe.cons 5 rfl (HOLe.refl _) (HLe.cons 4 rfl (HOLe.refl _) .nil)))⟩
  clear h1 h2 h3 h4 h6
  rintro ⟨i, z⟩ ⟨hi, z1, z2⟩
  dsimp only at hi z1 z2 ⊢
  by_cases hlt : i < L.length
  · have hi1 : ((i : Int) + 1 = ((i + 1 : Nat) : Int)) := by omega
    have hst : (L.take (i + 1)).any (fun y => y.l == lb) = ((L.take i).any (fun y => y.l == lb) || (L[i].l == lb)) := by
      rw [List.take_succ_eq_append_getElem hlt, List.any_append]
      simp only [List.any_cons, List.any_nil, Bool.or_false]
    by_cases he : L[i].l = lb
    · have hq : (L[i].l == lb) = true := beq_iff_eq.2 he
      rw [hq, Bool.or_true] at hst
      clear h5 h7 h8 h9
      repeat' (first | (rw [hq]) | refine Awp.seq ?_ | refine Awp.block ?_ | refine Awp.region ?_ | (refine Ops.nil ?_; show Awp _ _ _ _ _) | (refine Ops.nil ?_; show Exists _) | (refine Awp.skip ?_; show Awp _ _ _ _ _) | (refine o_add rfl rfl rfl rfl ?_ ?_; omega) | (refine o_calm rfl TtOk rfl rfl rfl ?_ (fun _ => ?_); first | exact True.intro | exact ⟨rfl, rfl, rfl, rfl⟩ | exact ⟨rfl, True.intro⟩ | exact ⟨rfl, rfl⟩ | exact ⟨rfl, rfl, rfl⟩ | exact rfl | exact ⟨fun h0 => by cases h0, rfl⟩ | exact (fun h0 => by cases h0) | exact ⟨rfl, by omega⟩ | exact ⟨Nat.succ_ne_zero _, rfl⟩ | omega) | refine o_alloc (d := 15) rfl TtOk rfl rfl rfl (fun b15 => ?_) | refine o_store TtOk rfl rfl rfl rfl rfl rfl rfl ⟨rfl, rfl⟩ rfl rfl rfl rfl rfl ?_ | (refine o_index rfl TtOk rfl rfl rfl rfl rfl rfl ?_ (getq_nat ?_) ?_; omega; omega) | refine o_eqArr8 TtOk rfl rfl rfl rfl rfl rfl (by kernel_rfl) ?_ | refine a_condT rfl ?_ | (refine a_condP rfl (fun hc => ?_) (fun hc => ?_)) <;> (try (exfalso; omega)))
      all_goals
        exact ⟨(i + 1, L[i]), [], ⟨hlt, (fun h => by have h2 := hst.symm.trans h; cases h2), fun _ => ⟨List.getElem_mem hlt, he⟩⟩, by show L.length - (i + 1) < L.length - i; omega, rfl, ⟨sle_i hi1, sle_i rfl, sle_sl rfl, sle_b hst.symm, sle_sl rfl, sle_b rfl, sle_ptr, sle_ptr, sle_ptr, sle_ptr, True.intro⟩, HLe.cons 13 rfl (HOLe.var (CLe.of_eq rfl)) (HLe.cons 9 rfl (HOLe.refl _) (HLe.cons 5 rfl (HOLe.refl _) (HLe.cons 4 rfl (HOLe.refl _) .nil)))⟩
    · have hq : (L[i].l == lb) = false := beq_eq_false_iff_ne.2 he
      rw [hq, Bool.or_false] at hst
      clear h5 h7 h8 h9
      repeat' (first | (rw [hq]) | refine Awp.seq ?_ | refine Awp.block ?_ | refine Awp.region ?_ | (refine Ops.nil ?_; show Awp _ _ _ _ _) | (refine Ops.nil ?_; show Exists _) | (refine Awp.skip ?_; show Awp _ _ _ _ _) | (refine o_add rfl rfl rfl rfl ?_ ?_; omega) | (refine o_calm rfl TtOk rfl rfl rfl ?_ (fun _ => ?_); first | exact True.intro | exact ⟨rfl, rfl, rfl, rfl⟩ | exact ⟨rfl, True.intro⟩ | exact ⟨rfl, rfl⟩ | exact ⟨rfl, rfl, rfl⟩ | exact rfl | exact ⟨fun h0 => by cases h0, rfl⟩ | exact (fun h0 => by cases h0) | exact ⟨rfl, by omega⟩ | exact ⟨Nat.succ_ne_zero _, rfl⟩ | omega) | refine o_alloc (d := 15) rfl TtOk rfl rfl rfl (fun b15 => ?_) | refine o_store TtOk rfl rfl rfl rfl rfl rfl rfl ⟨rfl, rfl⟩ rfl rfl rfl rfl rfl ?_ | (refine o_index rfl TtOk rfl rfl rfl rfl rfl rfl ?_ (getq_nat ?_) ?_; omega; omega) | refine o_eqArr8 TtOk rfl rfl rfl rfl rfl rfl (by kernel_rfl) ?_ | refine a_condF rfl ?_ | (refine a_condP rfl (fun hc => ?_) (fun hc => ?_)) <;> (try (exfalso; omega)))
      all_goals
        exact ⟨(i + 1, z), [], ⟨hlt, (fun h => z1 (hst.symm.trans h)), fun h => z2 (hst.symm.trans h)⟩, by show L.length - (i + 1) < L.length - i; omega, rfl, ⟨sle_i hi1, sle_i rfl, sle_sl rfl, sle_b hst.symm, sle_sl rfl, sle_b rfl, sle_ptr, sle_ptr, sle_ptr, sle_ptr, True.intro⟩, HLe.cons 13 rfl (HOLe.refl _) (HLe.cons 9 rfl (HOLe.refl _) (HLe.cons 5 rfl (HOLe.refl _) (HLe.cons 4 rfl (HOLe.refl _) .nil)))⟩
  · have hie : i = L.length := by omega
    subst hie
    rw [List.take_length] at z1 z2 ⊢
    have hany : ∀ y ∈ L, y.l = lb → L.any (fun y => y.l == lb) = true := fun y hy hyl => List.any_eq_true.2 ⟨y, hy, beq_iff_eq.2 hyl⟩
    by_cases hT : ok = L.any (fun y => y.l == lb) ∧ X = z
    · have hq1 : (ok == L.any (fun y => y.l == lb)) = true := beq_iff_eq.2 hT.1
      have hq2 : eqLf X z = true := eqLf_iff.2 hT.2
      clear h7 h8 h9 hE1
      repeat' (first | (rw [hq1]) | refine Awp.seq ?_ | refine Awp.region ?_ | (refine Ops.nil ?_; show Awp _ _ _ _ _) | (refine Awp.exit ?_; show Awp _ _ _ _ _) | (refine Awp.ret ?_; show endK _ _ _ _ _) | (refine o_calm rfl TtOk rfl rfl rfl ?_ (fun _ => ?_); first | exact True.intro | exact ⟨rfl, rfl, rfl, rfl⟩ | exact ⟨rfl, True.intro⟩ | exact ⟨rfl, rfl⟩ | exact ⟨rfl, rfl, rfl⟩ | exact rfl | exact ⟨fun h0 => by cases h0, rfl⟩ | exact (fun h0 => by cases h0) | exact ⟨rfl, by omega⟩ | exact ⟨Nat.succ_ne_zero _, rfl⟩ | omega) | refine a_condT rfl ?_ | (refine a_condP rfl (fun hc => ?_) (fun hc => ?_)) <;> (try (exfalso; omega)) | (refine o_eqLefN (p := X) (q := z) rfl rfl rfl rfl ?_; rw [hq2]) | (refine o_call0 rfl (h5) True.intro rfl ?_; rintro _ _ ⟨rfl, rfl⟩; refine ⟨rfl, ?_⟩))
      all_goals exact end_tmp rfl rfl rfl [] [] (CLe.of_eq rfl) .nil ⟨rfl, rfl⟩ _ (.inl rfl)
    · have hA : ec = true ∧ ea ≠ eb ∧ shaN ea = shaN eb := by
        rcases hE1 with h | ⟨e1, e2, e3⟩
        · exact h
        · refine absurd ?_ hT
          cases ha : L.any (fun y => y.l == lb) with
          | true =>
            obtain ⟨m1, m2⟩ := z2 ha
            exact e3 z m1 m2
          | false =>
            cases ho : ok with
            | true =>
              obtain ⟨m1, m2⟩ := e1 ho
              have := hany X m1 m2
              rw [ha] at this; cases this
            | false => exact ⟨rfl, by rw [e2 ho, z1 ha]⟩
      obtain ⟨rfl, hne, hsum⟩ := hA
      rw [hsum] at h8
      have hq3 : (!(ea == eb)) = true := by rw [beq_eq_false_iff_ne.2 hne]; rfl
      have hq4 : (shaN eb == shaN eb) = true := beq_self_eq_true _
      clear hsum hne hE1 hany
      generalize shaN eb = sb at *
      by_cases ho : ok = L.any (fun y => y.l == lb)
      · have hq1 : (ok == L.any (fun y => y.l == lb)) = true := beq_iff_eq.2 ho
        have hq2 : eqLf X z = false := eqLf_ne (fun h => hT ⟨ho, h⟩)
        repeat' (first | (rw [hq4]) | (rw [hq3]) | (rw [hq1]) | refine Awp.seq ?_ | refine Awp.region ?_ | (refine Ops.nil ?_; show Awp _ _ _ _ _) | (refine Awp.skip ?_; show Awp _ _ _ _ _) | (refine Awp.exit ?_; show Awp _ _ _ _ _) | (refine Awp.ret ?_; show endK _ _ _ _ _) | (refine o_calm rfl TtOk rfl rfl rfl ?_ (fun _ => ?_); first | exact True.intro | exact ⟨rfl, rfl, rfl, rfl⟩ | exact ⟨rfl, True.intro⟩ | exact ⟨rfl, rfl⟩ | exact ⟨rfl, rfl, rfl⟩ | exact rfl | exact ⟨fun h0 => by cases h0, rfl⟩ | exact (fun h0 => by cases h0) | exact ⟨rfl, by omega⟩ | exact ⟨Nat.succ_ne_zero _, rfl⟩ | omega) | refine o_eqArr8 TtOk rfl rfl rfl rfl rfl rfl (by kernel_rfl) ?_ | refine a_condF rfl ?_ | (refine a_condP rfl (fun hc => ?_) (fun hc => ?_)) <;> (try (exfalso; omega)) | (refine o_eqLefN (p := X) (q := z) rfl rfl rfl rfl ?_; rw [hq2]) | (refine o_call0 rfl (h5) True.intro rfl ?_; rintro _ _ ⟨rfl, rfl⟩; refine ⟨rfl, ?_⟩) | (refine o_call0 rfl (h7) ⟨SLe.of_eq rfl, SLe.of_eq rfl, SLe.of_eq rfl, True.intro⟩ rfl ?_; rintro _ _ ⟨rfl, rfl⟩; refine ⟨rfl, ?_⟩) | (refine o_call0 rfl (h8) ⟨SLe.of_eq rfl, True.intro⟩ rfl ?_; rintro _ _ ⟨rfl, rfl⟩; refine ⟨rfl, ?_⟩) | (refine o_call0 rfl (h9) ⟨SLe.of_eq rfl, True.intro⟩ rfl ?_; rintro _ _ ⟨rfl, rfl⟩; refine ⟨rfl, ?_⟩))
        all_goals exact end_tmp rfl rfl rfl [] [] (CLe.of_eq rfl) .nil ⟨rfl, rfl⟩ _ (.inl rfl)
      · have hq1 : (ok == L.any (fun y => y.l == lb)) = false := beq_eq_false_iff_ne.2 ho
        repeat' (first | (rw [hq4]) | (rw [hq3]) | (rw [hq1]) | refine Awp.seq ?_ | refine Awp.region ?_ | (refine Ops.nil ?_; show Awp _ _ _ _ _) | (refine Awp.skip ?_; show Awp _ _ _ _ _) | (refine Awp.exit ?_; show Awp _ _ _ _ _) | (refine Awp.ret ?_; show endK _ _ _ _ _) | refine o_noT rfl rfl rfl ?_ | (refine o_calm rfl TtOk rfl rfl rfl ?_ (fun _ => ?_); first | exact True.intro | exact ⟨rfl, rfl, rfl, rfl⟩ | exact ⟨rfl, True.intro⟩ | exact ⟨rfl, rfl⟩ | exact ⟨rfl, rfl, rfl⟩ | exact rfl | exact ⟨fun h0 => by cases h0, rfl⟩ | exact (fun h0 => by cases h0) | exact ⟨rfl, by omega⟩ | exact ⟨Nat.succ_ne_zero _, rfl⟩ | omega) | refine o_eqArr8 TtOk rfl rfl rfl rfl rfl rfl (by kernel_rfl) ?_ | refine a_condF rfl ?_ | (refine a_condP rfl (fun hc => ?_) (fun hc => ?_)) <;> (try (exfalso; omega)) | (refine o_call0 rfl (h5) True.intro rfl ?_; rintro _ _ ⟨rfl, rfl⟩; refine ⟨rfl, ?_⟩) | (refine o_call0 rfl (h7) ⟨SLe.of_eq rfl, SLe.of_eq rfl, SLe.of_eq rfl, True.intro⟩ rfl ?_; rintro _ _ ⟨rfl, rfl⟩; refine ⟨rfl, ?_⟩) | (refine o_call0 rfl (h8) ⟨SLe.of_eq rfl, True.intro⟩ rfl ?_; rintro _ _ ⟨rfl, rfl⟩; refine ⟨rfl, ?_⟩) | (refine o_call0 rfl (h9) ⟨SLe.of_eq rfl, True.intro⟩ rfl ?_; rintro _ _ ⟨rfl, rfl⟩; refine ⟨rfl, ?_⟩))
        all_goals exact end_tmp rfl rfl rfl [] [] (CLe.of_eq rfl) .nil ⟨rfl, rfl⟩ _ (.inl rfl)
end Go.Proofs.Ytcmgpkibjdbonaa
