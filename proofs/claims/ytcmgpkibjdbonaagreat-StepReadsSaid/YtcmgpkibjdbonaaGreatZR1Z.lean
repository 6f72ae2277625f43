/- ref19.leaves by rules. -/
import Derived.Test.YtcmgpkibjdbonaaGreatN3Z
set_option maxHeartbeats 16000000
set_option maxRecDepth 100000
namespace Go.Proofs.YtcmgpkibjdbonaaGreat
open Go Go.RowKit
theorem lef_t0 (r : RS) : 0 ≤ r.lef.1.t := Int.natCast_nonneg _
theorem rleaves19_spec (r : RS) (hok : r.ok) (h3 : r.e ≠ 3) : Spec Tryz.prog 123 [rdA r] [] (fun v os => ∃ r' l, Rel19 (lvs r) r' l ∧ r'.ok ∧ r'.e ≠ 3 ∧ v = .tup [rdA r', .sl 65 (l.map Lef.A)] ∧ os = []) := by
  obtain ⟨W, hW⟩ : ∃ W, lvs r = W := ⟨_, rfl⟩
  rw [hW]
  unfold lvs at hW
  have k1 := cnumber_spec r hok
  have k2 := cfail_spec 2 r.number.2
  have o1 := RS.ok_number hok
  have e1 := e3_number h3
  refine spec_of TtOk [] Tryz.func123 rfl Tryz.ntmps123 (by kernel_rfl) rfl rfl (fun C => ?_) rfl
  by_cases hb : 500 < r.number.1
  · have e0 := e0_number (r := r) (by omega)
    have hB : r.below ((501 : Nat) : Int) = (0, r.number.2.fail 2) := by
      unfold RS.below; rw [if_pos (by omega)]
    rw [hB] at hW
    have o2 := RS.ok_fail o1 2
    have e2 := e3_fail e1 2 (by decide)
    have hx : Rel19 W (r.number.2.fail 2) [] := by
      subst hW
      exact ⟨fun _ => ⟨rfl, fun _ => ⟨rfl, rfl⟩⟩, fun h => absurd rfl h⟩
    clear hB hW
    generalize r.number.2.fail 2 = c at *
    generalize r.number = q at *
    repeat' (first | refine Awp.seq ?_ | refine Awp.region ?_ | (refine Ops.nil ?_; show Awp _ _ _ _ _) | (refine Awp.ret ?_; show endK _ _ _ _ _) | (refine o_calm rfl TtOk rfl rfl rfl ?_ (fun _ => ?_); exact nd) | refine o_alloc (d := 2) rfl TtOk rfl rfl rfl (fun b2 => ?_) | refine o_box (d := 1) rfl rfl rfl rfl (fun b1 => ?_) | refine o_store TtOk rfl rfl rfl rfl rfl rfl rfl ⟨rfl, rfl⟩ rfl rfl rfl rfl rfl ?_ | (refine a_condP rfl (fun hc => ?_) (fun hc => ?_)) <;> (try (exfalso; omega)) | (refine o_call0 rfl (k1) ⟨SLe.of_eq rfl, True.intro⟩ rfl ?_; rintro _ _ ⟨rfl, rfl⟩; refine ⟨rfl, ?_⟩) | (refine o_call0 rfl (k2) ⟨SLe.of_eq rfl, SLe.of_eq rfl, True.intro⟩ rfl ?_; rintro _ _ ⟨rfl, rfl⟩; refine ⟨rfl, ?_⟩))
    all_goals
      refine end_all [] [] (.tup [rdA c, .sl 65 (([] : List Lef).map Lef.A)]) rfl ?_ ?_ (rle_tup2 (CLe.of_eq rfl) CLe.nilsl rfl rfl) .nil ⟨c, [], hx, o2, e2, rfl, rfl⟩ _ (.inl rfl)
      · repeat' (first | exact True.intro | exact rfl | refine ⟨?_, ?_⟩)
      · exact ⟨trivial, trivial, trivial⟩
  have hB : r.below ((501 : Nat) : Int) = r.number := by
    unfold RS.below; rw [if_neg (by omega)]
  rw [hB] at hW
  have en : r.number.1 ≠ 0 → r.number.2.e = 0 := e0_number
  clear hB k2
  generalize r.number = q at *
  obtain ⟨n, r1⟩ := q
  dsimp only at hW o1 e1 en k1 hb
  have hR : r1.e ≠ 0 → Rel19 W r1 [] := fun h => by
    have hn : n = 0 := Decidable.byContradiction (fun c => h (en c))
    subst hn
    subst hW
    exact ⟨fun _ => ⟨rfl, fun h0 => absurd h0 h⟩, fun h => absurd rfl h⟩
  repeat' (first | refine Awp.seq ?_ | refine Awp.block ?_ | refine Awp.region ?_ | (refine Ops.nil ?_; show Awp _ _ _ _ _) | (refine Awp.skip ?_; show Awp _ _ _ _ _) | (refine o_calm rfl TtOk rfl rfl rfl ?_ (fun _ => ?_); exact nd) | refine o_alloc (d := 2) rfl TtOk rfl rfl rfl (fun b2 => ?_) | refine o_box (d := 1) rfl rfl rfl rfl (fun b1 => ?_) | refine o_store TtOk rfl rfl rfl rfl rfl rfl rfl ⟨rfl, rfl⟩ rfl rfl rfl rfl rfl ?_ | refine o_buildSlice (d := 18) TtOk rfl rfl rfl rfl rfl rfl rfl rfl rfl rfl rfl (by repeat' (first | exact True.intro | exact rfl | refine ⟨?_, ?_⟩)) (fun v18 => ?_) | (refine a_condP rfl (fun hc => ?_) (fun hc => ?_)) <;> (try (exfalso; omega)) | (refine o_call0 rfl (k1) ⟨SLe.of_eq rfl, True.intro⟩ rfl ?_; rintro _ _ ⟨rfl, rfl⟩; refine ⟨rfl, ?_⟩))
  refine Awp.loop (fun q : Nat × List Lef × RS × Value => ⟨46, [(6, .i .i64 q.1), (4, .i .i64 n), (5, .own 18 q.2.2.2), (1, .ptr 1 b1 [] 0), (2, .ptr 2 b2 [] 0)], [(1, .var b1 (rdA q.2.2.1)), (18, .row q.2.2.2 58 65 (q.2.1.map Lef.A)), (2, .var b2 (.agg [.s [], .i .i64 0, .i .i64 0]))]⟩) (fun q => q.1 ≤ n ∧ q.2.1.length = q.1 ∧ q.2.2.1.ok ∧ q.2.2.1.e ≠ 3 ∧ (q.2.2.1.e = 0 → rLs (n - q.1) q.2.1 q.2.2.1 = W) ∧ (q.2.2.1.e ≠ 0 → Rel19 W q.2.2.1 q.2.1)) (fun q => n - q.1) [] (0, [], r1, v18) ⟨Nat.zero_le _, rfl, o1, e1, fun _ => hW, hR⟩ ?_ ?_
  · exact ⟨rfl, ⟨sle_i rfl, sle_i rfl, sle_own, sle_ptr, sle_ptr, True.intro⟩, HLe.cons 1 rfl (HOLe.refl _) (HLe.cons 18 rfl (HOLe.refl _) (HLe.cons 2 rfl (HOLe.refl _) .nil))⟩
  clear hW o1 e1 k1 hok hR en h3
  rintro ⟨i, p, r, v⟩ ⟨hi, hpl, o1, e1, hst, hrl⟩
  dsimp only at hi hpl o1 e1 hst hrl ⊢
  by_cases he : r.e = 0
  · by_cases hlt : i < n
    · have hi1 : ((i : Int) + 1 = ((i + 1 : Nat) : Int)) := by omega
      have hst := hst he
      rw [show n - i = (n - (i + 1)) + 1 by omega, rLs] at hst
      have k3 := rleaf15_spec r o1
      have o2 := RS.ok_lef o1
      have e2 := e3_lef e1
      have t0 := lef_t0 r
      have k4 := cfail_spec 1 r.lef.2
      have o3 := RS.ok_fail o2 1
      have e3 := e3_fail e2 1 (by decide)
      have hf0 : r.lef.2.e = 0 → (r.lef.2.fail 1).e = 1 := fun h => by unfold RS.fail; rw [if_pos h]
      have hf1 : r.lef.2.e ≠ 0 → r.lef.2.fail 1 = r.lef.2 := fun h => keep_fail h 1
      have hdn := e3_done e2
      generalize r.lef = y at *
      obtain ⟨⟨l, s, t⟩, r2⟩ := y
      have hxA : (⟨l, s, t⟩ : Lef).A = .agg [labA l, labA s, .i .i64 t] := rfl
      dsimp only at hst k3 o2 e2 t0 k4 o3 e3 hf0 hf1 hdn
      rw [hxA] at k3
      by_cases ht : 1073741824 < t
      · have hc1 : chkLf ⟨l, s, t⟩ ≠ 0 := by
          unfold chkLf; rw [if_pos (.inr ht)]; decide
        have hx : Rel19 W (r2.fail 1) (p ++ [⟨l, s, t⟩]) ∧ (r2.fail 1).e ≠ 0 := by
          by_cases hz : r2.e = 0
          · rw [if_neg (fun h => (hdn.1 h) hz), if_neg hc1] at hst
            subst hst
            exact ⟨⟨fun h => absurd h (show (1 : Int) ≠ 0 by decide), fun _ => hf0 hz⟩, by rw [hf0 hz]; decide⟩
          · rw [if_pos (hdn.2 hz)] at hst
            subst hst
            rw [hf1 hz]
            exact ⟨⟨fun h => absurd h (hdn.2 hz).1, fun _ => (doneE hz).symm⟩, hz⟩
        clear hst hf0 hf1 hdn hrl hc1
        generalize r2.fail 1 = c at *
        repeat' (first | refine Awp.seq ?_ | refine Awp.block ?_ | refine Awp.region ?_ | (refine Ops.nil ?_; show Awp _ _ _ _ _) | (refine Ops.nil ?_; show Exists _) | (refine Awp.skip ?_; show Awp _ _ _ _ _) | (refine o_add rfl rfl rfl rfl ?_ ?_; omega) | (refine o_calm rfl TtOk rfl rfl rfl ?_ (fun _ => ?_); exact nd) | refine o_alloc (d := 7) rfl TtOk rfl rfl rfl (fun b7 => ?_) | refine o_alloc (d := 8) rfl TtOk rfl rfl rfl (fun b8 => ?_) | refine o_store TtOk rfl rfl rfl rfl rfl rfl rfl ⟨rfl, rfl⟩ rfl rfl rfl rfl rfl ?_ | refine o_buildSlice (d := 42) TtOk rfl rfl rfl rfl rfl rfl rfl rfl rfl rfl rfl (by repeat' (first | exact True.intro | exact rfl | refine ⟨?_, ?_⟩)) (fun v42 => ?_) | (refine o_append TtOk rfl rfl rfl rfl rfl rfl rfl rfl rfl (by first | exact True.intro | exact rfl) rfl rfl (fun _ => rfl) ?_ ?_ (fun _ => ?_); ((repeat' (first | rw [List.length_append] | rw [List.length_map] | rw [List.length_cons] | rw [List.length_nil] | rw [List.length_take] | rw [List.length_drop])) <;> omega); ((repeat' (first | rw [List.length_append] | rw [List.length_map] | rw [List.length_cons] | rw [List.length_nil] | rw [List.length_take] | rw [List.length_drop])) <;> omega)) | (fail_if_success (refine o_isLit rfl (by first | exact .inl rfl | exact .inr rfl) ?_)); (refine o_splitP rfl rfl (fun hc => ?_) (fun hc => ?_) <;> try (exfalso; omega)) | (refine a_condP rfl (fun hc => ?_) (fun hc => ?_)) <;> (try (exfalso; omega)) | (refine o_call0 rfl (k3) ⟨SLe.of_eq rfl, True.intro⟩ rfl ?_; rintro _ _ ⟨rfl, rfl⟩; refine ⟨rfl, ?_⟩) | (refine o_call0 rfl (k4) ⟨SLe.of_eq rfl, SLe.of_eq rfl, True.intro⟩ rfl ?_; rintro _ _ ⟨rfl, rfl⟩; refine ⟨rfl, ?_⟩))
        all_goals exact ⟨(i + 1, p ++ [⟨l, s, t⟩], c, _), [], ⟨hlt, by show (p ++ [_]).length = i + 1; rw [List.length_append, List.length_singleton, hpl], o3, e3, fun h => absurd h hx.2, fun _ => hx.1⟩, by show n - (i + 1) < n - i; omega, rfl, ⟨sle_i hi1, sle_i rfl, sle_own, sle_ptr, sle_ptr, True.intro⟩, HLe.cons 1 rfl (HOLe.refl _) (HLe.cons 18 rfl (HOLe.row (by rw [List.map_append]; rfl)) (HLe.cons 2 rfl (HOLe.refl _) .nil))⟩
      · have hc0 : chkLf ⟨l, s, t⟩ = 0 := by
          unfold chkLf; rw [if_neg (by show ¬ (t < 0 ∨ 1073741824 < t); omega)]
        have hx : (r2.e = 0 → rLs (n - (i + 1)) (p ++ [⟨l, s, t⟩]) r2 = W) ∧ (r2.e ≠ 0 → Rel19 W r2 (p ++ [⟨l, s, t⟩])) := by
          refine ⟨fun hz => ?_, fun hz => ?_⟩
          · rw [if_neg (fun h => (hdn.1 h) hz), if_pos hc0] at hst
            exact hst
          · rw [if_pos (hdn.2 hz)] at hst
            subst hst
            exact ⟨fun h => absurd h (hdn.2 hz).1, fun _ => (doneE hz).symm⟩
        clear hst hf0 hf1 hdn hrl hc0 k4 o3 e3
        repeat' (first | refine Awp.seq ?_ | refine Awp.block ?_ | refine Awp.region ?_ | (refine Ops.nil ?_; show Awp _ _ _ _ _) | (refine Ops.nil ?_; show Exists _) | (refine Awp.skip ?_; show Awp _ _ _ _ _) | (refine o_add rfl rfl rfl rfl ?_ ?_; omega) | (refine o_calm rfl TtOk rfl rfl rfl ?_ (fun _ => ?_); exact nd) | refine o_alloc (d := 7) rfl TtOk rfl rfl rfl (fun b7 => ?_) | refine o_alloc (d := 8) rfl TtOk rfl rfl rfl (fun b8 => ?_) | refine o_store TtOk rfl rfl rfl rfl rfl rfl rfl ⟨rfl, rfl⟩ rfl rfl rfl rfl rfl ?_ | refine o_buildSlice (d := 42) TtOk rfl rfl rfl rfl rfl rfl rfl rfl rfl rfl rfl (by repeat' (first | exact True.intro | exact rfl | refine ⟨?_, ?_⟩)) (fun v42 => ?_) | (refine o_append TtOk rfl rfl rfl rfl rfl rfl rfl rfl rfl (by first | exact True.intro | exact rfl) rfl rfl (fun _ => rfl) ?_ ?_ (fun _ => ?_); ((repeat' (first | rw [List.length_append] | rw [List.length_map] | rw [List.length_cons] | rw [List.length_nil] | rw [List.length_take] | rw [List.length_drop])) <;> omega); ((repeat' (first | rw [List.length_append] | rw [List.length_map] | rw [List.length_cons] | rw [List.length_nil] | rw [List.length_take] | rw [List.length_drop])) <;> omega)) | (fail_if_success (refine o_isLit rfl (by first | exact .inl rfl | exact .inr rfl) ?_)); (refine o_splitP rfl rfl (fun hc => ?_) (fun hc => ?_) <;> try (exfalso; omega)) | (refine a_condP rfl (fun hc => ?_) (fun hc => ?_)) <;> (try (exfalso; omega)) | (refine o_call0 rfl (k3) ⟨SLe.of_eq rfl, True.intro⟩ rfl ?_; rintro _ _ ⟨rfl, rfl⟩; refine ⟨rfl, ?_⟩))
        all_goals exact ⟨(i + 1, p ++ [⟨l, s, t⟩], r2, _), [], ⟨hlt, by show (p ++ [_]).length = i + 1; rw [List.length_append, List.length_singleton, hpl], o2, e2, hx.1, hx.2⟩, by show n - (i + 1) < n - i; omega, rfl, ⟨sle_i hi1, sle_i rfl, sle_own, sle_ptr, sle_ptr, True.intro⟩, HLe.cons 1 rfl (HOLe.refl _) (HLe.cons 18 rfl (HOLe.row (by rw [List.map_append]; rfl)) (HLe.cons 2 rfl (HOLe.refl _) .nil))⟩
    · have hie : i = n := by omega
      have hx : Rel19 W r p := by
        have hst := hst he
        rw [hie, Nat.sub_self, rLs] at hst
        subst hst
        exact ⟨fun _ => ⟨rfl, fun _ => ⟨rfl, rfl⟩⟩, fun h => absurd rfl h⟩
      clear hst hrl
      repeat' (first | refine Awp.seq ?_ | refine Awp.region ?_ | (refine Ops.nil ?_; show Awp _ _ _ _ _) | (refine Awp.exit ?_; show Awp _ _ _ _ _) | (refine Awp.ret ?_; show endK _ _ _ _ _) | refine o_offT rfl rfl rfl (by first | exact .inl rfl | exact .inr rfl) ?_ | (refine o_calm rfl TtOk rfl rfl rfl ?_ (fun _ => ?_); exact nd) | refine o_store TtOk rfl rfl rfl rfl rfl rfl rfl ⟨rfl, rfl⟩ rfl rfl rfl rfl rfl ?_ | (fail_if_success (refine o_isLit rfl (by first | exact .inl rfl | exact .inr rfl) ?_)); (refine o_splitP rfl rfl (fun hc => ?_) (fun hc => ?_) <;> try (exfalso; omega)) | refine a_condF rfl ?_)
      all_goals
        refine end_all [18] [] (.tup [rdA r, .sl 65 (p.map Lef.A)]) rfl ?_ ?_ (rle_tup2 (CLe.of_eq rfl) (CLe.fz (.head _)) rfl rfl) .nil ⟨r, p, hx, o1, e1, rfl, rfl⟩ _ (.inl rfl)
        · repeat' (first | exact True.intro | exact rfl | refine ⟨?_, ?_⟩)
        · exact ⟨trivial, trivial, trivial⟩
  · have hx := hrl he
    clear hst hrl
    by_cases hlt : i < n
    all_goals
      repeat' (first | refine Awp.seq ?_ | refine Awp.region ?_ | (refine Ops.nil ?_; show Awp _ _ _ _ _) | (refine Awp.exit ?_; show Awp _ _ _ _ _) | (refine Awp.ret ?_; show endK _ _ _ _ _) | refine o_offT rfl rfl rfl (by first | exact .inl rfl | exact .inr rfl) ?_ | (refine o_calm rfl TtOk rfl rfl rfl ?_ (fun _ => ?_); exact nd) | refine o_store TtOk rfl rfl rfl rfl rfl rfl rfl ⟨rfl, rfl⟩ rfl rfl rfl rfl rfl ?_ | (fail_if_success (refine o_isLit rfl (by first | exact .inl rfl | exact .inr rfl) ?_)); (refine o_splitP rfl rfl (fun hc => ?_) (fun hc => ?_) <;> try (exfalso; omega)) | refine a_condF rfl ?_ | (refine a_condP rfl (fun hc => ?_) (fun hc => ?_)) <;> (try (exfalso; omega)))
      all_goals
        refine end_all [18] [] (.tup [rdA r, .sl 65 (p.map Lef.A)]) rfl ?_ ?_ (rle_tup2 (CLe.of_eq rfl) (CLe.fz (.head _)) rfl rfl) .nil ⟨r, p, hx, o1, e1, rfl, rfl⟩ _ (.inl rfl)
        · repeat' (first | exact True.intro | exact rfl | refine ⟨?_, ?_⟩)
        · exact ⟨trivial, trivial, trivial⟩
end Go.Proofs.YtcmgpkibjdbonaaGreat
set_option maxHeartbeats 16000000
set_option maxRecDepth 100000
namespace Go.Proofs.YtcmgpkibjdbonaaGreat
open Go Go.RowKit
theorem rread19_spec (s : List UInt8) (hs : s.length ≤ 9223372036854775807) : Spec Tryz.prog 39 [.s s] [] (fun v os => v = .tup [(stRd s).1.R, .i .i64 (stRd s).2] ∧ os = []) := by
  obtain ⟨V, hV⟩ : ∃ V, stRd s = V := ⟨_, rfl⟩
  rw [hV]
  unfold stRd at hV
  have k0 := copen_spec s
  have o0 := RS.ok_open hs
  have e0 := e3_open s
  generalize RS.open s = r at *
  have k1 := cnumber_spec r o0
  have o1 := RS.ok_number o0
  have e1 := e3_number e0
  refine spec_of TtOk [] Tryz.func39 rfl Tryz.ntmps39 (by kernel_rfl) rfl rfl (fun C => ?_) rfl
  by_cases hb : 2000 < r.number.1
  · have ez := e0_number (r := r) (by omega)
    have hB : r.below ((2001 : Nat) : Int) = (0, r.number.2.fail 2) := by
      unfold RS.below; rw [if_pos (by omega)]
    have hf : (r.number.2.fail 2).e = 2 := by unfold RS.fail; rw [if_pos ez]
    have hV2 : (stp0, 2) = V := by
      rw [hB] at hV
      rw [← hV]
      generalize r.number.2.fail 2 = c at *
      have hc : c.e ≠ 0 := by rw [hf]; decide
      show _ = stA ([], 0, c)
      unfold stA stB
      rw [if_neg (fun h => h rfl)]
      show _ = if (lvs c).2.1 ≠ 0 then _ else stC [] (lvs c).1 (lvs (lvs c).2.2)
      rw [keep_lvs hc, if_neg (fun h => h rfl)]
      show _ = stC [] [] (lvs c)
      rw [keep_lvs hc]
      unfold stC
      rw [if_neg (fun h => h rfl), if_pos (by show c.done ≠ 0; rw [doneE hc]; exact hc), show c.done = 2 by rw [doneE hc, hf]]
    subst hV2
    clear hB hf hV
    generalize r.number = q at *
    repeat' (first | refine Awp.seq ?_ | refine Awp.region ?_ | (refine Ops.nil ?_; show Awp _ _ _ _ _) | (refine Awp.ret ?_; show endK _ _ _ _ _) | (refine o_calm rfl TtOk rfl rfl rfl ?_ (fun _ => ?_); exact nd) | refine o_alloc (d := 2) rfl TtOk rfl rfl rfl (fun b2 => ?_) | refine o_alloc (d := 4) rfl TtOk rfl rfl rfl (fun b4 => ?_) | refine o_alloc (d := 5) rfl TtOk rfl rfl rfl (fun b5 => ?_) | refine o_store TtOk rfl rfl rfl rfl rfl rfl rfl ⟨rfl, rfl⟩ rfl rfl rfl rfl rfl ?_ | refine o_build TtOk rfl rfl rfl rfl rfl rfl (by repeat' (first | exact True.intro | exact rfl | refine ⟨?_, ?_⟩)) ?_ | (refine a_condP rfl (fun hc => ?_) (fun hc => ?_)) <;> (try (exfalso; omega)) | (refine o_call0 rfl (k0) ⟨SLe.of_eq rfl, True.intro⟩ rfl ?_; rintro _ _ ⟨rfl, rfl⟩; refine ⟨rfl, ?_⟩) | (refine o_call0 rfl (k1) ⟨SLe.of_eq rfl, True.intro⟩ rfl ?_; rintro _ _ ⟨rfl, rfl⟩; refine ⟨rfl, ?_⟩))
    all_goals
      refine end_all [] [] (.tup [stp0.R, .i .i64 2]) rfl ?_ ?_ (rle_tup2 (CLe.agg (.cons CLe.nilsl (.cons CLe.nilsl (.cons CLe.nilsl .nil)))) (CLe.of_eq rfl) rfl rfl) .nil ⟨rfl, rfl⟩ _ (.inl rfl)
      · repeat' (first | exact True.intro | exact rfl | refine ⟨?_, ?_⟩)
      · exact ⟨trivial, trivial, trivial⟩
  have hB : r.below ((2001 : Nat) : Int) = r.number := by
    unfold RS.below; rw [if_neg (by omega)]
  rw [hB] at hV
  have en : r.number.1 ≠ 0 → r.number.2.e = 0 := e0_number
  clear hB
  generalize r.number = q at *
  obtain ⟨n, r1⟩ := q
  dsimp only at hV o1 e1 en k1 hb
  obtain ⟨W, hW⟩ : ∃ W, rIs n [] r1 = W := ⟨_, rfl⟩
  rw [hW] at hV
  have hR : r1.e ≠ 0 → Rel19 W r1 [] := fun h => by
    have hn : n = 0 := Decidable.byContradiction (fun c => h (en c))
    subst hn
    subst hW
    exact ⟨fun _ => ⟨rfl, fun h0 => absurd h0 h⟩, fun h => absurd rfl h⟩
  have endg : ∀ (r : RS) (p : List Itm), Rel19 W r p → ∀ c u, Rel19 (lvs r) c u → ∀ d v, Rel19 (lvs c) d v → (if d.done ≠ 0 then (stp0, d.done) else ((⟨p, u, v⟩ : Stp), (0 : Int))) = V := fun r p h1 c u h2 d v h3 => by
    rw [← rd_join h1 h2 h3]; exact hV
  repeat' (first | refine Awp.seq ?_ | refine Awp.block ?_ | refine Awp.region ?_ | (refine Ops.nil ?_; show Awp _ _ _ _ _) | (refine Awp.skip ?_; show Awp _ _ _ _ _) | (refine o_calm rfl TtOk rfl rfl rfl ?_ (fun _ => ?_); exact nd) | refine o_alloc (d := 2) rfl TtOk rfl rfl rfl (fun b2 => ?_) | refine o_alloc (d := 4) rfl TtOk rfl rfl rfl (fun b4 => ?_) | refine o_alloc (d := 5) rfl TtOk rfl rfl rfl (fun b5 => ?_) | refine o_store TtOk rfl rfl rfl rfl rfl rfl rfl ⟨rfl, rfl⟩ rfl rfl rfl rfl rfl ?_ | refine o_build TtOk rfl rfl rfl rfl rfl rfl (by repeat' (first | exact True.intro | exact rfl | refine ⟨?_, ?_⟩)) ?_ | (refine a_condP rfl (fun hc => ?_) (fun hc => ?_)) <;> (try (exfalso; omega)) | (refine o_call0 rfl (k0) ⟨SLe.of_eq rfl, True.intro⟩ rfl ?_; rintro _ _ ⟨rfl, rfl⟩; refine ⟨rfl, ?_⟩) | (refine o_call0 rfl (k1) ⟨SLe.of_eq rfl, True.intro⟩ rfl ?_; rintro _ _ ⟨rfl, rfl⟩; refine ⟨rfl, ?_⟩))
  refine Awp.loop (fun q : Nat × List Itm × RS × Value => ⟨77, [(7, .i .i64 q.1), (6, .i .i64 n), (5, .ptr 5 b5 [] 0), (4, .ptr 4 b4 [] 0), (2, .ptr 2 b2 [] 0)], [(5, .var b5 (rdA q.2.2.1)), (4, .var b4 (.agg [.own 54 q.2.2.2, .nil, .nil])), (54, .row q.2.2.2 62 66 (q.2.1.map Itm.R)), (2, .var b2 (.agg [.nil, .nil, .nil]))]⟩) (fun q => q.1 ≤ n ∧ q.2.1.length = q.1 ∧ q.2.2.1.ok ∧ q.2.2.1.e ≠ 3 ∧ (q.2.2.1.e = 0 → rIs (n - q.1) q.2.1 q.2.2.1 = W) ∧ (q.2.2.1.e ≠ 0 → Rel19 W q.2.2.1 q.2.1)) (fun q => n - q.1) [] (0, [], r1, .slice none 0 0) ⟨Nat.zero_le _, rfl, o1, e1, fun _ => hW, hR⟩ ?_ ?_
  · exact ⟨rfl, ⟨sle_i rfl, sle_i rfl, sle_ptr, sle_ptr, sle_ptr, True.intro⟩, HLe.cons 5 rfl (HOLe.refl _) (HLe.cons 4 rfl (HOLe.var (CLe.agg (.cons CLe.nilown (.cons (CLe.refl _) (.cons (CLe.refl _) .nil))))) (HLe.none (HLe.cons 2 rfl (HOLe.refl _) .nil)))⟩
  clear hW o1 e1 k1 k0 o0 e0 hR en hV
  rintro ⟨i, p, r, v⟩ ⟨hi, hpl, o1, e1, hst, hrl⟩
  dsimp only at hi hpl o1 e1 hst hrl ⊢
  by_cases hgo : r.e = 0 ∧ i < n
  · obtain ⟨he, hlt⟩ := hgo
    have hi1 : ((i : Int) + 1 = ((i + 1 : Nat) : Int)) := by omega
    have hst := hst he
    rw [show n - i = (n - (i + 1)) + 1 by omega, rIs] at hst
    have k3 := ritem15_spec r o1
    have o2 := RS.ok_itm o1
    have e2 := e3_itm e1
    have hxo := itm_ok' r
    have k4 := cfail_spec 1 r.itm.2
    have o3 := RS.ok_fail o2 1
    have e3 := e3_fail e2 1 (by decide)
    have hf0 : r.itm.2.e = 0 → (r.itm.2.fail 1).e = 1 := fun h => by unfold RS.fail; rw [if_pos h]
    have hdn := e3_done e2
    generalize r.itm = y at *
    obtain ⟨x, r2⟩ := y
    have k5 := rgood15_spec x hxo
    have hxR : x.R = .agg [.i .i64 x.n, labA x.l, labA x.s, .i .i64 x.t] := rfl
    dsimp only at hst k3 o2 e2 k4 o3 e3 hf0 hdn
    rw [hxR] at k3 k5
    clear endg hrl
    by_cases hz : r2.e = 0
    · rw [if_neg (fun h => (hdn.1 h) hz)] at hst
      cases hg : goodI x with
      | false =>
        rw [if_neg (by rw [hg]; decide)] at hst
        have hx : Rel19 W (r2.fail 1) (p ++ [x]) ∧ (r2.fail 1).e ≠ 0 := by
          subst hst
          exact ⟨⟨fun h => absurd h (show (1 : Int) ≠ 0 by decide), fun _ => hf0 hz⟩, by rw [hf0 hz]; decide⟩
        rw [hg] at k5
        clear hst hf0 hdn
        generalize r2.fail 1 = c at *
        repeat' (first | refine Awp.seq ?_ | refine Awp.block ?_ | refine Awp.region ?_ | (refine Ops.nil ?_; show Awp _ _ _ _ _) | (refine Ops.nil ?_; show Exists _) | (refine Awp.skip ?_; show Awp _ _ _ _ _) | (refine o_add rfl rfl rfl rfl ?_ ?_; omega) | (refine o_calm rfl TtOk rfl rfl rfl ?_ (fun _ => ?_); exact nd) | refine o_alloc (d := 8) rfl TtOk rfl rfl rfl (fun b8 => ?_) | refine o_store TtOk rfl rfl rfl rfl rfl rfl rfl ⟨rfl, rfl⟩ rfl rfl rfl rfl rfl ?_ | refine o_build TtOk rfl rfl rfl rfl rfl rfl (by repeat' (first | exact True.intro | exact rfl | refine ⟨?_, ?_⟩)) ?_ | refine o_buildSlice (d := 53) TtOk rfl rfl rfl rfl rfl rfl rfl rfl rfl rfl rfl (by repeat' (first | exact True.intro | exact rfl | refine ⟨?_, ?_⟩)) (fun v53 => ?_) | (refine o_append TtOk rfl rfl rfl rfl rfl rfl rfl rfl rfl (by first | exact True.intro | exact rfl) rfl rfl (fun _ => rfl) ?_ ?_ (fun _ => ?_); ((repeat' (first | rw [List.length_append] | rw [List.length_map] | rw [List.length_cons] | rw [List.length_nil] | rw [List.length_take] | rw [List.length_drop])) <;> omega); ((repeat' (first | rw [List.length_append] | rw [List.length_map] | rw [List.length_cons] | rw [List.length_nil] | rw [List.length_take] | rw [List.length_drop])) <;> omega)) | (fail_if_success (refine o_isLit rfl (by first | exact .inl rfl | exact .inr rfl) ?_)); (refine o_splitP rfl rfl (fun hc => ?_) (fun hc => ?_) <;> try (exfalso; omega)) | refine a_condT rfl ?_ | (refine a_condP rfl (fun hc => ?_) (fun hc => ?_)) <;> (try (exfalso; omega)) | (refine o_call0 rfl (k3) ⟨SLe.of_eq rfl, True.intro⟩ rfl ?_; rintro _ _ ⟨rfl, rfl⟩; refine ⟨rfl, ?_⟩) | (refine o_call0 rfl (k4) ⟨SLe.of_eq rfl, SLe.of_eq rfl, True.intro⟩ rfl ?_; rintro _ _ ⟨rfl, rfl⟩; refine ⟨rfl, ?_⟩) | (refine o_call0 rfl (k5) ⟨SLe.of_eq rfl, True.intro⟩ rfl ?_; rintro _ _ ⟨rfl, rfl⟩; refine ⟨rfl, ?_⟩))
        all_goals exact ⟨(i + 1, p ++ [x], c, _), [], ⟨hlt, by show (p ++ [_]).length = i + 1; rw [List.length_append, List.length_singleton, hpl], o3, e3, fun h => absurd h hx.2, fun _ => hx.1⟩, by show n - (i + 1) < n - i; omega, rfl, ⟨sle_i hi1, sle_i rfl, sle_ptr, sle_ptr, sle_ptr, True.intro⟩, HLe.cons 5 rfl (HOLe.refl _) (HLe.cons 4 rfl (HOLe.refl _) (HLe.cons 54 rfl (HOLe.row (by rw [List.map_append]; rfl)) (HLe.cons 2 rfl (HOLe.refl _) .nil)))⟩
      | true =>
        rw [if_pos hg] at hst
        rw [hg] at k5
        clear hf0 hdn k4 o3 e3
        repeat' (first | refine Awp.seq ?_ | refine Awp.block ?_ | refine Awp.region ?_ | (refine Ops.nil ?_; show Awp _ _ _ _ _) | (refine Ops.nil ?_; show Exists _) | (refine Awp.skip ?_; show Awp _ _ _ _ _) | (refine o_add rfl rfl rfl rfl ?_ ?_; omega) | (refine o_calm rfl TtOk rfl rfl rfl ?_ (fun _ => ?_); exact nd) | refine o_alloc (d := 8) rfl TtOk rfl rfl rfl (fun b8 => ?_) | refine o_store TtOk rfl rfl rfl rfl rfl rfl rfl ⟨rfl, rfl⟩ rfl rfl rfl rfl rfl ?_ | refine o_build TtOk rfl rfl rfl rfl rfl rfl (by repeat' (first | exact True.intro | exact rfl | refine ⟨?_, ?_⟩)) ?_ | refine o_buildSlice (d := 53) TtOk rfl rfl rfl rfl rfl rfl rfl rfl rfl rfl rfl (by repeat' (first | exact True.intro | exact rfl | refine ⟨?_, ?_⟩)) (fun v53 => ?_) | (refine o_append TtOk rfl rfl rfl rfl rfl rfl rfl rfl rfl (by first | exact True.intro | exact rfl) rfl rfl (fun _ => rfl) ?_ ?_ (fun _ => ?_); ((repeat' (first | rw [List.length_append] | rw [List.length_map] | rw [List.length_cons] | rw [List.length_nil] | rw [List.length_take] | rw [List.length_drop])) <;> omega); ((repeat' (first | rw [List.length_append] | rw [List.length_map] | rw [List.length_cons] | rw [List.length_nil] | rw [List.length_take] | rw [List.length_drop])) <;> omega)) | (fail_if_success (refine o_isLit rfl (by first | exact .inl rfl | exact .inr rfl) ?_)); (refine o_splitP rfl rfl (fun hc => ?_) (fun hc => ?_) <;> try (exfalso; omega)) | refine a_condF rfl ?_ | (refine a_condP rfl (fun hc => ?_) (fun hc => ?_)) <;> (try (exfalso; omega)) | (refine o_call0 rfl (k3) ⟨SLe.of_eq rfl, True.intro⟩ rfl ?_; rintro _ _ ⟨rfl, rfl⟩; refine ⟨rfl, ?_⟩) | (refine o_call0 rfl (k5) ⟨SLe.of_eq rfl, True.intro⟩ rfl ?_; rintro _ _ ⟨rfl, rfl⟩; refine ⟨rfl, ?_⟩))
        all_goals exact ⟨(i + 1, p ++ [x], r2, _), [], ⟨hlt, by show (p ++ [_]).length = i + 1; rw [List.length_append, List.length_singleton, hpl], o2, e2, fun _ => hst, fun h => absurd hz h⟩, by show n - (i + 1) < n - i; omega, rfl, ⟨sle_i hi1, sle_i rfl, sle_ptr, sle_ptr, sle_ptr, True.intro⟩, HLe.cons 5 rfl (HOLe.refl _) (HLe.cons 4 rfl (HOLe.refl _) (HLe.cons 54 rfl (HOLe.row (by rw [List.map_append]; rfl)) (HLe.cons 2 rfl (HOLe.refl _) .nil)))⟩
    · rw [if_pos (hdn.2 hz)] at hst
      have hx : Rel19 W r2 (p ++ [x]) := by
        subst hst
        exact ⟨fun h => absurd h (hdn.2 hz).1, fun _ => (doneE hz).symm⟩
      clear hst hf0 hdn k4 o3 e3 k5
      repeat' (first | refine Awp.seq ?_ | refine Awp.block ?_ | refine Awp.region ?_ | (refine Ops.nil ?_; show Awp _ _ _ _ _) | (refine Ops.nil ?_; show Exists _) | (refine Awp.skip ?_; show Awp _ _ _ _ _) | refine o_offT rfl rfl rfl (by first | exact .inl rfl | exact .inr rfl) ?_ | (refine o_add rfl rfl rfl rfl ?_ ?_; omega) | (refine o_calm rfl TtOk rfl rfl rfl ?_ (fun _ => ?_); exact nd) | refine o_alloc (d := 8) rfl TtOk rfl rfl rfl (fun b8 => ?_) | refine o_store TtOk rfl rfl rfl rfl rfl rfl rfl ⟨rfl, rfl⟩ rfl rfl rfl rfl rfl ?_ | refine o_build TtOk rfl rfl rfl rfl rfl rfl (by repeat' (first | exact True.intro | exact rfl | refine ⟨?_, ?_⟩)) ?_ | refine o_buildSlice (d := 53) TtOk rfl rfl rfl rfl rfl rfl rfl rfl rfl rfl rfl (by repeat' (first | exact True.intro | exact rfl | refine ⟨?_, ?_⟩)) (fun v53 => ?_) | (refine o_append TtOk rfl rfl rfl rfl rfl rfl rfl rfl rfl (by first | exact True.intro | exact rfl) rfl rfl (fun _ => rfl) ?_ ?_ (fun _ => ?_); ((repeat' (first | rw [List.length_append] | rw [List.length_map] | rw [List.length_cons] | rw [List.length_nil] | rw [List.length_take] | rw [List.length_drop])) <;> omega); ((repeat' (first | rw [List.length_append] | rw [List.length_map] | rw [List.length_cons] | rw [List.length_nil] | rw [List.length_take] | rw [List.length_drop])) <;> omega)) | (fail_if_success (refine o_isLit rfl (by first | exact .inl rfl | exact .inr rfl) ?_)); (refine o_splitP rfl rfl (fun hc => ?_) (fun hc => ?_) <;> try (exfalso; omega)) | refine a_condF rfl ?_ | (refine a_condP rfl (fun hc => ?_) (fun hc => ?_)) <;> (try (exfalso; omega)) | (refine o_call0 rfl (k3) ⟨SLe.of_eq rfl, True.intro⟩ rfl ?_; rintro _ _ ⟨rfl, rfl⟩; refine ⟨rfl, ?_⟩))
      all_goals exact ⟨(i + 1, p ++ [x], r2, _), [], ⟨hlt, by show (p ++ [_]).length = i + 1; rw [List.length_append, List.length_singleton, hpl], o2, e2, fun h => absurd h hz, fun _ => hx⟩, by show n - (i + 1) < n - i; omega, rfl, ⟨sle_i hi1, sle_i rfl, sle_ptr, sle_ptr, sle_ptr, True.intro⟩, HLe.cons 5 rfl (HOLe.refl _) (HLe.cons 4 rfl (HOLe.refl _) (HLe.cons 54 rfl (HOLe.row (by rw [List.map_append]; rfl)) (HLe.cons 2 rfl (HOLe.refl _) .nil)))⟩
  have hx : Rel19 W r p := by
    by_cases he : r.e = 0
    · have hst := hst he
      rw [show n - i = 0 by omega, rIs] at hst
      subst hst
      exact ⟨fun _ => ⟨rfl, fun _ => ⟨rfl, rfl⟩⟩, fun h => absurd rfl h⟩
    · exact hrl he
  clear hst hrl
  have endg := endg r p hx
  have k5 := rleaves19_spec r o1 e1
  by_cases he : r.e = 0
  · have hlt : ¬ i < n := fun h => hgo ⟨he, h⟩
    clear hgo hx
    repeat' (first | refine Awp.seq ?_ | refine Awp.region ?_ | (refine Ops.nil ?_; show Awp _ _ _ _ _) | (refine Awp.skip ?_; show Awp _ _ _ _ _) | (refine Awp.exit ?_; show Awp _ _ _ _ _) | (refine Awp.ret ?_; show endK _ _ _ _ _) | refine o_offT rfl rfl rfl (by first | exact .inl rfl | exact .inr rfl) ?_ | (refine o_calm rfl TtOk rfl rfl rfl ?_ (fun _ => ?_); exact nd) | refine o_alloc (d := 9) rfl TtOk rfl rfl rfl (fun b9 => ?_) | refine o_alloc (d := 11) rfl TtOk rfl rfl rfl (fun b11 => ?_) | refine o_store TtOk rfl rfl rfl rfl rfl rfl rfl ⟨rfl, rfl⟩ rfl rfl rfl rfl rfl ?_ | refine o_build TtOk rfl rfl rfl rfl rfl rfl (by repeat' (first | exact True.intro | exact rfl | refine ⟨?_, ?_⟩)) ?_ | (fail_if_success (refine o_isLit rfl (by first | exact .inl rfl | exact .inr rfl) ?_)); (refine o_splitP rfl rfl (fun hc => ?_) (fun hc => ?_) <;> try (exfalso; omega)) | refine a_condF rfl ?_ | (refine a_condN rfl (fun hc => ?_) (fun hc => ?_)) <;> (try (exfalso; omega)) | (refine o_call0 rfl (k5) ⟨SLe.of_eq rfl, True.intro⟩ rfl ?_; rintro _ _ ⟨c1, u1, x1, oc1, ec1, rfl, rfl⟩; refine ⟨rfl, ?_⟩) | (refine o_call0 rfl (rleaves19_spec c1 oc1 ec1) ⟨SLe.of_eq rfl, True.intro⟩ rfl ?_; rintro _ _ ⟨c2, u2, x2, oc2, ec2, rfl, rfl⟩; refine ⟨rfl, ?_⟩) | (refine o_call0 rfl (cdone_spec c2 oc2) ⟨SLe.of_eq rfl, True.intro⟩ rfl ?_; rintro _ _ ⟨rfl, rfl⟩; refine ⟨rfl, ?_⟩))
    all_goals
      have hV := endg c1 u1 x1 c2 u2 x2
      first
      | (rw [if_neg (fun h => h hc)] at hV
         subst hV
         refine end_all [54] [] (.tup [(⟨p, u1, u2⟩ : Stp).R, .i .i64 0]) rfl ?_ ?_ (rle_tup2 (CLe.agg (.cons (CLe.fz (.head _)) (.cons (CLe.refl _) (.cons (CLe.refl _) .nil)))) (CLe.of_eq rfl) rfl rfl) .nil ⟨rfl, rfl⟩ _ (.inl rfl)
         · repeat' (first | exact True.intro | exact rfl | refine ⟨?_, ?_⟩)
         · exact ⟨trivial, trivial, trivial⟩)
      | (rw [if_pos hc] at hV
         subst hV
         refine end_all [] [] (.tup [stp0.R, .i .i64 c2.done]) rfl ?_ ?_ (rle_tup2 (CLe.agg (.cons CLe.nilsl (.cons CLe.nilsl (.cons CLe.nilsl .nil)))) (CLe.of_eq rfl) rfl rfl) .nil ⟨rfl, rfl⟩ _ (.inl rfl)
         · repeat' (first | exact True.intro | exact rfl | refine ⟨?_, ?_⟩)
         · exact ⟨trivial, trivial, trivial⟩)
  · clear hgo hx
    by_cases hlt : i < n
    all_goals
      repeat' (first | refine Awp.seq ?_ | refine Awp.region ?_ | (refine Ops.nil ?_; show Awp _ _ _ _ _) | (refine Awp.skip ?_; show Awp _ _ _ _ _) | (refine Awp.exit ?_; show Awp _ _ _ _ _) | (refine Awp.ret ?_; show endK _ _ _ _ _) | refine o_offT rfl rfl rfl (by first | exact .inl rfl | exact .inr rfl) ?_ | (refine o_calm rfl TtOk rfl rfl rfl ?_ (fun _ => ?_); exact nd) | refine o_alloc (d := 9) rfl TtOk rfl rfl rfl (fun b9 => ?_) | refine o_alloc (d := 11) rfl TtOk rfl rfl rfl (fun b11 => ?_) | refine o_store TtOk rfl rfl rfl rfl rfl rfl rfl ⟨rfl, rfl⟩ rfl rfl rfl rfl rfl ?_ | refine o_build TtOk rfl rfl rfl rfl rfl rfl (by repeat' (first | exact True.intro | exact rfl | refine ⟨?_, ?_⟩)) ?_ | (fail_if_success (refine o_isLit rfl (by first | exact .inl rfl | exact .inr rfl) ?_)); (refine o_splitP rfl rfl (fun hc => ?_) (fun hc => ?_) <;> try (exfalso; omega)) | refine a_condF rfl ?_ | (refine a_condP rfl (fun hc => ?_) (fun hc => ?_)) <;> (try (exfalso; omega)) | (refine a_condN rfl (fun hc => ?_) (fun hc => ?_)) <;> (try (exfalso; omega)) | (refine o_call0 rfl (k5) ⟨SLe.of_eq rfl, True.intro⟩ rfl ?_; rintro _ _ ⟨c1, u1, x1, oc1, ec1, rfl, rfl⟩; refine ⟨rfl, ?_⟩) | (refine o_call0 rfl (rleaves19_spec c1 oc1 ec1) ⟨SLe.of_eq rfl, True.intro⟩ rfl ?_; rintro _ _ ⟨c2, u2, x2, oc2, ec2, rfl, rfl⟩; refine ⟨rfl, ?_⟩) | (refine o_call0 rfl (cdone_spec c2 oc2) ⟨SLe.of_eq rfl, True.intro⟩ rfl ?_; rintro _ _ ⟨rfl, rfl⟩; refine ⟨rfl, ?_⟩))
      all_goals
        have hV := endg c1 u1 x1 c2 u2 x2
        first
        | (rw [if_neg (fun h => h hc)] at hV
           subst hV
           refine end_all [54] [] (.tup [(⟨p, u1, u2⟩ : Stp).R, .i .i64 0]) rfl ?_ ?_ (rle_tup2 (CLe.agg (.cons (CLe.fz (.head _)) (.cons (CLe.refl _) (.cons (CLe.refl _) .nil)))) (CLe.of_eq rfl) rfl rfl) .nil ⟨rfl, rfl⟩ _ (.inl rfl)
           · repeat' (first | exact True.intro | exact rfl | refine ⟨?_, ?_⟩)
           · exact ⟨trivial, trivial, trivial⟩)
        | (rw [if_pos hc] at hV
           subst hV
           refine end_all [] [] (.tup [stp0.R, .i .i64 c2.done]) rfl ?_ ?_ (rle_tup2 (CLe.agg (.cons CLe.nilsl (.cons CLe.nilsl (.cons CLe.nilsl .nil)))) (CLe.of_eq rfl) rfl rfl) .nil ⟨rfl, rfl⟩ _ (.inl rfl)
           · repeat' (first | exact True.intro | exact rfl | refine ⟨?_, ?_⟩)
           · exact ⟨trivial, trivial, trivial⟩)
end Go.Proofs.YtcmgpkibjdbonaaGreat
