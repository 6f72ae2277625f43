/- law19.awake by rules. -/
import Derived.Test.YtcmgpkibjdbonaaPS3Z
import Derived.Test.YtcmgpkibjdbonaaG14Z
import Derived.Test.YtcmgpkibjdbonaaV9
import Derived.ProofKit
import Derived.OpenShut
import Derived.Deep.Slices
import Derived.ChangeOld
set_option maxHeartbeats 16000000
set_option maxRecDepth 100000
namespace Go.Proofs.Ytcmgpkibjdbonaa
open Go Go.RowKit
def awB19 : Lef := ⟨labC 128, List.replicate 32 0, 4⟩
def awa19 : List Lef := [lef0]
def awb19 : List Lef := [awB19]
theorem aw19_e : (smk awa19 [] awb19).2 = 0 := by decide +kernel
theorem aw19_s : (smk awa19 [] awb19).1.same.length = 0 := by decide +kernel
theorem aw19_o : (smk awa19 [] awb19).1.old.length = 1 := by decide +kernel
theorem aw19_n : (smk awa19 [] awb19).1.new.length = 2 := by decide +kernel
theorem aw19_4 : insF (smk awa19 [] awb19).1 4 = true := by decide +kernel
theorem aw19_5 : insF (smk awa19 [] awb19).1 5 = false := by decide +kernel
theorem aw19_oka : ∀ x ∈ awa19, x.ok := fun x hx => by rw [List.mem_singleton.1 hx]; exact ⟨rfl, rfl⟩
theorem aw19_okb : ∀ x ∈ awb19, x.ok := fun x hx => by rw [List.mem_singleton.1 hx]; exact ⟨rfl, rfl⟩
theorem awake19_spec : Spec Try.prog 24 [] [] (fun v os => v = .b true ∧ os = []) := by
  have k1 := smake_spec awa19 [] awb19 (by decide) (Nat.zero_le _) (by decide) aw19_oka (fun x hx => by cases hx) aw19_okb
  have hl := mk_leads (gone := []) aw19_oka (fun x hx => by cases hx) aw19_okb (by decide) (by decide) aw19_e
  have hokM : ∀ x ∈ awa19 ++ awb19, x.ok := fun x hx => by
    rcases List.mem_append.1 hx with hx | hx
    · exact aw19_oka x hx
    · exact aw19_okb x hx
  have k2 := of_spec awa19 (by decide) aw19_oka
  have k3 := top_spec (itmsL awa19) (by rw [itmsL_len]; decide) (itmsL_ok aw19_oka)
  have k4 := of_spec (awa19 ++ awb19) (by decide) hokM
  have k5 := top_spec (itmsL (awa19 ++ awb19)) (by rw [itmsL_len]; decide) (itmsL_ok hokM)
  obtain ⟨l1, Sm, Ol, Nw, l2, l3⟩ := hl
  have hb := l3.beh
  have ht := l3.taken (by decide) (by decide)
  rw [beh_nil] at hb ht
  rw [hb] at k5
  rw [show chkI (itmsL awa19) = 0 from l1] at k3
  have hs := aw19_s
  have ho := aw19_o
  have hn := aw19_n
  have h4 := aw19_4
  have h5 := aw19_5
  rw [aw19_e] at k1
  rw [l2] at k1 hs ho hn h4 h5
  dsimp only at hs ho hn
  have oks : (⟨Sm, Ol, Nw⟩ : Stp).ok := ⟨l3.okS, fun x hx => aw19_oka x (l3.inO x hx), l3.okN⟩
  have k6 := scheck_spec (topS (itmsL awa19)) (topS (itmsL (awa19 ++ awb19))) ⟨Sm, Ol, Nw⟩ (by show Sm.length ≤ 50000; omega) (by show Ol.length ≤ 50000; omega) (by show Nw.length ≤ 50000; omega) oks (topS_len _ (itmsL_ok aw19_oka)) (topS_len _ (itmsL_ok hokM))
  rw [ht] at k6
  have k7 := sins_spec ⟨Sm, Ol, Nw⟩ 4 (by show Ol.length ≤ 100000; omega) (by show Nw.length ≤ 100000; omega)
  have k8 := sins_spec ⟨Sm, Ol, Nw⟩ 5 (by show Ol.length ≤ 100000; omega) (by show Nw.length ≤ 100000; omega)
  rw [h4] at k7
  rw [h5] at k8
  have hA : (⟨Sm, Ol, Nw⟩ : Stp).A = .agg [.sl 66 (Sm.map Itm.A), .sl 65 (Ol.map Lef.A), .sl 65 (Nw.map Lef.A)] := rfl
  rw [hA] at k1 k6 k7 k8
  clear l1 l2 l3 hb ht h4 h5 oks hA hokM
  generalize topS (itmsL awa19) = t1 at *
  generalize topS (itmsL (awa19 ++ awb19)) = t2 at *
  generalize itmsL awa19 = I1 at *
  generalize itmsL (awa19 ++ awb19) = I2 at *
  have m1 : awa19.map Lef.A = [.agg [labA (List.replicate 32 0), labA (List.replicate 32 0), .i .i64 0]] := rfl
  have m2 : awb19.map Lef.A = [.agg [labA (labC 128), labA (List.replicate 32 0), .i .i64 4]] := rfl
  have m3 : (awa19 ++ awb19).map Lef.A = [.agg [labA (List.replicate 32 0), labA (List.replicate 32 0), .i .i64 0], .agg [labA (labC 128), labA (List.replicate 32 0), .i .i64 4]] := rfl
  rw [m1, m2] at k1
  rw [m1] at k2
  rw [m3] at k4
  refine spec_of TtOk [] Try.func24 rfl Try.ntmps24 (by kernel_rfl) rfl rfl (fun C => ?_) rfl
  repeat' (first | (refine o_freezeR 30 30 rfl rfl rfl ?_) | (refine o_freezeR 22 22 rfl rfl rfl ?_) | (refine o_freezeR 16 16 rfl rfl rfl ?_) | (refine o_freezeR 14 14 rfl rfl rfl ?_) | refine Awp.seq ?_ | refine Awp.region ?_ | (refine Ops.nil ?_; show Awp _ _ _ _ _) | (refine Awp.ret ?_; show endK _ _ _ _ _) | refine o_len rfl TtOk rfl rfl rfl (fun _ => ?_) | (refine o_calm rfl TtOk rfl rfl rfl ?_ (fun _ => ?_); first | exact True.intro | exact ⟨rfl, rfl, rfl, rfl⟩ | exact ⟨rfl, True.intro⟩ | exact ⟨rfl, rfl⟩ | exact ⟨rfl, rfl, rfl⟩ | exact rfl | exact ⟨fun h0 => by cases h0, rfl⟩ | exact (fun h0 => by cases h0) | exact ⟨rfl, by omega⟩ | exact ⟨Nat.succ_ne_zero _, rfl⟩ | omega) | refine o_alloc (d := 1) rfl TtOk rfl rfl rfl (fun b1 => ?_) | refine o_alloc (d := 2) rfl TtOk rfl rfl rfl (fun b2 => ?_) | refine o_alloc (d := 3) rfl TtOk rfl rfl rfl (fun b3 => ?_) | refine o_alloc (d := 5) rfl TtOk rfl rfl rfl (fun b5 => ?_) | refine o_alloc (d := 7) rfl TtOk rfl rfl rfl (fun b7 => ?_) | refine o_store TtOk rfl rfl rfl rfl rfl rfl rfl ⟨rfl, rfl⟩ rfl rfl rfl rfl rfl ?_ | refine o_build TtOk rfl rfl rfl rfl rfl rfl (by repeat' (first | exact True.intro | exact rfl | refine ⟨?_, ?_⟩)) ?_ | refine o_buildSlice TtOk rfl rfl rfl rfl rfl rfl rfl rfl rfl rfl rfl (by repeat' (first | exact True.intro | exact rfl | refine ⟨?_, ?_⟩)) (fun _ => ?_) | (fail_if_success (refine o_isLit rfl (by first | exact .inl rfl | exact .inr rfl) ?_)); (refine o_splitP rfl rfl (fun hc => ?_) (fun hc => ?_) <;> try (exfalso; omega)) | (refine o_buildArr TtOk rfl ((labC 128).map byA) rfl rfl rfl (by kernel_rfl) rfl rfl ?_) | (refine o_call0 rfl k1 ⟨SLe.of_eq rfl, sle_nilsl, SLe.of_eq rfl, True.intro⟩ rfl ?_; rintro _ _ ⟨rfl, rfl⟩; refine ⟨rfl, ?_⟩) | (refine o_call0 rfl (k2) ⟨SLe.of_eq rfl, True.intro⟩ rfl ?_; rintro _ _ ⟨rfl, rfl⟩; refine ⟨rfl, ?_⟩) | (refine o_call0 rfl (k3) ⟨SLe.of_eq rfl, True.intro⟩ rfl ?_; rintro _ _ ⟨rfl, rfl⟩; refine ⟨rfl, ?_⟩) | (refine o_call0 rfl (k4) ⟨SLe.of_eq rfl, True.intro⟩ rfl ?_; rintro _ _ ⟨rfl, rfl⟩; refine ⟨rfl, ?_⟩) | (refine o_call0 rfl (k5) ⟨SLe.of_eq rfl, True.intro⟩ rfl ?_; rintro _ _ ⟨rfl, rfl⟩; refine ⟨rfl, ?_⟩) | (refine o_call0 rfl (k6) ⟨SLe.of_eq rfl, SLe.of_eq rfl, SLe.of_eq rfl, True.intro⟩ rfl ?_; rintro _ _ ⟨rfl, rfl⟩; refine ⟨rfl, ?_⟩) | (refine o_call0 rfl (k7) ⟨SLe.of_eq rfl, SLe.of_eq rfl, True.intro⟩ rfl ?_; rintro _ _ ⟨rfl, rfl⟩; refine ⟨rfl, ?_⟩) | (refine o_call0 rfl (k8) ⟨SLe.of_eq rfl, SLe.of_eq rfl, True.intro⟩ rfl ?_; rintro _ _ ⟨rfl, rfl⟩; refine ⟨rfl, ?_⟩))
  all_goals exact end_tmp rfl rfl rfl [] [] (CLe.of_eq rfl) .nil ⟨rfl, rfl⟩ _ (.inl rfl)
end Go.Proofs.Ytcmgpkibjdbonaa
set_option maxHeartbeats 16000000
set_option maxRecDepth 100000
namespace Go.Proofs.Ytcmgpkibjdbonaa
open Go Go.RowKit
structure Mkd (L fresh : List Lef) (s : Stp) : Prop where
  ok : s.ok
  l1 : s.same.length ≤ 1000
  l2 : s.old.length ≤ 1000
  l3 : s.new.length ≤ 1000
  e : mkE (L ++ fresh) = 0
  le : mkE L = 0
  st : stE (topS (itmsL L)) (topS (itmsL (L ++ fresh))) s = 0
theorem mkd_of {L fresh : List Lef} (hok : ∀ x ∈ L, x.ok) (hfo : ∀ x ∈ fresh, x.ok) (hl : L.length ≤ 400) (hfl : fresh.length ≤ 400) (h : (smk L [] fresh).2 = 0) : Mkd L fresh (smk L [] fresh).1 := by
  obtain ⟨h1, Sm, Ol, Nw, h2, h3⟩ := mk_leads (gone := []) hok (fun x hx => by cases hx) hfo hl hfl h
  have hb := h3.beh
  have ht := h3.taken hl hfl
  rw [beh_nil] at hb ht
  have a := h3.lenS
  have b := h3.lenO
  have c := h3.lenN
  rw [h2]
  exact ⟨⟨h3.okS, fun x hx => hok x (h3.inO x hx), h3.okN⟩, by show Sm.length ≤ 1000; omega, by show Ol.length ≤ 1000; omega, by show Nw.length ≤ 1000; omega, hb, h1, ht⟩
theorem stepTwice_spec (l a b : List Lef) (hl : l.length ≤ 9223372036854775807) (ha : a.length ≤ 9223372036854775807) (hb : b.length ≤ 9223372036854775807) (okl : ∀ x ∈ l, x.ok) (oka : ∀ x ∈ a, x.ok) (okb : ∀ x ∈ b, x.ok) : Spec Try.prog 4 [.sl 65 (l.map Lef.A), .sl 65 (a.map Lef.A), .sl 65 (b.map Lef.A)] [] (fun v os => v = .b true ∧ os = []) := by
  have h1 := few_spec l 15 hl (by decide)
  have h2 := few_spec a 10 ha (by decide)
  have h3 := few_spec b 10 hb (by decide)
  have n1 : (l.take 15).length ≤ 15 := by rw [List.length_take]; omega
  have n2 : (a.take 10).length ≤ 10 := by rw [List.length_take]; omega
  have n3 : (b.take 10).length ≤ 10 := by rw [List.length_take]; omega
  have o1 : ∀ x ∈ l.take 15, x.ok := fun x hx => okl x (List.mem_of_mem_take hx)
  have o2 : ∀ x ∈ a.take 10, x.ok := fun x hx => oka x (List.mem_of_mem_take hx)
  have o3 : ∀ x ∈ b.take 10, x.ok := fun x hx => okb x (List.mem_of_mem_take hx)
  clear okl oka okb
  generalize l.take 15 = L at *
  generalize a.take 10 = A at *
  generalize b.take 10 = B at *
  have o12 : ∀ x ∈ L ++ A, x.ok := fun x hx => (List.mem_append.1 hx).elim (o1 x) (o2 x)
  have o23 : ∀ x ∈ A ++ B, x.ok := fun x hx => (List.mem_append.1 hx).elim (o2 x) (o3 x)
  have o123 : ∀ x ∈ (L ++ A) ++ B, x.ok := fun x hx => (List.mem_append.1 hx).elim (o12 x) (o3 x)
  have n12 : (L ++ A).length ≤ 25 := by rw [List.length_append]; omega
  have n23 : (A ++ B).length ≤ 20 := by rw [List.length_append]; omega
  have n123 : ((L ++ A) ++ B).length ≤ 35 := by rw [List.length_append]; omega
  have k1 := smake_spec L [] A (by omega) (Nat.zero_le _) (by omega) o1 (fun x hx => by cases hx) o2
  have k2 := smake_spec (L ++ A) [] B (by omega) (Nat.zero_le _) (by omega) o12 (fun x hx => by cases hx) o3
  have k3 := smake_spec L [] (A ++ B) (by omega) (Nat.zero_le _) (by omega) o1 (fun x hx => by cases hx) o23
  have k4 := awake19_spec
  have k5 := of_spec L (by omega) o1
  have k6 := of_spec (L ++ A) (by omega) o12
  have k7 := of_spec ((L ++ A) ++ B) (by omega) o123
  have k8 := top_spec (itmsL L) (by rw [itmsL_len]; omega) (itmsL_ok o1)
  have k9 := top_spec (itmsL (L ++ A)) (by rw [itmsL_len]; omega) (itmsL_ok o12)
  have k10 := top_spec (itmsL ((L ++ A) ++ B)) (by rw [itmsL_len]; omega) (itmsL_ok o123)
  have t1 := topS_len _ (itmsL_ok o1)
  have t2 := topS_len _ (itmsL_ok o12)
  have t3 := topS_len _ (itmsL_ok o123)
  have d1 := fun h => mkd_of o1 o2 (by omega) (by omega) h
  have d2 := fun h => mkd_of o12 o3 (by omega) (by omega) h
  have d3 := fun h => mkd_of o1 o23 (by omega) (by omega) h
  have c1 := fun h => mk_none o1 o2 (by omega) (by omega) h
  have c2 := fun h => mk_none o12 o3 (by omega) (by omega) h
  have c3 := fun h => mk_none o1 o23 (by omega) (by omega) h
  have hgood : (smk L [] (A ++ B)).2 = 0 → (smk L [] A).2 = 0 ∧ (smk (L ++ A) [] B).2 = 0 := fun h => by
    have he := (d3 h).e
    rw [← List.append_assoc] at he
    exact ⟨c1 (mkE_sub o123 (List.sublist_append_left _ _) he), c2 he⟩
  have hA : ∀ s : Stp, s.A = .agg [.sl 66 (s.same.map Itm.A), .sl 65 (s.old.map Lef.A), .sl 65 (s.new.map Lef.A)] := fun _ => rfl
  rw [hA] at k1 k2 k3
  rw [List.map_append] at k2 k3 k6 k7
  rw [List.map_append] at k7
  by_cases hef : (smk L [] A).2 ≠ 0 ∨ (smk (L ++ A) [] B).2 ≠ 0
  · have hg : (smk L [] (A ++ B)).2 ≠ 0 := fun h => by
      obtain ⟨a1, a2⟩ := hgood h
      exact hef.elim (fun h => h a1) (fun h => h a2)
    clear d1 d2 d3 c1 c2 c3 hgood k5 k6 k7 k8 k9 k10 t1 t2 t3 hA
    generalize smk L [] A = q1 at *
    generalize smk (L ++ A) [] B = q2 at *
    generalize smk L [] (A ++ B) = q3 at *
    obtain ⟨s1, e⟩ := q1
    obtain ⟨s2, f⟩ := q2
    obtain ⟨s3, g⟩ := q3
    dsimp only at k1 k2 k3 hef hg
    refine spec_of TtOk [] Try.func4 rfl Try.ntmps4 (by kernel_rfl) rfl rfl (fun C => ?_) rfl
    repeat' (first | (refine o_freezeR 46 50 rfl rfl rfl ?_) | (refine o_freezeR 33 9 rfl rfl rfl ?_) | (refine o_freezeR 26 2 rfl rfl rfl ?_) | (refine o_freezeR 24 1 rfl rfl rfl ?_) | (refine o_freezeR 22 0 rfl rfl rfl ?_) | refine Awp.seq ?_ | refine Awp.region ?_ | (refine Ops.nil ?_; show Awp _ _ _ _ _) | (refine Awp.ret ?_; show endK _ _ _ _ _) | refine o_noF rfl rfl rfl ?_ | (refine o_calm rfl TtOk rfl rfl rfl ?_ (fun _ => ?_); first | exact True.intro | exact ⟨rfl, rfl, rfl, rfl⟩ | exact ⟨rfl, True.intro⟩ | exact ⟨rfl, rfl⟩ | exact ⟨rfl, rfl, rfl⟩ | exact rfl | exact ⟨fun h0 => by cases h0, rfl⟩ | exact (fun h0 => by cases h0) | exact ⟨rfl, by omega⟩ | exact ⟨Nat.succ_ne_zero _, rfl⟩ | omega) | refine o_alloc (d := 7) rfl TtOk rfl rfl rfl (fun b7 => ?_) | refine o_alloc (d := 10) rfl TtOk rfl rfl rfl (fun b10 => ?_) | refine o_alloc (d := 12) rfl TtOk rfl rfl rfl (fun b12 => ?_) | refine o_store TtOk rfl rfl rfl rfl rfl rfl rfl ⟨rfl, rfl⟩ rfl rfl rfl rfl rfl ?_ | refine o_buildSlice TtOk rfl rfl rfl rfl rfl rfl rfl rfl rfl rfl rfl (by repeat' (first | exact True.intro | exact rfl | refine ⟨?_, ?_⟩)) (fun _ => ?_) | (refine o_append TtOk rfl rfl rfl rfl rfl rfl rfl rfl rfl (by first | exact True.intro | exact rfl) rfl rfl (fun _ => rfl) ?_ ?_ (fun _ => ?_); ((repeat' (first | rw [List.length_append] | rw [List.length_map] | rw [List.length_cons] | rw [List.length_nil] | rw [List.length_take] | rw [List.length_drop])) <;> omega); ((repeat' (first | rw [List.length_append] | rw [List.length_map] | rw [List.length_cons] | rw [List.length_nil] | rw [List.length_take] | rw [List.length_drop])) <;> omega)) | (fail_if_success (refine o_isLit rfl (by first | exact .inl rfl | exact .inr rfl) ?_)); (refine o_splitN rfl rfl (fun hc => ?_) (fun hc => ?_) <;> try (exfalso; omega)) | refine a_condT rfl ?_ | (refine a_condN rfl (fun hc => ?_) (fun hc => ?_)) <;> (try (exfalso; omega)) | (refine o_callR rfl h1 ⟨SLe.of_eq rfl, SLe.of_eq rfl, True.intro⟩ rfl (fun vR1 => ?_)) | (refine o_callR rfl h2 ⟨SLe.of_eq rfl, SLe.of_eq rfl, True.intro⟩ rfl (fun vR2 => ?_)) | (refine o_callR rfl h3 ⟨SLe.of_eq rfl, SLe.of_eq rfl, True.intro⟩ rfl (fun vR3 => ?_)) | (refine o_call0 rfl k1 ⟨SLe.of_eq rfl, sle_nilsl, SLe.of_eq rfl, True.intro⟩ rfl ?_; rintro _ _ ⟨rfl, rfl⟩; refine ⟨rfl, ?_⟩) | (refine o_call0 rfl k2 ⟨SLe.of_eq rfl, sle_nilsl, SLe.of_eq rfl, True.intro⟩ rfl ?_; rintro _ _ ⟨rfl, rfl⟩; refine ⟨rfl, ?_⟩) | (refine o_call0 rfl k3 ⟨SLe.of_eq rfl, sle_nilsl, SLe.of_eq rfl, True.intro⟩ rfl ?_; rintro _ _ ⟨rfl, rfl⟩; refine ⟨rfl, ?_⟩) | (refine o_call0 rfl (k4) True.intro rfl ?_; rintro _ _ ⟨rfl, rfl⟩; refine ⟨rfl, ?_⟩))
    all_goals exact end_tmp rfl rfl rfl [] [] (CLe.of_eq rfl) .nil ⟨congrArg AV.b (bne_iff_ne.2 hg), rfl⟩ _ (.inl rfl)
  · have he : (smk L [] A).2 = 0 := Decidable.not_not.1 (fun h => hef (.inl h))
    have hf : (smk (L ++ A) [] B).2 = 0 := Decidable.not_not.1 (fun h => hef (.inr h))
    have m1 := d1 he
    have m2 := d2 hf
    have hg : (smk L [] (A ++ B)).2 = 0 := c3 (by rw [← List.append_assoc]; exact m2.e)
    have m3 := d3 hg
    have e1 := m1.st
    have e2 := m2.st
    have e3 := m3.st
    rw [← List.append_assoc] at e3
    have s1 := scheck_spec (topS (itmsL L)) (topS (itmsL (L ++ A))) (smk L [] A).1 (by have := m1.l1; omega) (by have := m1.l2; omega) (by have := m1.l3; omega) m1.ok t1 t2
    have s2 := scheck_spec (topS (itmsL (L ++ A))) (topS (itmsL ((L ++ A) ++ B))) (smk (L ++ A) [] B).1 (by have := m2.l1; omega) (by have := m2.l2; omega) (by have := m2.l3; omega) m2.ok t2 t3
    have s3 := scheck_spec (topS (itmsL L)) (topS (itmsL ((L ++ A) ++ B))) (smk L [] (A ++ B)).1 (by have := m3.l1; omega) (by have := m3.l2; omega) (by have := m3.l3; omega) m3.ok t1 t3
    rw [e1, hA] at s1
    rw [e2, hA] at s2
    rw [e3, hA] at s3
    rw [he] at k1
    rw [hf] at k2
    rw [hg] at k3
    rw [show chkI (itmsL L) = 0 from m1.le] at k8
    rw [show chkI (itmsL (L ++ A)) = 0 from m1.e] at k9
    rw [show chkI (itmsL ((L ++ A) ++ B)) = 0 from m2.e] at k10
    clear d1 d2 d3 c1 c2 c3 hgood t1 t2 t3 hA e1 e2 e3 m1 m2 m3 he hf hg hef
    generalize (smk L [] A).1 = q1 at *
    generalize (smk (L ++ A) [] B).1 = q2 at *
    generalize (smk L [] (A ++ B)).1 = q3 at *
    generalize topS (itmsL L) = x at *
    generalize topS (itmsL (L ++ A)) = y at *
    generalize topS (itmsL ((L ++ A) ++ B)) = z at *
    generalize itmsL ((L ++ A) ++ B) = I3 at *
    generalize itmsL (L ++ A) = I2 at *
    generalize itmsL L = I1 at *
    refine spec_of TtOk [] Try.func4 rfl Try.ntmps4 (by kernel_rfl) rfl rfl (fun C => ?_) rfl
    repeat' (first | (refine o_freezeR 65 14 rfl rfl rfl ?_) | (refine o_freezeR 46 50 rfl rfl rfl ?_) | (refine o_freezeR 33 9 rfl rfl rfl ?_) | (refine o_freezeR 26 2 rfl rfl rfl ?_) | (refine o_freezeR 24 1 rfl rfl rfl ?_) | (refine o_freezeR 22 0 rfl rfl rfl ?_) | refine Awp.seq ?_ | refine Awp.region ?_ | (refine Ops.nil ?_; show Awp _ _ _ _ _) | (refine Awp.skip ?_; show Awp _ _ _ _ _) | (refine Awp.ret ?_; show endK _ _ _ _ _) | (refine o_calm rfl TtOk rfl rfl rfl ?_ (fun _ => ?_); first | exact True.intro | exact ⟨rfl, rfl, rfl, rfl⟩ | exact ⟨rfl, True.intro⟩ | exact ⟨rfl, rfl⟩ | exact ⟨rfl, rfl, rfl⟩ | exact rfl | exact ⟨fun h0 => by cases h0, rfl⟩ | exact (fun h0 => by cases h0) | exact ⟨rfl, by omega⟩ | exact ⟨Nat.succ_ne_zero _, rfl⟩ | omega) | refine o_alloc (d := 7) rfl TtOk rfl rfl rfl (fun b7 => ?_) | refine o_alloc (d := 10) rfl TtOk rfl rfl rfl (fun b10 => ?_) | refine o_alloc (d := 12) rfl TtOk rfl rfl rfl (fun b12 => ?_) | refine o_alloc (d := 15) rfl TtOk rfl rfl rfl (fun b15 => ?_) | refine o_alloc (d := 17) rfl TtOk rfl rfl rfl (fun b17 => ?_) | refine o_alloc (d := 19) rfl TtOk rfl rfl rfl (fun b19 => ?_) | refine o_store TtOk rfl rfl rfl rfl rfl rfl rfl ⟨rfl, rfl⟩ rfl rfl rfl rfl rfl ?_ | refine o_buildSlice TtOk rfl rfl rfl rfl rfl rfl rfl rfl rfl rfl rfl (by repeat' (first | exact True.intro | exact rfl | refine ⟨?_, ?_⟩)) (fun _ => ?_) | (refine o_append TtOk rfl rfl rfl rfl rfl rfl rfl rfl rfl (by first | exact True.intro | exact rfl) rfl rfl (fun _ => rfl) ?_ ?_ (fun _ => ?_); ((repeat' (first | rw [List.length_append] | rw [List.length_map] | rw [List.length_cons] | rw [List.length_nil] | rw [List.length_take] | rw [List.length_drop])) <;> omega); ((repeat' (first | rw [List.length_append] | rw [List.length_map] | rw [List.length_cons] | rw [List.length_nil] | rw [List.length_take] | rw [List.length_drop])) <;> omega)) | refine a_condF rfl ?_ | (refine o_callR rfl h1 ⟨SLe.of_eq rfl, SLe.of_eq rfl, True.intro⟩ rfl (fun vR1 => ?_)) | (refine o_callR rfl h2 ⟨SLe.of_eq rfl, SLe.of_eq rfl, True.intro⟩ rfl (fun vR2 => ?_)) | (refine o_callR rfl h3 ⟨SLe.of_eq rfl, SLe.of_eq rfl, True.intro⟩ rfl (fun vR3 => ?_)) | (refine o_call0 rfl k1 ⟨SLe.of_eq rfl, sle_nilsl, SLe.of_eq rfl, True.intro⟩ rfl ?_; rintro _ _ ⟨rfl, rfl⟩; refine ⟨rfl, ?_⟩) | (refine o_call0 rfl k2 ⟨SLe.of_eq rfl, sle_nilsl, SLe.of_eq rfl, True.intro⟩ rfl ?_; rintro _ _ ⟨rfl, rfl⟩; refine ⟨rfl, ?_⟩) | (refine o_call0 rfl k3 ⟨SLe.of_eq rfl, sle_nilsl, SLe.of_eq rfl, True.intro⟩ rfl ?_; rintro _ _ ⟨rfl, rfl⟩; refine ⟨rfl, ?_⟩) | (refine o_call0 rfl (k4) True.intro rfl ?_; rintro _ _ ⟨rfl, rfl⟩; refine ⟨rfl, ?_⟩) | (refine o_call0 rfl (k5) ⟨SLe.of_eq rfl, True.intro⟩ rfl ?_; rintro _ _ ⟨rfl, rfl⟩; refine ⟨rfl, ?_⟩) | (refine o_call0 rfl (k6) ⟨SLe.of_eq rfl, True.intro⟩ rfl ?_; rintro _ _ ⟨rfl, rfl⟩; refine ⟨rfl, ?_⟩) | (refine o_call0 rfl (k7) ⟨SLe.of_eq rfl, True.intro⟩ rfl ?_; rintro _ _ ⟨rfl, rfl⟩; refine ⟨rfl, ?_⟩) | (refine o_call0 rfl (k8) ⟨SLe.of_eq rfl, True.intro⟩ rfl ?_; rintro _ _ ⟨rfl, rfl⟩; refine ⟨rfl, ?_⟩) | (refine o_call0 rfl (k9) ⟨SLe.of_eq rfl, True.intro⟩ rfl ?_; rintro _ _ ⟨rfl, rfl⟩; refine ⟨rfl, ?_⟩) | (refine o_call0 rfl (k10) ⟨SLe.of_eq rfl, True.intro⟩ rfl ?_; rintro _ _ ⟨rfl, rfl⟩; refine ⟨rfl, ?_⟩) | (refine o_call0 rfl (s1) ⟨SLe.of_eq rfl, SLe.of_eq rfl, SLe.of_eq rfl, True.intro⟩ rfl ?_; rintro _ _ ⟨rfl, rfl⟩; refine ⟨rfl, ?_⟩) | (refine o_call0 rfl (s2) ⟨SLe.of_eq rfl, SLe.of_eq rfl, SLe.of_eq rfl, True.intro⟩ rfl ?_; rintro _ _ ⟨rfl, rfl⟩; refine ⟨rfl, ?_⟩) | (refine o_call0 rfl (s3) ⟨SLe.of_eq rfl, SLe.of_eq rfl, SLe.of_eq rfl, True.intro⟩ rfl ?_; rintro _ _ ⟨rfl, rfl⟩; refine ⟨rfl, ?_⟩))
    all_goals exact end_tmp rfl rfl rfl [] [] (CLe.of_eq rfl) .nil ⟨rfl, rfl⟩ _ (.inl rfl)
end Go.Proofs.Ytcmgpkibjdbonaa
namespace Go.Proofs.Ytcmgpkibjdbonaa
open Go Go.RowKit Go.ChangeShapes Go.WideShapes Go.Deep

/-- A type's shape. -/
inductive Sh where
  | b | i (k : IntKind) | s | sl (sz : Nat) (e : Sh) | agg (fs : List Sh) | arr (sz n : Nat) (e : Sh)
mutual
def has : Sh → AV → Prop
  | .b, a => ∃ x, a = .b x
  | .i k, a => ∃ n, a = .i k n ∧ k.min ≤ n ∧ n ≤ k.max
  | .s, a => ∃ x, a = .s x ∧ x.length ≤ 9223372036854775807
  | .sl sz e, a => ∃ xs, a = .sl sz xs ∧ xs.length ≤ 9223372036854775807 ∧ ∀ x ∈ xs, has e x
  | .agg fs, a => ∃ xs, a = .agg xs ∧ hasL fs xs
  | .arr sz n e, a => ∃ xs, a = .arr sz n xs ∧ xs.length = n ∧ ∀ x ∈ xs, has e x
def hasL : List Sh → List AV → Prop
  | [], xs => xs = []
  | f :: fs, xs => ∃ y ys, xs = y :: ys ∧ has f y ∧ hasL fs ys
end
def shFields (T : List (Nat × TI)) (rec : Nat → Option Sh) : Nat → List (Nat × Nat) → Option (List Sh)
  | _, [] => some []
  | off, (o, ft) :: r => match tget T ft, rec ft, shFields T rec (off + ((tget T ft).map (·.sz)).getD 0) r with
    | some _, some sc, some rs => bif Nat.beq o off then some (sc :: rs) else none
    | _, _, _ => none
def endF (T : List (Nat × TI)) : Nat → List (Nat × Nat) → Nat
  | off, [] => off
  | off, (_, ft) :: r => endF T (off + ((tget T ft).map (·.sz)).getD 0) r
def shOf (T : List (Nat × TI)) : Nat → Nat → Option Sh
  | 0, _ => none
  | fuel + 1, t => match tget T t with
    | some ⟨.bool, _, _, _⟩ => some .b
    | some ⟨.int k, _, _, _⟩ => some (.i k)
    | some ⟨.string, _, _, _⟩ => some .s
    | some ⟨.slice e, _, _, _⟩ => match tget T e, shOf T fuel e with
      | some te, some sc => bif Nat.blt 0 te.sz then some (.sl te.sz sc) else none
      | _, _ => none
    | some ⟨.struct fs, sz, _, _⟩ => match shFields T (shOf T fuel) 0 fs with
      | some ss => bif Nat.beq (endF T 0 fs) sz then some (.agg ss) else none
      | none => none
    | some ⟨.array n e, sz, _, _⟩ => match tget T e, shOf T fuel e with
      | some te, some sc => bif Nat.beq sz (n * te.sz) then some (.arr te.sz n sc) else none
      | _, _ => none
    | _ => none
theorem choose_list {α : Type} {n : Nat} {p : Nat → α → Prop} (h : ∀ i, i < n → ∃ x, p i x) : ∃ l : List α, l.length = n ∧ ∀ i (hi : i < l.length), p i l[i] := by
  induction n with
  | zero => exact ⟨[], rfl, fun i hi => by simp at hi⟩
  | succ n ih =>
    obtain ⟨l, hl, hp⟩ := ih (fun i hi => h i (by omega))
    obtain ⟨x, hx⟩ := h n (by omega)
    refine ⟨l ++ [x], by simp [hl], fun i hi => ?_⟩
    by_cases h1 : i < l.length
    · rw [List.getElem_append_left h1]; exact hp i h1
    · have : i = l.length := by simp at hi; omega
      subst this
      rw [List.getElem_append_right (by omega)]
      simp only [Nat.sub_self, List.getElem_cons_zero]
      rw [hl]; exact hx
section
variable {H : Type} {enc : TypeId × Value → H} {P : Program} {w : World} {T : List (Nat × TI)}
theorem TOk.cellsOf {t : Nat} {ti : TI} (h : TOk P t ti) : P.cellsOf t = ti.sz := by
  obtain ⟨i, h1, h2, _⟩ := h.inf
  unfold Program.cellsOf; rw [h1]; simpa using h2
theorem repA_mk {F : Nat → Prop} {sz : Nat} : ∀ (xs : List AV) (cs : List Value), cs.length = xs.length * sz → (∀ i (hi : i < xs.length), repC w F xs[i] ((cs.drop (i * sz)).take sz)) → repA w F sz xs cs
  | [], cs, hl, _ => by simp only [repA]; simpa using hl
  | x :: xs, cs, hl, h => by
    simp only [repA]
    rw [List.length_cons, Nat.add_mul] at hl
    refine ⟨cs.take sz, cs.drop sz, (List.take_append_drop _ _).symm, by have h0 := h 0 (Nat.succ_pos _); rw [Nat.zero_mul, List.drop_zero] at h0; exact h0, by rw [List.length_take]; omega, repA_mk xs _ (by rw [List.length_drop]; omega) (fun i hi => ?_)⟩
    have := h (i + 1) (by simp; omega)
    rw [List.getElem_cons_succ] at this
    rw [List.drop_drop, show sz + i * sz = (i + 1) * sz by rw [Nat.add_mul]; omega]
    exact this
theorem repRow_mk {F : Nat → Prop} {sz b : Nat} : ∀ (xs : List AV) (off : Nat), (∀ i (hi : i < xs.length), ∃ cs, repC w F xs[i] cs ∧ cs.length = sz ∧ w.rangeAt b (off + i * sz) cs) → repRow w F b off sz xs
  | [], _, _ => trivial
  | x :: xs, off, h => by
    simp only [repRow]
    refine ⟨by have h0 := h 0 (Nat.succ_pos _); rw [Nat.zero_mul, Nat.add_zero] at h0; exact h0, repRow_mk xs _ (fun i hi => ?_)⟩
    obtain ⟨cs, h1, h2, h3⟩ := h (i + 1) (by simp; omega)
    rw [List.getElem_cons_succ] at h1
    exact ⟨cs, h1, h2, by rw [show off + sz + i * sz = off + (i + 1) * sz by rw [Nat.add_mul]; omega]; exact h3⟩
theorem open_fields (hT : TTOk P T) {rec : Nat → Option Sh} {n : Nat} {F : Nat → Prop}
    (ih : ∀ t sh, rec t = some sh → ∀ (cs : List Value) (x : DataW H × List MemPlace), DataW.trod enc P w 0 (fun _ => true) true n t cs = some x → ∃ a, has sh a ∧ repC w F a cs) :
    ∀ (fs : List (Nat × Nat)) (off : Nat) (ss : List Sh) (cs : List Value), shFields T rec off fs = some ss → cs.length = endF T off fs →
      (∀ (i : Nat) o ft, fs[i]? = some (o, ft) → ∃ x, DataW.trod enc P w 0 (fun _ => true) true n ft ((cs.drop o).take (P.cellsOf ft)) = some x) → ∃ xs, hasL ss xs ∧ repL w F xs (cs.drop off)
  | [], off, ss, cs, h, hl, _ => by
    simp only [shFields, Option.some.injEq] at h
    subst h
    refine ⟨[], rfl, ?_⟩
    simp only [repL, endF] at hl ⊢
    exact List.drop_eq_nil_of_le (by omega)
  | (o, ft) :: r, off, ss, cs, h, hl, hx => by
    simp only [shFields] at h
    split at h
    case h_2 => cases h
    rename_i ti sc rs h1 h2 h3
    cases hb : Nat.beq o off with
    | false => rw [hb] at h; cases h
    | true =>
      rw [hb] at h
      simp only [cond_true, Option.some.injEq] at h
      subst h
      have := Nat.eq_of_beq_eq_true hb
      subst this
      rw [h1] at h3
      simp only [endF, h1] at hl
      simp only [Option.map_some, Option.getD_some] at h3 hl
      obtain ⟨x, hx0⟩ := hx 0 o ft rfl
      rw [(tget_ok hT h1).cellsOf] at hx0
      obtain ⟨a, ha, hc⟩ := ih ft sc h2 _ _ hx0
      obtain ⟨xs, hxs, hr⟩ := open_fields hT ih r (o + ti.sz) rs cs h3 hl (fun i o' ft' hi => hx (i + 1) o' ft' hi)
      refine ⟨a :: xs, ⟨a, xs, rfl, ha, hxs⟩, ?_⟩
      simp only [repL]
      refine ⟨_, _, ?_, hc, hr⟩
      rw [← List.drop_drop, List.take_append_drop]
theorem open_sh (hT : TTOk P T) : ∀ (fuel : Nat) (t : Nat) (sh : Sh), shOf T fuel t = some sh → ∀ (f : Nat) (cs : List Value) (x : DataW H × List MemPlace), DataW.trod enc P w 0 (fun _ => true) true f t cs = some x →
    ∃ a, has sh a ∧ repC w (fun b => b < w.heap.size) a cs
  | 0, t, sh, h, _, _, _, _ => by cases h
  | fuel + 1, t, sh, h, f, cs, x, hx => by
    unfold shOf at h
    cases ht : tget T t with
    | none => rw [ht] at h; cases h
    | some ti =>
      rw [ht] at h
      have hok := tget_ok hT ht
      obtain ⟨d, hd, hk⟩ := hok.desc
      obtain ⟨k, sz, by_, z⟩ := ti
      cases k <;> first | (simp only [Option.some.injEq] at h; subst h) | skip
      case bool =>
        have hd' : P.underlying t = some .bool := by rw [hd]; cases d <;> first | rfl | cases hk
        obtain ⟨c, e0, _⟩ := DataW.trod_bool hd' hx
        exact ⟨.b c, ⟨c, rfl⟩, by simpa [repC] using e0⟩
      case int k =>
        obtain ⟨c, e0, _, hw⟩ := DataW.trod_int (tk_int hok) hx
        refine ⟨.i k c, ⟨c, rfl, ?_⟩, by simpa [repC] using e0⟩
        simpa [Lit.wf] using hw
      case string =>
        obtain ⟨c, e0, _, hw⟩ := DataW.trod_string (tk_string hok) hx
        refine ⟨.s c.data.toList, ⟨_, rfl, by unfold maxLen at hw; simpa using hw⟩, ?_⟩
        simp only [repC]
        exact ⟨by rw [bytesOf_data]; exact e0, by simpa using hw⟩
      case slice e =>
        simp only at h
        split at h
        case h_2 => cases h
        rename_i te sc h1 h2
        cases hp : Nat.blt 0 te.sz with
        | false => rw [hp] at h; cases h
        | true =>
          rw [hp] at h
          simp only [cond_true, Option.some.injEq] at h
          subst h
          have hpos : 0 < te.sz := Nat.le_of_ble_eq_true hp
          have hc := (tget_ok hT h1).cellsOf
          rcases open_slice (tk_slice hok) hx with ⟨h0, _⟩ | ⟨a, len, cap, m, n, D, Pl, hcs, hb, hl, hm, hmm, hx', hi⟩
          · refine ⟨.sl te.sz [], ⟨[], rfl, by simp, by simp⟩, ?_⟩
            simp only [repC]
            exact ⟨none, 0, h0, Nat.le_refl _, Nat.zero_le _, fun h => absurd rfl h⟩
          · have hmc : m = cap := by rw [hmm, if_pos rfl]
            obtain ⟨ys, hyl, hyp⟩ := choose_list (n := len) (p := fun i y => ∃ cs', w.cells? 0 (a.add (i * te.sz)) te.sz = some cs' ∧ has sc y ∧ repC w (fun b => b < w.heap.size) y cs') (fun i hi' => by
              obtain ⟨cs', hc', ht'⟩ := hi i (by omega)
              rw [hc] at hc'
              obtain ⟨y, h3, h4⟩ := open_sh hT fuel e sc h2 n cs' _ ht'
              exact ⟨y, cs', hc', h3, h4⟩)
            have hspot : len ≠ 0 → a.spot = none ∧ a.block < w.heap.size := by
              intro hne
              obtain ⟨cs', hc', _⟩ := hyp 0 (by omega)
              obtain ⟨_, h3, h4⟩ := World.cells?_some hc'
              have h5 := h4 0 hpos
              rw [List.getElem?_eq_getElem (by omega)] at h5
              exact ⟨by simpa [Addr.add] using World.cell?_spot h5, by simpa [Addr.add] using World.block_lt_of_cell? w _ h5⟩
            refine ⟨.sl te.sz ys, ⟨ys, rfl, by unfold maxLen at hm; omega, fun y hy => ?_⟩, ?_⟩
            · obtain ⟨i, hi', rfl⟩ := List.mem_iff_getElem.1 hy
              obtain ⟨_, _, h3, _⟩ := hyp i hi'
              exact h3
            · simp only [repC]
              refine ⟨some a, cap, by rw [hcs, hyl], by omega, hm, fun hne => ?_⟩
              have hne' : len ≠ 0 := by rw [← hyl]; simpa using hne
              obtain ⟨hs1, hs2⟩ := hspot hne'
              obtain ⟨b, off, sp⟩ := a
              simp only at hs1 hs2
              subst hs1
              refine ⟨b, off, rfl, hs2, repRow_mk _ _ (fun i hi' => ?_)⟩
              obtain ⟨cs', hc', _, h4⟩ := hyp i hi'
              obtain ⟨_, h5, h6⟩ := World.cells?_some hc'
              refine ⟨cs', h4, h5, fun j u hu => ?_⟩
              have hj : j < te.sz := by rw [← h5]; exact (List.getElem?_eq_some_iff.1 hu).1
              have := h6 j hj
              rw [Addr.add_mid, Addr.add_mid] at this
              rw [this]; exact hu
      case struct fs =>
        simp only at h
        split at h
        case h_2 => cases h
        rename_i ss h1
        cases hp : Nat.beq (endF T 0 fs) sz with
        | false => rw [hp] at h; cases h
        | true =>
          rw [hp] at h
          simp only [cond_true, Option.some.injEq] at h
          subst h
          have hsz := Nat.eq_of_beq_eq_true hp
          obtain ⟨fs0, hd', hfs⟩ : ∃ fs0, P.underlying t = some (.struct fs0) ∧ fs = fs0.toList.map fun f => (f.offset, f.type) := by
            cases d <;> first | cases hk | skip
            exact ⟨_, hd, rfl⟩
          obtain ⟨xs, n, _, _, hcl, hxl, hf⟩ := DataW.trod_struct hd' hx
          rw [hok.cellsOf] at hcl
          obtain ⟨ys, hys, hr⟩ := open_fields (enc := enc) (w := w) hT (n := n) (F := fun b => b < w.heap.size) (fun t sh h cs x hx => open_sh hT fuel t sh h n cs x hx) fs 0 ss cs h1 (by rw [hcl]; exact hsz.symm) (fun i o ft hi => by
            subst hfs
            rw [List.getElem?_map] at hi
            cases hg : fs0.toList[i]? with
            | none => rw [hg] at hi; cases hi
            | some fd =>
              rw [hg] at hi
              simp only [Option.map_some, Option.some.injEq, Prod.mk.injEq] at hi
              obtain ⟨rfl, rfl⟩ := hi
              rw [Array.getElem?_toList] at hg
              have h3 := hf i fd hg
              have h4 : i < xs.length := by rw [hxl]; exact (Array.getElem?_eq_some_iff.1 hg).1
              rw [List.getElem?_eq_getElem h4] at h3
              exact ⟨_, h3⟩)
          refine ⟨.agg ys, ⟨ys, rfl, hys⟩, ?_⟩
          simp only [repC]
          exact hr
      case array n e =>
        simp only at h
        split at h
        case h_2 => cases h
        rename_i te sc h1 h2
        cases hp : Nat.beq sz (n * te.sz) with
        | false => rw [hp] at h; cases h
        | true =>
          rw [hp] at h
          simp only [cond_true, Option.some.injEq] at h
          subst h
          have hsz := Nat.eq_of_beq_eq_true hp
          have hc := (tget_ok hT h1).cellsOf
          obtain ⟨xs, m, _, _, hcl, hxl, hf⟩ := DataW.trod_array (tk_array hok) hx
          rw [hok.cellsOf] at hcl
          rw [hc] at hf
          obtain ⟨ys, hyl, hyp⟩ := choose_list (n := n) (p := fun i y => has sc y ∧ repC w (fun b => b < w.heap.size) y ((cs.drop (i * te.sz)).take te.sz)) (fun i hi' => by
            have h3 := hf i hi'
            rw [List.getElem?_eq_getElem (by omega)] at h3
            exact open_sh hT fuel e sc h2 m _ _ h3)
          refine ⟨.arr te.sz n ys, ⟨ys, rfl, hyl, fun y hy => ?_⟩, ?_⟩
          · obtain ⟨i, hi', rfl⟩ := List.mem_iff_getElem.1 hy
            exact (hyp i hi').1
          · simp only [repC]
            exact ⟨hyl, repA_mk _ _ (by rw [hyl, hcl]; exact hsz) (fun i hi' => (hyp i hi').2)⟩
      all_goals cases h
theorem open_val (hT : TTOk P T) (fuel : Nat) {t : Nat} {sh : Sh} (hs : shOf T fuel t = some sh) {base : Nat} {v : Value} {d : DataW H} {p : List MemPlace} (hv : Value.okWide P w .any base t v) (h : DataW.Trod enc P w 0 (fun _ => true) true t v d p) :
    ∃ a, has sh a ∧ repV w (fun b => b < w.heap.size) a v := by
  obtain ⟨f, hf⟩ := h
  obtain ⟨a, ha, hc⟩ := open_sh hT fuel t sh hs f _ _ hf
  refine ⟨a, ha, ?_⟩
  have key : v = ofCells a v.cells.toList := by
    cases fuel with
    | zero => cases hs
    | succ fuel =>
      unfold shOf at hs
      cases ht : tget T t with
      | none => rw [ht] at hs; cases hs
      | some ti =>
        rw [ht] at hs
        have hok := tget_ok hT ht
        obtain ⟨dd, hd, hk⟩ := hok.desc
        obtain ⟨k, sz, by_, z⟩ := ti
        cases k <;> first | (simp only [Option.some.injEq] at hs; subst hs) | skip
        case bool =>
          have hd' : P.underlying t = some .bool := by rw [hd]; cases dd <;> first | rfl | cases hk
          obtain ⟨c, rfl⟩ := okWide_bool hd' hv
          obtain ⟨x, rfl⟩ := ha; rfl
        case int k =>
          obtain ⟨k', c, rfl⟩ := okWide_int (tk_int hok) hv
          obtain ⟨x, rfl, _⟩ := ha; rfl
        case string =>
          obtain ⟨c, rfl⟩ := okWide_string (tk_string hok) hv
          obtain ⟨x, rfl, _⟩ := ha; rfl
        case slice e =>
          obtain ⟨c, _, _, rfl⟩ := okWide_slice (tk_slice hok) hv
          simp only at hs
          split at hs
          case h_2 => cases hs
          rename_i te sc h1 h2
          cases hp : Nat.blt 0 te.sz with
          | false => rw [hp] at hs; cases hs
          | true =>
            rw [hp] at hs
            simp only [cond_true, Option.some.injEq] at hs
            subst hs
            obtain ⟨x, rfl, _⟩ := ha; rfl
        case struct fs =>
          obtain ⟨fs0, hd'⟩ : ∃ fs0, P.underlying t = some (.struct fs0) := by
            cases dd <;> first | cases hk | skip
            exact ⟨_, hd⟩
          obtain ⟨cs, rfl, _⟩ := okWide_struct hd' hv
          simp only at hs
          split at hs
          case h_2 => cases hs
          cases hp : Nat.beq (endF T 0 fs) sz with
          | false => rw [hp] at hs; cases hs
          | true =>
            rw [hp] at hs
            simp only [cond_true, Option.some.injEq] at hs
            subst hs
            obtain ⟨x, rfl, _⟩ := ha; rfl
        case array n e =>
          have hcs : ∃ cs, v = .agg cs := by
            have h := hv
            simp only [Value.okWide, tk_array hok] at h
            obtain ⟨cs, h1, _⟩ := h
            exact ⟨cs, h1⟩
          obtain ⟨cs, rfl⟩ := hcs
          simp only at hs
          split at hs
          case h_2 => cases hs
          rename_i te sc h1 h2
          cases hp : Nat.beq sz (n * te.sz) with
          | false => rw [hp] at hs; cases hs
          | true =>
            rw [hp] at hs
            simp only [cond_true, Option.some.injEq] at hs
            subst hs
            obtain ⟨x, rfl, _⟩ := ha; rfl
        all_goals cases hs
  rw [key]
  exact repV_mk hc
/-- A law that is proved true by rules returns true, and leaves all that was there as it was. -/
theorem law_run {f : FuncId} {args : List AV} (h : Spec P f args [] (fun v os => v = .b true ∧ os = [])) {vals : List Value} (hr : repVs w (fun b => b < w.heap.size) args vals) :
    Calls P f vals.toArray w fun e w' => e = .returned (.bool true) ∧ Below w.heap.size w w' := by
  refine (h.run w vals (fun b => b < w.heap.size) (fun b hb => ⟨hb, by simp [oblks]⟩) ⟨fun o ho => (by cases ho), List.nodup_nil, fun b hb => (by cases hb)⟩ hr).mono ?_
  rintro e w' ⟨v, r, os', rfl, ⟨rfl, rfl⟩, hm, _, _, hv⟩
  obtain ⟨cs, hc, rfl⟩ := hv
  simp only [repC] at hc
  subst hc
  exact ⟨rfl, hm.to_below (fun k _ hk => by simp [oblks] at hk) (Nat.le_refl _)⟩
theorem repVs_nil {F : Nat → Prop} : repVs w F [] [] := ⟨rfl, fun i x v h => by simp at h⟩
theorem repVs_cons {F : Nat → Prop} {a : AV} {v : Value} {avs : List AV} {vs : List Value} (h : repV w F a v) (hs : repVs w F avs vs) : repVs w F (a :: avs) (v :: vs) :=
  ⟨by simp [hs.1], fun i x u hx hu => by
    cases i with
    | zero =>
      simp only [List.getElem?_cons_zero, Option.some.injEq] at hx hu
      subst hx; subst hu; exact h
    | succ i => exact hs.2 i x u (by simpa using hx) (by simpa using hu)⟩
end
/-! What a shape says, in the words of a law. -/
theorem has_list {α : Type} {f : α → AV} {Q : α → Prop} {e : Sh} (he : ∀ x, has e x → ∃ t, x = f t ∧ Q t) : ∀ {xs : List AV}, (∀ x ∈ xs, has e x) → ∃ l : List α, xs = l.map f ∧ ∀ t ∈ l, Q t
  | [], _ => ⟨[], rfl, by simp⟩
  | x :: xs, h => by
    obtain ⟨t, rfl, hq⟩ := he x (h x (by simp))
    obtain ⟨l, rfl, hl⟩ := has_list he (xs := xs) (fun y hy => h y (by simp [hy]))
    exact ⟨t :: l, rfl, fun y hy => by
      rcases List.mem_cons.1 hy with rfl | hy
      · exact hq
      · exact hl y hy⟩
theorem has_slice {α : Type} {f : α → AV} {Q : α → Prop} {sz : Nat} {e : Sh} (he : ∀ x, has e x → ∃ t, x = f t ∧ Q t) {a : AV} (h : has (.sl sz e) a) : ∃ l : List α, a = .sl sz (l.map f) ∧ l.length ≤ 9223372036854775807 ∧ ∀ t ∈ l, Q t := by
  obtain ⟨xs, rfl, h1, h2⟩ := h
  obtain ⟨l, rfl, hl⟩ := has_list he h2
  exact ⟨l, rfl, by simpa using h1, hl⟩
theorem has_int {a : AV} (h : has (.i .i64) a) : ∃ n : Int, a = .i .i64 n ∧ -9223372036854775808 ≤ n ∧ n ≤ 9223372036854775807 := by
  obtain ⟨n, rfl, h1, h2⟩ := h
  exact ⟨n, rfl, by simpa [IntKind.min, IntKind.signed, IntKind.bits] using h1, by simpa [IntKind.max, IntKind.signed, IntKind.bits] using h2⟩
theorem has_byte {a : AV} (h : has (.i .u8) a) : ∃ c : UInt8, a = .i .u8 (c.toNat : Int) ∧ True := by
  obtain ⟨n, rfl, h1, h2⟩ := h
  simp [IntKind.min, IntKind.max, IntKind.signed, IntKind.bits] at h1 h2
  refine ⟨UInt8.ofNat n.toNat, ?_, trivial⟩
  rw [UInt8.toNat_ofNat', show ((n.toNat % 2 ^ 8 : Nat) : Int) = n by omega]
theorem has_bytes {sz k : Nat} {a : AV} (h : has (.arr sz k (.i .u8)) a) : ∃ l : List UInt8, a = .arr sz k (l.map fun c => .i .u8 (c.toNat : Int)) ∧ l.length = k := by
  obtain ⟨xs, rfl, h1, h2⟩ := h
  obtain ⟨l, rfl, _⟩ := has_list (f := fun c : UInt8 => AV.i .u8 (c.toNat : Int)) (fun x hx => has_byte hx) h2
  exact ⟨l, rfl, by simpa using h1⟩
end Go.Proofs.Ytcmgpkibjdbonaa
