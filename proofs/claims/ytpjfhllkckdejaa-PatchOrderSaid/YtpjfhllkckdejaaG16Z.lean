/- law16.PatchOrder: by rules, and the plain law. -/
import Derived.Test.YtpjfhllkckdejaaG14Z
import Derived.Test.YtpjfhllkckdejaaR9Z
import Derived.Test.YtpjfhllkckdejaaGFZ
set_option maxHeartbeats 8000000
set_option maxRecDepth 100000
namespace Go.Proofs.Ytpjfhllkckdejaa
open Go Go.RowKit
def swpL (m : List Lef) (i j : Nat) (h1 : i < m.length) (h2 : j < m.length) : List Lef := (m.set i m[j]).set j m[i]
theorem swp_perm (m : List Lef) (i j : Nat) (h1 : i < m.length) (h2 : j < m.length) : (swpL m i j h1 h2).Perm m := by
  unfold swpL
  exact List.set_set_perm h1 h2
def iA (n : Int) : AV := .i .i64 n
theorem patchOrder_spec (l : List Lef) (by_ : List Int) (hl : l.length ≤ 9223372036854775807) (hb : by_.length ≤ 9223372036854775807) (hok : ∀ x ∈ l, x.ok) : Spec Try.prog 7 [.sl 65 (l.map Lef.A), .sl 1 (by_.map iA)] [] (fun v os => v = .b true ∧ os = []) := by
  refine spec_of TtOk [] Try.func7 rfl Try.ntmps7 (by kernel_rfl) rfl rfl (fun C => ?_) rfl
  have h1 := few_spec l 40 hl (by decide)
  have hlen : (l.take 40).length ≤ 40 := by rw [List.length_take]; omega
  have hok1 : ∀ x ∈ l.take 40, x.ok := fun x hx => hok x (List.mem_of_mem_take hx)
  generalize l.take 40 = L at h1 hlen hok1
  have h1b := few_spec L 40 (by omega) (by decide)
  rw [List.take_of_length_le hlen] at h1b
  have h2 := of_spec L (by omega) hok1
  have hio : ∀ M : List Lef, (∀ x ∈ M, x.ok) → ∀ x ∈ itmsL M, x.ok := fun M hM x hx => by
    obtain ⟨y, hy, rfl⟩ := List.mem_map.1 (srtI_mem.1 hx)
    exact leafI_ok y (hM y hy)
  have hil : ∀ M : List Lef, (itmsL M).length = M.length := fun M => by unfold itmsL; rw [srtI_len, List.length_map]
  have h3 := top_spec (itmsL L) (by rw [hil]; omega) (hio L hok1)
  have hpt := fun (M : List Lef) (h : M.Perm L) => top_perm h
  generalize topS (itmsL L) = s at h3 hpt
  generalize chkI (itmsL L) = e at h3 hpt
  generalize itmsL L = I at h2 h3
  repeat' (first | (refine o_freezeR 13 0 rfl rfl rfl ?_) | refine Awp.seq ?_ | refine Awp.block ?_ | refine Awp.region ?_ | (refine Ops.nil ?_; show Awp _ _ _ _ _) | (refine o_calm rfl TtOk rfl rfl rfl ?_ (fun _ => ?_); first | exact True.intro | exact ⟨rfl, rfl, rfl, rfl⟩ | exact ⟨rfl, True.intro⟩ | exact ⟨rfl, rfl⟩ | exact ⟨rfl, rfl, rfl⟩ | exact rfl | exact ⟨fun h0 => by cases h0, rfl⟩ | exact (fun h0 => by cases h0) | exact ⟨rfl, by omega⟩ | exact ⟨Nat.succ_ne_zero _, rfl⟩ | omega) | refine o_alloc (d := 5) rfl TtOk rfl rfl rfl (fun b5 => ?_) | refine o_store TtOk rfl rfl rfl rfl rfl rfl rfl ⟨rfl, rfl⟩ rfl rfl rfl rfl rfl ?_ | (refine o_callR rfl h1 ⟨SLe.of_eq rfl, SLe.of_eq rfl, True.intro⟩ rfl (fun vR => ?_)) | (refine o_callR rfl h1b ⟨SLe.of_eq rfl, SLe.of_eq rfl, True.intro⟩ rfl (fun vQ => ?_)) | (refine o_call0 rfl (h2) ⟨SLe.of_eq rfl, True.intro⟩ rfl ?_; rintro _ _ ⟨rfl, rfl⟩; refine ⟨rfl, ?_⟩) | (refine o_call0 rfl (h3) ⟨SLe.of_eq rfl, True.intro⟩ rfl ?_; rintro _ _ ⟨rfl, rfl⟩; refine ⟨rfl, ?_⟩))
  refine Awp.loop (fun q : Nat × List Lef => ⟨88, [(8, .i .i64 q.1), (7, .own 21 vQ), (1, .sl 1 (by_.map iA)), (5, .ptr 5 b5 [] 0), (6, .i .i64 e)], [(21, .row vQ 38 65 (q.2.map Lef.A)), (5, .var b5 (labA s))]⟩) (fun q => q.1 ≤ L.length ∧ q.2.Perm L) (fun q => L.length - q.1) [] (0, L) ⟨Nat.zero_le _, List.Perm.refl _⟩ ?_ ?_
  · exact ⟨rfl, ⟨sle_i rfl, sle_own, sle_sl rfl, sle_ptr, sle_i rfl, True.intro⟩, HLe.cons 21 rfl (HOLe.refl _) (HLe.cons 5 rfl (HOLe.refl _) .nil)⟩
  rintro ⟨i, M⟩ ⟨hi, hp⟩
  dsimp only at hi hp ⊢
  have hml := hp.length_eq
  by_cases hgo : i < by_.length ∧ i < M.length
  · obtain ⟨g1, g2⟩ := hgo
    have hi1 : ((i : Int) + 1 = ((i + 1 : Nat) : Int)) := by omega
    by_cases hj : 0 ≤ by_[i] ∧ by_[i] < M.length
    · obtain ⟨j1, j2⟩ := hj
      obtain ⟨j, hbj⟩ : ∃ j : Nat, by_[i] = (j : Int) := ⟨by_[i].toNat, by omega⟩
      have hjl : j < M.length := by omega
      have hst : (List.map Lef.A M).set i (updAt [] M[i].A (AV.agg [labA M[j].l, labA M[j].v, AV.i .i64 M[j].t])) = (M.set i M[j]).map Lef.A := by rw [List.map_set]; rfl
      have hsl : (M.set i M[j]).length = M.length := List.length_set ..
      have hsp := swp_perm M i j g2 hjl
      have hsw : swpL M i j g2 hjl = (M.set i M[j]).set j M[i] := rfl
      rw [hsw] at hsp
      repeat' (first | (rw [hst]) | (rw [hbj]) | refine Awp.seq ?_ | refine Awp.block ?_ | refine Awp.region ?_ | (refine Ops.nil ?_; show Awp _ _ _ _ _) | (refine Ops.nil ?_; show Exists _) | (refine Awp.skip ?_; show Awp _ _ _ _ _) | (refine o_add rfl rfl rfl rfl ?_ ?_; omega) | refine o_len rfl TtOk rfl rfl rfl (fun _ => ?_) | refine o_lenOwn rfl TtOk rfl rfl rfl rfl (fun _ => ?_) | (refine o_calm rfl TtOk rfl rfl rfl ?_ (fun _ => ?_); first | exact True.intro | exact ⟨rfl, rfl, rfl, rfl⟩ | exact ⟨rfl, True.intro⟩ | exact ⟨rfl, rfl⟩ | exact ⟨rfl, rfl, rfl⟩ | exact rfl | exact ⟨fun h0 => by cases h0, rfl⟩ | exact (fun h0 => by cases h0) | exact ⟨rfl, by omega⟩ | exact ⟨Nat.succ_ne_zero _, rfl⟩ | omega) | refine o_alloc (d := 9) rfl TtOk rfl rfl rfl (fun b9 => ?_) | refine o_store TtOk rfl rfl rfl rfl rfl rfl rfl ⟨rfl, rfl⟩ rfl rfl rfl rfl rfl ?_ | (refine o_index rfl TtOk rfl rfl rfl rfl rfl rfl ?_ (getq_nat ?_) ?_; omega; omega) | (refine o_indexOwn TtOk rfl rfl rfl rfl rfl rfl rfl rfl _ rfl ?_ (fun bO hbO => ?_); (simp only [List.length_map]; omega)) | (refine o_loadRow TtOk rfl rfl rfl rfl rfl (by assumption) (getq_map (List.getElem?_eq_getElem ?_)) rfl rfl (by first | exact Nat.add_zero _ | rfl) ⟨rfl, rfl⟩ ?_; omega) | (refine o_storeRow TtOk rfl rfl rfl rfl rfl rfl (by assumption) (getq_map (List.getElem?_eq_getElem ?_)) rfl rfl (by first | exact Nat.add_zero _ | rfl) ⟨rfl, rfl⟩ rfl rfl ?_; omega) | (fail_if_success (refine o_isLit rfl (by first | exact .inl rfl | exact .inr rfl) ?_)); (refine o_splitP rfl rfl (fun hc => ?_) (fun hc => ?_) <;> try (exfalso; omega)) | (refine a_condP rfl (fun hc => ?_) (fun hc => ?_)) <;> (try (exfalso; omega)) | refine a_any 10 [21] [66, 67] [] [0, 1, 2, 3, 4, 5, 6, 7] (by kernel_rfl) (by kernel_rfl) (by kernel_rfl) rfl rfl rfl ?_)
      all_goals
        refine ⟨(i + 1, (M.set i M[j]).set j M[i]), [], ⟨by show i + 1 ≤ L.length; omega, hsp.trans hp⟩, by show L.length - (i + 1) < L.length - i; omega, rfl, ⟨sle_i hi1, sle_own, sle_sl rfl, sle_ptr, sle_i rfl, True.intro⟩, HLe.cons 21 rfl (HOLe.row ?_) (HLe.cons 5 rfl (HOLe.refl _) .nil)⟩
        rw [List.map_set (l := M.set i M[j])]; rfl
    · repeat' (first | refine Awp.seq ?_ | refine Awp.block ?_ | refine Awp.region ?_ | (refine Ops.nil ?_; show Awp _ _ _ _ _) | (refine Ops.nil ?_; show Exists _) | (refine Awp.skip ?_; show Awp _ _ _ _ _) | refine o_noT rfl rfl rfl ?_ | (refine o_add rfl rfl rfl rfl ?_ ?_; omega) | refine o_len rfl TtOk rfl rfl rfl (fun _ => ?_) | refine o_lenOwn rfl TtOk rfl rfl rfl rfl (fun _ => ?_) | (refine o_calm rfl TtOk rfl rfl rfl ?_ (fun _ => ?_); first | exact True.intro | exact ⟨rfl, rfl, rfl, rfl⟩ | exact ⟨rfl, True.intro⟩ | exact ⟨rfl, rfl⟩ | exact ⟨rfl, rfl, rfl⟩ | exact rfl | exact ⟨fun h0 => by cases h0, rfl⟩ | exact (fun h0 => by cases h0) | exact ⟨rfl, by omega⟩ | exact ⟨Nat.succ_ne_zero _, rfl⟩ | omega) | (refine o_index rfl TtOk rfl rfl rfl rfl rfl rfl ?_ (getq_nat ?_) ?_; omega; omega) | (fail_if_success (refine o_isLit rfl (by first | exact .inl rfl | exact .inr rfl) ?_)); (refine o_splitP rfl rfl (fun hc => ?_) (fun hc => ?_) <;> try (exfalso; omega)) | refine a_condF rfl ?_ | (refine a_condP rfl (fun hc => ?_) (fun hc => ?_)) <;> (try (exfalso; omega)))
      all_goals exact ⟨(i + 1, M), [], ⟨by show i + 1 ≤ L.length; omega, hp⟩, by show L.length - (i + 1) < L.length - i; omega, rfl, ⟨sle_i hi1, sle_own, sle_sl rfl, sle_ptr, sle_i rfl, True.intro⟩, HLe.cons 21 rfl (HOLe.refl _) (HLe.cons 5 rfl (HOLe.refl _) .nil)⟩
  · obtain ⟨p1, p2⟩ := hpt M hp
    have hokM : ∀ x ∈ M, x.ok := fun x hx => hok1 x (hp.mem_iff.1 hx)
    have h4 := of_spec M (by omega) hokM
    have h5 := top_spec (itmsL M) (by rw [hil]; omega) (hio M hokM)
    rw [p2] at h5
    generalize chkI (itmsL M) = f at h5 p1
    generalize itmsL M = J at h4 h5
    have h6 := awake16_spec
    by_cases he : e = 0
    · have hf := p1.2 he
      subst he
      subst hf
      repeat' (first | (refine o_freezeR (xs := M.map Lef.A) 21 7 rfl rfl rfl ?_) | refine Awp.seq ?_ | refine Awp.region ?_ | (refine Ops.nil ?_; show Awp _ _ _ _ _) | (refine Awp.exit ?_; show Awp _ _ _ _ _) | (refine Awp.ret ?_; show endK _ _ _ _ _) | refine o_noT rfl rfl rfl ?_ | refine o_len rfl TtOk rfl rfl rfl (fun _ => ?_) | (refine o_calm rfl TtOk rfl rfl rfl ?_ (fun _ => ?_); first | exact True.intro | exact ⟨rfl, rfl, rfl, rfl⟩ | exact ⟨rfl, True.intro⟩ | exact ⟨rfl, rfl⟩ | exact ⟨rfl, rfl, rfl⟩ | exact rfl | exact ⟨fun h0 => by cases h0, rfl⟩ | exact (fun h0 => by cases h0) | exact ⟨rfl, by omega⟩ | exact ⟨Nat.succ_ne_zero _, rfl⟩ | omega) | refine o_alloc (d := 10) rfl TtOk rfl rfl rfl (fun b10 => ?_) | refine o_store TtOk rfl rfl rfl rfl rfl rfl rfl ⟨rfl, rfl⟩ rfl rfl rfl rfl rfl ?_ | refine o_eqArr8 TtOk rfl rfl rfl rfl rfl rfl (by kernel_rfl) ?_ | (fail_if_success (refine o_isLit rfl (by first | exact .inl rfl | exact .inr rfl) ?_)); (refine o_splitP rfl rfl (fun hc => ?_) (fun hc => ?_) <;> try (exfalso; omega)) | refine a_condF rfl ?_ | (refine a_condP rfl (fun hc => ?_) (fun hc => ?_)) <;> (try (exfalso; omega)) | (refine o_call0 rfl (h4) ⟨SLe.of_eq rfl, True.intro⟩ rfl ?_; rintro _ _ ⟨rfl, rfl⟩; refine ⟨rfl, ?_⟩) | (refine o_call0 rfl (h5) ⟨SLe.of_eq rfl, True.intro⟩ rfl ?_; rintro _ _ ⟨rfl, rfl⟩; refine ⟨rfl, ?_⟩) | (refine o_call0 rfl (h6) True.intro rfl ?_; rintro _ _ ⟨rfl, rfl⟩; refine ⟨rfl, ?_⟩))
      all_goals
        refine end_tmp rfl rfl rfl [] [] (CLe.of_eq ?_) .nil ⟨rfl, rfl⟩ _ (.inl rfl)
        show AV.b (s == s) = AV.b true
        rw [beq_self_eq_true]
    · have hf : ¬ f = 0 := fun h => he (p1.1 h)
      have hee : (e == 0) = false := beq_eq_false_iff_ne.2 he
      have hff : (f == 0) = false := beq_eq_false_iff_ne.2 hf
      repeat' (first | (rw [hff]) | (rw [hee]) | (refine o_freezeR (xs := M.map Lef.A) 21 7 rfl rfl rfl ?_) | refine Awp.seq ?_ | refine Awp.region ?_ | (refine Ops.nil ?_; show Awp _ _ _ _ _) | (refine Awp.exit ?_; show Awp _ _ _ _ _) | (refine Awp.ret ?_; show endK _ _ _ _ _) | refine o_noT rfl rfl rfl ?_ | refine o_len rfl TtOk rfl rfl rfl (fun _ => ?_) | (refine o_calm rfl TtOk rfl rfl rfl ?_ (fun _ => ?_); first | exact True.intro | exact ⟨rfl, rfl, rfl, rfl⟩ | exact ⟨rfl, True.intro⟩ | exact ⟨rfl, rfl⟩ | exact ⟨rfl, rfl, rfl⟩ | exact rfl | exact ⟨fun h0 => by cases h0, rfl⟩ | exact (fun h0 => by cases h0) | exact ⟨rfl, by omega⟩ | exact ⟨Nat.succ_ne_zero _, rfl⟩ | omega) | refine o_alloc (d := 10) rfl TtOk rfl rfl rfl (fun b10 => ?_) | refine o_store TtOk rfl rfl rfl rfl rfl rfl rfl ⟨rfl, rfl⟩ rfl rfl rfl rfl rfl ?_ | refine o_eqArr8 TtOk rfl rfl rfl rfl rfl rfl (by kernel_rfl) ?_ | (fail_if_success (refine o_isLit rfl (by first | exact .inl rfl | exact .inr rfl) ?_)); (refine o_splitP rfl rfl (fun hc => ?_) (fun hc => ?_) <;> try (exfalso; omega)) | refine a_condF rfl ?_ | (refine a_condP rfl (fun hc => ?_) (fun hc => ?_)) <;> (try (exfalso; omega)) | (refine o_call0 rfl (h4) ⟨SLe.of_eq rfl, True.intro⟩ rfl ?_; rintro _ _ ⟨rfl, rfl⟩; refine ⟨rfl, ?_⟩) | (refine o_call0 rfl (h5) ⟨SLe.of_eq rfl, True.intro⟩ rfl ?_; rintro _ _ ⟨rfl, rfl⟩; refine ⟨rfl, ?_⟩) | (refine o_call0 rfl (h6) True.intro rfl ?_; rintro _ _ ⟨rfl, rfl⟩; refine ⟨rfl, ?_⟩))
      all_goals
        refine end_tmp rfl rfl rfl [] [] (CLe.of_eq ?_) .nil ⟨rfl, rfl⟩ _ (.inl rfl)
        show AV.b (s == s) = AV.b true
        rw [beq_self_eq_true]
end Go.Proofs.Ytpjfhllkckdejaa
set_option maxHeartbeats 16000000
set_option maxRecDepth 100000
namespace Go.Proofs.Ytpjfhllkckdejaa
open Go Go.RowKit
theorem and1u (x : Nat) (h : x < 256) : bitsI .and .u8 (x : Int) 1 = ((x % 2 : Nat) : Int) := by
  have : ∀ x : Fin 256, bitsI .and .u8 ((x.val : Nat) : Int) 1 = ((x.val % 2 : Nat) : Int) := by decide +kernel
  exact this ⟨x, h⟩
theorem bitU (l : List UInt8) (n : Nat) : bitsI .and .u8 (((l.getD (n / 8) 0).toNat : Int).fdiv (2 ^ (min (7 - (n : Int) % 8).toNat (IntKind.bits .u8)))) 1 = ((bitL l n : Nat) : Int) := by
  have hx : (l.getD (n / 8) 0).toNat / 2 ^ (7 - n % 8) < 256 := Nat.lt_of_le_of_lt (Nat.div_le_self _ _) (UInt8.toNat_lt _)
  rw [show (7 - (n : Int) % 8) = ((7 - n % 8 : Nat) : Int) by omega, shr8 _ _ (by omega), and1u _ hx]
  rfl
def nodN (n : Nat) : Int := max 0 (2 * (n : Int) - 1)
theorem nodes_spec : ∀ (k : Nat) (l : List Itm), l.length ≤ k → l.length ≤ 10000 → RiseI l → (∀ x ∈ l, x.ok) → Spec Try.prog 36 [.sl 66 (l.map Itm.R)] [] (fun v os => v = .i .i64 (nodN l.length) ∧ os = []) := by
  intro k
  induction k with
  | zero =>
    intro l hk _ _ _
    have hn : l = [] := List.length_eq_zero_iff.1 (by omega)
    subst hn
    refine spec_of TtOk [] Try.func36 rfl Try.ntmps36 (by kernel_rfl) rfl rfl (fun C => ?_) rfl
    repeat' (first | refine Awp.seq ?_ | refine Awp.region ?_ | (refine Ops.nil ?_; show Awp _ _ _ _ _) | (refine Awp.ret ?_; show endK _ _ _ _ _) | refine o_len rfl TtOk rfl rfl rfl (fun _ => ?_) | (refine o_calm rfl TtOk rfl rfl rfl ?_ (fun _ => ?_); first | exact True.intro | exact ⟨rfl, rfl, rfl, rfl⟩ | exact ⟨rfl, True.intro⟩ | exact ⟨rfl, rfl⟩ | exact ⟨rfl, rfl, rfl⟩ | exact rfl | exact ⟨fun h0 => by cases h0, rfl⟩ | exact (fun h0 => by cases h0) | exact ⟨rfl, by omega⟩ | exact ⟨Nat.succ_ne_zero _, rfl⟩ | omega) | refine a_condT rfl ?_)
    exact end_tmp rfl rfl rfl [] [] (CLe.of_eq rfl) .nil ⟨rfl, rfl⟩ _ (.inl rfl)
  | succ k ih =>
    intro l hk hl hr hok
    refine spec_of TtOk [] Try.func36 rfl Try.ntmps36 (by kernel_rfl) rfl rfl (fun C => ?_) rfl
    by_cases h2 : l.length < 2
    · have hv : nodN l.length = l.length := by unfold nodN; omega
      rw [hv]
      repeat' (first | refine Awp.seq ?_ | refine Awp.region ?_ | (refine Ops.nil ?_; show Awp _ _ _ _ _) | (refine Awp.ret ?_; show endK _ _ _ _ _) | refine o_len rfl TtOk rfl rfl rfl (fun _ => ?_) | (refine o_calm rfl TtOk rfl rfl rfl ?_ (fun _ => ?_); first | exact True.intro | exact ⟨rfl, rfl, rfl, rfl⟩ | exact ⟨rfl, True.intro⟩ | exact ⟨rfl, rfl⟩ | exact ⟨rfl, rfl, rfl⟩ | exact rfl | exact ⟨fun h0 => by cases h0, rfl⟩ | exact (fun h0 => by cases h0) | exact ⟨rfl, by omega⟩ | exact ⟨Nat.succ_ne_zero _, rfl⟩ | omega) | (refine a_condP rfl (fun hc => ?_) (fun hc => ?_)) <;> (try (exfalso; omega)))
      exact end_tmp rfl rfl rfl [] [] (CLe.of_eq rfl) .nil ⟨rfl, rfl⟩ _ (.inl rfl)
    · have hp : 0 < l.length := by omega
      have hn : l ≠ [] := fun h => by subst h; simp at hp
      have hjn := rjoin_spec l.length l hn (Nat.le_refl _) (by omega) hr hok
      obtain ⟨-, hpf⟩ := join_pfx l.length l hp (Nat.le_refl _) hr hok
      have hxn := (hpf (by omega)).1
      obtain ⟨hf, s1, s2, s3⟩ := spl_ok hr hok (by omega)
      have hlo : ∀ j (hj : j < l.length), j < splI l → bitL l[j].l (frkI l) = 0 := fun j hj h => spl_lo j h hj
      have hhi : bitL (l[splI l]'s2).l (frkI l) = 1 := spl_hi hr hok (by omega) _ (Nat.le_refl _) s2
      have hbt : ∀ (i : Nat) (h : i < l.length), (l[i].l)[frkI l / 8]? = some ((l[i].l).getD (frkI l / 8) 0) := fun i h => by
        have := (hok _ (List.getElem_mem h)).1
        rw [List.getD_eq_getElem?_getD, List.getElem?_eq_getElem (by omega)]; rfl
      have cA := ih (l.take (splI l)) (by rw [List.length_take]; omega) (by rw [List.length_take]; omega) (hr.sublist (List.take_sublist ..)) (fun x hx => hok x (List.mem_of_mem_take hx))
      have cB := ih (l.drop (splI l)) (by rw [List.length_drop]; omega) (by rw [List.length_drop]; omega) (hr.sublist (List.drop_sublist ..)) (fun x hx => hok x (List.mem_of_mem_drop hx))
      have e1 : (l.take (splI l)).length = splI l := by rw [List.length_take]; omega
      have e2 : (l.drop (splI l)).length = l.length - splI l := List.length_drop
      rw [e1] at cA
      rw [e2] at cB
      have hv : nodN l.length = 1 + nodN (splI l) + nodN (l.length - splI l) := by unfold nodN; omega
      have hb1 : -1000000 ≤ nodN (splI l) ∧ nodN (splI l) ≤ 1000000 := by unfold nodN; omega
      have hb2 : -1000000 ≤ nodN (l.length - splI l) ∧ nodN (l.length - splI l) ≤ 1000000 := by unfold nodN; omega
      rw [hv]
      clear hv ih hr hok hpf s3 e1 e2
      generalize nodN (splI l) = na at *
      generalize nodN (l.length - splI l) = nb at *
      generalize frkI l = n at *
      generalize splI l = s at *
      generalize joinF l.length l = x at *
      obtain ⟨xn, xl, xs, xt⟩ := x
      dsimp only at hxn
      subst hxn
      have hjn : Spec Try.prog 64 [.sl 66 (l.map Itm.R)] [] (fun v os => v = .agg [.i .i64 (n : Nat), labA xl, labA xs, .i .i64 xt] ∧ os = []) := hjn
      rw [show l.drop s = (l.take l.length).drop s by rw [List.take_length]] at cB
      repeat' (first | refine Awp.seq ?_ | refine Awp.block ?_ | refine Awp.region ?_ | (refine Ops.nil ?_; show Awp _ _ _ _ _) | (refine Awp.skip ?_; show Awp _ _ _ _ _) | refine o_len rfl TtOk rfl rfl rfl (fun _ => ?_) | (refine o_calm rfl TtOk rfl rfl rfl ?_ (fun _ => ?_); first | exact True.intro | exact ⟨rfl, rfl, rfl, rfl⟩ | exact ⟨rfl, True.intro⟩ | exact ⟨rfl, rfl⟩ | exact ⟨rfl, rfl, rfl⟩ | exact rfl | exact ⟨fun h0 => by cases h0, rfl⟩ | exact (fun h0 => by cases h0) | exact ⟨rfl, by omega⟩ | exact ⟨Nat.succ_ne_zero _, rfl⟩ | omega) | refine o_alloc (d := 3) rfl TtOk rfl rfl rfl (fun b3 => ?_) | refine o_store TtOk rfl rfl rfl rfl rfl rfl rfl ⟨rfl, rfl⟩ rfl rfl rfl rfl rfl ?_ | (refine a_condP rfl (fun hc => ?_) (fun hc => ?_)) <;> (try (exfalso; omega)) | (refine o_call0 rfl (hjn) ⟨SLe.of_eq rfl, True.intro⟩ rfl ?_; rintro _ _ ⟨rfl, rfl⟩; refine ⟨rfl, ?_⟩))
      refine Awp.loop (fun i : Nat => ⟨46, [(4, .i .i64 i), (0, .sl 66 (l.map Itm.R)), (3, .ptr 3 b3 [] 0)], [(3, .var b3 (.agg [.i .i64 (n : Nat), labA xl, labA xs, .i .i64 xt]))]⟩) (fun i => i ≤ s) (fun i => s - i) [] 0 (Nat.zero_le _) ?_ ?_
      · exact ⟨rfl, ⟨sle_i rfl, sle_sl rfl, sle_ptr, True.intro⟩, HLe.cons 3 rfl (HOLe.refl _) .nil⟩
      intro i hi
      have hil : i < l.length := by omega
      have hi1 : ((i : Int) + 1 = ((i + 1 : Nat) : Int)) := by omega
      have hbi := hbt i hil
      have hbu := bitU l[i].l n
      have hl0 := hlo i hil
      clear hbt hlo
      by_cases hlt : i < s
      · rw [hl0 hlt] at hbu
        generalize (l[i].l).getD (n / 8) 0 = c at hbi hbu
        repeat' (first | (rw [hbu]) | refine Awp.seq ?_ | refine Awp.block ?_ | refine Awp.region ?_ | (refine Ops.nil ?_; show Awp _ _ _ _ _) | (refine Ops.nil ?_; show Exists _) | (refine Awp.skip ?_; show Awp _ _ _ _ _) | (refine o_add rfl rfl rfl rfl ?_ ?_; omega) | (refine o_sub rfl rfl rfl rfl ?_ ?_; omega) | (refine o_quo rfl rfl rfl rfl ?_ ?_ ?_; omega; omega) | (refine o_rem rfl rfl rfl rfl ?_ ?_ ?_; omega; omega) | refine o_len rfl TtOk rfl rfl rfl (fun _ => ?_) | (refine o_calm rfl TtOk rfl rfl rfl ?_ (fun _ => ?_); first | exact True.intro | exact ⟨rfl, rfl, rfl, rfl⟩ | exact ⟨rfl, True.intro⟩ | exact ⟨rfl, rfl⟩ | exact ⟨rfl, rfl, rfl⟩ | exact rfl | exact ⟨fun h0 => by cases h0, rfl⟩ | exact (fun h0 => by cases h0) | exact ⟨rfl, by omega⟩ | exact ⟨Nat.succ_ne_zero _, rfl⟩ | omega) | (refine o_index rfl TtOk rfl rfl rfl rfl rfl rfl ?_ (getq_nat ?_) ?_; omega; omega) | (fail_if_success (refine o_isLit rfl (by first | exact .inl rfl | exact .inr rfl) ?_)); (refine o_splitP rfl rfl (fun hc => ?_) (fun hc => ?_) <;> try (exfalso; omega)) | refine a_condT rfl ?_ | refine a_any 5 [] [] [] [0, 1, 2, 3, 4, 5, 6, 7, 10, 11, 14, 8, 9, 12, 13, 15, 16, 17, 18, 19, 20, 21] (by kernel_rfl) (by kernel_rfl) (by kernel_rfl) rfl rfl rfl ?_ | (refine o_indexCp (f:=byA) (xs:=l[i].l) TtOk rfl rfl rfl rfl rfl rfl rfl (n/8) rfl hbi ?_))
        exact ⟨i + 1, [], hlt, by omega, rfl, ⟨sle_i hi1, sle_sl rfl, sle_ptr, True.intro⟩, HLe.cons 3 rfl (HOLe.refl _) .nil⟩
      · have hie : i = s := by omega
        subst hie
        rw [hhi] at hbu
        generalize (l[i].l).getD (n / 8) 0 = c at hbi hbu
        repeat' (first | (rw [hbu]) | refine Awp.seq ?_ | (refine Ops.nil ?_; show Awp _ _ _ _ _) | (refine Awp.exit ?_; show Awp _ _ _ _ _) | (refine Awp.ret ?_; show endK _ _ _ _ _) | (refine o_add rfl rfl rfl rfl ?_ ?_; omega) | (refine o_sub rfl rfl rfl rfl ?_ ?_; omega) | (refine o_quo rfl rfl rfl rfl ?_ ?_ ?_; omega; omega) | (refine o_rem rfl rfl rfl rfl ?_ ?_ ?_; omega; omega) | refine o_len rfl TtOk rfl rfl rfl (fun _ => ?_) | (refine o_calm rfl TtOk rfl rfl rfl ?_ (fun _ => ?_); first | exact True.intro | exact ⟨rfl, rfl, rfl, rfl⟩ | exact ⟨rfl, True.intro⟩ | exact ⟨rfl, rfl⟩ | exact ⟨rfl, rfl, rfl⟩ | exact rfl | exact ⟨fun h0 => by cases h0, rfl⟩ | exact (fun h0 => by cases h0) | exact ⟨rfl, by omega⟩ | exact ⟨Nat.succ_ne_zero _, rfl⟩ | omega) | (refine o_index rfl TtOk rfl rfl rfl rfl rfl rfl ?_ (getq_nat ?_) ?_; omega; omega) | (fail_if_success (refine o_isLit rfl (by first | exact .inl rfl | exact .inr rfl) ?_)); (refine o_splitP rfl rfl (fun hc => ?_) (fun hc => ?_) <;> try (exfalso; omega)) | refine a_condF rfl ?_ | refine a_any 5 [] [] [] [0, 1, 2, 3, 4, 5, 6, 7, 10, 11, 14, 8, 9, 12, 13, 15, 16, 17, 18, 19, 20, 21] (by kernel_rfl) (by kernel_rfl) (by kernel_rfl) rfl rfl rfl ?_ | refine a_any 7 [] [] [] [0, 1, 2, 5, 6, 7, 3, 4, 8, 9, 10] (by kernel_rfl) (by kernel_rfl) (by kernel_rfl) rfl rfl rfl ?_ | (refine o_indexCp (f:=byA) (xs:=l[i].l) TtOk rfl rfl rfl rfl rfl rfl rfl (n/8) rfl hbi ?_) | (refine o_sliceSl TtOk rfl 0 i rfl rfl rfl rfl rfl bnd_none (bnd_some rfl rfl) (by omega) (by omega) ?_) | (refine o_sliceSl TtOk rfl i l.length rfl rfl rfl rfl rfl (bnd_some rfl rfl) bnd_none (by omega) (by omega) ?_) | (refine o_call0 rfl (cA) ⟨SLe.of_eq rfl, True.intro⟩ rfl ?_; rintro _ _ ⟨rfl, rfl⟩; refine ⟨rfl, ?_⟩) | (refine o_call0 rfl (cB) ⟨SLe.of_eq rfl, True.intro⟩ rfl ?_; rintro _ _ ⟨rfl, rfl⟩; refine ⟨rfl, ?_⟩))
        exact end_tmp rfl rfl rfl [] [] (CLe.of_eq rfl) .nil ⟨rfl, rfl⟩ _ (.inl rfl)
theorem patchDeep_spec (l : List Lef) (hl : l.length ≤ 9223372036854775807) (hok : ∀ x ∈ l, x.ok) : Spec Try.prog 8 [.sl 65 (l.map Lef.A)] [] (fun v os => v = .b true ∧ os = []) := by
  refine spec_of TtOk [] Try.func8 rfl Try.ntmps8 (by kernel_rfl) rfl rfl (fun C => ?_) rfl
  have h1 := few_spec l 30 hl (by decide)
  have hll : (l.take 30).length ≤ 30 := by rw [List.length_take]; omega
  have hok1 : ∀ x ∈ l.take 30, x.ok := fun x hx => hok x (List.mem_of_mem_take hx)
  generalize l.take 30 = L at h1 hll hok1
  have hio : ∀ x ∈ itmsL L, x.ok := fun x hx => by
    obtain ⟨y, hy, rfl⟩ := List.mem_map.1 (srtI_mem.1 hx)
    exact leafI_ok y (hok1 y hy)
  have hil : (itmsL L).length = L.length := by unfold itmsL; rw [srtI_len, List.length_map]
  have h2 := of_spec L (by omega) hok1
  have h3 := pcheck_spec (itmsL L) (by omega) hio
  have h4 := awake16_spec
  by_cases hc : chkI (itmsL L) = 0
  · have h5 := top_spec (itmsL L) (by omega) hio
    have h6 := leaves16_spec L (by omega)
    have h7 := rof_spec L (by omega) hok1
    have h8 := rtop_spec (itmsL L) (by omega) hio hc
    have h9 := count_spec (L.length : Int) (by omega) (by omega)
    have h10 := nodes_spec (itmsL L).length (itmsL L) (Nat.le_refl _) (by omega) (chkI_rise hc).2.1 hio
    rw [hil] at h10
    have hmx : max (0 : Int) (2 * (L.length : Int) - 1) = nodN L.length := rfl
    rw [hmx] at h9
    rw [hc] at h3 h5
    clear hc hmx
    generalize nodN L.length = nn at *
    generalize topS (itmsL L) = s at *
    generalize itmsL L = I at *
    have hnn : (nn == nn) = true := beq_self_eq_true _
    have hss : (s == s) = true := beq_self_eq_true _
    repeat' (first | (rw [hss]) | (rw [hnn]) | (refine o_freezeR 7 0 rfl rfl rfl ?_) | refine Awp.seq ?_ | refine Awp.region ?_ | (refine Ops.nil ?_; show Awp _ _ _ _ _) | (refine Awp.skip ?_; show Awp _ _ _ _ _) | (refine Awp.ret ?_; show endK _ _ _ _ _) | refine o_len rfl TtOk rfl rfl rfl (fun _ => ?_) | (refine o_calm rfl TtOk rfl rfl rfl ?_ (fun _ => ?_); first | exact True.intro | exact ⟨rfl, rfl, rfl, rfl⟩ | exact ⟨rfl, True.intro⟩ | exact ⟨rfl, rfl⟩ | exact ⟨rfl, rfl, rfl⟩ | exact rfl | exact ⟨fun h0 => by cases h0, rfl⟩ | exact (fun h0 => by cases h0) | exact ⟨rfl, by omega⟩ | exact ⟨Nat.succ_ne_zero _, rfl⟩ | omega) | refine o_alloc (d := 3) rfl TtOk rfl rfl rfl (fun b3 => ?_) | refine o_store TtOk rfl rfl rfl rfl rfl rfl rfl ⟨rfl, rfl⟩ rfl rfl rfl rfl rfl ?_ | refine o_eqArr8 TtOk rfl rfl rfl rfl rfl rfl (by kernel_rfl) ?_ | refine a_condF rfl ?_ | refine a_any 6 [] [] [] [0, 1, 2, 3, 4, 5, 7, 6, 8, 9, 10, 11, 12, 13, 15, 14, 16, 17, 18, 19] (by kernel_rfl) (by kernel_rfl) (by kernel_rfl) rfl rfl rfl ?_ | (refine o_callR rfl h1 ⟨SLe.of_eq rfl, SLe.of_eq rfl, True.intro⟩ rfl (fun vR => ?_)) | (refine o_call0 rfl (h2) ⟨SLe.of_eq rfl, True.intro⟩ rfl ?_; rintro _ _ ⟨rfl, rfl⟩; refine ⟨rfl, ?_⟩) | (refine o_call0 rfl (h3) ⟨SLe.of_eq rfl, True.intro⟩ rfl ?_; rintro _ _ ⟨rfl, rfl⟩; refine ⟨rfl, ?_⟩) | (refine o_call0 rfl (h4) True.intro rfl ?_; rintro _ _ ⟨rfl, rfl⟩; refine ⟨rfl, ?_⟩) | (refine o_call0 rfl (h5) ⟨SLe.of_eq rfl, True.intro⟩ rfl ?_; rintro _ _ ⟨rfl, rfl⟩; refine ⟨rfl, ?_⟩) | (refine o_call0 rfl (h6) ⟨SLe.of_eq rfl, True.intro⟩ rfl ?_; rintro _ _ ⟨rfl, rfl⟩; refine ⟨rfl, ?_⟩) | (refine o_call0 rfl (h7) ⟨SLe.of_eq rfl, True.intro⟩ rfl ?_; rintro _ _ ⟨rfl, rfl⟩; refine ⟨rfl, ?_⟩) | (refine o_call0 rfl (h8) ⟨SLe.of_eq rfl, True.intro⟩ rfl ?_; rintro _ _ ⟨rfl, rfl⟩; refine ⟨rfl, ?_⟩) | (refine o_call0 rfl (h9) ⟨SLe.of_eq rfl, True.intro⟩ rfl ?_; rintro _ _ ⟨rfl, rfl⟩; refine ⟨rfl, ?_⟩) | (refine o_call0 rfl (h10) ⟨SLe.of_eq rfl, True.intro⟩ rfl ?_; rintro _ _ ⟨rfl, rfl⟩; refine ⟨rfl, ?_⟩))
    all_goals exact end_tmp rfl rfl rfl [] [] (CLe.of_eq rfl) .nil ⟨rfl, rfl⟩ _ (.inl rfl)
  · generalize chkI (itmsL L) = c at *
    generalize itmsL L = I at *
    repeat' (first | (refine o_freezeR 7 0 rfl rfl rfl ?_) | refine Awp.seq ?_ | refine Awp.region ?_ | (refine Ops.nil ?_; show Awp _ _ _ _ _) | (refine Awp.ret ?_; show endK _ _ _ _ _) | (refine o_calm rfl TtOk rfl rfl rfl ?_ (fun _ => ?_); first | exact True.intro | exact ⟨rfl, rfl, rfl, rfl⟩ | exact ⟨rfl, True.intro⟩ | exact ⟨rfl, rfl⟩ | exact ⟨rfl, rfl, rfl⟩ | exact rfl | exact ⟨fun h0 => by cases h0, rfl⟩ | exact (fun h0 => by cases h0) | exact ⟨rfl, by omega⟩ | exact ⟨Nat.succ_ne_zero _, rfl⟩ | omega) | (refine a_condN rfl (fun hc => ?_) (fun hc => ?_)) <;> (try (exfalso; omega)) | (refine o_callR rfl h1 ⟨SLe.of_eq rfl, SLe.of_eq rfl, True.intro⟩ rfl (fun vR => ?_)) | (refine o_call0 rfl (h2) ⟨SLe.of_eq rfl, True.intro⟩ rfl ?_; rintro _ _ ⟨rfl, rfl⟩; refine ⟨rfl, ?_⟩) | (refine o_call0 rfl (h3) ⟨SLe.of_eq rfl, True.intro⟩ rfl ?_; rintro _ _ ⟨rfl, rfl⟩; refine ⟨rfl, ?_⟩) | (refine o_call0 rfl (h4) True.intro rfl ?_; rintro _ _ ⟨rfl, rfl⟩; refine ⟨rfl, ?_⟩))
    all_goals exact end_tmp rfl rfl rfl [] [] (CLe.of_eq rfl) .nil ⟨rfl, rfl⟩ _ (.inl rfl)
end Go.Proofs.Ytpjfhllkckdejaa
set_option maxHeartbeats 16000000
set_option maxRecDepth 100000
namespace Go.Proofs.Ytpjfhllkckdejaa
open Go Go.RowKit
theorem less_law {L : List Lef} (hok : ∀ x ∈ L, x.ok) (hl : L.length ≤ 1000) (hc : chkI (itmsL L) = 0) (j : Nat) (hj : j < L.length) :
    cvT L [L[j].l] = [L[j]] ∧ chkI (itmsL (L.take j ++ L.drop (j + 1))) = 0 ∧ chkI (cvI L [L[j].l]) = 0 ∧ topS (itmsL (L.take j ++ L.drop (j + 1))) = topS (cvI L [L[j].l]) ∧ (∀ x ∈ cvI L [L[j].l], x.ok) ∧ (cvI L [L[j].l]).length ≤ L.length := by
  have hd := itms_ne hc
  obtain ⟨f1, f2⟩ := filt_one hd j hj
  have hcs : chkI ((srtL L).map leafI) = 0 := by rw [← itms_map]; exact hc
  have hE : cvE L = 0 := by unfold cvE; rw [itms_srt]; exact hc
  have hI : cvI L [L[j].l] = (openF L.length [L[j].l] (srtL L)).1 := by unfold cvI; rw [if_pos hE]
  have hT : cvT L [L[j].l] = (openF L.length [L[j].l] (srtL L)).2 := by unfold cvT; rw [if_pos hE]
  have hsl := srtL_len L
  have hls : ∀ x ∈ [L[j].l], x.length = 32 := fun x hx => by rw [List.mem_singleton.1 hx]; exact (hok _ (List.getElem_mem hj)).1
  obtain ⟨c1, c2, c3, c4, c5, c6⟩ := cover_top (S := srtL L) (F := []) hls hcs (fun x hx => hok x (srtL_mem.1 hx)) (fun x hx => by cases hx) List.Pairwise.nil (by rw [hsl, List.length_nil]; omega)
  have hlen := (openF_len L.length [L[j].l] (srtL L)).1
  rw [hsl] at c1 c3 c4 c5 c6 hlen
  rw [List.map_nil, List.append_nil] at c1 c3
  rw [List.append_nil] at c2 c3
  rw [← hI] at c1 c3 c5 c6 hlen
  rw [srt_id c6] at c1 c3
  have hp := srtL_perm L
  have hU : ((L.take j ++ L.drop (j + 1)).map leafI).Perm (((srtL L).filter (notIn [L[j].l])).map leafI) := by
    rw [← f1]
    exact (hp.symm.filter _).map _
  have hs := srt_eq hU c2
  have hit : itmsL (L.take j ++ L.drop (j + 1)) = srtI ((L.take j ++ L.drop (j + 1)).map leafI) := rfl
  rw [hit, hs]
  refine ⟨?_, c2, c1, c3.symm, c5, hlen⟩
  rw [hT, c4]
  have hq : ((srtL L).filter (fun x => [L[j].l].contains x.l)).Perm [L[j]] := by rw [← f2]; exact hp.filter _
  exact List.perm_singleton.1 hq
theorem patchLess_spec (l : List Lef) (at_ : Int) (hl : l.length ≤ 9223372036854775807) (hok : ∀ x ∈ l, x.ok) : Spec Try.prog 9 [.sl 65 (l.map Lef.A), .i .i64 at_] [] (fun v os => v = .b true ∧ os = []) := by
  refine spec_of TtOk [] Try.func9 rfl Try.ntmps9 (by kernel_rfl) rfl rfl (fun C => ?_) rfl
  have h1 := few_spec l 20 hl (by decide)
  have hll : (l.take 20).length ≤ 20 := by rw [List.length_take]; omega
  have hok1 : ∀ x ∈ l.take 20, x.ok := fun x hx => hok x (List.mem_of_mem_take hx)
  generalize l.take 20 = L at h1 hll hok1
  have hio : ∀ M : List Lef, (∀ x ∈ M, x.ok) → ∀ x ∈ itmsL M, x.ok := fun M hM x hx => by
    obtain ⟨y, hy, rfl⟩ := List.mem_map.1 (srtI_mem.1 hx)
    exact leafI_ok y (hM y hy)
  have hil : ∀ M : List Lef, (itmsL M).length = M.length := fun M => by unfold itmsL; rw [srtI_len, List.length_map]
  have h4 := awake16_spec
  by_cases ha : 0 ≤ at_ ∧ at_ < L.length
  · obtain ⟨a0, a1⟩ := ha
    obtain ⟨j, rfl⟩ : ∃ j : Nat, at_ = j := ⟨at_.toNat, by omega⟩
    have hj : j < L.length := by omega
    have h2 := of_spec L (by omega) hok1
    have h3 := pcheck_spec (itmsL L) (by rw [hil]; omega) (hio L hok1)
    by_cases hc : chkI (itmsL L) = 0
    · obtain ⟨e1, e2, e3, e4, e5, e6⟩ := less_law hok1 (by omega) hc j hj
      have okN : ∀ x ∈ L.take j ++ L.drop (j + 1), x.ok := fun x hx => by
        rcases List.mem_append.1 hx with h | h
        · exact hok1 x (List.mem_of_mem_take h)
        · exact hok1 x (List.mem_of_mem_drop h)
      have hNl : (L.take j ++ L.drop (j + 1)).length ≤ 20 := by rw [List.length_append, List.length_take, List.length_drop]; omega
      have hN := hil (L.take j ++ L.drop (j + 1))
      have h5 := of_spec (L.take j ++ L.drop (j + 1)) (by omega) okN
      have h6 := top_spec (itmsL (L.take j ++ L.drop (j + 1))) (by omega) (hio _ okN)
      have h7 := cover_spec L [L[j].l] (by omega) hok1 (show 1 ≤ 100000 by decide) (fun x hx => by rw [List.mem_singleton.1 hx]; exact (hok1 _ (List.getElem_mem hj)).1)
      have h8 := top_spec (cvI L [L[j].l]) (by omega) e5
      have hE : cvE L = 0 := by unfold cvE; rw [itms_srt]; exact hc
      rw [hc] at h3
      rw [e2] at h6
      rw [e1, hE] at h7
      rw [e3, ← e4] at h8
      clear e1 e2 e3 e4 e5 e6 hE hc hio hil hN
      generalize cvI L [L[j].l] = P at *
      generalize topS (itmsL (L.take j ++ L.drop (j + 1))) = s at *
      generalize itmsL (L.take j ++ L.drop (j + 1)) = J at *
      generalize itmsL L = I at *
      have hss : (s == s) = true := beq_self_eq_true _
      obtain ⟨Q, hQ⟩ : ∃ Q, Q = [L[j]] := ⟨_, rfl⟩
      rw [← hQ] at h7
      have hQl : Q.length = 1 := by rw [hQ]; rfl
      have hQ0 : 0 < Q.length := by omega
      have hq0 : Q[0] = L[j] := by simp only [hQ, List.getElem_cons_zero]
      have hlq : (Q[0].l == L[j].l && (Q[0].v == L[j].v && Q[0].t == L[j].t)) = true := by rw [hq0, beq_self_eq_true, beq_self_eq_true, beq_self_eq_true]; rfl
      clear hq0 hQ
      have hj1 : ((j : Int) + 1 = ((j + 1 : Nat) : Int)) := by omega
      rw [show L.drop (j + 1) = (L.take L.length).drop (j + 1) by rw [List.take_length]] at h5 hNl
      repeat' (first | (rw [hss]) | (refine o_freezeR 53 53 rfl rfl rfl ?_) | (refine o_freezeR (xs := (L.take j ++ (L.take L.length).drop (j + 1)).map Lef.A) 30 5 (by rw [List.map_append]; rfl) rfl rfl ?_) | (refine o_freezeR 14 0 rfl rfl rfl ?_) | refine Awp.seq ?_ | refine Awp.region ?_ | (refine Ops.nil ?_; show Awp _ _ _ _ _) | (refine Awp.skip ?_; show Awp _ _ _ _ _) | (refine Awp.ret ?_; show endK _ _ _ _ _) | (refine o_add rfl rfl rfl rfl ?_ ?_; omega) | refine o_len rfl TtOk rfl rfl rfl (fun _ => ?_) | (refine o_calm rfl TtOk rfl rfl rfl ?_ (fun _ => ?_); first | exact True.intro | exact ⟨rfl, rfl, rfl, rfl⟩ | exact ⟨rfl, True.intro⟩ | exact ⟨rfl, rfl⟩ | exact ⟨rfl, rfl, rfl⟩ | exact rfl | exact ⟨fun h0 => by cases h0, rfl⟩ | exact (fun h0 => by cases h0) | exact ⟨rfl, by omega⟩ | exact ⟨Nat.succ_ne_zero _, rfl⟩ | omega) | refine o_alloc (d := 6) rfl TtOk rfl rfl rfl (fun b6 => ?_) | refine o_alloc (d := 11) rfl TtOk rfl rfl rfl (fun b11 => ?_) | refine o_store TtOk rfl rfl rfl rfl rfl rfl rfl ⟨rfl, rfl⟩ rfl rfl rfl rfl rfl ?_ | (refine o_index rfl TtOk rfl rfl rfl rfl rfl rfl ?_ (getq_nat ?_) ?_; omega; omega) | refine o_buildSlice TtOk rfl rfl rfl rfl rfl rfl rfl rfl rfl rfl rfl (by repeat' (first | exact True.intro | exact rfl | refine ⟨?_, ?_⟩)) (fun _ => ?_) | (refine o_append TtOk rfl rfl rfl rfl rfl rfl rfl rfl rfl (by first | exact True.intro | exact rfl) rfl rfl (fun _ => rfl) ?_ ?_ (fun _ => ?_); (simp only [List.length_map, List.length_cons, List.length_nil, List.length_append, List.length_take, List.length_drop]; omega); (simp only [List.length_map, List.length_cons, List.length_nil, List.length_append, List.length_take, List.length_drop]; omega)) | refine o_eqArr8 TtOk rfl rfl rfl rfl rfl rfl (by kernel_rfl) ?_ | (fail_if_success (refine o_isLit rfl (by first | exact .inl rfl | exact .inr rfl) ?_)); (refine o_splitP rfl rfl (fun hc => ?_) (fun hc => ?_) <;> try (exfalso; omega)) | refine a_condF rfl ?_ | refine a_any 4 [30] [] [30] [1, 2, 3, 5, 6, 7, 8, 0, 4, 9, 10] (by kernel_rfl) (by kernel_rfl) (by kernel_rfl) rfl rfl rfl ?_ | (refine a_any 8 [] [] [] [0, 1, 2, 3, 4, 5, 6, 7, 8, 9, 10, 11, 12, 13, 14, 15, 16, 17, 18, 19, 20, 22, 23, 24, 21, 25, 26, 27, 28, 29, 30, 31, 32, 33] (by kernel_rfl) (by kernel_rfl) (by kernel_rfl) rfl rfl rfl ?_; (try dsimp only [List.getElem_toArray, List.getElem_cons_zero, List.getElem_cons_succ])) | (refine o_callR rfl h1 ⟨SLe.of_eq rfl, SLe.of_eq rfl, True.intro⟩ rfl (fun vR => ?_)) | (refine o_sliceSl TtOk rfl 0 j rfl rfl rfl rfl rfl bnd_none (bnd_some rfl rfl) (by omega) (by omega) ?_; rw [List.drop_zero]) | (refine o_sliceSl TtOk rfl (j+1) L.length rfl rfl rfl rfl rfl (bnd_some rfl hj1) bnd_none (by omega) (by omega) ?_) | (refine o_eqLef rfl (p := Q[0]) (q := L[j]) rfl rfl rfl ?_; rw [hlq]) | (refine o_call0 rfl (h2) ⟨SLe.of_eq rfl, True.intro⟩ rfl ?_; rintro _ _ ⟨rfl, rfl⟩; refine ⟨rfl, ?_⟩) | (refine o_call0 rfl (h3) ⟨SLe.of_eq rfl, True.intro⟩ rfl ?_; rintro _ _ ⟨rfl, rfl⟩; refine ⟨rfl, ?_⟩) | (refine o_call0 rfl (h4) True.intro rfl ?_; rintro _ _ ⟨rfl, rfl⟩; refine ⟨rfl, ?_⟩) | (refine o_call0 rfl (h5) ⟨SLe.of_eq rfl, True.intro⟩ rfl ?_; rintro _ _ ⟨rfl, rfl⟩; refine ⟨rfl, ?_⟩) | (refine o_call0 rfl (h6) ⟨SLe.of_eq rfl, True.intro⟩ rfl ?_; rintro _ _ ⟨rfl, rfl⟩; refine ⟨rfl, ?_⟩) | (refine o_call0 rfl (h7) ⟨SLe.of_eq rfl, SLe.of_eq rfl, True.intro⟩ rfl ?_; rintro _ _ ⟨rfl, rfl⟩; refine ⟨rfl, ?_⟩) | (refine o_call0 rfl (h8) ⟨SLe.of_eq rfl, True.intro⟩ rfl ?_; rintro _ _ ⟨rfl, rfl⟩; refine ⟨rfl, ?_⟩))
      all_goals exact end_tmp rfl rfl rfl [] [] (CLe.of_eq rfl) .nil ⟨rfl, rfl⟩ _ (.inl rfl)
    · generalize chkI (itmsL L) = c at *
      generalize itmsL L = I at *
      repeat' (first | (refine o_freezeR 14 0 rfl rfl rfl ?_) | refine Awp.seq ?_ | refine Awp.region ?_ | (refine Ops.nil ?_; show Awp _ _ _ _ _) | (refine Awp.ret ?_; show endK _ _ _ _ _) | refine o_len rfl TtOk rfl rfl rfl (fun _ => ?_) | (refine o_calm rfl TtOk rfl rfl rfl ?_ (fun _ => ?_); first | exact True.intro | exact ⟨rfl, rfl, rfl, rfl⟩ | exact ⟨rfl, True.intro⟩ | exact ⟨rfl, rfl⟩ | exact ⟨rfl, rfl, rfl⟩ | exact rfl | exact ⟨fun h0 => by cases h0, rfl⟩ | exact (fun h0 => by cases h0) | exact ⟨rfl, by omega⟩ | exact ⟨Nat.succ_ne_zero _, rfl⟩ | omega) | (fail_if_success (refine o_isLit rfl (by first | exact .inl rfl | exact .inr rfl) ?_)); (refine o_splitP rfl rfl (fun hc => ?_) (fun hc => ?_) <;> try (exfalso; omega)) | (refine a_condN rfl (fun hc => ?_) (fun hc => ?_)) <;> (try (exfalso; omega)) | (refine o_callR rfl h1 ⟨SLe.of_eq rfl, SLe.of_eq rfl, True.intro⟩ rfl (fun vR => ?_)) | (refine o_call0 rfl (h2) ⟨SLe.of_eq rfl, True.intro⟩ rfl ?_; rintro _ _ ⟨rfl, rfl⟩; refine ⟨rfl, ?_⟩) | (refine o_call0 rfl (h3) ⟨SLe.of_eq rfl, True.intro⟩ rfl ?_; rintro _ _ ⟨rfl, rfl⟩; refine ⟨rfl, ?_⟩) | (refine o_call0 rfl (h4) True.intro rfl ?_; rintro _ _ ⟨rfl, rfl⟩; refine ⟨rfl, ?_⟩))
      all_goals exact end_tmp rfl rfl rfl [] [] (CLe.of_eq rfl) .nil ⟨rfl, rfl⟩ _ (.inl rfl)
  · repeat' (first | (refine o_freezeR 14 0 rfl rfl rfl ?_) | refine Awp.seq ?_ | refine Awp.region ?_ | (refine Ops.nil ?_; show Awp _ _ _ _ _) | (refine Awp.ret ?_; show endK _ _ _ _ _) | refine o_noF rfl rfl rfl ?_ | refine o_len rfl TtOk rfl rfl rfl (fun _ => ?_) | (refine o_calm rfl TtOk rfl rfl rfl ?_ (fun _ => ?_); first | exact True.intro | exact ⟨rfl, rfl, rfl, rfl⟩ | exact ⟨rfl, True.intro⟩ | exact ⟨rfl, rfl⟩ | exact ⟨rfl, rfl, rfl⟩ | exact rfl | exact ⟨fun h0 => by cases h0, rfl⟩ | exact (fun h0 => by cases h0) | exact ⟨rfl, by omega⟩ | exact ⟨Nat.succ_ne_zero _, rfl⟩ | omega) | (fail_if_success (refine o_isLit rfl (by first | exact .inl rfl | exact .inr rfl) ?_)); (refine o_splitP rfl rfl (fun hc => ?_) (fun hc => ?_) <;> try (exfalso; omega)) | refine a_condT rfl ?_ | (refine o_callR rfl h1 ⟨SLe.of_eq rfl, SLe.of_eq rfl, True.intro⟩ rfl (fun vR => ?_)) | (refine o_call0 rfl (h4) True.intro rfl ?_; rintro _ _ ⟨rfl, rfl⟩; refine ⟨rfl, ?_⟩))
    all_goals exact end_tmp rfl rfl rfl [] [] (CLe.of_eq rfl) .nil ⟨rfl, rfl⟩ _ (.inl rfl)
end Go.Proofs.Ytpjfhllkckdejaa
