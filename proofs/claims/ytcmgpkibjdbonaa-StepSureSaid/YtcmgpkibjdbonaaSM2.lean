/- law19.few, StepLeads by rules. -/
import Derived.Test.YtcmgpkibjdbonaaSW1Z
import Derived.Test.YtcmgpkibjdbonaaHO4Z
set_option maxHeartbeats 16000000
set_option maxRecDepth 100000
namespace Go.Proofs.Ytcmgpkibjdbonaa
open Go Go.RowKit
theorem all_ne (G : List (List UInt8)) (a : List UInt8) : G.all (fun y => y != a) = !(G.contains a) := by
  induction G with
  | nil => rfl
  | cons x r ih =>
    rw [List.all_cons, List.contains_cons, ih, Bool.not_or]
    congr 1
    show (!(x == a)) = !(a == x)
    rw [BEq.comm]
theorem few19_spec (l : List (List UInt8)) (hl : l.length ≤ 9223372036854775807) :
    Spec Try.prog 38 [.sl 32 (l.map labA)] [] (fun r os => r = .sl 32 ((l.take 40).map labA) ∧ os = []) := by
  refine spec_of TtOk [] Try.func38 rfl Try.ntmps38 (by kernel_rfl) rfl rfl (fun C => ?_) rfl
  by_cases h : 40 < l.length
  · have hln : (l.take 40).length = 40 := by rw [List.length_take]; omega
    repeat' (first | refine Awp.seq ?_ | refine Awp.region ?_ | (refine Ops.nil ?_; show Awp _ _ _ _ _) | (refine Awp.ret ?_; show endK _ _ _ _ _) | refine o_len rfl TtOk rfl rfl rfl (fun _ => ?_) | (refine o_calm rfl TtOk rfl rfl rfl ?_ (fun _ => ?_); first | exact True.intro | exact ⟨rfl, rfl, rfl, rfl⟩ | exact ⟨rfl, True.intro⟩ | exact ⟨rfl, rfl⟩ | exact ⟨rfl, rfl, rfl⟩ | exact rfl | exact ⟨fun h0 => by cases h0, rfl⟩ | exact (fun h0 => by cases h0) | exact ⟨rfl, by omega⟩ | exact ⟨Nat.succ_ne_zero _, rfl⟩ | omega) | refine o_buildSlice TtOk rfl rfl rfl rfl rfl rfl rfl rfl rfl rfl rfl (by repeat' (first | exact True.intro | exact rfl | refine ⟨?_, ?_⟩)) (fun _ => ?_) | (refine o_append TtOk rfl rfl rfl rfl rfl rfl rfl rfl rfl (by first | exact True.intro | exact rfl) rfl rfl (fun _ => rfl) ?_ ?_ (fun _ => ?_); ((repeat' (first | rw [List.length_append] | rw [List.length_map] | rw [List.length_cons] | rw [List.length_nil] | rw [List.length_take] | rw [List.length_drop])) <;> omega); ((repeat' (first | rw [List.length_append] | rw [List.length_map] | rw [List.length_cons] | rw [List.length_nil] | rw [List.length_take] | rw [List.length_drop])) <;> omega)) | (refine a_condP rfl (fun hc => ?_) (fun hc => ?_)) <;> (try (exfalso; omega)) | (refine o_sliceSl TtOk rfl 0 40 rfl rfl rfl rfl rfl bnd_none (bnd_some rfl rfl) (by omega) (by omega) ?_))
    refine end_tmp rfl rfl rfl [8] [] (CLe.fz ?_) .nil ⟨rfl, rfl⟩ _ (.inl rfl)
    exact .head _
  · rw [List.take_of_length_le (by omega)]
    repeat' (first | refine Awp.seq ?_ | refine Awp.region ?_ | (refine Ops.nil ?_; show Awp _ _ _ _ _) | (refine Awp.skip ?_; show Awp _ _ _ _ _) | (refine Awp.ret ?_; show endK _ _ _ _ _) | refine o_len rfl TtOk rfl rfl rfl (fun _ => ?_) | (refine o_calm rfl TtOk rfl rfl rfl ?_ (fun _ => ?_); first | exact True.intro | exact ⟨rfl, rfl, rfl, rfl⟩ | exact ⟨rfl, True.intro⟩ | exact ⟨rfl, rfl⟩ | exact ⟨rfl, rfl, rfl⟩ | exact rfl | exact ⟨fun h0 => by cases h0, rfl⟩ | exact (fun h0 => by cases h0) | exact ⟨rfl, by omega⟩ | exact ⟨Nat.succ_ne_zero _, rfl⟩ | omega) | refine o_buildSlice TtOk rfl rfl rfl rfl rfl rfl rfl rfl rfl rfl rfl (by repeat' (first | exact True.intro | exact rfl | refine ⟨?_, ?_⟩)) (fun _ => ?_) | (refine o_append TtOk rfl rfl rfl rfl rfl rfl rfl rfl rfl (by first | exact True.intro | exact rfl) rfl rfl (fun _ => rfl) ?_ ?_ (fun _ => ?_); ((repeat' (first | rw [List.length_append] | rw [List.length_map] | rw [List.length_cons] | rw [List.length_nil] | rw [List.length_take] | rw [List.length_drop])) <;> omega); ((repeat' (first | rw [List.length_append] | rw [List.length_map] | rw [List.length_cons] | rw [List.length_nil] | rw [List.length_take] | rw [List.length_drop])) <;> omega)) | (refine a_condP rfl (fun hc => ?_) (fun hc => ?_)) <;> (try (exfalso; omega)))
    refine end_tmp rfl rfl rfl [8] [] (CLe.fz ?_) .nil ⟨rfl, rfl⟩ _ (.inl rfl)
    exact .head _
theorem stepLeads_spec (l : List Lef) (g : List (List UInt8)) (f : List Lef) (o : List UInt8) (hl : l.length ≤ 9223372036854775807) (hg : g.length ≤ 9223372036854775807) (hf : f.length ≤ 9223372036854775807) (okl : ∀ x ∈ l, x.ok) (okg : ∀ x ∈ g, x.length = 32) (okf : ∀ x ∈ f, x.ok) (oko : o.length = 32) : Spec Try.prog 7 [.sl 65 (l.map Lef.A), .sl 32 (g.map labA), .sl 65 (f.map Lef.A), labA o] [] (fun v os => v = .b true ∧ os = []) := by
  have h1 := few_spec l 30 hl (by decide)
  have h2 := few19_spec g hg
  have h3 := few_spec f 30 hf (by decide)
  have n1 : (l.take 30).length ≤ 30 := by rw [List.length_take]; omega
  have n2 : (g.take 40).length ≤ 40 := by rw [List.length_take]; omega
  have n3 : (f.take 30).length ≤ 30 := by rw [List.length_take]; omega
  have o1 : ∀ x ∈ l.take 30, x.ok := fun x hx => okl x (List.mem_of_mem_take hx)
  have o2 : ∀ x ∈ g.take 40, x.length = 32 := fun x hx => okg x (List.mem_of_mem_take hx)
  have o3 : ∀ x ∈ f.take 30, x.ok := fun x hx => okf x (List.mem_of_mem_take hx)
  clear okl okg okf
  generalize l.take 30 = L at *
  generalize g.take 40 = G at *
  generalize f.take 30 = F at *
  have k1 := smake_spec L G F (by omega) (by omega) (by omega) o1 o2 o3
  have k2 := awake19_spec
  have hA : ∀ s : Stp, s.A = .agg [.sl 66 (s.same.map Itm.A), .sl 65 (s.old.map Lef.A), .sl 65 (s.new.map Lef.A)] := fun _ => rfl
  rw [hA] at k1
  by_cases he : (smk L G F).2 ≠ 0
  · generalize smk L G F = q1 at *
    obtain ⟨s1, e⟩ := q1
    dsimp only at k1 he
    refine spec_of TtOk [] Try.func7 rfl Try.ntmps7 (by kernel_rfl) rfl rfl (fun C => ?_) rfl
    repeat' (first | (refine o_freezeR 31 2 rfl rfl rfl ?_) | (refine o_freezeR 27 0 rfl rfl rfl ?_) | refine Awp.seq ?_ | refine Awp.region ?_ | (refine Ops.nil ?_; show Awp _ _ _ _ _) | (refine Awp.ret ?_; show endK _ _ _ _ _) | (refine o_calm rfl TtOk rfl rfl rfl ?_ (fun _ => ?_); first | exact True.intro | exact ⟨rfl, rfl, rfl, rfl⟩ | exact ⟨rfl, True.intro⟩ | exact ⟨rfl, rfl⟩ | exact ⟨rfl, rfl, rfl⟩ | exact rfl | exact ⟨fun h0 => by cases h0, rfl⟩ | exact (fun h0 => by cases h0) | exact ⟨rfl, by omega⟩ | exact ⟨Nat.succ_ne_zero _, rfl⟩ | omega) | refine o_alloc (d := 9) rfl TtOk rfl rfl rfl (fun b9 => ?_) | refine o_box (d := 7) rfl rfl rfl rfl (fun b7 => ?_) | refine o_store TtOk rfl rfl rfl rfl rfl rfl rfl ⟨rfl, rfl⟩ rfl rfl rfl rfl rfl ?_ | (refine a_condN rfl (fun hc => ?_) (fun hc => ?_)) <;> (try (exfalso; omega)) | (refine o_callR rfl h1 ⟨SLe.of_eq rfl, SLe.of_eq rfl, True.intro⟩ rfl (fun vR1 => ?_)) | (refine o_callR rfl h3 ⟨SLe.of_eq rfl, SLe.of_eq rfl, True.intro⟩ rfl (fun vR3 => ?_)) | (refine o_call0 rfl (h2) ⟨SLe.of_eq rfl, True.intro⟩ rfl ?_; rintro _ _ ⟨rfl, rfl⟩; refine ⟨rfl, ?_⟩) | (refine o_call0 rfl (k1) ⟨SLe.of_eq rfl, SLe.of_eq rfl, SLe.of_eq rfl, True.intro⟩ rfl ?_; rintro _ _ ⟨rfl, rfl⟩; refine ⟨rfl, ?_⟩) | (refine o_call0 rfl (k2) True.intro rfl ?_; rintro _ _ ⟨rfl, rfl⟩; refine ⟨rfl, ?_⟩))
    all_goals exact end_tmp rfl rfl rfl [] [] (CLe.of_eq rfl) .nil ⟨rfl, rfl⟩ _ (.inl rfl)
  have he := Decidable.not_not.1 he
  obtain ⟨hc, Sm, Ol, Nw, hs, hL⟩ := mk_leads o1 o2 o3 (by omega) (by omega) he
  have hx := made_ext o1 o2 o3 (by omega) (by omega) he
  rw [he] at k1
  rw [hs] at k1 hx
  dsimp only at k1
  have a1 := hL.lenS
  have a2 := hL.lenO
  have a3 := hL.lenN
  have oks : (⟨Sm, Ol, Nw⟩ : Stp).ok := ⟨hL.okS, fun x hx => o1 x (hL.inO x hx), hL.okN⟩
  have hbl : (behL L G F).length ≤ 60 := by
    unfold behL
    rw [List.length_append]
    have := List.length_filter_le (notIn G) L
    omega
  have hbo : ∀ x ∈ behL L G F, x.ok := fun x hx => by
    rcases List.mem_append.1 hx with hx | hx
    · exact o1 x (List.mem_filter.1 hx).1
    · exact o3 x hx
  have k3 := of_spec L (by omega) o1
  have k4 := top_spec (itmsL L) (by rw [itmsL_len]; omega) (itmsL_ok o1)
  have k5 := of_spec (behL L G F) (by omega) hbo
  have k6 := top_spec (itmsL (behL L G F)) (by rw [itmsL_len]; omega) (itmsL_ok hbo)
  have t1 := topS_len _ (itmsL_ok o1)
  have t2 := topS_len _ (itmsL_ok hbo)
  have s1 := scheck_spec (topS (itmsL L)) (topS (itmsL (behL L G F))) ⟨Sm, Ol, Nw⟩ (by show Sm.length ≤ 50000; omega) (by show Ol.length ≤ 50000; omega) (by show Nw.length ≤ 50000; omega) oks t1 t2
  have s2 := scheck_spec o (topS (itmsL (behL L G F))) ⟨Sm, Ol, Nw⟩ (by show Sm.length ≤ 50000; omega) (by show Ol.length ≤ 50000; omega) (by show Nw.length ≤ 50000; omega) oks oko t2
  have s3 := scheck_spec (topS (itmsL L)) o ⟨Sm, Ol, Nw⟩ (by show Sm.length ≤ 50000; omega) (by show Ol.length ≤ 50000; omega) (by show Nw.length ≤ 50000; omega) oks t1 oko
  have k7 := sextract_spec L ⟨Sm, Ol, Nw⟩ (by omega) o1 oks (by show Sm.length ≤ 5000; omega) (by show Ol.length ≤ 5000; omega)
  rw [hx] at k7
  rw [hL.err (by omega) (by omega)] at s1 s2 s3
  rw [if_pos ⟨rfl, rfl⟩] at s1
  rw [show chkI (itmsL L) = 0 from hc] at k4
  rw [hL.beh] at k6
  rw [hA] at s1 s2 s3 k7
  dsimp only at s1 s2 s3 k7
  have hbe : (behL L G F).map Lef.A = (L.filter (notIn G)).map Lef.A ++ F.map Lef.A := by unfold behL; rw [List.map_append]
  rw [hbe] at k5
  clear hbe hbo hbl oks hL hx hs a1 a2 a3 he hc hA t1 t2
  generalize topS (itmsL L) = x at *
  generalize topS (itmsL (behL L G F)) = y at *
  generalize itmsL (behL L G F) = I2 at *
  generalize itmsL L = I1 at *
  have hf1 : ∀ (i : Nat) (h : i < L.length), (L.take (i + 1)).filter (notIn G) = if notIn G L[i] = true then (L.take i).filter (notIn G) ++ [L[i]] else (L.take i).filter (notIn G) := fun i h => filt_succ (notIn G) L h
  have hfl : ∀ i, ((L.take i).filter (notIn G)).length ≤ 30 := fun i => by
    have := List.length_filter_le (notIn G) (L.take i)
    rw [List.length_take] at this
    omega
  refine spec_of TtOk [] Try.func7 rfl Try.ntmps7 (by kernel_rfl) rfl rfl (fun C => ?_) rfl
  repeat' (first | (refine o_freezeR 31 2 rfl rfl rfl ?_) | (refine o_freezeR 27 0 rfl rfl rfl ?_) | refine Awp.seq ?_ | refine Awp.block ?_ | refine Awp.region ?_ | (refine Ops.nil ?_; show Awp _ _ _ _ _) | (refine Awp.skip ?_; show Awp _ _ _ _ _) | refine o_len rfl TtOk rfl rfl rfl (fun _ => ?_) | (refine o_calm rfl TtOk rfl rfl rfl ?_ (fun _ => ?_); first | exact True.intro | exact ⟨rfl, rfl, rfl, rfl⟩ | exact ⟨rfl, True.intro⟩ | exact ⟨rfl, rfl⟩ | exact ⟨rfl, rfl, rfl⟩ | exact rfl | exact ⟨fun h0 => by cases h0, rfl⟩ | exact (fun h0 => by cases h0) | exact ⟨rfl, by omega⟩ | exact ⟨Nat.succ_ne_zero _, rfl⟩ | omega) | refine o_alloc (d := 9) rfl TtOk rfl rfl rfl (fun b9 => ?_) | refine o_box (d := 7) rfl rfl rfl rfl (fun b7 => ?_) | refine o_store TtOk rfl rfl rfl rfl rfl rfl rfl ⟨rfl, rfl⟩ rfl rfl rfl rfl rfl ?_ | refine o_buildSlice (d := 42) TtOk rfl rfl rfl rfl rfl rfl rfl rfl rfl rfl rfl (by repeat' (first | exact True.intro | exact rfl | refine ⟨?_, ?_⟩)) (fun v42 => ?_) | refine a_condF rfl ?_ | (refine o_callR rfl h1 ⟨SLe.of_eq rfl, SLe.of_eq rfl, True.intro⟩ rfl (fun vR1 => ?_)) | (refine o_callR rfl h3 ⟨SLe.of_eq rfl, SLe.of_eq rfl, True.intro⟩ rfl (fun vR3 => ?_)) | (refine o_call0 rfl (h2) ⟨SLe.of_eq rfl, True.intro⟩ rfl ?_; rintro _ _ ⟨rfl, rfl⟩; refine ⟨rfl, ?_⟩) | (refine o_call0 rfl (k1) ⟨SLe.of_eq rfl, SLe.of_eq rfl, SLe.of_eq rfl, True.intro⟩ rfl ?_; rintro _ _ ⟨rfl, rfl⟩; refine ⟨rfl, ?_⟩))
  refine Awp.loop (fun q : Nat × Value => ⟨140, [(45, .i .i64 q.1), (44, .i .i64 L.length), (43, .sl 65 (L.map Lef.A)), (11, .own 42 q.2), (9, .ptr 9 b9 [] 0), (7, .ptr 7 b7 [] 0), (2, .sl 65 (F.map Lef.A)), (1, .sl 32 (G.map labA)), (0, .sl 65 (L.map Lef.A))], [(42, .row q.2 29 65 (((L.take q.1).filter (notIn G)).map Lef.A)), (9, .var b9 (.agg [.sl 66 (Sm.map Itm.A), .sl 65 (Ol.map Lef.A), .sl 65 (Nw.map Lef.A)])), (7, .var b7 (labA o))]⟩) (fun q => q.1 ≤ L.length) (fun q => L.length - q.1) [] (0, v42) (Nat.zero_le _) ?_ ?_
  · exact ⟨rfl, ⟨sle_i rfl, sle_i rfl, sle_sl rfl, sle_own, sle_ptr, sle_ptr, sle_sl rfl, sle_sl rfl, sle_sl rfl, True.intro⟩, HLe.cons 42 rfl (HOLe.refl _) (HLe.cons 9 rfl (HOLe.refl _) (HLe.cons 7 rfl (HOLe.refl _) .nil))⟩
  rintro ⟨i, v⟩ hi
  dsimp only at hi ⊢
  by_cases hlt : i < L.length
  · have hfi := hfl i
    have hi1 : ((i : Int) + 1 = ((i + 1 : Nat) : Int)) := by omega
    clear h1 h2 h3 k1 k2 k3 k4 k5 k6 k7 s1 s2 s3
    repeat' (first | refine Awp.seq ?_ | refine Awp.block ?_ | refine Awp.region ?_ | (refine Ops.nil ?_; show Awp _ _ _ _ _) | (refine Awp.skip ?_; show Awp _ _ _ _ _) | refine o_len rfl TtOk rfl rfl rfl (fun _ => ?_) | (refine o_calm rfl TtOk rfl rfl rfl ?_ (fun _ => ?_); first | exact True.intro | exact ⟨rfl, rfl, rfl, rfl⟩ | exact ⟨rfl, True.intro⟩ | exact ⟨rfl, rfl⟩ | exact ⟨rfl, rfl, rfl⟩ | exact rfl | exact ⟨fun h0 => by cases h0, rfl⟩ | exact (fun h0 => by cases h0) | exact ⟨rfl, by omega⟩ | exact ⟨Nat.succ_ne_zero _, rfl⟩ | omega) | refine o_alloc (d := 13) rfl TtOk rfl rfl rfl (fun b13 => ?_) | refine o_store TtOk rfl rfl rfl rfl rfl rfl rfl ⟨rfl, rfl⟩ rfl rfl rfl rfl rfl ?_ | (refine o_index rfl TtOk rfl rfl rfl rfl rfl rfl ?_ (getq_nat ?_) ?_; omega; omega) | (refine a_condP rfl (fun hc => ?_) (fun hc => ?_)) <;> (try (exfalso; omega)))
    refine Awp.loop (fun j : Nat => ⟨140, [(51, .i .i64 j), (50, .i .i64 G.length), (49, .sl 32 (G.map labA)), (14, .b ((G.take j).all (fun y => y != L[i].l))), (13, .ptr 13 b13 [] 0), (45, .i .i64 i), (44, .i .i64 L.length), (43, .sl 65 (L.map Lef.A)), (11, .own 42 v), (9, .ptr 9 b9 [] 0), (7, .ptr 7 b7 [] 0), (2, .sl 65 (F.map Lef.A)), (1, .sl 32 (G.map labA)), (0, .sl 65 (L.map Lef.A))], [(13, .var b13 (.agg [labA L[i].l, labA L[i].v, .i .i64 L[i].t])), (42, .row v 29 65 (((L.take i).filter (notIn G)).map Lef.A)), (9, .var b9 (.agg [.sl 66 (Sm.map Itm.A), .sl 65 (Ol.map Lef.A), .sl 65 (Nw.map Lef.A)])), (7, .var b7 (labA o))]⟩) (fun j => j ≤ G.length) (fun j => G.length - j) [] 0 (Nat.zero_le _) ?_ ?_
    · exact ⟨rfl, ⟨sle_i rfl, sle_i rfl, sle_sl rfl, sle_b rfl, sle_ptr, sle_i rfl, sle_i rfl, sle_sl rfl, sle_own, sle_ptr, sle_ptr, sle_sl rfl, sle_sl rfl, sle_sl rfl, True.intro⟩, HLe.cons 13 rfl (HOLe.refl _) (HLe.cons 42 rfl (HOLe.refl _) (HLe.cons 9 rfl (HOLe.refl _) (HLe.cons 7 rfl (HOLe.refl _) .nil)))⟩
    intro j hj
    by_cases hjl : j < G.length
    · have hj1 : ((j : Int) + 1 = ((j + 1 : Nat) : Int)) := by omega
      have hs : (G.take (j + 1)).all (fun y => y != L[i].l) = ((G.take j).all (fun y => y != L[i].l) && (G[j] != L[i].l)) := by
        rw [List.take_succ_eq_append_getElem hjl, List.all_append]; simp
      cases hst : (G.take j).all (fun y => y != L[i].l) with
      | true =>
        rw [hst] at hs
        repeat' (first | refine Awp.seq ?_ | refine Awp.block ?_ | refine Awp.region ?_ | (refine Ops.nil ?_; show Awp _ _ _ _ _) | (refine Ops.nil ?_; show Exists _) | (refine Awp.skip ?_; show Awp _ _ _ _ _) | (refine o_add rfl rfl rfl rfl ?_ ?_; omega) | (refine o_calm rfl TtOk rfl rfl rfl ?_ (fun _ => ?_); first | exact True.intro | exact ⟨rfl, rfl, rfl, rfl⟩ | exact ⟨rfl, True.intro⟩ | exact ⟨rfl, rfl⟩ | exact ⟨rfl, rfl, rfl⟩ | exact rfl | exact ⟨fun h0 => by cases h0, rfl⟩ | exact (fun h0 => by cases h0) | exact ⟨rfl, by omega⟩ | exact ⟨Nat.succ_ne_zero _, rfl⟩ | omega) | refine o_alloc (d := 16) rfl TtOk rfl rfl rfl (fun b16 => ?_) | refine o_store TtOk rfl rfl rfl rfl rfl rfl rfl ⟨rfl, rfl⟩ rfl rfl rfl rfl rfl ?_ | (refine o_index rfl TtOk rfl rfl rfl rfl rfl rfl ?_ (getq_nat ?_) ?_; omega; omega) | (refine a_condP rfl (fun hc => ?_) (fun hc => ?_)) <;> (try (exfalso; omega)) | (refine o_neArr8 TtOk rfl rfl rfl rfl rfl rfl (by kernel_rfl) ?_))
        all_goals exact ⟨j + 1, [], hjl, by show G.length - (j + 1) < G.length - j; omega, rfl, ⟨sle_i hj1, sle_i rfl, sle_sl rfl, sle_b (by rw [hs]; rfl), sle_ptr, sle_i rfl, sle_i rfl, sle_sl rfl, sle_own, sle_ptr, sle_ptr, sle_sl rfl, sle_sl rfl, sle_sl rfl, True.intro⟩, HLe.cons 13 rfl (HOLe.refl _) (HLe.cons 42 rfl (HOLe.refl _) (HLe.cons 9 rfl (HOLe.refl _) (HLe.cons 7 rfl (HOLe.refl _) .nil)))⟩
      | false =>
        rw [hst] at hs
        repeat' (first | refine Awp.seq ?_ | refine Awp.block ?_ | refine Awp.region ?_ | (refine Ops.nil ?_; show Awp _ _ _ _ _) | (refine Ops.nil ?_; show Exists _) | (refine Awp.skip ?_; show Awp _ _ _ _ _) | refine o_noT rfl rfl rfl ?_ | (refine o_add rfl rfl rfl rfl ?_ ?_; omega) | (refine o_calm rfl TtOk rfl rfl rfl ?_ (fun _ => ?_); first | exact True.intro | exact ⟨rfl, rfl, rfl, rfl⟩ | exact ⟨rfl, True.intro⟩ | exact ⟨rfl, rfl⟩ | exact ⟨rfl, rfl, rfl⟩ | exact rfl | exact ⟨fun h0 => by cases h0, rfl⟩ | exact (fun h0 => by cases h0) | exact ⟨rfl, by omega⟩ | exact ⟨Nat.succ_ne_zero _, rfl⟩ | omega) | refine o_alloc (d := 16) rfl TtOk rfl rfl rfl (fun b16 => ?_) | refine o_store TtOk rfl rfl rfl rfl rfl rfl rfl ⟨rfl, rfl⟩ rfl rfl rfl rfl rfl ?_ | (refine o_index rfl TtOk rfl rfl rfl rfl rfl rfl ?_ (getq_nat ?_) ?_; omega; omega) | (refine a_condP rfl (fun hc => ?_) (fun hc => ?_)) <;> (try (exfalso; omega)))
        all_goals exact ⟨j + 1, [], hjl, by show G.length - (j + 1) < G.length - j; omega, rfl, ⟨sle_i hj1, sle_i rfl, sle_sl rfl, sle_b (by rw [hs]; rfl), sle_ptr, sle_i rfl, sle_i rfl, sle_sl rfl, sle_own, sle_ptr, sle_ptr, sle_sl rfl, sle_sl rfl, sle_sl rfl, True.intro⟩, HLe.cons 13 rfl (HOLe.refl _) (HLe.cons 42 rfl (HOLe.refl _) (HLe.cons 9 rfl (HOLe.refl _) (HLe.cons 7 rfl (HOLe.refl _) .nil)))⟩
    · have hje : j = G.length := by omega
      subst hje
      have hst : (G.take G.length).all (fun y => y != L[i].l) = notIn G L[i] := by rw [List.take_length, all_ne]; rfl
      cases hn : notIn G L[i] with
      | true =>
        rw [hn] at hst
        rw [hst]
        repeat' (first | refine Awp.seq ?_ | refine Awp.region ?_ | (refine Ops.nil ?_; show Awp _ _ _ _ _) | (refine Ops.nil ?_; show Exists _) | (refine Awp.exit ?_; show Awp _ _ _ _ _) | (refine o_add rfl rfl rfl rfl ?_ ?_; omega) | (refine o_calm rfl TtOk rfl rfl rfl ?_ (fun _ => ?_); first | exact True.intro | exact ⟨rfl, rfl, rfl, rfl⟩ | exact ⟨rfl, True.intro⟩ | exact ⟨rfl, rfl⟩ | exact ⟨rfl, rfl, rfl⟩ | exact rfl | exact ⟨fun h0 => by cases h0, rfl⟩ | exact (fun h0 => by cases h0) | exact ⟨rfl, by omega⟩ | exact ⟨Nat.succ_ne_zero _, rfl⟩ | omega) | refine o_buildSlice TtOk rfl rfl rfl rfl rfl rfl rfl rfl rfl rfl rfl (by repeat' (first | exact True.intro | exact rfl | refine ⟨?_, ?_⟩)) (fun _ => ?_) | (refine o_append TtOk rfl rfl rfl rfl rfl rfl rfl rfl rfl (by first | exact True.intro | exact rfl) rfl rfl (fun _ => rfl) ?_ ?_ (fun _ => ?_); ((repeat' (first | rw [List.length_append] | rw [List.length_map] | rw [List.length_cons] | rw [List.length_nil] | rw [List.length_take] | rw [List.length_drop])) <;> omega); ((repeat' (first | rw [List.length_append] | rw [List.length_map] | rw [List.length_cons] | rw [List.length_nil] | rw [List.length_take] | rw [List.length_drop])) <;> omega)) | refine a_condT rfl ?_ | (refine a_condP rfl (fun hc => ?_) (fun hc => ?_)) <;> (try (exfalso; omega)))
        all_goals exact ⟨(i + 1, _), [], hlt, by show L.length - (i + 1) < L.length - i; omega, rfl, ⟨sle_i hi1, sle_i rfl, sle_sl rfl, sle_own, sle_ptr, sle_ptr, sle_sl rfl, sle_sl rfl, sle_sl rfl, True.intro⟩, HLe.cons 42 rfl (HOLe.row (by rw [hf1 i hlt, if_pos hn, List.map_append]; rfl)) (HLe.cons 9 rfl (HOLe.refl _) (HLe.cons 7 rfl (HOLe.refl _) .nil))⟩
      | false =>
        rw [hn] at hst
        rw [hst]
        repeat' (first | refine Awp.seq ?_ | refine Awp.region ?_ | (refine Ops.nil ?_; show Awp _ _ _ _ _) | (refine Ops.nil ?_; show Exists _) | (refine Awp.skip ?_; show Awp _ _ _ _ _) | (refine Awp.exit ?_; show Awp _ _ _ _ _) | (refine o_add rfl rfl rfl rfl ?_ ?_; omega) | (refine o_calm rfl TtOk rfl rfl rfl ?_ (fun _ => ?_); first | exact True.intro | exact ⟨rfl, rfl, rfl, rfl⟩ | exact ⟨rfl, True.intro⟩ | exact ⟨rfl, rfl⟩ | exact ⟨rfl, rfl, rfl⟩ | exact rfl | exact ⟨fun h0 => by cases h0, rfl⟩ | exact (fun h0 => by cases h0) | exact ⟨rfl, by omega⟩ | exact ⟨Nat.succ_ne_zero _, rfl⟩ | omega) | refine a_condF rfl ?_ | (refine a_condP rfl (fun hc => ?_) (fun hc => ?_)) <;> (try (exfalso; omega)))
        all_goals exact ⟨(i + 1, _), [], hlt, by show L.length - (i + 1) < L.length - i; omega, rfl, ⟨sle_i hi1, sle_i rfl, sle_sl rfl, sle_own, sle_ptr, sle_ptr, sle_sl rfl, sle_sl rfl, sle_sl rfl, True.intro⟩, HLe.cons 42 rfl (HOLe.row (by rw [hf1 i hlt, if_neg (by rw [hn]; decide)])) (HLe.cons 9 rfl (HOLe.refl _) (HLe.cons 7 rfl (HOLe.refl _) .nil))⟩
  · have hie : i = L.length := by omega
    subst hie
    rw [List.take_length]
    have hfn := hfl L.length
    rw [List.take_length] at hfn
    clear hf1 hfl h1 h2 h3 k1
    have w2 : (o == x) = false → (if x = o ∧ y = y then (0 : Int) else 11) = 11 := fun h => by rw [if_neg (fun hh => by rw [hh.1] at h; simp at h)]
    have w3 : (o == y) = false → (if x = x ∧ y = o then (0 : Int) else 11) = 11 := fun h => by rw [if_neg (fun hh => by rw [hh.2] at h; simp at h)]
    generalize (if x = o ∧ y = y then (0 : Int) else 11) = e2 at *
    generalize (if x = x ∧ y = o then (0 : Int) else 11) = e3 at *
    generalize L.filter (notIn G) = B at *
    cases qx : (o == x) with
    | true =>
      cases qy : (o == y) with
      | true =>
        repeat' (first | (refine o_freezeR (xs := B.map Lef.A ++ F.map Lef.A) 42 11 rfl rfl rfl ?_) | (rw [qy]) | (rw [qx]) | refine Awp.seq ?_ | refine Awp.region ?_ | (refine Ops.nil ?_; show Awp _ _ _ _ _) | (refine Awp.skip ?_; show Awp _ _ _ _ _) | (refine Awp.exit ?_; show Awp _ _ _ _ _) | (refine Awp.ret ?_; show endK _ _ _ _ _) | refine o_noF rfl rfl rfl ?_ | (refine o_calm rfl TtOk rfl rfl rfl ?_ (fun _ => ?_); first | exact True.intro | exact ⟨rfl, rfl, rfl, rfl⟩ | exact ⟨rfl, True.intro⟩ | exact ⟨rfl, rfl⟩ | exact ⟨rfl, rfl, rfl⟩ | exact rfl | exact ⟨fun h0 => by cases h0, rfl⟩ | exact (fun h0 => by cases h0) | exact ⟨rfl, by omega⟩ | exact ⟨Nat.succ_ne_zero _, rfl⟩ | omega) | refine o_alloc (d := 17) rfl TtOk rfl rfl rfl (fun b17 => ?_) | refine o_alloc (d := 19) rfl TtOk rfl rfl rfl (fun b19 => ?_) | refine o_store TtOk rfl rfl rfl rfl rfl rfl rfl ⟨rfl, rfl⟩ rfl rfl rfl rfl rfl ?_ | (refine o_append TtOk rfl rfl rfl rfl rfl rfl rfl rfl rfl (by first | exact True.intro | exact rfl) rfl rfl (fun _ => rfl) ?_ ?_ (fun _ => ?_); ((repeat' (first | rw [List.length_append] | rw [List.length_map] | rw [List.length_cons] | rw [List.length_nil] | rw [List.length_take] | rw [List.length_drop])) <;> omega); ((repeat' (first | rw [List.length_append] | rw [List.length_map] | rw [List.length_cons] | rw [List.length_nil] | rw [List.length_take] | rw [List.length_drop])) <;> omega)) | refine o_eqArr8 TtOk rfl rfl rfl rfl rfl rfl (by kernel_rfl) ?_ | refine a_condF rfl ?_ | (refine a_condP rfl (fun hc => ?_) (fun hc => ?_)) <;> (try (exfalso; omega)) | (refine o_call0 rfl (k2) True.intro rfl ?_; rintro _ _ ⟨rfl, rfl⟩; refine ⟨rfl, ?_⟩) | (refine o_call0 rfl (k3) ⟨SLe.of_eq rfl, True.intro⟩ rfl ?_; rintro _ _ ⟨rfl, rfl⟩; refine ⟨rfl, ?_⟩) | (refine o_call0 rfl (k4) ⟨SLe.of_eq rfl, True.intro⟩ rfl ?_; rintro _ _ ⟨rfl, rfl⟩; refine ⟨rfl, ?_⟩) | (refine o_call0 rfl (k5) ⟨SLe.of_eq rfl, True.intro⟩ rfl ?_; rintro _ _ ⟨rfl, rfl⟩; refine ⟨rfl, ?_⟩) | (refine o_call0 rfl (k6) ⟨SLe.of_eq rfl, True.intro⟩ rfl ?_; rintro _ _ ⟨rfl, rfl⟩; refine ⟨rfl, ?_⟩) | (refine o_call0 rfl (k7) ⟨SLe.of_eq rfl, SLe.of_eq rfl, True.intro⟩ rfl ?_; rintro _ _ ⟨rfl, rfl⟩; refine ⟨rfl, ?_⟩) | (refine o_call0 rfl (s1) ⟨SLe.of_eq rfl, SLe.of_eq rfl, SLe.of_eq rfl, True.intro⟩ rfl ?_; rintro _ _ ⟨rfl, rfl⟩; refine ⟨rfl, ?_⟩) | (refine o_call0 rfl (s2) ⟨SLe.of_eq rfl, SLe.of_eq rfl, SLe.of_eq rfl, True.intro⟩ rfl ?_; rintro _ _ ⟨rfl, rfl⟩; refine ⟨rfl, ?_⟩) | (refine o_call0 rfl (s3) ⟨SLe.of_eq rfl, SLe.of_eq rfl, SLe.of_eq rfl, True.intro⟩ rfl ?_; rintro _ _ ⟨rfl, rfl⟩; refine ⟨rfl, ?_⟩))
        all_goals exact end_tmp rfl rfl rfl [] [] (CLe.of_eq rfl) .nil ⟨rfl, rfl⟩ _ (.inl rfl)
      | false =>
        have w3 := w3 qy
        subst w3
        repeat' (first | (refine o_freezeR (xs := B.map Lef.A ++ F.map Lef.A) 42 11 rfl rfl rfl ?_) | (rw [qy]) | (rw [qx]) | refine Awp.seq ?_ | refine Awp.region ?_ | (refine Ops.nil ?_; show Awp _ _ _ _ _) | (refine Awp.skip ?_; show Awp _ _ _ _ _) | (refine Awp.exit ?_; show Awp _ _ _ _ _) | (refine Awp.ret ?_; show endK _ _ _ _ _) | refine o_noF rfl rfl rfl ?_ | (refine o_calm rfl TtOk rfl rfl rfl ?_ (fun _ => ?_); first | exact True.intro | exact ⟨rfl, rfl, rfl, rfl⟩ | exact ⟨rfl, True.intro⟩ | exact ⟨rfl, rfl⟩ | exact ⟨rfl, rfl, rfl⟩ | exact rfl | exact ⟨fun h0 => by cases h0, rfl⟩ | exact (fun h0 => by cases h0) | exact ⟨rfl, by omega⟩ | exact ⟨Nat.succ_ne_zero _, rfl⟩ | omega) | refine o_alloc (d := 17) rfl TtOk rfl rfl rfl (fun b17 => ?_) | refine o_alloc (d := 19) rfl TtOk rfl rfl rfl (fun b19 => ?_) | refine o_store TtOk rfl rfl rfl rfl rfl rfl rfl ⟨rfl, rfl⟩ rfl rfl rfl rfl rfl ?_ | (refine o_append TtOk rfl rfl rfl rfl rfl rfl rfl rfl rfl (by first | exact True.intro | exact rfl) rfl rfl (fun _ => rfl) ?_ ?_ (fun _ => ?_); ((repeat' (first | rw [List.length_append] | rw [List.length_map] | rw [List.length_cons] | rw [List.length_nil] | rw [List.length_take] | rw [List.length_drop])) <;> omega); ((repeat' (first | rw [List.length_append] | rw [List.length_map] | rw [List.length_cons] | rw [List.length_nil] | rw [List.length_take] | rw [List.length_drop])) <;> omega)) | refine o_eqArr8 TtOk rfl rfl rfl rfl rfl rfl (by kernel_rfl) ?_ | refine a_condF rfl ?_ | (refine a_condP rfl (fun hc => ?_) (fun hc => ?_)) <;> (try (exfalso; omega)) | (refine o_call0 rfl (k2) True.intro rfl ?_; rintro _ _ ⟨rfl, rfl⟩; refine ⟨rfl, ?_⟩) | (refine o_call0 rfl (k3) ⟨SLe.of_eq rfl, True.intro⟩ rfl ?_; rintro _ _ ⟨rfl, rfl⟩; refine ⟨rfl, ?_⟩) | (refine o_call0 rfl (k4) ⟨SLe.of_eq rfl, True.intro⟩ rfl ?_; rintro _ _ ⟨rfl, rfl⟩; refine ⟨rfl, ?_⟩) | (refine o_call0 rfl (k5) ⟨SLe.of_eq rfl, True.intro⟩ rfl ?_; rintro _ _ ⟨rfl, rfl⟩; refine ⟨rfl, ?_⟩) | (refine o_call0 rfl (k6) ⟨SLe.of_eq rfl, True.intro⟩ rfl ?_; rintro _ _ ⟨rfl, rfl⟩; refine ⟨rfl, ?_⟩) | (refine o_call0 rfl (k7) ⟨SLe.of_eq rfl, SLe.of_eq rfl, True.intro⟩ rfl ?_; rintro _ _ ⟨rfl, rfl⟩; refine ⟨rfl, ?_⟩) | (refine o_call0 rfl (s1) ⟨SLe.of_eq rfl, SLe.of_eq rfl, SLe.of_eq rfl, True.intro⟩ rfl ?_; rintro _ _ ⟨rfl, rfl⟩; refine ⟨rfl, ?_⟩) | (refine o_call0 rfl (s2) ⟨SLe.of_eq rfl, SLe.of_eq rfl, SLe.of_eq rfl, True.intro⟩ rfl ?_; rintro _ _ ⟨rfl, rfl⟩; refine ⟨rfl, ?_⟩) | (refine o_call0 rfl (s3) ⟨SLe.of_eq rfl, SLe.of_eq rfl, SLe.of_eq rfl, True.intro⟩ rfl ?_; rintro _ _ ⟨rfl, rfl⟩; refine ⟨rfl, ?_⟩))
        all_goals exact end_tmp rfl rfl rfl [] [] (CLe.of_eq rfl) .nil ⟨rfl, rfl⟩ _ (.inl rfl)
    | false =>
      have w2 := w2 qx
      subst w2
      cases qy : (o == y) with
      | true =>
        repeat' (first | (refine o_freezeR (xs := B.map Lef.A ++ F.map Lef.A) 42 11 rfl rfl rfl ?_) | (rw [qy]) | (rw [qx]) | refine Awp.seq ?_ | refine Awp.region ?_ | (refine Ops.nil ?_; show Awp _ _ _ _ _) | (refine Awp.skip ?_; show Awp _ _ _ _ _) | (refine Awp.exit ?_; show Awp _ _ _ _ _) | (refine Awp.ret ?_; show endK _ _ _ _ _) | refine o_noF rfl rfl rfl ?_ | (refine o_calm rfl TtOk rfl rfl rfl ?_ (fun _ => ?_); first | exact True.intro | exact ⟨rfl, rfl, rfl, rfl⟩ | exact ⟨rfl, True.intro⟩ | exact ⟨rfl, rfl⟩ | exact ⟨rfl, rfl, rfl⟩ | exact rfl | exact ⟨fun h0 => by cases h0, rfl⟩ | exact (fun h0 => by cases h0) | exact ⟨rfl, by omega⟩ | exact ⟨Nat.succ_ne_zero _, rfl⟩ | omega) | refine o_alloc (d := 17) rfl TtOk rfl rfl rfl (fun b17 => ?_) | refine o_alloc (d := 19) rfl TtOk rfl rfl rfl (fun b19 => ?_) | refine o_store TtOk rfl rfl rfl rfl rfl rfl rfl ⟨rfl, rfl⟩ rfl rfl rfl rfl rfl ?_ | (refine o_append TtOk rfl rfl rfl rfl rfl rfl rfl rfl rfl (by first | exact True.intro | exact rfl) rfl rfl (fun _ => rfl) ?_ ?_ (fun _ => ?_); ((repeat' (first | rw [List.length_append] | rw [List.length_map] | rw [List.length_cons] | rw [List.length_nil] | rw [List.length_take] | rw [List.length_drop])) <;> omega); ((repeat' (first | rw [List.length_append] | rw [List.length_map] | rw [List.length_cons] | rw [List.length_nil] | rw [List.length_take] | rw [List.length_drop])) <;> omega)) | refine o_eqArr8 TtOk rfl rfl rfl rfl rfl rfl (by kernel_rfl) ?_ | refine a_condF rfl ?_ | (refine a_condP rfl (fun hc => ?_) (fun hc => ?_)) <;> (try (exfalso; omega)) | (refine o_call0 rfl (k2) True.intro rfl ?_; rintro _ _ ⟨rfl, rfl⟩; refine ⟨rfl, ?_⟩) | (refine o_call0 rfl (k3) ⟨SLe.of_eq rfl, True.intro⟩ rfl ?_; rintro _ _ ⟨rfl, rfl⟩; refine ⟨rfl, ?_⟩) | (refine o_call0 rfl (k4) ⟨SLe.of_eq rfl, True.intro⟩ rfl ?_; rintro _ _ ⟨rfl, rfl⟩; refine ⟨rfl, ?_⟩) | (refine o_call0 rfl (k5) ⟨SLe.of_eq rfl, True.intro⟩ rfl ?_; rintro _ _ ⟨rfl, rfl⟩; refine ⟨rfl, ?_⟩) | (refine o_call0 rfl (k6) ⟨SLe.of_eq rfl, True.intro⟩ rfl ?_; rintro _ _ ⟨rfl, rfl⟩; refine ⟨rfl, ?_⟩) | (refine o_call0 rfl (k7) ⟨SLe.of_eq rfl, SLe.of_eq rfl, True.intro⟩ rfl ?_; rintro _ _ ⟨rfl, rfl⟩; refine ⟨rfl, ?_⟩) | (refine o_call0 rfl (s1) ⟨SLe.of_eq rfl, SLe.of_eq rfl, SLe.of_eq rfl, True.intro⟩ rfl ?_; rintro _ _ ⟨rfl, rfl⟩; refine ⟨rfl, ?_⟩) | (refine o_call0 rfl (s2) ⟨SLe.of_eq rfl, SLe.of_eq rfl, SLe.of_eq rfl, True.intro⟩ rfl ?_; rintro _ _ ⟨rfl, rfl⟩; refine ⟨rfl, ?_⟩) | (refine o_call0 rfl (s3) ⟨SLe.of_eq rfl, SLe.of_eq rfl, SLe.of_eq rfl, True.intro⟩ rfl ?_; rintro _ _ ⟨rfl, rfl⟩; refine ⟨rfl, ?_⟩))
        all_goals exact end_tmp rfl rfl rfl [] [] (CLe.of_eq rfl) .nil ⟨rfl, rfl⟩ _ (.inl rfl)
      | false =>
        have w3 := w3 qy
        subst w3
        repeat' (first | (refine o_freezeR (xs := B.map Lef.A ++ F.map Lef.A) 42 11 rfl rfl rfl ?_) | (rw [qy]) | (rw [qx]) | refine Awp.seq ?_ | refine Awp.region ?_ | (refine Ops.nil ?_; show Awp _ _ _ _ _) | (refine Awp.skip ?_; show Awp _ _ _ _ _) | (refine Awp.exit ?_; show Awp _ _ _ _ _) | (refine Awp.ret ?_; show endK _ _ _ _ _) | (refine o_calm rfl TtOk rfl rfl rfl ?_ (fun _ => ?_); first | exact True.intro | exact ⟨rfl, rfl, rfl, rfl⟩ | exact ⟨rfl, True.intro⟩ | exact ⟨rfl, rfl⟩ | exact ⟨rfl, rfl, rfl⟩ | exact rfl | exact ⟨fun h0 => by cases h0, rfl⟩ | exact (fun h0 => by cases h0) | exact ⟨rfl, by omega⟩ | exact ⟨Nat.succ_ne_zero _, rfl⟩ | omega) | refine o_alloc (d := 17) rfl TtOk rfl rfl rfl (fun b17 => ?_) | refine o_alloc (d := 19) rfl TtOk rfl rfl rfl (fun b19 => ?_) | refine o_store TtOk rfl rfl rfl rfl rfl rfl rfl ⟨rfl, rfl⟩ rfl rfl rfl rfl rfl ?_ | (refine o_append TtOk rfl rfl rfl rfl rfl rfl rfl rfl rfl (by first | exact True.intro | exact rfl) rfl rfl (fun _ => rfl) ?_ ?_ (fun _ => ?_); ((repeat' (first | rw [List.length_append] | rw [List.length_map] | rw [List.length_cons] | rw [List.length_nil] | rw [List.length_take] | rw [List.length_drop])) <;> omega); ((repeat' (first | rw [List.length_append] | rw [List.length_map] | rw [List.length_cons] | rw [List.length_nil] | rw [List.length_take] | rw [List.length_drop])) <;> omega)) | refine o_eqArr8 TtOk rfl rfl rfl rfl rfl rfl (by kernel_rfl) ?_ | refine a_condF rfl ?_ | (refine a_condP rfl (fun hc => ?_) (fun hc => ?_)) <;> (try (exfalso; omega)) | (refine o_call0 rfl (k2) True.intro rfl ?_; rintro _ _ ⟨rfl, rfl⟩; refine ⟨rfl, ?_⟩) | (refine o_call0 rfl (k3) ⟨SLe.of_eq rfl, True.intro⟩ rfl ?_; rintro _ _ ⟨rfl, rfl⟩; refine ⟨rfl, ?_⟩) | (refine o_call0 rfl (k4) ⟨SLe.of_eq rfl, True.intro⟩ rfl ?_; rintro _ _ ⟨rfl, rfl⟩; refine ⟨rfl, ?_⟩) | (refine o_call0 rfl (k5) ⟨SLe.of_eq rfl, True.intro⟩ rfl ?_; rintro _ _ ⟨rfl, rfl⟩; refine ⟨rfl, ?_⟩) | (refine o_call0 rfl (k6) ⟨SLe.of_eq rfl, True.intro⟩ rfl ?_; rintro _ _ ⟨rfl, rfl⟩; refine ⟨rfl, ?_⟩) | (refine o_call0 rfl (k7) ⟨SLe.of_eq rfl, SLe.of_eq rfl, True.intro⟩ rfl ?_; rintro _ _ ⟨rfl, rfl⟩; refine ⟨rfl, ?_⟩) | (refine o_call0 rfl (s1) ⟨SLe.of_eq rfl, SLe.of_eq rfl, SLe.of_eq rfl, True.intro⟩ rfl ?_; rintro _ _ ⟨rfl, rfl⟩; refine ⟨rfl, ?_⟩) | (refine o_call0 rfl (s2) ⟨SLe.of_eq rfl, SLe.of_eq rfl, SLe.of_eq rfl, True.intro⟩ rfl ?_; rintro _ _ ⟨rfl, rfl⟩; refine ⟨rfl, ?_⟩) | (refine o_call0 rfl (s3) ⟨SLe.of_eq rfl, SLe.of_eq rfl, SLe.of_eq rfl, True.intro⟩ rfl ?_; rintro _ _ ⟨rfl, rfl⟩; refine ⟨rfl, ?_⟩))
        all_goals exact end_tmp rfl rfl rfl [] [] (CLe.of_eq rfl) .nil ⟨rfl, rfl⟩ _ (.inl rfl)
end Go.Proofs.Ytcmgpkibjdbonaa
