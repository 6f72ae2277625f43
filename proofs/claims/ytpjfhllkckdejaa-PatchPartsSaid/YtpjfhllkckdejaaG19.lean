/- law16.PatchParts by rules. -/
import Derived.Test.YtpjfhllkckdejaaGHZ
import Derived.Test.YtpjfhllkckdejaaV33Z
set_option maxHeartbeats 32000000
set_option maxRecDepth 100000
namespace Go.Proofs.Ytpjfhllkckdejaa
open Go Go.RowKit
theorem freF_succ {B : List (List UInt8)} {fr : List Lef} {i : Nat} (h : i < fr.length) : freF B fr (i + 1) = freF B fr i ++ freO B i fr[i] := by
  show freF B fr i ++ freO B i (fr.getD i ⟨[], [], 0⟩) = _
  rw [List.getD_eq_getElem?_getD, List.getElem?_eq_getElem h]; rfl
theorem freO_eq {B : List (List UInt8)} {i : Nat} (x : Lef) (h : i < B.length) (h0 : 0 ≤ x.t) (h1 : x.t ≤ 1073741824) : freO B i x = if atB (B.take i) B[i] = false then [⟨B[i], x.v, x.t⟩] else [] := by
  unfold freO
  have hb : B.getD i [] = B[i] := by rw [List.getD_eq_getElem?_getD, List.getElem?_eq_getElem h]; rfl
  rw [hb]
  by_cases ha : atB (B.take i) B[i] = false
  · rw [if_pos ha, if_pos ⟨h, h0, h1, ha⟩]
  · rw [if_neg ha, if_neg (fun hh => ha hh.2.2.2)]
theorem freO_no {B : List (List UInt8)} {i : Nat} (x : Lef) (h : ¬ (i < B.length ∧ 0 ≤ x.t ∧ x.t ≤ 1073741824)) : freO B i x = [] := by
  unfold freO
  rw [if_neg (fun hh => h ⟨hh.1, hh.2.1, hh.2.2.1⟩)]
theorem patchParts_spec (l fresh : List Lef) (ls : List (List UInt8)) (hl : l.length ≤ 9223372036854775807) (hfl : fresh.length ≤ 9223372036854775807) (hls : ls.length ≤ 9223372036854775807) (hok : ∀ x ∈ l, x.ok) (hfo : ∀ x ∈ fresh, x.ok) (hlo : ∀ x ∈ ls, x.length = 32) : Spec Try.prog 6 [.sl 65 (l.map Lef.A), .sl 65 (fresh.map Lef.A), .sl 32 (ls.map labA)] [] (fun v os => v = .b true ∧ os = []) := by
  refine spec_of TtOk [] Try.func6 rfl Try.ntmps6 (by kernel_rfl) rfl rfl (fun C => ?_) rfl
  have h1 := few_spec l 30 hl (by decide)
  have h2 := fewb_spec ls hls
  have h16 := few_spec fresh 30 hfl (by decide)
  have hll : (l.take 30).length ≤ 30 := by rw [List.length_take]; omega
  have hfl1 : (fresh.take 30).length ≤ 30 := by rw [List.length_take]; omega
  have hlb : (ls.take 40).length ≤ 40 := by rw [List.length_take]; omega
  have hok1 : ∀ x ∈ l.take 30, x.ok := fun x hx => hok x (List.mem_of_mem_take hx)
  have hfo1 : ∀ x ∈ fresh.take 30, x.ok := fun x hx => hfo x (List.mem_of_mem_take hx)
  have hlo1 : ∀ x ∈ ls.take 40, x.length = 32 := fun x hx => hlo x (List.mem_of_mem_take hx)
  generalize l.take 30 = L at h1 hll hok1
  generalize fresh.take 30 = fr at h16 hfl1 hfo1
  generalize ls.take 40 = B at h2 hlb hlo1
  have h3 := cover_spec L B (by omega) hok1 (by omega) hlo1
  have hE : cvE L = chkI (itmsL L) := by unfold cvE; rw [itms_srt]
  rw [hE] at h3
  have h14 := awake16_spec
  by_cases hc : chkI (itmsL L) = 0
  · obtain ⟨p1, p2, p3, p4, p5, p6, p7, p8, p9⟩ := parts_law hok1 (by omega) (by omega) hlo1 hfo1 hc
    obtain ⟨F1, F2, F3⟩ := freF_facts hlo1 hfo1 fr.length (Nat.le_refl _)
    have hio : ∀ M : List Lef, (∀ x ∈ M, x.ok) → ∀ x ∈ itmsL M, x.ok := fun M hM x hx => by
      obtain ⟨y, hy, rfl⟩ := List.mem_map.1 (srtI_mem.1 hx)
      exact leafI_ok y (hM y hy)
    have hil : ∀ M : List Lef, (itmsL M).length = M.length := fun M => by unfold itmsL; rw [srtI_len, List.length_map]
    have okQ : ∀ x ∈ cvT L B, x.ok := fun x hx => hok1 x (p3 x hx).1
    have okF : ∀ x ∈ freF B fr fr.length, x.ok := fun x hx => (F1 x hx).1
    have okS : ∀ x ∈ L.filter (fun x => !(atB B x.l)) ++ freF B fr fr.length, x.ok := fun x hx => by
      rcases List.mem_append.1 hx with h | h
      · exact hok1 x (List.mem_filter.1 h).1
      · exact okF x h
    have okPQ : ∀ (J : List Itm), (∀ x ∈ J, x.ok) → ∀ x ∈ srtI (cvI L B ++ J), x.ok := fun J hJ x hx => by
      rcases List.mem_append.1 (srtI_mem.1 hx) with h | h
      · exact p1 x h
      · exact hJ x h
    have hfll := List.length_filter_le (fun x : Lef => !(atB B x.l)) L
    have hSl : (L.filter (fun x => !(atB B x.l)) ++ freF B fr fr.length).length ≤ 60 := by rw [List.length_append]; omega
    have lQ := hil (cvT L B)
    have lF := hil (freF B fr fr.length)
    have lS := hil (L.filter (fun x => !(atB B x.l)) ++ freF B fr fr.length)
    have lL := hil L
    have lF2 : (itmsL (freF B fr fr.length)).length ≤ 30 := by omega
    have h4 := of_spec L (by omega) hok1
    have h5 := top_spec (itmsL L) (by omega) (hio L hok1)
    have h6 := of_spec (cvT L B) (by omega) okQ
    have h7 := sorted_spec (cvI L B ++ itmsL (cvT L B)) (by rw [List.length_append]; omega)
    have h8 := top_spec (srtI (cvI L B ++ itmsL (cvT L B))) (by rw [srtI_len, List.length_append]; omega) (okPQ _ (hio _ okQ))
    have h9 := of_spec (L.filter (fun x => !(atB B x.l)) ++ freF B fr fr.length) (by omega) okS
    have h10 := top_spec (itmsL (L.filter (fun x => !(atB B x.l)) ++ freF B fr fr.length)) (by omega) (hio _ okS)
    have h11 := of_spec (freF B fr fr.length) (by omega) okF
    have h12 := sorted_spec (cvI L B ++ itmsL (freF B fr fr.length)) (by rw [List.length_append]; omega)
    have h13 := top_spec (srtI (cvI L B ++ itmsL (freF B fr fr.length))) (by rw [srtI_len, List.length_append]; omega) (okPQ _ (hio _ okF))
    rw [hc] at h3 h5
    rw [p5, ← p6] at h8
    rw [p7] at h10
    rw [p8, ← p9] at h13
    have hat : ∀ (x : Lef), Spec Try.prog 35 [x.A, .sl 32 (B.map labA)] [] (fun v os => v = .b (atB B x.l) ∧ os = []) := fun x => at_spec x B (by omega)
    have hQat : ∀ (i : Nat) (h : i < (cvT L B).length), atB B ((cvT L B)[i]).l = true := fun i h => (p3 _ (List.getElem_mem h)).2
    have hfs := fun (i : Nat) (h : i < L.length) => filt_succ (fun x : Lef => !(atB B x.l)) L h
    have hfl2 : ∀ i : Nat, ((L.take i).filter (fun x => !(atB B x.l))).length ≤ 30 := fun i => Nat.le_trans (List.length_filter_le ..) (by rw [List.length_take]; omega)
    have hFl : ∀ i, i ≤ fr.length → (freF B fr i).length ≤ 30 := fun i hi => by
      have := (freF_facts hlo1 hfo1 i hi).2.2; omega
    clear p1 p3 p5 p6 p7 p8 p9 F1 F2 F3 hio okQ okF okS okPQ lS lL hSl hil hc hE hok hfo hlo hok1 hfo1 hlo1 hl hls
    generalize cvI L B = P at *
    generalize cvT L B = Q at *
    generalize topS (itmsL L) = s at *
    generalize itmsL L = I at *
    generalize itmsL Q = J at *
    generalize srtI (P ++ J) = Z1 at *
    generalize topS (itmsL (L.filter (fun x => !(atB B x.l)) ++ freF B fr fr.length)) = u at *
    generalize itmsL (L.filter (fun x => !(atB B x.l)) ++ freF B fr fr.length) = J3 at *
    generalize itmsL (freF B fr fr.length) = J2 at *
    generalize srtI (P ++ J2) = Z2 at *
    have hss : (!(s == s)) = false := by rw [beq_self_eq_true]; rfl
    have huu : (u == u) = true := beq_self_eq_true _
    repeat' (first | (refine o_freezeR (xs := (P ++ J).map Itm.A) 50 55 (by rw [List.map_append]; rfl) rfl rfl ?_) | (refine o_freezeR 30 0 rfl rfl rfl ?_) | refine Awp.seq ?_ | refine Awp.block ?_ | refine Awp.region ?_ | (refine Ops.nil ?_; show Awp _ _ _ _ _) | (refine Awp.skip ?_; show Awp _ _ _ _ _) | refine o_len rfl TtOk rfl rfl rfl (fun _ => ?_) | (refine o_calm rfl TtOk rfl rfl rfl ?_ (fun _ => ?_); first | exact True.intro | exact ⟨rfl, rfl, rfl, rfl⟩ | exact ⟨rfl, True.intro⟩ | exact ⟨rfl, rfl⟩ | exact ⟨rfl, rfl, rfl⟩ | exact rfl | exact ⟨fun h0 => by cases h0, rfl⟩ | exact (fun h0 => by cases h0) | exact ⟨rfl, by omega⟩ | exact ⟨Nat.succ_ne_zero _, rfl⟩ | omega) | refine o_alloc (d := 10) rfl TtOk rfl rfl rfl (fun b10 => ?_) | refine o_alloc (d := 12) rfl TtOk rfl rfl rfl (fun b12 => ?_) | refine o_store TtOk rfl rfl rfl rfl rfl rfl rfl ⟨rfl, rfl⟩ rfl rfl rfl rfl rfl ?_ | refine o_buildSlice (d := 50) TtOk rfl rfl rfl rfl rfl rfl rfl rfl rfl rfl rfl (by repeat' (first | exact True.intro | exact rfl | refine ⟨?_, ?_⟩)) (fun v50 => ?_) | refine o_buildSlice (d := 71) TtOk rfl rfl rfl rfl rfl rfl rfl rfl rfl rfl rfl (by repeat' (first | exact True.intro | exact rfl | refine ⟨?_, ?_⟩)) (fun v71 => ?_) | (refine o_append TtOk rfl rfl rfl rfl rfl rfl rfl rfl rfl (by first | exact True.intro | exact rfl) rfl rfl (fun _ => rfl) ?_ ?_ (fun _ => ?_); ((repeat' (first | rw [List.length_append] | rw [List.length_map] | rw [List.length_cons] | rw [List.length_nil] | rw [List.length_take] | rw [List.length_drop])) <;> omega); ((repeat' (first | rw [List.length_append] | rw [List.length_map] | rw [List.length_cons] | rw [List.length_nil] | rw [List.length_take] | rw [List.length_drop])) <;> omega)) | refine a_condF rfl ?_ | (refine o_callR rfl h1 ⟨SLe.of_eq rfl, SLe.of_eq rfl, True.intro⟩ rfl (fun vR => ?_)) | (refine o_neArr8 TtOk rfl rfl rfl rfl rfl rfl (by kernel_rfl) ?_; rw [hss]) | (refine o_call0 rfl (h2) ⟨SLe.of_eq rfl, True.intro⟩ rfl ?_; rintro _ _ ⟨rfl, rfl⟩; refine ⟨rfl, ?_⟩) | (refine o_call0 rfl (h3) ⟨SLe.of_eq rfl, SLe.of_eq rfl, True.intro⟩ rfl ?_; rintro _ _ ⟨rfl, rfl⟩; refine ⟨rfl, ?_⟩) | (refine o_call0 rfl (h4) ⟨SLe.of_eq rfl, True.intro⟩ rfl ?_; rintro _ _ ⟨rfl, rfl⟩; refine ⟨rfl, ?_⟩) | (refine o_call0 rfl (h5) ⟨SLe.of_eq rfl, True.intro⟩ rfl ?_; rintro _ _ ⟨rfl, rfl⟩; refine ⟨rfl, ?_⟩) | (refine o_call0 rfl (h6) ⟨SLe.of_eq rfl, True.intro⟩ rfl ?_; rintro _ _ ⟨rfl, rfl⟩; refine ⟨rfl, ?_⟩) | (refine o_call0 rfl (h7) ⟨SLe.of_eq rfl, True.intro⟩ rfl ?_; rintro _ _ ⟨rfl, rfl⟩; refine ⟨rfl, ?_⟩) | (refine o_call0 rfl (h8) ⟨SLe.of_eq rfl, True.intro⟩ rfl ?_; rintro _ _ ⟨rfl, rfl⟩; refine ⟨rfl, ?_⟩))
    clear h1 h3 h4 h5 h6 h7 h8 hss
    generalize hLF : L.filter (fun x => !(atB B x.l)) = LF at *
    have hLF0 : (L.take L.length).filter (fun x => !(atB B x.l)) = LF := by rw [List.take_length]; exact hLF
    refine Awp.loop (fun q : Nat × Value => ⟨188, [(74, .i .i64 q.1), (73, .i .i64 L.length), (72, .sl 65 (L.map Lef.A)), (14, .own 71 q.2), (2, .sl 32 (B.map labA)), (7, .sl 66 (P.map Itm.A)), (8, .sl 65 (Q.map Lef.A)), (1, .sl 65 (fresh.map Lef.A))], [(71, .row q.2 38 65 (((L.take q.1).filter (fun x => !(atB B x.l))).map Lef.A))]⟩) (fun q => q.1 ≤ L.length) (fun q => L.length - q.1) [] (0, v71) (Nat.zero_le _) ?_ ?_
    · exact ⟨rfl, ⟨sle_i rfl, sle_i rfl, sle_sl rfl, sle_own, sle_sl rfl, sle_sl rfl, sle_sl rfl, sle_sl rfl, True.intro⟩, HLe.cons 71 rfl (HOLe.refl _) .nil⟩
    rintro ⟨i, v⟩ hi
    dsimp only at hi ⊢
    by_cases hlt : i < L.length
    · have hi1 : ((i : Int) + 1 = ((i + 1 : Nat) : Int)) := by omega
      have g1 := hfs i hlt
      have g2 := hfl2 i
      have ha := hat L[i]
      clear hfs hfl2 hat h9 h10 h11 h12 h13 hLF0 hLF
      generalize (L.take i).filter (fun x => !(atB B x.l)) = A at g1 g2 ⊢
      generalize atB B L[i].l = b at ha g1
      cases b
      · rw [if_pos (by rfl)] at g1
        repeat' (first | refine Awp.seq ?_ | refine Awp.block ?_ | refine Awp.region ?_ | (refine Ops.nil ?_; show Awp _ _ _ _ _) | (refine Ops.nil ?_; show Exists _) | (refine Awp.skip ?_; show Awp _ _ _ _ _) | (refine o_add rfl rfl rfl rfl ?_ ?_; omega) | (refine o_calm rfl TtOk rfl rfl rfl ?_ (fun _ => ?_); first | exact True.intro | exact ⟨rfl, rfl, rfl, rfl⟩ | exact ⟨rfl, True.intro⟩ | exact ⟨rfl, rfl⟩ | exact ⟨rfl, rfl, rfl⟩ | exact rfl | exact ⟨fun h0 => by cases h0, rfl⟩ | exact (fun h0 => by cases h0) | exact ⟨rfl, by omega⟩ | exact ⟨Nat.succ_ne_zero _, rfl⟩ | omega) | refine o_alloc (d := 16) rfl TtOk rfl rfl rfl (fun b16 => ?_) | refine o_store TtOk rfl rfl rfl rfl rfl rfl rfl ⟨rfl, rfl⟩ rfl rfl rfl rfl rfl ?_ | (refine o_index rfl TtOk rfl rfl rfl rfl rfl rfl ?_ (getq_nat ?_) ?_; omega; omega) | refine o_buildSlice TtOk rfl rfl rfl rfl rfl rfl rfl rfl rfl rfl rfl (by repeat' (first | exact True.intro | exact rfl | refine ⟨?_, ?_⟩)) (fun _ => ?_) | (refine o_append TtOk rfl rfl rfl rfl rfl rfl rfl rfl rfl (by first | exact True.intro | exact rfl) rfl rfl (fun _ => rfl) ?_ ?_ (fun _ => ?_); ((repeat' (first | rw [List.length_append] | rw [List.length_map] | rw [List.length_cons] | rw [List.length_nil] | rw [List.length_take] | rw [List.length_drop])) <;> omega); ((repeat' (first | rw [List.length_append] | rw [List.length_map] | rw [List.length_cons] | rw [List.length_nil] | rw [List.length_take] | rw [List.length_drop])) <;> omega)) | refine a_condT rfl ?_ | (refine a_condP rfl (fun hc => ?_) (fun hc => ?_)) <;> (try (exfalso; omega)) | (refine o_call0 rfl (ha) ⟨SLe.of_eq rfl, SLe.of_eq rfl, True.intro⟩ rfl ?_; rintro _ _ ⟨rfl, rfl⟩; refine ⟨rfl, ?_⟩))
        exact ⟨(i + 1, _), [], hlt, by show L.length - (i + 1) < L.length - i; omega, rfl, ⟨sle_i hi1, sle_i rfl, sle_sl rfl, sle_own, sle_sl rfl, sle_sl rfl, sle_sl rfl, sle_sl rfl, True.intro⟩, HLe.cons 71 rfl (HOLe.row (by rw [g1, List.map_append]; rfl)) .nil⟩
      · rw [if_neg (by decide)] at g1
        repeat' (first | refine Awp.seq ?_ | refine Awp.block ?_ | refine Awp.region ?_ | (refine Ops.nil ?_; show Awp _ _ _ _ _) | (refine Ops.nil ?_; show Exists _) | (refine Awp.skip ?_; show Awp _ _ _ _ _) | (refine o_add rfl rfl rfl rfl ?_ ?_; omega) | (refine o_calm rfl TtOk rfl rfl rfl ?_ (fun _ => ?_); first | exact True.intro | exact ⟨rfl, rfl, rfl, rfl⟩ | exact ⟨rfl, True.intro⟩ | exact ⟨rfl, rfl⟩ | exact ⟨rfl, rfl, rfl⟩ | exact rfl | exact ⟨fun h0 => by cases h0, rfl⟩ | exact (fun h0 => by cases h0) | exact ⟨rfl, by omega⟩ | exact ⟨Nat.succ_ne_zero _, rfl⟩ | omega) | refine o_alloc (d := 16) rfl TtOk rfl rfl rfl (fun b16 => ?_) | refine o_store TtOk rfl rfl rfl rfl rfl rfl rfl ⟨rfl, rfl⟩ rfl rfl rfl rfl rfl ?_ | (refine o_index rfl TtOk rfl rfl rfl rfl rfl rfl ?_ (getq_nat ?_) ?_; omega; omega) | refine a_condF rfl ?_ | (refine a_condP rfl (fun hc => ?_) (fun hc => ?_)) <;> (try (exfalso; omega)) | (refine o_call0 rfl (ha) ⟨SLe.of_eq rfl, SLe.of_eq rfl, True.intro⟩ rfl ?_; rintro _ _ ⟨rfl, rfl⟩; refine ⟨rfl, ?_⟩))
        exact ⟨(i + 1, v), [], hlt, by show L.length - (i + 1) < L.length - i; omega, rfl, ⟨sle_i hi1, sle_i rfl, sle_sl rfl, sle_own, sle_sl rfl, sle_sl rfl, sle_sl rfl, sle_sl rfl, True.intro⟩, HLe.cons 71 rfl (HOLe.row (by rw [g1])) .nil⟩
    have hie : i = L.length := by omega
    subst hie
    rw [hLF0]
    clear hfs hfl2 hLF0 hlt hi
    repeat' (first | refine Awp.seq ?_ | refine Awp.block ?_ | refine Awp.region ?_ | (refine Ops.nil ?_; show Awp _ _ _ _ _) | (refine Awp.exit ?_; show Awp _ _ _ _ _) | refine o_len rfl TtOk rfl rfl rfl (fun _ => ?_) | (refine o_calm rfl TtOk rfl rfl rfl ?_ (fun _ => ?_); first | exact True.intro | exact ⟨rfl, rfl, rfl, rfl⟩ | exact ⟨rfl, True.intro⟩ | exact ⟨rfl, rfl⟩ | exact ⟨rfl, rfl, rfl⟩ | exact rfl | exact ⟨fun h0 => by cases h0, rfl⟩ | exact (fun h0 => by cases h0) | exact ⟨rfl, by omega⟩ | exact ⟨Nat.succ_ne_zero _, rfl⟩ | omega) | refine o_buildSlice (d := 87) TtOk rfl rfl rfl rfl rfl rfl rfl rfl rfl rfl rfl (by repeat' (first | exact True.intro | exact rfl | refine ⟨?_, ?_⟩)) (fun v87 => ?_) | (refine a_condP rfl (fun hc => ?_) (fun hc => ?_)) <;> (try (exfalso; omega)))
    refine Awp.loop (fun i : Nat => ⟨188, [(90, .i .i64 i), (89, .i .i64 Q.length), (88, .sl 65 (Q.map Lef.A)), (17, .own 87 v87), (14, .own 71 v), (2, .sl 32 (B.map labA)), (7, .sl 66 (P.map Itm.A)), (1, .sl 65 (fresh.map Lef.A))], [(71, .row v 38 65 (LF.map Lef.A)), (87, .row v87 38 65 [])]⟩) (fun i => i ≤ Q.length) (fun i => Q.length - i) [] 0 (Nat.zero_le _) ?_ ?_
    · exact ⟨rfl, ⟨sle_i rfl, sle_i rfl, sle_sl rfl, sle_own, sle_own, sle_sl rfl, sle_sl rfl, sle_sl rfl, True.intro⟩, HLe.cons 71 rfl (HOLe.refl _) (HLe.cons 87 rfl (HOLe.refl _) .nil)⟩
    clear hc
    intro i hi
    by_cases hlt : i < Q.length
    · have hi1 : ((i : Int) + 1 = ((i + 1 : Nat) : Int)) := by omega
      have ha := hat Q[i]
      rw [hQat i hlt] at ha
      clear hat hQat h9 h10 h11 h12 h13
      repeat' (first | refine Awp.seq ?_ | refine Awp.block ?_ | refine Awp.region ?_ | (refine Ops.nil ?_; show Awp _ _ _ _ _) | (refine Ops.nil ?_; show Exists _) | (refine Awp.skip ?_; show Awp _ _ _ _ _) | (refine o_add rfl rfl rfl rfl ?_ ?_; omega) | (refine o_calm rfl TtOk rfl rfl rfl ?_ (fun _ => ?_); first | exact True.intro | exact ⟨rfl, rfl, rfl, rfl⟩ | exact ⟨rfl, True.intro⟩ | exact ⟨rfl, rfl⟩ | exact ⟨rfl, rfl, rfl⟩ | exact rfl | exact ⟨fun h0 => by cases h0, rfl⟩ | exact (fun h0 => by cases h0) | exact ⟨rfl, by omega⟩ | exact ⟨Nat.succ_ne_zero _, rfl⟩ | omega) | refine o_alloc (d := 19) rfl TtOk rfl rfl rfl (fun b19 => ?_) | refine o_store TtOk rfl rfl rfl rfl rfl rfl rfl ⟨rfl, rfl⟩ rfl rfl rfl rfl rfl ?_ | (refine o_index rfl TtOk rfl rfl rfl rfl rfl rfl ?_ (getq_nat ?_) ?_; omega; omega) | refine a_condF rfl ?_ | (refine a_condP rfl (fun hc => ?_) (fun hc => ?_)) <;> (try (exfalso; omega)) | (refine o_call0 rfl (ha) ⟨SLe.of_eq rfl, SLe.of_eq rfl, True.intro⟩ rfl ?_; rintro _ _ ⟨rfl, rfl⟩; refine ⟨rfl, ?_⟩))
      exact ⟨i + 1, [], hlt, by omega, rfl, ⟨sle_i hi1, sle_i rfl, sle_sl rfl, sle_own, sle_own, sle_sl rfl, sle_sl rfl, sle_sl rfl, True.intro⟩, HLe.cons 71 rfl (HOLe.refl _) (HLe.cons 87 rfl (HOLe.refl _) .nil)⟩
    clear hat hQat
    repeat' (first | (refine o_freezeR 104 104 rfl rfl rfl ?_) | refine Awp.seq ?_ | refine Awp.block ?_ | refine Awp.region ?_ | (refine Ops.nil ?_; show Awp _ _ _ _ _) | (refine Awp.exit ?_; show Awp _ _ _ _ _) | refine o_len rfl TtOk rfl rfl rfl (fun _ => ?_) | (refine o_calm rfl TtOk rfl rfl rfl ?_ (fun _ => ?_); first | exact True.intro | exact ⟨rfl, rfl, rfl, rfl⟩ | exact ⟨rfl, True.intro⟩ | exact ⟨rfl, rfl⟩ | exact ⟨rfl, rfl, rfl⟩ | exact rfl | exact ⟨fun h0 => by cases h0, rfl⟩ | exact (fun h0 => by cases h0) | exact ⟨rfl, by omega⟩ | exact ⟨Nat.succ_ne_zero _, rfl⟩ | omega) | (refine a_condP rfl (fun hc => ?_) (fun hc => ?_)) <;> (try (exfalso; omega)) | (refine o_callR rfl h16 ⟨SLe.of_eq rfl, SLe.of_eq rfl, True.intro⟩ rfl (fun vR => ?_)))
    have hie2 : i = Q.length := by omega
    refine Awp.loop (fun q : Nat × Value × Value => ⟨188, [(106, .i .i64 q.1), (105, .i .i64 fr.length), (104, .sl 65 (fr.map Lef.A)), (17, .own 87 q.2.2), (14, .own 71 q.2.1), (2, .sl 32 (B.map labA)), (7, .sl 66 (P.map Itm.A))], [(71, .row q.2.1 38 65 ((LF ++ freF B fr q.1).map Lef.A)), (87, .row q.2.2 38 65 ((freF B fr q.1).map Lef.A))]⟩) (fun q => q.1 ≤ fr.length) (fun q => fr.length - q.1) [] (0, v, v87) (Nat.zero_le _) ?_ ?_
    · exact ⟨rfl, ⟨sle_i rfl, sle_i rfl, sle_sl rfl, sle_own, sle_own, sle_sl rfl, sle_sl rfl, True.intro⟩, HLe.cons 71 rfl (HOLe.row (by show _ = (LF ++ []).map Lef.A; rw [List.append_nil])) (HLe.cons 87 rfl (HOLe.refl _) .nil)⟩
    clear hie2 hi hlt i hc h16
    rintro ⟨i, v, w⟩ hi
    dsimp only at hi ⊢
    by_cases hlt : i < fr.length
    · have hi1 : ((i : Int) + 1 = ((i + 1 : Nat) : Int)) := by omega
      have g1 := freF_succ (B := B) hlt
      have g2 := hFl i hi
      have hLl : LF.length ≤ 30 := by omega
      clear h9 h10 h11 h12 h13 hFl
      generalize freF B fr i = A at g1 g2 ⊢
      by_cases hin : i < B.length ∧ 0 ≤ fr[i].t ∧ fr[i].t ≤ 1073741824
      · obtain ⟨q1, q2, q3⟩ := hin
        rw [freO_eq _ q1 q2 q3] at g1
        have hR0 : (false || ((B.take i).drop 0).any (fun b => b == B[i])) = atB (B.take i) B[i] := by rw [Bool.false_or, List.drop_zero]; rfl
        generalize atB (B.take i) B[i] = R at g1 hR0
        repeat' (first | refine Awp.seq ?_ | refine Awp.block ?_ | refine Awp.region ?_ | (refine Ops.nil ?_; show Awp _ _ _ _ _) | (refine Awp.skip ?_; show Awp _ _ _ _ _) | refine o_len rfl TtOk rfl rfl rfl (fun _ => ?_) | (refine o_calm rfl TtOk rfl rfl rfl ?_ (fun _ => ?_); first | exact True.intro | exact ⟨rfl, rfl, rfl, rfl⟩ | exact ⟨rfl, True.intro⟩ | exact ⟨rfl, rfl⟩ | exact ⟨rfl, rfl, rfl⟩ | exact rfl | exact ⟨fun h0 => by cases h0, rfl⟩ | exact (fun h0 => by cases h0) | exact ⟨rfl, by omega⟩ | exact ⟨Nat.succ_ne_zero _, rfl⟩ | omega) | refine o_alloc (d := 21) rfl TtOk rfl rfl rfl (fun b21 => ?_) | refine o_store TtOk rfl rfl rfl rfl rfl rfl rfl ⟨rfl, rfl⟩ rfl rfl rfl rfl rfl ?_ | (refine o_index rfl TtOk rfl rfl rfl rfl rfl rfl ?_ (getq_nat ?_) ?_; omega; omega) | (fail_if_success (refine o_isLit rfl (by first | exact .inl rfl | exact .inr rfl) ?_)); (refine o_splitP rfl rfl (fun hc => ?_) (fun hc => ?_) <;> try (exfalso; omega)) | (refine a_condP rfl (fun hc => ?_) (fun hc => ?_)) <;> (try (exfalso; omega)) | (refine o_sliceSl TtOk rfl 0 i rfl rfl rfl rfl rfl bnd_none (bnd_some rfl rfl) (by omega) (by omega) ?_; rw [List.drop_zero]))
        have hBl : (B.take i).length = i := by rw [List.length_take]; omega
        refine Awp.loop (fun q : Nat × Bool => ⟨188, [(134, .i .i64 q.1), (133, .i .i64 (B.take i).length), (132, .sl 32 ((B.take i).map labA)), (22, .b q.2), (21, .ptr 21 b21 [] 0), (106, .i .i64 i), (105, .i .i64 fr.length), (104, .sl 65 (fr.map Lef.A)), (17, .own 87 w), (14, .own 71 v), (2, .sl 32 (B.map labA)), (7, .sl 66 (P.map Itm.A))], [(21, .var b21 (.agg [labA B[i], labA fr[i].v, .i .i64 fr[i].t])), (71, .row v 38 65 ((LF ++ A).map Lef.A)), (87, .row w 38 65 (A.map Lef.A))]⟩) (fun q => q.1 ≤ (B.take i).length ∧ (q.2 || ((B.take i).drop q.1).any (fun b => b == B[i])) = R) (fun q => (B.take i).length - q.1) [] (0, false) ⟨Nat.zero_le _, hR0⟩ ?_ ?_
        · exact ⟨rfl, ⟨sle_i rfl, sle_i rfl, sle_sl rfl, sle_b rfl, sle_ptr, sle_i rfl, sle_i rfl, sle_sl rfl, sle_own, sle_own, sle_sl rfl, sle_sl rfl, True.intro⟩, HLe.cons 21 rfl (HOLe.refl _) (HLe.cons 71 rfl (HOLe.refl _) (HLe.cons 87 rfl (HOLe.refl _) .nil))⟩
        clear hR0
        rintro ⟨j, ag⟩ ⟨hj, hag⟩
        dsimp only at hj hag ⊢
        by_cases hjl : j < (B.take i).length
        · have hj1 : ((j : Int) + 1 = ((j + 1 : Nat) : Int)) := by omega
          rw [any_drop _ _ hjl] at hag
          cases ag
          · rw [Bool.false_or] at hag
            repeat' (first | refine Awp.seq ?_ | refine Awp.block ?_ | refine Awp.region ?_ | (refine Ops.nil ?_; show Awp _ _ _ _ _) | (refine Ops.nil ?_; show Exists _) | (refine Awp.skip ?_; show Awp _ _ _ _ _) | (refine o_add rfl rfl rfl rfl ?_ ?_; omega) | (refine o_calm rfl TtOk rfl rfl rfl ?_ (fun _ => ?_); first | exact True.intro | exact ⟨rfl, rfl, rfl, rfl⟩ | exact ⟨rfl, True.intro⟩ | exact ⟨rfl, rfl⟩ | exact ⟨rfl, rfl, rfl⟩ | exact rfl | exact ⟨fun h0 => by cases h0, rfl⟩ | exact (fun h0 => by cases h0) | exact ⟨rfl, by omega⟩ | exact ⟨Nat.succ_ne_zero _, rfl⟩ | omega) | refine o_alloc (d := 24) rfl TtOk rfl rfl rfl (fun b24 => ?_) | refine o_store TtOk rfl rfl rfl rfl rfl rfl rfl ⟨rfl, rfl⟩ rfl rfl rfl rfl rfl ?_ | (refine o_index rfl TtOk rfl rfl rfl rfl rfl rfl ?_ (getq_nat ?_) ?_; omega; omega) | refine o_eqArr8 TtOk rfl rfl rfl rfl rfl rfl (by kernel_rfl) ?_ | (refine a_condP rfl (fun hc => ?_) (fun hc => ?_)) <;> (try (exfalso; omega)))
            all_goals exact ⟨(j + 1, (B.take i)[j] == B[i]), [], ⟨hjl, hag⟩, by show (B.take i).length - (j + 1) < (B.take i).length - j; omega, rfl, ⟨sle_i hj1, sle_i rfl, sle_sl rfl, sle_b rfl, sle_ptr, sle_i rfl, sle_i rfl, sle_sl rfl, sle_own, sle_own, sle_sl rfl, sle_sl rfl, True.intro⟩, HLe.cons 21 rfl (HOLe.refl _) (HLe.cons 71 rfl (HOLe.refl _) (HLe.cons 87 rfl (HOLe.refl _) .nil))⟩
          · repeat' (first | refine Awp.seq ?_ | refine Awp.block ?_ | refine Awp.region ?_ | (refine Ops.nil ?_; show Awp _ _ _ _ _) | (refine Ops.nil ?_; show Exists _) | (refine Awp.skip ?_; show Awp _ _ _ _ _) | refine o_noF rfl rfl rfl ?_ | (refine o_add rfl rfl rfl rfl ?_ ?_; omega) | (refine o_calm rfl TtOk rfl rfl rfl ?_ (fun _ => ?_); first | exact True.intro | exact ⟨rfl, rfl, rfl, rfl⟩ | exact ⟨rfl, True.intro⟩ | exact ⟨rfl, rfl⟩ | exact ⟨rfl, rfl, rfl⟩ | exact rfl | exact ⟨fun h0 => by cases h0, rfl⟩ | exact (fun h0 => by cases h0) | exact ⟨rfl, by omega⟩ | exact ⟨Nat.succ_ne_zero _, rfl⟩ | omega) | refine o_alloc (d := 24) rfl TtOk rfl rfl rfl (fun b24 => ?_) | refine o_store TtOk rfl rfl rfl rfl rfl rfl rfl ⟨rfl, rfl⟩ rfl rfl rfl rfl rfl ?_ | (refine o_index rfl TtOk rfl rfl rfl rfl rfl rfl ?_ (getq_nat ?_) ?_; omega; omega) | (refine a_condP rfl (fun hc => ?_) (fun hc => ?_)) <;> (try (exfalso; omega)))
            all_goals exact ⟨(j + 1, true), [], ⟨hjl, hag⟩, by show (B.take i).length - (j + 1) < (B.take i).length - j; omega, rfl, ⟨sle_i hj1, sle_i rfl, sle_sl rfl, sle_b rfl, sle_ptr, sle_i rfl, sle_i rfl, sle_sl rfl, sle_own, sle_own, sle_sl rfl, sle_sl rfl, True.intro⟩, HLe.cons 21 rfl (HOLe.refl _) (HLe.cons 71 rfl (HOLe.refl _) (HLe.cons 87 rfl (HOLe.refl _) .nil))⟩
        · have hje : j = (B.take i).length := by omega
          rw [hje, List.drop_length] at hag
          have hag : (ag || false) = R := hag
          rw [Bool.or_false] at hag
          subst hag
          clear hje hj
          cases ag
          · rw [if_pos rfl] at g1
            repeat' (first | refine Awp.seq ?_ | refine Awp.region ?_ | (refine Ops.nil ?_; show Awp _ _ _ _ _) | (refine Ops.nil ?_; show Exists _) | (refine Awp.exit ?_; show Awp _ _ _ _ _) | (refine o_add rfl rfl rfl rfl ?_ ?_; omega) | (refine o_calm rfl TtOk rfl rfl rfl ?_ (fun _ => ?_); first | exact True.intro | exact ⟨rfl, rfl, rfl, rfl⟩ | exact ⟨rfl, True.intro⟩ | exact ⟨rfl, rfl⟩ | exact ⟨rfl, rfl, rfl⟩ | exact rfl | exact ⟨fun h0 => by cases h0, rfl⟩ | exact (fun h0 => by cases h0) | exact ⟨rfl, by omega⟩ | exact ⟨Nat.succ_ne_zero _, rfl⟩ | omega) | refine o_buildSlice TtOk rfl rfl rfl rfl rfl rfl rfl rfl rfl rfl rfl (by repeat' (first | exact True.intro | exact rfl | refine ⟨?_, ?_⟩)) (fun _ => ?_) | (refine o_append TtOk rfl rfl rfl rfl rfl rfl rfl rfl rfl (by first | exact True.intro | exact rfl) rfl rfl (fun _ => rfl) ?_ ?_ (fun _ => ?_); ((repeat' (first | rw [List.length_append] | rw [List.length_map] | rw [List.length_cons] | rw [List.length_nil] | rw [List.length_take] | rw [List.length_drop])) <;> omega); ((repeat' (first | rw [List.length_append] | rw [List.length_map] | rw [List.length_cons] | rw [List.length_nil] | rw [List.length_take] | rw [List.length_drop])) <;> omega)) | refine a_condT rfl ?_ | (refine a_condP rfl (fun hc => ?_) (fun hc => ?_)) <;> (try (exfalso; omega)))
            all_goals exact ⟨(i + 1, _, _), [], hlt, by show fr.length - (i + 1) < fr.length - i; omega, rfl, ⟨sle_i hi1, sle_i rfl, sle_sl rfl, sle_own, sle_own, sle_sl rfl, sle_sl rfl, True.intro⟩, HLe.cons 71 rfl (HOLe.row (by rw [g1, ← List.append_assoc, List.map_append (l₂ := [_])]; rfl)) (HLe.cons 87 rfl (HOLe.row (by rw [g1, List.map_append]; rfl)) .nil)⟩
          · rw [if_neg (by decide), List.append_nil] at g1
            repeat' (first | refine Awp.seq ?_ | refine Awp.region ?_ | (refine Ops.nil ?_; show Awp _ _ _ _ _) | (refine Ops.nil ?_; show Exists _) | (refine Awp.skip ?_; show Awp _ _ _ _ _) | (refine Awp.exit ?_; show Awp _ _ _ _ _) | (refine o_add rfl rfl rfl rfl ?_ ?_; omega) | (refine o_calm rfl TtOk rfl rfl rfl ?_ (fun _ => ?_); first | exact True.intro | exact ⟨rfl, rfl, rfl, rfl⟩ | exact ⟨rfl, True.intro⟩ | exact ⟨rfl, rfl⟩ | exact ⟨rfl, rfl, rfl⟩ | exact rfl | exact ⟨fun h0 => by cases h0, rfl⟩ | exact (fun h0 => by cases h0) | exact ⟨rfl, by omega⟩ | exact ⟨Nat.succ_ne_zero _, rfl⟩ | omega) | refine a_condF rfl ?_ | (refine a_condP rfl (fun hc => ?_) (fun hc => ?_)) <;> (try (exfalso; omega)))
            all_goals exact ⟨(i + 1, v, w), [], hlt, by show fr.length - (i + 1) < fr.length - i; omega, rfl, ⟨sle_i hi1, sle_i rfl, sle_sl rfl, sle_own, sle_own, sle_sl rfl, sle_sl rfl, True.intro⟩, HLe.cons 71 rfl (HOLe.row (by rw [g1])) (HLe.cons 87 rfl (HOLe.row (by rw [g1])) .nil)⟩
      · rw [freO_no _ hin, List.append_nil] at g1
        repeat' (first | refine Awp.seq ?_ | refine Awp.block ?_ | refine Awp.region ?_ | (refine Ops.nil ?_; show Awp _ _ _ _ _) | (refine Ops.nil ?_; show Exists _) | (refine Awp.skip ?_; show Awp _ _ _ _ _) | refine o_noT rfl rfl rfl ?_ | (refine o_add rfl rfl rfl rfl ?_ ?_; omega) | refine o_len rfl TtOk rfl rfl rfl (fun _ => ?_) | (refine o_calm rfl TtOk rfl rfl rfl ?_ (fun _ => ?_); first | exact True.intro | exact ⟨rfl, rfl, rfl, rfl⟩ | exact ⟨rfl, True.intro⟩ | exact ⟨rfl, rfl⟩ | exact ⟨rfl, rfl, rfl⟩ | exact rfl | exact ⟨fun h0 => by cases h0, rfl⟩ | exact (fun h0 => by cases h0) | exact ⟨rfl, by omega⟩ | exact ⟨Nat.succ_ne_zero _, rfl⟩ | omega) | refine o_alloc (d := 21) rfl TtOk rfl rfl rfl (fun b21 => ?_) | refine o_store TtOk rfl rfl rfl rfl rfl rfl rfl ⟨rfl, rfl⟩ rfl rfl rfl rfl rfl ?_ | (refine o_index rfl TtOk rfl rfl rfl rfl rfl rfl ?_ (getq_nat ?_) ?_; omega; omega) | (fail_if_success (refine o_isLit rfl (by first | exact .inl rfl | exact .inr rfl) ?_)); (refine o_splitP rfl rfl (fun hc => ?_) (fun hc => ?_) <;> try (exfalso; omega)) | refine a_condF rfl ?_ | (refine a_condP rfl (fun hc => ?_) (fun hc => ?_)) <;> (try (exfalso; omega)))
        all_goals exact ⟨(i + 1, v, w), [], hlt, by show fr.length - (i + 1) < fr.length - i; omega, rfl, ⟨sle_i hi1, sle_i rfl, sle_sl rfl, sle_own, sle_own, sle_sl rfl, sle_sl rfl, True.intro⟩, HLe.cons 71 rfl (HOLe.row (by rw [g1])) (HLe.cons 87 rfl (HOLe.row (by rw [g1])) .nil)⟩
    · have hie : i = fr.length := by omega
      subst hie
      repeat' (first | (rw [huu]) | (refine o_freezeR (xs := (P ++ J2).map Itm.A) 164 169 (by rw [List.map_append]; rfl) rfl rfl ?_) | (refine o_freezeR 87 17 rfl rfl rfl ?_) | (refine o_freezeR 71 14 rfl rfl rfl ?_) | refine Awp.seq ?_ | refine Awp.region ?_ | (refine Ops.nil ?_; show Awp _ _ _ _ _) | (refine Awp.exit ?_; show Awp _ _ _ _ _) | (refine Awp.ret ?_; show endK _ _ _ _ _) | (refine o_calm rfl TtOk rfl rfl rfl ?_ (fun _ => ?_); first | exact True.intro | exact ⟨rfl, rfl, rfl, rfl⟩ | exact ⟨rfl, True.intro⟩ | exact ⟨rfl, rfl⟩ | exact ⟨rfl, rfl, rfl⟩ | exact rfl | exact ⟨fun h0 => by cases h0, rfl⟩ | exact (fun h0 => by cases h0) | exact ⟨rfl, by omega⟩ | exact ⟨Nat.succ_ne_zero _, rfl⟩ | omega) | refine o_alloc (d := 25) rfl TtOk rfl rfl rfl (fun b25 => ?_) | refine o_alloc (d := 27) rfl TtOk rfl rfl rfl (fun b27 => ?_) | refine o_store TtOk rfl rfl rfl rfl rfl rfl rfl ⟨rfl, rfl⟩ rfl rfl rfl rfl rfl ?_ | refine o_buildSlice TtOk rfl rfl rfl rfl rfl rfl rfl rfl rfl rfl rfl (by repeat' (first | exact True.intro | exact rfl | refine ⟨?_, ?_⟩)) (fun _ => ?_) | (refine o_append TtOk rfl rfl rfl rfl rfl rfl rfl rfl rfl (by first | exact True.intro | exact rfl) rfl rfl (fun _ => rfl) ?_ ?_ (fun _ => ?_); ((repeat' (first | rw [List.length_append] | rw [List.length_map] | rw [List.length_cons] | rw [List.length_nil] | rw [List.length_take] | rw [List.length_drop])) <;> omega); ((repeat' (first | rw [List.length_append] | rw [List.length_map] | rw [List.length_cons] | rw [List.length_nil] | rw [List.length_take] | rw [List.length_drop])) <;> omega)) | refine o_eqArr8 TtOk rfl rfl rfl rfl rfl rfl (by kernel_rfl) ?_ | (refine a_condP rfl (fun hc => ?_) (fun hc => ?_)) <;> (try (exfalso; omega)) | (refine o_call0 rfl (h14) True.intro rfl ?_; rintro _ _ ⟨rfl, rfl⟩; refine ⟨rfl, ?_⟩) | (refine o_call0 rfl (h9) ⟨SLe.of_eq rfl, True.intro⟩ rfl ?_; rintro _ _ ⟨rfl, rfl⟩; refine ⟨rfl, ?_⟩) | (refine o_call0 rfl (h10) ⟨SLe.of_eq rfl, True.intro⟩ rfl ?_; rintro _ _ ⟨rfl, rfl⟩; refine ⟨rfl, ?_⟩) | (refine o_call0 rfl (h11) ⟨SLe.of_eq rfl, True.intro⟩ rfl ?_; rintro _ _ ⟨rfl, rfl⟩; refine ⟨rfl, ?_⟩) | (refine o_call0 rfl (h12) ⟨SLe.of_eq rfl, True.intro⟩ rfl ?_; rintro _ _ ⟨rfl, rfl⟩; refine ⟨rfl, ?_⟩) | (refine o_call0 rfl (h13) ⟨SLe.of_eq rfl, True.intro⟩ rfl ?_; rintro _ _ ⟨rfl, rfl⟩; refine ⟨rfl, ?_⟩))
      all_goals exact end_tmp rfl rfl rfl [] [] (CLe.of_eq rfl) .nil ⟨rfl, rfl⟩ _ (.inl rfl)
  · generalize chkI (itmsL L) = c at *
    repeat' (first | (refine o_freezeR 30 0 rfl rfl rfl ?_) | refine Awp.seq ?_ | refine Awp.region ?_ | (refine Ops.nil ?_; show Awp _ _ _ _ _) | (refine Awp.ret ?_; show endK _ _ _ _ _) | (refine o_calm rfl TtOk rfl rfl rfl ?_ (fun _ => ?_); first | exact True.intro | exact ⟨rfl, rfl, rfl, rfl⟩ | exact ⟨rfl, True.intro⟩ | exact ⟨rfl, rfl⟩ | exact ⟨rfl, rfl, rfl⟩ | exact rfl | exact ⟨fun h0 => by cases h0, rfl⟩ | exact (fun h0 => by cases h0) | exact ⟨rfl, by omega⟩ | exact ⟨Nat.succ_ne_zero _, rfl⟩ | omega) | (refine a_condN rfl (fun hc => ?_) (fun hc => ?_)) <;> (try (exfalso; omega)) | (refine o_callR rfl h1 ⟨SLe.of_eq rfl, SLe.of_eq rfl, True.intro⟩ rfl (fun vR => ?_)) | (refine o_call0 rfl (h2) ⟨SLe.of_eq rfl, True.intro⟩ rfl ?_; rintro _ _ ⟨rfl, rfl⟩; refine ⟨rfl, ?_⟩) | (refine o_call0 rfl (h3) ⟨SLe.of_eq rfl, SLe.of_eq rfl, True.intro⟩ rfl ?_; rintro _ _ ⟨rfl, rfl⟩; refine ⟨rfl, ?_⟩) | (refine o_call0 rfl (h14) True.intro rfl ?_; rintro _ _ ⟨rfl, rfl⟩; refine ⟨rfl, ?_⟩))
    all_goals exact end_tmp rfl rfl rfl [] [] (CLe.of_eq rfl) .nil ⟨rfl, rfl⟩ _ (.inl rfl)
end Go.Proofs.Ytpjfhllkckdejaa
