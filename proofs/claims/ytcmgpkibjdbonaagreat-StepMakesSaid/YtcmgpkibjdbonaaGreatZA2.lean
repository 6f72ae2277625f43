/- ref19.Make is step.Make: by rules. -/
import Derived.Test.YtcmgpkibjdbonaaGreatPF4Z
import Derived.Test.YtcmgpkibjdbonaaGreatR9Z
import Derived.Test.YtcmgpkibjdbonaaGreatPR1Z
set_option maxHeartbeats 16000000
set_option maxRecDepth 100000
namespace Go.Proofs.YtcmgpkibjdbonaaGreat
open Go Go.RowKit
theorem sub_fld4 {kk : IntKind} {a : Int} {k j : Nat} {xs : List AV} {y u v : AV} (h : xs[j]? = some y) : subAt [1, j] (.agg [.i kk a, .arr 1 k xs, u, v]) = some (1 + j, y) := by
  simp [subAt, h]
  rfl
theorem and1u (x : Nat) (h : x < 256) : bitsI .and .u8 (x : Int) 1 = ((x % 2 : Nat) : Int) := by
  have : ∀ x : Fin 256, bitsI .and .u8 ((x.val : Nat) : Int) 1 = ((x.val % 2 : Nat) : Int) := by decide +kernel
  exact this ⟨x, h⟩
def stp0R : AV := .agg [.nil, .nil, .nil]
theorem all_has {L : List Lef} {gone : List (List UInt8)} {fresh : List Lef} (hok : ∀ x ∈ L, x.ok) (hls : ∀ x ∈ lbs gone fresh, x.length = 32) (hc : mkE L = 0) {g : List UInt8} (hg : g ∈ gone) : hasLf L g = (cvT L (lbs gone fresh)).any (fun x => x.l == g) := by
  rw [cvT_eq hok hls hc]
  unfold hasLf
  rw [Bool.eq_iff_iff, List.any_eq_true, List.any_eq_true]
  constructor
  · rintro ⟨x, hx, hq⟩
    have he : x.l = g := by simpa using hq
    exact ⟨x, List.mem_filter.2 ⟨srtL_mem.2 hx, List.contains_iff_mem.2 (by rw [he]; exact List.mem_append.2 (.inl hg))⟩, hq⟩
  · rintro ⟨x, hx, hq⟩
    exact ⟨x, srtL_mem.1 (List.mem_filter.1 hx).1, hq⟩
theorem fnd_self {L : List Lef} (hd : L.Pairwise (fun a b => a.l ≠ b.l)) {x : Lef} (hx : x ∈ L) : fndL L x.l = x := by
  have hh : hasLf L x.l = true := List.any_eq_true.2 ⟨x, hx, beq_self_eq_true _⟩
  obtain ⟨a, b⟩ := fndL_in hh
  exact one_of hd a hx b
theorem mkSm_ok {L : List Lef} {cI : List Itm} {cT fresh : List Lef} (h : ∀ x ∈ cI, x.ok) (hok : ∀ x ∈ L, x.ok) : ∀ x ∈ mkSm L cI cT fresh, x.ok := fun x hx => by
  unfold mkSm at hx
  split at hx
  · split at hx
    · cases hx
    · exact hlf_ok hok x hx
  · exact h x hx
theorem mkNw_sub {L : List Lef} {cI : List Itm} {cT fresh : List Lef} {x : Lef} (hx : x ∈ mkNw L cI cT fresh) : x ∈ fresh ∨ x ∈ L := by
  unfold mkNw at hx
  split at hx
  · split at hx
    · rename_i h1
      rcases List.mem_append.1 hx with hx | hx
      · exact .inl hx
      · obtain ⟨y, rfl⟩ := List.length_eq_one_iff.1 h1
        exact .inr hx
    · exact .inl hx
  · exact .inl hx
theorem mkNw_len {L : List Lef} {cI : List Itm} {cT fresh : List Lef} (h : fresh.length ≤ 1000) : (mkNw L cI cT fresh).length ≤ 1001 := by
  unfold mkNw
  split
  · split
    · rw [List.length_append]; show fresh.length + 1 ≤ 1001; omega
    · omega
  · omega
theorem mkSm_len {L : List Lef} {cI : List Itm} {cT fresh : List Lef} (h : cI.length ≤ L.length) (hl : L.length ≤ 1000) : (mkSm L cI cT fresh).length ≤ 2000 := by
  unfold mkSm
  split
  · split
    · exact Nat.zero_le _
    · have := hlf_len L; omega
  · omega
theorem rmake19_spec (L : List Lef) (gone : List (List UInt8)) (fresh : List Lef) (hl : L.length ≤ 1000) (hgl : gone.length ≤ 1000) (hfl : fresh.length ≤ 1000) (hok : ∀ x ∈ L, x.ok) (hgo : ∀ x ∈ gone, x.length = 32) (hfo : ∀ x ∈ fresh, x.ok) : Spec Tryz.prog 11 [.sl 65 (L.map Lef.A), .sl 32 (gone.map labA), .sl 65 (fresh.map Lef.A)] [] (fun v os => v = .tup [(smk L gone fresh).1.R, .i .i64 (smk L gone fresh).2] ∧ os = []) := by
  obtain ⟨W, hW⟩ : ∃ W, smk L gone fresh = W := ⟨_, rfl⟩
  rw [hW]
  unfold smk at hW
  have k1 := rof_spec L (by omega) hok
  have k2 := rcheckI_spec (itmsL L) (by rw [itmsL_len]; omega) (itmsL_ok hok)
  have hE : cvE L = chkI (itmsL L) := by unfold cvE; rw [itms_srt]
  rw [hE] at hW
  refine spec_of TtOk [] Tryz.func11 rfl Tryz.ntmps11 (by kernel_rfl) rfl rfl (fun C => ?_) rfl
  by_cases hb : 500 < gone.length ∨ 500 < fresh.length
  · rw [if_pos hb] at hW
    subst hW
    repeat' (first | refine Awp.seq ?_ | refine Awp.region ?_ | (refine Ops.nil ?_; show Awp _ _ _ _ _) | (refine Awp.ret ?_; show endK _ _ _ _ _) | refine o_noF rfl rfl rfl ?_ | refine o_len rfl TtOk rfl rfl rfl (fun _ => ?_) | (refine o_calm rfl TtOk rfl rfl rfl ?_ (fun _ => ?_); exact nd) | refine o_alloc (d := 6) rfl TtOk rfl rfl rfl (fun b6 => ?_) | refine o_store TtOk rfl rfl rfl rfl rfl rfl rfl ⟨rfl, rfl⟩ rfl rfl rfl rfl rfl ?_ | refine o_build TtOk rfl rfl rfl rfl rfl rfl (by repeat' (first | exact True.intro | exact rfl | refine ⟨?_, ?_⟩)) ?_ | (fail_if_success (refine o_isLit rfl (by first | exact .inl rfl | exact .inr rfl) ?_)); (refine o_splitP rfl rfl (fun hc => ?_) (fun hc => ?_) <;> try (exfalso; omega)) | refine a_condT rfl ?_ | (refine a_condP rfl (fun hc => ?_) (fun hc => ?_)) <;> (try (exfalso; omega)))
    all_goals
      refine end_all [] [] (.tup [stp0.R, .i .i64 2]) rfl ?_ ?_ (rle_tup2 (CLe.agg (.cons CLe.nilsl (.cons CLe.nilsl (.cons CLe.nilsl .nil)))) (CLe.of_eq rfl) rfl rfl) .nil ⟨rfl, rfl⟩ _ (.inl rfl)
      · repeat' (first | exact True.intro | exact rfl | refine ⟨?_, ?_⟩)
      · exact ⟨trivial, trivial, trivial⟩
  rw [if_neg hb] at hW
  by_cases hc : chkI (itmsL L) ≠ 0
  · rw [if_pos hc] at hW
    subst hW
    generalize chkI (itmsL L) = c at *
    generalize itmsL L = I at *
    repeat' (first | refine Awp.seq ?_ | refine Awp.region ?_ | (refine Ops.nil ?_; show Awp _ _ _ _ _) | (refine Awp.skip ?_; show Awp _ _ _ _ _) | (refine Awp.ret ?_; show endK _ _ _ _ _) | refine o_len rfl TtOk rfl rfl rfl (fun _ => ?_) | (refine o_calm rfl TtOk rfl rfl rfl ?_ (fun _ => ?_); exact nd) | refine o_alloc (d := 6) rfl TtOk rfl rfl rfl (fun b6 => ?_) | refine o_store TtOk rfl rfl rfl rfl rfl rfl rfl ⟨rfl, rfl⟩ rfl rfl rfl rfl rfl ?_ | refine o_build TtOk rfl rfl rfl rfl rfl rfl (by repeat' (first | exact True.intro | exact rfl | refine ⟨?_, ?_⟩)) ?_ | (fail_if_success (refine o_isLit rfl (by first | exact .inl rfl | exact .inr rfl) ?_)); (refine o_splitP rfl rfl (fun hc => ?_) (fun hc => ?_) <;> try (exfalso; omega)) | (refine a_condP rfl (fun hc => ?_) (fun hc => ?_)) <;> (try (exfalso; omega)) | (refine a_condN rfl (fun hc => ?_) (fun hc => ?_)) <;> (try (exfalso; omega)) | (refine o_call0 rfl (k1) ⟨SLe.of_eq rfl, True.intro⟩ rfl ?_; rintro _ _ ⟨rfl, rfl⟩; refine ⟨rfl, ?_⟩) | (refine o_call0 rfl (k2) ⟨SLe.of_eq rfl, True.intro⟩ rfl ?_; rintro _ _ ⟨rfl, rfl⟩; refine ⟨rfl, ?_⟩))
    all_goals
      refine end_all [] [] (.tup [stp0.R, .i .i64 c]) rfl ?_ ?_ (rle_tup2 (CLe.agg (.cons CLe.nilsl (.cons CLe.nilsl (.cons CLe.nilsl .nil)))) (CLe.of_eq rfl) rfl rfl) .nil ⟨rfl, rfl⟩ _ (.inl rfl)
      · repeat' (first | exact True.intro | exact rfl | refine ⟨?_, ?_⟩)
      · exact ⟨trivial, trivial, trivial⟩
  rw [if_neg hc] at hW
  have hc := Decidable.not_not.1 hc
  have hcm : mkE L = 0 := hc
  rw [hc] at k2
  have hlb : ∀ x ∈ lbs gone fresh, x.length = 32 := fun x hx => by
    rcases List.mem_append.1 hx with hx | hx
    · exact hgo x hx
    · obtain ⟨y, hy, rfl⟩ := List.mem_map.1 hx
      exact (hfo y hy).1
  have hlbl : (lbs gone fresh).length ≤ 2000 := by unfold lbs; rw [List.length_append, List.length_map]; omega
  have hil := itmsL_len L
  have k3 := rcover_spec (lbs gone fresh) (by omega) hlb (itmsL L).length (itmsL L) (Nat.le_refl _) (by omega) (chkI_rise hc).2.1 (itmsL_ok hok) (chkI_rise hc).2.2
  have hcv : covI (itmsL L).length (lbs gone fresh) (itmsL L) = (cvI L (lbs gone fresh), (cvT L (lbs gone fresh)).map leafI) := by
    have hE0 : cvE L = 0 := by rw [hE]; exact hc
    unfold cvI cvT
    rw [if_pos hE0, if_pos hE0, hil, itms_map, covI_open]
  rw [hcv] at k3
  dsimp only at k3
  have hd := itms_ne hcm
  have hTm : ∀ x ∈ cvT L (lbs gone fresh), x ∈ L := fun x hx => by
    rw [cvT_eq hok hlb hcm] at hx
    exact srtL_mem.1 (List.mem_filter.1 hx).1
  have hTo : ∀ x ∈ cvT L (lbs gone fresh), x.ok := fun x hx => hok x (hTm x hx)
  have hfs : ∀ x ∈ cvT L (lbs gone fresh), fndL L x.l = x := fun x hx => fnd_self hd (hTm x hx)
  have hhas := fun g (hg : g ∈ gone) => all_has (fresh := fresh) hok hlb hcm hg
  have hTl := cvT_len L (lbs gone fresh)
  have hIl := cvI_len L (lbs gone fresh)
  have okI : ∀ x ∈ cvI L (lbs gone fresh), x.ok := cvI_ok _ hok
  have hh := fun h2 => hlf_eq hok hcm h2 (by omega)
  have hRs := rsn_srt hok hcm
  have him : itmsL L = (srtL L).map leafI := itms_map L
  have hsl := srtL_len L
  have hls0 : gone ++ fresh.map Lef.l = lbs gone fresh := rfl
  have hE2 : chkI (itmsL L) = 0 := hc
  clear hcv hE hc hlb
  generalize lbs gone fresh = ls at *
  generalize cvI L ls = cI at *
  generalize cvT L ls = cT at *
  repeat' (first | refine Awp.seq ?_ | refine Awp.block ?_ | refine Awp.region ?_ | (refine Ops.nil ?_; show Awp _ _ _ _ _) | (refine Awp.skip ?_; show Awp _ _ _ _ _) | refine o_len rfl TtOk rfl rfl rfl (fun _ => ?_) | (refine o_calm rfl TtOk rfl rfl rfl ?_ (fun _ => ?_); exact nd) | refine o_alloc (d := 6) rfl TtOk rfl rfl rfl (fun b6 => ?_) | refine o_buildSlice (d := 49) TtOk rfl rfl rfl rfl rfl rfl rfl rfl rfl rfl rfl (by repeat' (first | exact True.intro | exact rfl | refine ⟨?_, ?_⟩)) (fun v49 => ?_) | (refine o_append TtOk rfl rfl rfl rfl rfl rfl rfl rfl rfl (by first | exact True.intro | exact rfl) rfl rfl (fun _ => rfl) ?_ ?_ (fun _ => ?_); ((repeat' (first | rw [List.length_append] | rw [List.length_map] | rw [List.length_cons] | rw [List.length_nil] | rw [List.length_take] | rw [List.length_drop])) <;> omega); ((repeat' (first | rw [List.length_append] | rw [List.length_map] | rw [List.length_cons] | rw [List.length_nil] | rw [List.length_take] | rw [List.length_drop])) <;> omega)) | (fail_if_success (refine o_isLit rfl (by first | exact .inl rfl | exact .inr rfl) ?_)); (refine o_splitP rfl rfl (fun hc => ?_) (fun hc => ?_) <;> try (exfalso; omega)) | refine a_condF rfl ?_ | (refine a_condP rfl (fun hc => ?_) (fun hc => ?_)) <;> (try (exfalso; omega)) | (refine o_call0 rfl (k1) ⟨SLe.of_eq rfl, True.intro⟩ rfl ?_; rintro _ _ ⟨rfl, rfl⟩; refine ⟨rfl, ?_⟩) | (refine o_call0 rfl (k2) ⟨SLe.of_eq rfl, True.intro⟩ rfl ?_; rintro _ _ ⟨rfl, rfl⟩; refine ⟨rfl, ?_⟩))
  rename_i vA _ _ _ _
  refine Awp.loop (fun q : Nat × Value => ⟨207, [(54, .i .i64 q.1), (53, .i .i64 fresh.length), (52, .sl 65 (fresh.map Lef.A)), (10, .own 49 q.2), (8, .sl 66 ((itmsL L).map Itm.R)), (6, .ptr 6 b6 [] 0), (0, .sl 65 (L.map Lef.A)), (1, .sl 32 (gone.map labA)), (2, .sl 65 (fresh.map Lef.A))], [(49, .row q.2 44 32 ((gone ++ (fresh.take q.1).map Lef.l).map labA)), (6, .var b6 (.agg [.nil, .nil, .nil]))]⟩) (fun q => q.1 ≤ fresh.length) (fun q => fresh.length - q.1) [] (0, vA) (Nat.zero_le _) ?_ ?_
  · exact ⟨rfl, ⟨sle_i rfl, sle_i rfl, sle_sl rfl, sle_own, sle_sl rfl, sle_ptr, sle_sl rfl, sle_sl rfl, sle_sl rfl, True.intro⟩, HLe.cons 49 rfl (HOLe.row (by rw [List.take_zero, List.map_nil, List.append_nil]; rfl)) (HLe.cons 6 rfl (HOLe.refl _) .nil)⟩
  clear k1 k2
  rintro ⟨i, v⟩ hi
  dsimp only at hi ⊢
  by_cases hlt : i < fresh.length
  · have hi1 : ((i : Int) + 1 = ((i + 1 : Nat) : Int)) := by omega
    have hst : gone ++ (fresh.take (i + 1)).map Lef.l = (gone ++ (fresh.take i).map Lef.l) ++ [fresh[i].l] := by rw [List.take_succ_eq_append_getElem hlt, List.map_append, List.append_assoc]; rfl
    have hln : (gone ++ (fresh.take i).map Lef.l).length ≤ 10000 := by rw [List.length_append, List.length_map, List.length_take]; omega
    generalize gone ++ (fresh.take i).map Lef.l = a at *
    clear k3
    repeat' (first | refine Awp.seq ?_ | refine Awp.block ?_ | refine Awp.region ?_ | (refine Ops.nil ?_; show Awp _ _ _ _ _) | (refine Ops.nil ?_; show Exists _) | (refine Awp.skip ?_; show Awp _ _ _ _ _) | (refine o_add rfl rfl rfl rfl ?_ ?_; omega) | (refine o_calm rfl TtOk rfl rfl rfl ?_ (fun _ => ?_); exact nd) | refine o_alloc (d := 12) rfl TtOk rfl rfl rfl (fun b12 => ?_) | refine o_store TtOk rfl rfl rfl rfl rfl rfl rfl ⟨rfl, rfl⟩ rfl rfl rfl rfl rfl ?_ | (refine o_index rfl TtOk rfl rfl rfl rfl rfl rfl ?_ (getq_nat ?_) ?_; omega; omega) | refine o_buildSlice TtOk rfl rfl rfl rfl rfl rfl rfl rfl rfl rfl rfl (by repeat' (first | exact True.intro | exact rfl | refine ⟨?_, ?_⟩)) (fun _ => ?_) | (refine o_append TtOk rfl rfl rfl rfl rfl rfl rfl rfl rfl (by first | exact True.intro | exact rfl) rfl rfl (fun _ => rfl) ?_ ?_ (fun _ => ?_); ((repeat' (first | rw [List.length_append] | rw [List.length_map] | rw [List.length_cons] | rw [List.length_nil] | rw [List.length_take] | rw [List.length_drop])) <;> omega); ((repeat' (first | rw [List.length_append] | rw [List.length_map] | rw [List.length_cons] | rw [List.length_nil] | rw [List.length_take] | rw [List.length_drop])) <;> omega)) | (refine a_condP rfl (fun hc => ?_) (fun hc => ?_)) <;> (try (exfalso; omega)))
    all_goals exact ⟨(i + 1, _), [], hlt, by show fresh.length - (i + 1) < fresh.length - i; omega, rfl, ⟨sle_i hi1, sle_i rfl, sle_sl rfl, sle_own, sle_sl rfl, sle_ptr, sle_sl rfl, sle_sl rfl, sle_sl rfl, True.intro⟩, HLe.cons 49 rfl (HOLe.row (by rw [hst, List.map_append]; rfl)) (HLe.cons 6 rfl (HOLe.refl _) .nil)⟩
  have hie : i = fresh.length := by omega
  subst hie
  rw [List.take_length, hls0]
  repeat' (first | (refine o_freezeR 49 10 rfl rfl rfl ?_) | refine Awp.seq ?_ | refine Awp.block ?_ | refine Awp.region ?_ | (refine Ops.nil ?_; show Awp _ _ _ _ _) | (refine Awp.exit ?_; show Awp _ _ _ _ _) | refine o_len rfl TtOk rfl rfl rfl (fun _ => ?_) | (refine o_calm rfl TtOk rfl rfl rfl ?_ (fun _ => ?_); exact nd) | refine o_alloc (d := 15) rfl TtOk rfl rfl rfl (fun b15 => ?_) | refine o_store TtOk rfl rfl rfl rfl rfl rfl rfl ⟨rfl, rfl⟩ rfl rfl rfl rfl rfl ?_ | refine o_build TtOk rfl rfl rfl rfl rfl rfl (by repeat' (first | exact True.intro | exact rfl | refine ⟨?_, ?_⟩)) ?_ | refine o_buildSlice (d := 71) TtOk rfl rfl rfl rfl rfl rfl rfl rfl rfl rfl rfl (by repeat' (first | exact True.intro | exact rfl | refine ⟨?_, ?_⟩)) (fun v71 => ?_) | (refine o_append TtOk rfl rfl rfl rfl rfl rfl rfl rfl rfl (by first | exact True.intro | exact rfl) rfl rfl (fun _ => rfl) ?_ ?_ (fun _ => ?_); ((repeat' (first | rw [List.length_append] | rw [List.length_map] | rw [List.length_cons] | rw [List.length_nil] | rw [List.length_take] | rw [List.length_drop])) <;> omega); ((repeat' (first | rw [List.length_append] | rw [List.length_map] | rw [List.length_cons] | rw [List.length_nil] | rw [List.length_take] | rw [List.length_drop])) <;> omega)) | (refine a_condP rfl (fun hc => ?_) (fun hc => ?_)) <;> (try (exfalso; omega)) | (refine o_call0 rfl (k3) ⟨SLe.of_eq rfl, SLe.of_eq rfl, True.intro⟩ rfl ?_; rintro _ _ ⟨rfl, rfl⟩; refine ⟨rfl, ?_⟩))
  rename_i vN _ _ _
  generalize hT : cT.map leafI = T at *
  have hTl2 : T.length = cT.length := by rw [← hT, List.length_map]
  have hTg : ∀ (i : Nat) (h : i < T.length) (h2 : i < cT.length), T[i].l = cT[i].l := fun i h h2 => by subst hT; rw [List.getElem_map]; rfl
  refine Awp.loop (fun q : Nat × Value => ⟨207, [(77, .i .i64 q.1), (76, .i .i64 T.length), (75, .sl 66 (T.map Itm.R)), (15, .ptr 15 b15 [] 0), (13, .sl 66 (cI.map Itm.R)), (8, .sl 66 ((itmsL L).map Itm.R)), (6, .ptr 6 b6 [] 0), (0, .sl 65 (L.map Lef.A)), (1, .sl 32 (gone.map labA)), (2, .sl 65 (fresh.map Lef.A))], [(15, .var b15 (.agg [.sl 66 (cI.map Itm.R), .own 92 q.2, .own 71 vN])), (92, .row q.2 58 65 ((cT.take q.1).map Lef.A)), (71, .row vN 58 65 (fresh.map Lef.A)), (6, .var b6 (.agg [.nil, .nil, .nil]))]⟩) (fun q => q.1 ≤ T.length) (fun q => T.length - q.1) [] (0, .slice none 0 0) (Nat.zero_le _) ?_ ?_
  · exact ⟨rfl, ⟨sle_i rfl, sle_i rfl, sle_sl rfl, sle_ptr, sle_sl rfl, sle_sl rfl, sle_ptr, sle_sl rfl, sle_sl rfl, sle_sl rfl, True.intro⟩, HLe.cons 15 rfl (HOLe.var (CLe.agg (.cons (CLe.refl _) (.cons CLe.nilown (.cons (CLe.refl _) .nil))))) (HLe.none (HLe.cons 71 rfl (HOLe.refl _) (HLe.cons 6 rfl (HOLe.refl _) .nil)))⟩
  clear k3 hi
  rintro ⟨i, v⟩ hi
  dsimp only at hi ⊢
  by_cases hlt : i < T.length
  · have hi1 : ((i : Int) + 1 = ((i + 1 : Nat) : Int)) := by omega
    have hlt2 : i < cT.length := by omega
    have hf := rfind17_spec L T[i].l
    have hst : cT.take (i + 1) = cT.take i ++ [cT[i]] := List.take_succ_eq_append_getElem hlt2
    have hln : (cT.take i).length ≤ 10000 := by rw [List.length_take]; omega
    rw [hTg i hlt hlt2] at hf
    rw [hfs _ (List.getElem_mem hlt2)] at hf
    have hTi : T[i].R = .agg [.i .i64 T[i].n, labA cT[i].l, labA T[i].s, .i .i64 T[i].t] := by rw [← hTg i hlt hlt2]; rfl
    generalize hasLf L cT[i].l = hh1 at *
    repeat' (first | (rw [hTi]) | refine Awp.seq ?_ | refine Awp.block ?_ | refine Awp.region ?_ | (refine Ops.nil ?_; show Awp _ _ _ _ _) | (refine Ops.nil ?_; show Exists _) | (refine Awp.skip ?_; show Awp _ _ _ _ _) | (refine o_add rfl rfl rfl rfl ?_ ?_; omega) | (refine o_calm rfl TtOk rfl rfl rfl ?_ (fun _ => ?_); exact nd) | refine o_alloc (d := 17) rfl TtOk rfl rfl rfl (fun b17 => ?_) | refine o_alloc (d := 18) rfl TtOk rfl rfl rfl (fun b18 => ?_) | refine o_store TtOk rfl rfl rfl rfl rfl rfl rfl ⟨rfl, rfl⟩ rfl rfl rfl rfl rfl ?_ | (refine o_index rfl TtOk rfl rfl rfl rfl rfl rfl ?_ (getq_nat ?_) ?_; omega; omega) | refine o_buildSlice (d := 91) TtOk rfl rfl rfl rfl rfl rfl rfl rfl rfl rfl rfl (by repeat' (first | exact True.intro | exact rfl | refine ⟨?_, ?_⟩)) (fun v91 => ?_) | (refine o_append TtOk rfl rfl rfl rfl rfl rfl rfl rfl rfl (by first | exact True.intro | exact rfl) rfl rfl (fun _ => rfl) ?_ ?_ (fun _ => ?_); ((repeat' (first | rw [List.length_append] | rw [List.length_map] | rw [List.length_cons] | rw [List.length_nil] | rw [List.length_take] | rw [List.length_drop])) <;> omega); ((repeat' (first | rw [List.length_append] | rw [List.length_map] | rw [List.length_cons] | rw [List.length_nil] | rw [List.length_take] | rw [List.length_drop])) <;> omega)) | (refine a_condP rfl (fun hc => ?_) (fun hc => ?_)) <;> (try (exfalso; omega)) | (refine o_call0 rfl (hf) ⟨SLe.of_eq rfl, SLe.of_eq rfl, True.intro⟩ rfl ?_; rintro _ _ ⟨rfl, rfl⟩; refine ⟨rfl, ?_⟩))
    all_goals exact ⟨(i + 1, _), [], hlt, by show T.length - (i + 1) < T.length - i; omega, rfl, ⟨sle_i hi1, sle_i rfl, sle_sl rfl, sle_ptr, sle_sl rfl, sle_sl rfl, sle_ptr, sle_sl rfl, sle_sl rfl, sle_sl rfl, True.intro⟩, HLe.cons 15 rfl (HOLe.refl _) (HLe.cons 92 rfl (HOLe.row (by rw [hst, List.map_append]; rfl)) (HLe.cons 71 rfl (HOLe.refl _) (HLe.cons 6 rfl (HOLe.refl _) .nil)))⟩
  have hie : i = T.length := by omega
  subst hie
  have hTc : cT.take T.length = cT := by rw [hTl2, List.take_length]
  rw [hTc]
  repeat' (first | refine Awp.seq ?_ | refine Awp.block ?_ | refine Awp.region ?_ | (refine Ops.nil ?_; show Awp _ _ _ _ _) | (refine Awp.exit ?_; show Awp _ _ _ _ _) | refine o_len rfl TtOk rfl rfl rfl (fun _ => ?_) | (refine o_calm rfl TtOk rfl rfl rfl ?_ (fun _ => ?_); exact nd) | (refine a_condP rfl (fun hc => ?_) (fun hc => ?_)) <;> (try (exfalso; omega)))
  refine Awp.loop (fun i : Nat => ⟨207, [(97, .i .i64 i), (96, .i .i64 gone.length), (95, .sl 32 (gone.map labA)), (15, .ptr 15 b15 [] 0), (13, .sl 66 (cI.map Itm.R)), (8, .sl 66 ((itmsL L).map Itm.R)), (6, .ptr 6 b6 [] 0), (0, .sl 65 (L.map Lef.A)), (1, .sl 32 (gone.map labA)), (2, .sl 65 (fresh.map Lef.A))], [(15, .var b15 (.agg [.sl 66 (cI.map Itm.R), .sl 65 (cT.map Lef.A), .own 71 vN])), (71, .row vN 58 65 (fresh.map Lef.A)), (6, .var b6 (.agg [.nil, .nil, .nil]))]⟩) (fun i => i ≤ gone.length ∧ ∀ j (h : j < gone.length), j < i → hasLf L gone[j] = true) (fun i => gone.length - i) [92] 0 ⟨Nat.zero_le _, fun _ _ h => absurd h (Nat.not_lt_zero _)⟩ ?_ ?_
  · exact ⟨rfl, ⟨sle_i rfl, sle_i rfl, sle_sl rfl, sle_ptr, sle_sl rfl, sle_sl rfl, sle_ptr, sle_sl rfl, sle_sl rfl, sle_sl rfl, True.intro⟩, HLe.cons 15 rfl (HOLe.var (CLe.agg (.cons (CLe.refl _) (.cons (CLe.fz (.head _)) (.cons (CLe.refl _) .nil))))) (HLe.cons 71 rfl (HOLe.refl _) (HLe.cons 6 rfl (HOLe.refl _) .nil))⟩
  clear hTc hTg hTl2 hi hfs hT
  rintro i ⟨hi, hall⟩
  by_cases hlt : i < gone.length
  · have hi1 : ((i : Int) + 1 = ((i + 1 : Nat) : Int)) := by omega
    have hf := rfind17_spec L gone[i]
    have hAt := hhas _ (List.getElem_mem hlt)
    generalize hq : hasLf L gone[i] = q at *
    generalize fndL L gone[i] = f at *
    cases q with
    | true =>
      repeat' (first | refine Awp.seq ?_ | refine Awp.block ?_ | refine Awp.region ?_ | (refine Ops.nil ?_; show Awp _ _ _ _ _) | (refine Ops.nil ?_; show Exists _) | (refine Awp.skip ?_; show Awp _ _ _ _ _) | (refine o_add rfl rfl rfl rfl ?_ ?_; omega) | (refine o_calm rfl TtOk rfl rfl rfl ?_ (fun _ => ?_); exact nd) | refine o_alloc (d := 21) rfl TtOk rfl rfl rfl (fun b21 => ?_) | refine o_alloc (d := 22) rfl TtOk rfl rfl rfl (fun b22 => ?_) | refine o_store TtOk rfl rfl rfl rfl rfl rfl rfl ⟨rfl, rfl⟩ rfl rfl rfl rfl rfl ?_ | (refine o_index rfl TtOk rfl rfl rfl rfl rfl rfl ?_ (getq_nat ?_) ?_; omega; omega) | refine a_condF rfl ?_ | (refine a_condP rfl (fun hc => ?_) (fun hc => ?_)) <;> (try (exfalso; omega)) | (refine o_call0 rfl (hf) ⟨SLe.of_eq rfl, SLe.of_eq rfl, True.intro⟩ rfl ?_; rintro _ _ ⟨rfl, rfl⟩; refine ⟨rfl, ?_⟩))
      all_goals exact ⟨i + 1, [], ⟨hlt, fun j h hj => by
        rcases Nat.lt_succ_iff_lt_or_eq.1 hj with h2 | rfl
        · exact hall j h h2
        · exact hq⟩, by show gone.length - (i + 1) < gone.length - i; omega, rfl, ⟨sle_i hi1, sle_i rfl, sle_sl rfl, sle_ptr, sle_sl rfl, sle_sl rfl, sle_ptr, sle_sl rfl, sle_sl rfl, sle_sl rfl, True.intro⟩, HLe.cons 15 rfl (HOLe.refl _) (HLe.cons 71 rfl (HOLe.refl _) (HLe.cons 6 rfl (HOLe.refl _) .nil))⟩
    | false =>
      have h7 : gone.all (fun g => cT.any (fun x => x.l == g)) = false := by
        rw [List.all_eq_false]
        exact ⟨gone[i], List.getElem_mem hlt, by rw [← hAt]; decide⟩
      unfold smkF at hW
      rw [if_pos h7] at hW
      subst hW
      repeat' (first | refine Awp.seq ?_ | refine Awp.block ?_ | refine Awp.region ?_ | (refine Ops.nil ?_; show Awp _ _ _ _ _) | (refine Awp.skip ?_; show Awp _ _ _ _ _) | (refine Awp.ret ?_; show endK _ _ _ _ _) | (refine o_calm rfl TtOk rfl rfl rfl ?_ (fun _ => ?_); exact nd) | refine o_alloc (d := 21) rfl TtOk rfl rfl rfl (fun b21 => ?_) | refine o_alloc (d := 22) rfl TtOk rfl rfl rfl (fun b22 => ?_) | refine o_store TtOk rfl rfl rfl rfl rfl rfl rfl ⟨rfl, rfl⟩ rfl rfl rfl rfl rfl ?_ | (refine o_index rfl TtOk rfl rfl rfl rfl rfl rfl ?_ (getq_nat ?_) ?_; omega; omega) | refine o_build TtOk rfl rfl rfl rfl rfl rfl (by repeat' (first | exact True.intro | exact rfl | refine ⟨?_, ?_⟩)) ?_ | refine a_condT rfl ?_ | (refine a_condP rfl (fun hc => ?_) (fun hc => ?_)) <;> (try (exfalso; omega)) | (refine o_call0 rfl (hf) ⟨SLe.of_eq rfl, SLe.of_eq rfl, True.intro⟩ rfl ?_; rintro _ _ ⟨rfl, rfl⟩; refine ⟨rfl, ?_⟩))
      all_goals
        refine end_all [] [] (.tup [stp0.R, .i .i64 7]) rfl ?_ ?_ (rle_tup2 (CLe.agg (.cons CLe.nilsl (.cons CLe.nilsl (.cons CLe.nilsl .nil)))) (CLe.of_eq rfl) rfl rfl) .nil ⟨rfl, rfl⟩ _ (.inl rfl)
        · repeat' (first | exact True.intro | exact rfl | refine ⟨?_, ?_⟩)
        · exact ⟨trivial, trivial, trivial⟩
  have hie : i = gone.length := by omega
  subst hie
  have h7 : gone.all (fun g => cT.any (fun x => x.l == g)) = true := List.all_eq_true.2 (fun g hg => by
    obtain ⟨j, hj, rfl⟩ := List.getElem_of_mem hg
    rw [← hhas _ (List.getElem_mem hj)]
    exact hall j hj hj)
  unfold smkF at hW
  rw [if_neg (by rw [h7]; decide)] at hW
  clear hall hhas h7
  repeat' (first | refine Awp.seq ?_ | refine Awp.block ?_ | refine Awp.region ?_ | (refine Ops.nil ?_; show Awp _ _ _ _ _) | (refine Awp.exit ?_; show Awp _ _ _ _ _) | refine o_len rfl TtOk rfl rfl rfl (fun _ => ?_) | (refine o_calm rfl TtOk rfl rfl rfl ?_ (fun _ => ?_); exact nd) | (refine a_condP rfl (fun hc => ?_) (fun hc => ?_)) <;> (try (exfalso; omega)))
  refine Awp.loop (fun i : Nat => ⟨207, [(114, .i .i64 i), (113, .i .i64 cT.length), (112, .sl 65 (cT.map Lef.A)), (15, .ptr 15 b15 [] 0), (13, .sl 66 (cI.map Itm.R)), (8, .sl 66 ((itmsL L).map Itm.R)), (6, .ptr 6 b6 [] 0), (0, .sl 65 (L.map Lef.A)), (1, .sl 32 (gone.map labA)), (2, .sl 65 (fresh.map Lef.A))], [(15, .var b15 (.agg [.sl 66 (cI.map Itm.R), .sl 65 (cT.map Lef.A), .own 71 vN])), (71, .row vN 58 65 (fresh.map Lef.A)), (6, .var b6 (.agg [.nil, .nil, .nil]))]⟩) (fun i => i ≤ cT.length ∧ ∀ j (h : j < cT.length), j < i → gone.any (fun y => cT[j].l == y) = true) (fun i => cT.length - i) [] 0 ⟨Nat.zero_le _, fun _ _ h => absurd h (Nat.not_lt_zero _)⟩ ?_ ?_
  · exact ⟨rfl, ⟨sle_i rfl, sle_i rfl, sle_sl rfl, sle_ptr, sle_sl rfl, sle_sl rfl, sle_ptr, sle_sl rfl, sle_sl rfl, sle_sl rfl, True.intro⟩, HLe.cons 15 rfl (HOLe.refl _) (HLe.cons 71 rfl (HOLe.refl _) (HLe.cons 6 rfl (HOLe.refl _) .nil))⟩
  rintro i ⟨hi, hall⟩
  by_cases hlt : i < cT.length
  · have hi1 : ((i : Int) + 1 = ((i + 1 : Nat) : Int)) := by omega
    have hf := rin19_spec gone cT[i].l
    generalize hq : gone.any (fun y => cT[i].l == y) = q at hf
    cases q with
    | true =>
      repeat' (first | refine Awp.seq ?_ | refine Awp.block ?_ | refine Awp.region ?_ | (refine Ops.nil ?_; show Awp _ _ _ _ _) | (refine Ops.nil ?_; show Exists _) | (refine Awp.skip ?_; show Awp _ _ _ _ _) | (refine o_add rfl rfl rfl rfl ?_ ?_; omega) | (refine o_calm rfl TtOk rfl rfl rfl ?_ (fun _ => ?_); exact nd) | refine o_alloc (d := 25) rfl TtOk rfl rfl rfl (fun b25 => ?_) | refine o_store TtOk rfl rfl rfl rfl rfl rfl rfl ⟨rfl, rfl⟩ rfl rfl rfl rfl rfl ?_ | (refine o_index rfl TtOk rfl rfl rfl rfl rfl rfl ?_ (getq_nat ?_) ?_; omega; omega) | refine a_condF rfl ?_ | (refine a_condP rfl (fun hc => ?_) (fun hc => ?_)) <;> (try (exfalso; omega)) | (refine o_call0 rfl (hf) ⟨SLe.of_eq rfl, SLe.of_eq rfl, True.intro⟩ rfl ?_; rintro _ _ ⟨rfl, rfl⟩; refine ⟨rfl, ?_⟩))
      all_goals exact ⟨i + 1, [], ⟨hlt, fun j h hj => by
        rcases Nat.lt_succ_iff_lt_or_eq.1 hj with h2 | rfl
        · exact hall j h h2
        · exact hq⟩, by show cT.length - (i + 1) < cT.length - i; omega, rfl, ⟨sle_i hi1, sle_i rfl, sle_sl rfl, sle_ptr, sle_sl rfl, sle_sl rfl, sle_ptr, sle_sl rfl, sle_sl rfl, sle_sl rfl, True.intro⟩, HLe.cons 15 rfl (HOLe.refl _) (HLe.cons 71 rfl (HOLe.refl _) (HLe.cons 6 rfl (HOLe.refl _) .nil))⟩
    | false =>
      have h8 : cT.all (fun x => gone.any (fun y => x.l == y)) = false := by
        rw [List.all_eq_false]
        exact ⟨cT[i], List.getElem_mem hlt, by rw [hq]; decide⟩
      rw [if_pos h8] at hW
      subst hW
      repeat' (first | refine Awp.seq ?_ | refine Awp.block ?_ | refine Awp.region ?_ | (refine Ops.nil ?_; show Awp _ _ _ _ _) | (refine Awp.skip ?_; show Awp _ _ _ _ _) | (refine Awp.ret ?_; show endK _ _ _ _ _) | (refine o_calm rfl TtOk rfl rfl rfl ?_ (fun _ => ?_); exact nd) | refine o_alloc (d := 25) rfl TtOk rfl rfl rfl (fun b25 => ?_) | refine o_store TtOk rfl rfl rfl rfl rfl rfl rfl ⟨rfl, rfl⟩ rfl rfl rfl rfl rfl ?_ | (refine o_index rfl TtOk rfl rfl rfl rfl rfl rfl ?_ (getq_nat ?_) ?_; omega; omega) | refine o_build TtOk rfl rfl rfl rfl rfl rfl (by repeat' (first | exact True.intro | exact rfl | refine ⟨?_, ?_⟩)) ?_ | refine a_condT rfl ?_ | (refine a_condP rfl (fun hc => ?_) (fun hc => ?_)) <;> (try (exfalso; omega)) | (refine o_call0 rfl (hf) ⟨SLe.of_eq rfl, SLe.of_eq rfl, True.intro⟩ rfl ?_; rintro _ _ ⟨rfl, rfl⟩; refine ⟨rfl, ?_⟩))
      all_goals
        refine end_all [] [] (.tup [stp0.R, .i .i64 8]) rfl ?_ ?_ (rle_tup2 (CLe.agg (.cons CLe.nilsl (.cons CLe.nilsl (.cons CLe.nilsl .nil)))) (CLe.of_eq rfl) rfl rfl) .nil ⟨rfl, rfl⟩ _ (.inl rfl)
        · repeat' (first | exact True.intro | exact rfl | refine ⟨?_, ?_⟩)
        · exact ⟨trivial, trivial, trivial⟩
  have hie : i = cT.length := by omega
  subst hie
  have h8 : cT.all (fun x => gone.any (fun y => x.l == y)) = true := List.all_eq_true.2 (fun x hx => by
    obtain ⟨j, hj, rfl⟩ := List.getElem_of_mem hx
    exact hall j hj hj)
  rw [if_neg (by rw [h8]; decide)] at hW
  clear hall h8
  have okS : ∀ x ∈ mkSm L cI cT fresh, x.ok := mkSm_ok okI hok
  have okN : ∀ x ∈ mkNw L cI cT fresh, x.ok := fun x hx => by
    rcases mkNw_sub hx with hx | hx
    · exact hfo x hx
    · exact hok x hx
  have hSl : (mkSm L cI cT fresh).length ≤ 2000 := mkSm_len hIl hl
  have hNl : (mkNw L cI cT fresh).length ≤ 1001 := mkNw_len hfl
  refine Awp.seq ?_
  repeat' (first | refine Awp.region ?_ | (refine Ops.nil ?_; show Awp _ _ _ _ _) | (refine o_calm rfl TtOk rfl rfl rfl ?_ (fun _ => ?_); exact nd))
  refine Awp.seq ?_
  refine a_condP rfl (fun hc => absurd hc (by omega)) (fun hc => ?_)
  refine Awp.exit ?_
  show Awp _ _ _ _ _
  refine Awp.seq ?_
  refine Awp.joinJ (X := Unit) (fun _ => ⟨207, [(15, .ptr 15 b15 [] 0), (6, .ptr 6 b6 [] 0)], [(15, .var b15 (.agg [.sl 66 ((mkSm L cI cT fresh).map Itm.R), .sl 65 ((mkOl L cI cT fresh).map Lef.A), .sl 65 ((mkNw L cI cT fresh).map Lef.A)])), (6, .var b6 (.agg [.nil, .nil, .nil]))]⟩) (fun _ => True) ?_ (fun _ _ => ?_)
  · by_cases hsp : spD cI cT fresh
    case neg =>
      have hsp2 : ¬ (cI.length = 1 ∧ cT.length = 0 ∧ 0 < fresh.length) := hsp
      have e1 : mkSm L cI cT fresh = cI := if_neg hsp
      have e2 : mkOl L cI cT fresh = cT := if_neg hsp
      have e3 : mkNw L cI cT fresh = fresh := if_neg hsp
      rw [e1, e2, e3]
      clear hW okN okS hh e1 e2 e3
      repeat' (first | refine Awp.seq ?_ | refine Awp.region ?_ | (refine Ops.nil ?_; show Awp _ _ _ _ _) | (refine Awp.skip ?_; show Exists _) | refine o_noT rfl rfl rfl ?_ | refine o_len rfl TtOk rfl rfl rfl (fun _ => ?_) | (refine o_calm rfl TtOk rfl rfl rfl ?_ (fun _ => ?_); exact nd) | (fail_if_success (refine o_isLit rfl (by first | exact .inl rfl | exact .inr rfl) ?_)); (refine o_splitP rfl rfl (fun hc => ?_) (fun hc => ?_) <;> try (exfalso; omega)) | refine a_condF rfl ?_ | (refine a_condP rfl (fun hc => ?_) (fun hc => ?_)) <;> (try (exfalso; omega)))
      all_goals exact ⟨(), [71], trivial, rfl, ⟨sle_ptr, sle_ptr, True.intro⟩, HLe.cons 15 rfl (HOLe.var (CLe.agg (.cons (CLe.refl _) (.cons (CLe.refl _) (.cons (CLe.fz (.head _)) .nil))))) (HLe.cons 6 rfl (HOLe.refl _) .nil)⟩
    case pos =>
      obtain ⟨p1, p2, p3⟩ := id hsp
      by_cases hL1 : L.length = 1
      · have e1 : mkSm L cI cT fresh = [] := (if_pos hsp).trans (if_pos hL1)
        have e2 : mkOl L cI cT fresh = L := (if_pos hsp).trans (if_pos hL1)
        have e3 : mkNw L cI cT fresh = fresh ++ [L.headD lef0] := (if_pos hsp).trans (if_pos hL1)
        have hp : 0 < L.length := by omega
        have hh0 : L.headD lef0 = L[0] := by cases L with | nil => cases hL1 | cons x r => rfl
        have hL0 : L = [L[0]] := by
          obtain ⟨y, hy⟩ := List.length_eq_one_iff.1 hL1
          subst hy; rfl
        have hLA : L.map Lef.A = [L[0].A] := by
          conv => lhs; rw [hL0]
          rfl
        rw [e1, e2, e3, hh0]
        clear hW okN okS hh e1 e2 e3 hh0 hL0
        repeat' (first | refine Awp.seq ?_ | refine Awp.region ?_ | (refine Ops.nil ?_; show Awp _ _ _ _ _) | refine o_len rfl TtOk rfl rfl rfl (fun _ => ?_) | (refine o_calm rfl TtOk rfl rfl rfl ?_ (fun _ => ?_); exact nd) | refine o_store TtOk rfl rfl rfl rfl rfl rfl rfl ⟨rfl, rfl⟩ rfl rfl rfl rfl rfl ?_ | (refine o_index rfl TtOk rfl rfl rfl rfl rfl rfl ?_ (getq_nat ?_) ?_; omega; omega) | refine o_build TtOk rfl rfl rfl rfl rfl rfl (by repeat' (first | exact True.intro | exact rfl | refine ⟨?_, ?_⟩)) ?_ | refine o_buildSlice (d := 145) TtOk rfl rfl rfl rfl rfl rfl rfl rfl rfl rfl rfl (by repeat' (first | exact True.intro | exact rfl | refine ⟨?_, ?_⟩)) (fun v145 => ?_) | refine o_buildSlice (d := 151) TtOk rfl rfl rfl rfl rfl rfl rfl rfl rfl rfl rfl (by repeat' (first | exact True.intro | exact rfl | refine ⟨?_, ?_⟩)) (fun v151 => ?_) | (refine o_append TtOk rfl rfl rfl rfl rfl rfl rfl rfl rfl (by first | exact True.intro | exact rfl) rfl rfl (fun _ => rfl) ?_ ?_ (fun _ => ?_); ((repeat' (first | rw [List.length_append] | rw [List.length_map] | rw [List.length_cons] | rw [List.length_nil] | rw [List.length_take] | rw [List.length_drop])) <;> omega); ((repeat' (first | rw [List.length_append] | rw [List.length_map] | rw [List.length_cons] | rw [List.length_nil] | rw [List.length_take] | rw [List.length_drop])) <;> omega)) | (fail_if_success (refine o_isLit rfl (by first | exact .inl rfl | exact .inr rfl) ?_)); (refine o_splitP rfl rfl (fun hc => ?_) (fun hc => ?_) <;> try (exfalso; omega)) | (refine a_condP rfl (fun hc => ?_) (fun hc => ?_)) <;> (try (exfalso; omega)) | (refine Ops.nil ?_; show AnyT _ _ _ _ _ _ _ _ _ _) | refine a_anyT 36 [15, 71] [147, 150] [145, 151] (by kernel_rfl) (by kernel_rfl) (n := 13) (listed := [false, false, false, false, false, false, false, false, false, false, false, false, false].toArray) rfl (by kernel_rfl) ?_ | refine t_path (n := 13) (listed := [false, false, false, false, false, false, false, false, false, false, false, false, false].toArray) [0, 1, 4, 6, 7, 2, 5, 8] 5 [true, true, true, false, true, true, true, true, true, false, false, false, false] (by kernel_rfl) rfl rfl rfl (by kernel_rfl) ?_ | refine t_two (n := 5) (listed := [true, true, true, false, true, true, true, true, true, false, false, false, false].toArray) 3 9 [true, true, true, true, true, true, true, true, true, false, false, false, false] [true, true, true, false, true, true, true, true, true, true, false, false, false] rfl (by kernel_rfl) rfl rfl (by kernel_rfl) (by kernel_rfl) ?_ ?_ | refine t_path (n := 4) (listed := [true, true, true, true, true, true, true, true, true, false, false, false, false].toArray) [9, 10, 11, 12] 0 [true, true, true, true, true, true, true, true, true, true, true, true, true] (by kernel_rfl) rfl rfl rfl (by kernel_rfl) ?_ | refine t_fin (n := 0) (listed := [true, true, true, true, true, true, true, true, true, true, true, true, true].toArray) (by kernel_rfl) ?_ | refine t_two (n := 4) (listed := [true, true, true, false, true, true, true, true, true, true, false, false, false].toArray) 3 10 [true, true, true, true, true, true, true, true, true, true, false, false, false] [true, true, true, false, true, true, true, true, true, true, true, false, false] rfl (by kernel_rfl) rfl rfl (by kernel_rfl) (by kernel_rfl) ?_ ?_ | refine t_path (n := 3) (listed := [true, true, true, true, true, true, true, true, true, true, false, false, false].toArray) [10, 11, 12] 0 [true, true, true, true, true, true, true, true, true, true, true, true, true] (by kernel_rfl) rfl rfl rfl (by kernel_rfl) ?_ | refine t_path (n := 3) (listed := [true, true, true, false, true, true, true, true, true, true, true, false, false].toArray) [3, 11, 12] 0 [true, true, true, true, true, true, true, true, true, true, true, true, true] (by kernel_rfl) rfl rfl rfl (by kernel_rfl) ?_)
        all_goals exact ⟨(), [145, 71], trivial, rfl, ⟨sle_ptr, sle_ptr, True.intro⟩, HLe.cons 15 rfl (HOLe.var (CLe.agg (.cons CLe.nilsl (.cons (by rw [hLA]; exact CLe.fz (.head _)) (.cons (by rw [List.map_append]; exact CLe.fz (.tail _ (.head _))) .nil))))) (HLe.cons 6 rfl (HOLe.refl _) .nil)⟩
      · have hn0 : srtL L ≠ [] := fun e => by
          rw [e] at hsl
          have h0 : L.length = 0 := hsl.symm
          have : cI.length ≤ 0 := by omega
          omega
        have hS2 : 2 ≤ (srtL L).length := by have := List.length_pos_iff.2 hn0; omega
        have hS := hRs.sides hS2
        have e1 : mkSm L cI cT fresh = [parA ((srtL L).map leafI), parB ((srtL L).map leafI)] := by rw [← hh (by omega)]; exact (if_pos hsp).trans (if_neg hL1)
        have e2 : mkOl L cI cT fresh = cT := (if_pos hsp).trans (if_neg hL1)
        have e3 : mkNw L cI cT fresh = fresh := (if_pos hsp).trans (if_neg hL1)
        rw [e1, e2, e3]
        have j0 := rjn_spec (srtL L) hRs hn0 (by omega)
        have s0 := hS.s0
        have sl := hS.sl
        have tk : ((srtL L).take (splI ((srtL L).map leafI))).length = splI ((srtL L).map leafI) := by rw [List.length_take]; omega
        have dr : ((srtL L).drop (splI ((srtL L).map leafI))).length = (srtL L).length - splI ((srtL L).map leafI) := List.length_drop
        have j1 := rjn_spec _ (hRs.take (splI ((srtL L).map leafI))) (fun e => by rw [e] at tk; simp at tk; omega) (by omega)
        have j2 := rjn_spec _ (hRs.drop (splI ((srtL L).map leafI))) (fun e => by rw [e] at dr; simp at dr; omega) (by omega)
        obtain ⟨fp1, fp2⟩ := filt_par hRs hS2
        rw [← fp1, ← hS.jA] at j1
        rw [← fp2, ← hS.jB] at j2
        have hjn : (jnI (srtL L)).n = ((frkI ((srtL L).map leafI) : Nat) : Int) := by rw [hS.jn]; show ((comL _ _ : Nat) : Int) = _; rw [hS.com]
        have hf6 := hS.f256
        have hjR : (jnI (srtL L)).R = .agg [.i .i64 ((frkI ((srtL L).map leafI) : Nat) : Int), labA (jnI (srtL L)).l, labA (jnI (srtL L)).s, .i .i64 (jnI (srtL L)).t] := by rw [← hjn]; rfl
        rw [hjR] at j0
        rw [him]
        have hIo : ∀ x ∈ (srtL L).map leafI, x.ok := hRs.okI
        have hIl : ((srtL L).map leafI).length ≤ 1000 := by rw [List.length_map]; omega
        clear hW okN okS hh e1 e2 e3 hjR hjn fp1 fp2 hS tk dr s0 sl hn0
        generalize jnI (srtL L) = jx at *
        generalize parA ((srtL L).map leafI) = xa at *
        generalize parB ((srtL L).map leafI) = xb at *
        generalize frkI ((srtL L).map leafI) = m at *
        generalize (srtL L).map leafI = I at *
        have hfs := fun (p : Itm → Bool) (i : Nat) (h : i < I.length) => filt_succ p I h
        have hfl : ∀ (p : Itm → Bool) (i : Nat), ((I.take i).filter p).length ≤ I.length := fun p i => Nat.le_trans (List.length_filter_le ..) (by rw [List.length_take]; omega)
        repeat' (first | refine Awp.seq ?_ | refine Awp.block ?_ | refine Awp.region ?_ | (refine Ops.nil ?_; show Awp _ _ _ _ _) | refine o_len rfl TtOk rfl rfl rfl (fun _ => ?_) | (refine o_calm rfl TtOk rfl rfl rfl ?_ (fun _ => ?_); exact nd) | refine o_alloc (d := 26) rfl TtOk rfl rfl rfl (fun b26 => ?_) | refine o_store TtOk rfl rfl rfl rfl rfl rfl rfl ⟨rfl, rfl⟩ rfl rfl rfl rfl rfl ?_ | refine o_buildSlice (d := 156) TtOk rfl rfl rfl rfl rfl rfl rfl rfl rfl rfl rfl (by repeat' (first | exact True.intro | exact rfl | refine ⟨?_, ?_⟩)) (fun v156 => ?_) | refine o_buildSlice (d := 157) TtOk rfl rfl rfl rfl rfl rfl rfl rfl rfl rfl rfl (by repeat' (first | exact True.intro | exact rfl | refine ⟨?_, ?_⟩)) (fun v157 => ?_) | (fail_if_success (refine o_isLit rfl (by first | exact .inl rfl | exact .inr rfl) ?_)); (refine o_splitP rfl rfl (fun hc => ?_) (fun hc => ?_) <;> try (exfalso; omega)) | (refine a_condP rfl (fun hc => ?_) (fun hc => ?_)) <;> (try (exfalso; omega)) | (refine o_call0 rfl (j0) ⟨SLe.of_eq rfl, True.intro⟩ rfl ?_; rintro _ _ ⟨rfl, rfl⟩; refine ⟨rfl, ?_⟩))
        refine Awp.loop (fun q : Nat × Value × Value => ⟨207, [(160, .i .i64 q.1), (159, .i .i64 I.length), (158, .sl 66 (I.map Itm.R)), (27, .own 156 q.2.1), (28, .own 157 q.2.2), (26, .ptr 26 b26 [] 0), (15, .ptr 15 b15 [] 0), (6, .ptr 6 b6 [] 0)], [(156, .row q.2.1 62 66 (((I.take q.1).filter (fun x => bitL x.l m == 0)).map Itm.R)), (157, .row q.2.2 62 66 (((I.take q.1).filter (fun x => !(bitL x.l m == 0))).map Itm.R)), (26, .var b26 (.agg [.i .i64 m, labA jx.l, labA jx.s, .i .i64 jx.t])), (15, .var b15 (.agg [.sl 66 (cI.map Itm.R), .sl 65 (cT.map Lef.A), .own 71 vN])), (71, .row vN 58 65 (fresh.map Lef.A)), (6, .var b6 (.agg [.nil, .nil, .nil]))]⟩) (fun q => q.1 ≤ I.length) (fun q => I.length - q.1) [] (0, v156, v157) (Nat.zero_le _) ?_ ?_
        · exact ⟨rfl, ⟨sle_i rfl, sle_i rfl, sle_sl rfl, sle_own, sle_own, sle_ptr, sle_ptr, sle_ptr, True.intro⟩, HLe.cons 156 rfl (HOLe.refl _) (HLe.cons 157 rfl (HOLe.refl _) (HLe.cons 26 rfl (HOLe.refl _) (HLe.cons 15 rfl (HOLe.refl _) (HLe.cons 71 rfl (HOLe.refl _) (HLe.cons 6 rfl (HOLe.refl _) .nil)))))⟩
        rintro ⟨i, u, v⟩ hi
        dsimp only at hi ⊢
        by_cases hlt : i < I.length
        · have hi1 : ((i : Int) + 1 = ((i + 1 : Nat) : Int)) := by omega
          have g1 := hfs (fun x => bitL x.l m == 0) i hlt
          have g2 := hfs (fun x => !(bitL x.l m == 0)) i hlt
          have g3 := hfl (fun x => bitL x.l m == 0) i
          have g4 := hfl (fun x => !(bitL x.l m == 0)) i
          have hg := lab_get (l := I[i].l) (i := m / 8) (by rw [(hIo _ (List.getElem_mem hlt)).1]; omega)
          have hbz : bitsI .and .u8 (((I[i].l.getD (m / 8) 0).toNat : Int).fdiv (2 ^ (min (7 - (m : Int) % 8).toNat (IntKind.bits .u8)))) 1 = ((bitL I[i].l m : Nat) : Int) := by
            have hx : (I[i].l.getD (m / 8) 0).toNat / 2 ^ (7 - m % 8) < 256 := Nat.lt_of_le_of_lt (Nat.div_le_self _ _) (I[i].l.getD (m / 8) 0).toNat_lt
            rw [show (7 - (m : Int) % 8) = ((7 - m % 8 : Nat) : Int) by omega, shr8 _ _ (by omega), and1u _ hx]
            rfl
          clear hfs hfl
          generalize (I.take i).filter (fun x => bitL x.l m == 0) = A at g1 g3 ⊢
          generalize (I.take i).filter (fun x => !(bitL x.l m == 0)) = B at g2 g4 ⊢
          have hx01 := bitL_or I[i].l m
          generalize I[i].l.getD (m / 8) 0 = c at hg hbz
          generalize bitL I[i].l m = z at hx01 g1 g2 hbz
          repeat' (first | refine Awp.seq ?_ | refine Awp.block ?_ | refine Awp.region ?_ | (refine Ops.nil ?_; show Awp _ _ _ _ _) | (refine Ops.nil ?_; show Exists _) | (refine Awp.skip ?_; show Awp _ _ _ _ _) | (refine o_add rfl rfl rfl rfl ?_ ?_; omega) | (refine o_sub rfl rfl rfl rfl ?_ ?_; omega) | (refine o_quo rfl rfl rfl rfl ?_ ?_ ?_; omega; omega) | (refine o_rem rfl rfl rfl rfl ?_ ?_ ?_; omega; omega) | (refine o_calm rfl TtOk rfl rfl rfl ?_ (fun _ => ?_); exact nd) | refine o_alloc (d := 30) rfl TtOk rfl rfl rfl (fun b30 => ?_) | refine o_store TtOk rfl rfl rfl rfl rfl rfl rfl ⟨rfl, rfl⟩ rfl rfl rfl rfl rfl ?_ | (refine o_index rfl TtOk rfl rfl rfl rfl rfl rfl ?_ (getq_nat ?_) ?_; omega; omega) | refine o_buildSlice TtOk rfl rfl rfl rfl rfl rfl rfl rfl rfl rfl rfl (by repeat' (first | exact True.intro | exact rfl | refine ⟨?_, ?_⟩)) (fun _ => ?_) | (refine o_append TtOk rfl rfl rfl rfl rfl rfl rfl rfl rfl (by first | exact True.intro | exact rfl) rfl rfl (fun _ => rfl) ?_ ?_ (fun _ => ?_); ((repeat' (first | rw [List.length_append] | rw [List.length_map] | rw [List.length_cons] | rw [List.length_nil] | rw [List.length_take] | rw [List.length_drop])) <;> omega); ((repeat' (first | rw [List.length_append] | rw [List.length_map] | rw [List.length_cons] | rw [List.length_nil] | rw [List.length_take] | rw [List.length_drop])) <;> omega)) | (refine a_condP rfl (fun hc => ?_) (fun hc => ?_)) <;> (try (exfalso; omega)) | refine a_any 42 [] [] [] [0, 3, 6, 1, 2, 4, 5, 7, 8, 9, 10, 11, 12] (by kernel_rfl) (by kernel_rfl) (by kernel_rfl) rfl rfl rfl ?_ | (refine o_indexArrP TtOk rfl rfl rfl rfl rfl rfl (m/8) rfl (by omega) ?_) | (refine o_loadAt TtOk rfl rfl rfl rfl (sub_fld4 hg) (by show 1+m/8=0+1+m/8*1; omega) ⟨rfl, rfl⟩ rfl rfl ?_))
          · rw [hbz] at hc
            have hz : z = 0 := by omega
            subst hz
            rw [if_pos (by rfl)] at g1
            rw [if_neg (by decide)] at g2
            exact ⟨(i + 1, _, v), [], hlt, by show I.length - (i + 1) < I.length - i; omega, rfl, ⟨sle_i hi1, sle_i rfl, sle_sl rfl, sle_own, sle_own, sle_ptr, sle_ptr, sle_ptr, True.intro⟩, HLe.cons 156 rfl (HOLe.row (by rw [g1, List.map_append]; rfl)) (HLe.cons 157 rfl (HOLe.row (by rw [g2])) (HLe.cons 26 rfl (HOLe.refl _) (HLe.cons 15 rfl (HOLe.refl _) (HLe.cons 71 rfl (HOLe.refl _) (HLe.cons 6 rfl (HOLe.refl _) .nil)))))⟩
          · rw [hbz] at hc
            have hz : z = 1 := by omega
            subst hz
            rw [if_neg (by decide)] at g1
            rw [if_pos (by rfl)] at g2
            exact ⟨(i + 1, u, _), [], hlt, by show I.length - (i + 1) < I.length - i; omega, rfl, ⟨sle_i hi1, sle_i rfl, sle_sl rfl, sle_own, sle_own, sle_ptr, sle_ptr, sle_ptr, True.intro⟩, HLe.cons 156 rfl (HOLe.row (by rw [g1])) (HLe.cons 157 rfl (HOLe.row (by rw [g2, List.map_append]; rfl)) (HLe.cons 26 rfl (HOLe.refl _) (HLe.cons 15 rfl (HOLe.refl _) (HLe.cons 71 rfl (HOLe.refl _) (HLe.cons 6 rfl (HOLe.refl _) .nil)))))⟩
        · have hie : i = I.length := by omega
          subst hie
          rw [List.take_length]
          generalize I.filter (fun x => bitL x.l m == 0) = A at *
          generalize I.filter (fun x => !(bitL x.l m == 0)) = B at *
          repeat' (first | (refine o_freezeR 157 28 rfl rfl rfl ?_) | (refine o_freezeR 156 27 rfl rfl rfl ?_) | refine Awp.seq ?_ | refine Awp.region ?_ | (refine Ops.nil ?_; show Awp _ _ _ _ _) | (refine Ops.nil ?_; show Exists _) | (refine Awp.exit ?_; show Awp _ _ _ _ _) | (refine o_calm rfl TtOk rfl rfl rfl ?_ (fun _ => ?_); exact nd) | refine o_store TtOk rfl rfl rfl rfl rfl rfl rfl ⟨rfl, rfl⟩ rfl rfl rfl rfl rfl ?_ | refine o_buildSlice TtOk rfl rfl rfl rfl rfl rfl rfl rfl rfl rfl rfl (by repeat' (first | exact True.intro | exact rfl | refine ⟨?_, ?_⟩)) (fun _ => ?_) | (refine a_condP rfl (fun hc => ?_) (fun hc => ?_)) <;> (try (exfalso; omega)) | (refine o_call0 rfl (j1) ⟨SLe.of_eq rfl, True.intro⟩ rfl ?_; rintro _ _ ⟨rfl, rfl⟩; refine ⟨rfl, ?_⟩) | (refine o_call0 rfl (j2) ⟨SLe.of_eq rfl, True.intro⟩ rfl ?_; rintro _ _ ⟨rfl, rfl⟩; refine ⟨rfl, ?_⟩))
          all_goals exact ⟨(), [190, 71], trivial, rfl, ⟨sle_ptr, sle_ptr, True.intro⟩, HLe.cons 15 rfl (HOLe.var (CLe.agg (.cons (CLe.fz (.head _)) (.cons (CLe.refl _) (.cons (CLe.fz (.tail _ (.head _))) .nil))))) (HLe.cons 6 rfl (HOLe.refl _) .nil)⟩
  have k9 := rsorted19_spec (mkNw L cI cT fresh) (by omega) okN
  have okN2 : ∀ x ∈ srtL (mkNw L cI cT fresh), x.ok := fun x hx => okN x (srtL_mem.1 hx)
  have hN2 : (srtL (mkNw L cI cT fresh)).length ≤ 1001 := by rw [srtL_len]; exact hNl
  have k10 := ritems19_spec (mkSm L cI cT fresh) (srtL (mkNw L cI cT fresh)) (by omega) (by omega) okS okN2
  have k11 := rcheckI_spec (topU (mkSm L cI cT fresh) (srtL (mkNw L cI cT fresh))) (by rw [topU_len]; omega) (topU_ok okS okN2)
  unfold smkT at hW
  clear okN2 okN okS hh hRs him
  generalize mkSm L cI cT fresh = SS at *
  generalize mkOl L cI cT fresh = OO at *
  generalize srtL (mkNw L cI cT fresh) = N2 at *
  generalize mkNw L cI cT fresh = NN at *
  by_cases hc3 : chkI (topU SS N2) ≠ 0
  · rw [if_pos hc3] at hW
    subst hW
    generalize chkI (topU SS N2) = e at *
    generalize topU SS N2 = U at *
    repeat' (first | refine Awp.seq ?_ | refine Awp.region ?_ | (refine Ops.nil ?_; show Awp _ _ _ _ _) | (refine Awp.ret ?_; show endK _ _ _ _ _) | (refine o_calm rfl TtOk rfl rfl rfl ?_ (fun _ => ?_); exact nd) | refine o_store TtOk rfl rfl rfl rfl rfl rfl rfl ⟨rfl, rfl⟩ rfl rfl rfl rfl rfl ?_ | refine o_build TtOk rfl rfl rfl rfl rfl rfl (by repeat' (first | exact True.intro | exact rfl | refine ⟨?_, ?_⟩)) ?_ | (refine a_condN rfl (fun hc => ?_) (fun hc => ?_)) <;> (try (exfalso; omega)) | (refine o_call0 rfl (k9) ⟨SLe.of_eq rfl, True.intro⟩ rfl ?_; rintro _ _ ⟨rfl, rfl⟩; refine ⟨rfl, ?_⟩) | (refine o_call0 rfl (k10) ⟨SLe.of_eq rfl, SLe.of_eq rfl, True.intro⟩ rfl ?_; rintro _ _ ⟨rfl, rfl⟩; refine ⟨rfl, ?_⟩) | (refine o_call0 rfl (k11) ⟨SLe.of_eq rfl, True.intro⟩ rfl ?_; rintro _ _ ⟨rfl, rfl⟩; refine ⟨rfl, ?_⟩))
    all_goals
      refine end_all [] [] (.tup [stp0.R, .i .i64 e]) rfl ?_ ?_ (rle_tup2 (CLe.agg (.cons CLe.nilsl (.cons CLe.nilsl (.cons CLe.nilsl .nil)))) (CLe.of_eq rfl) rfl rfl) .nil ⟨rfl, rfl⟩ _ (.inl rfl)
      · repeat' (first | exact True.intro | exact rfl | refine ⟨?_, ?_⟩)
      · exact ⟨trivial, trivial, trivial⟩
  rw [if_neg hc3] at hW
  subst hW
  rw [Decidable.not_not.1 hc3] at k11
  generalize topU SS N2 = U at *
  repeat' (first | refine Awp.seq ?_ | refine Awp.region ?_ | (refine Ops.nil ?_; show Awp _ _ _ _ _) | (refine Awp.skip ?_; show Awp _ _ _ _ _) | (refine Awp.ret ?_; show endK _ _ _ _ _) | (refine o_calm rfl TtOk rfl rfl rfl ?_ (fun _ => ?_); exact nd) | refine o_store TtOk rfl rfl rfl rfl rfl rfl rfl ⟨rfl, rfl⟩ rfl rfl rfl rfl rfl ?_ | refine a_condF rfl ?_ | (refine o_call0 rfl (k9) ⟨SLe.of_eq rfl, True.intro⟩ rfl ?_; rintro _ _ ⟨rfl, rfl⟩; refine ⟨rfl, ?_⟩) | (refine o_call0 rfl (k10) ⟨SLe.of_eq rfl, SLe.of_eq rfl, True.intro⟩ rfl ?_; rintro _ _ ⟨rfl, rfl⟩; refine ⟨rfl, ?_⟩) | (refine o_call0 rfl (k11) ⟨SLe.of_eq rfl, True.intro⟩ rfl ?_; rintro _ _ ⟨rfl, rfl⟩; refine ⟨rfl, ?_⟩))
  all_goals
    refine end_all [] [] (.tup [(⟨SS, OO, N2⟩ : Stp).R, .i .i64 0]) rfl ?_ ?_ (rle_tup2 (CLe.of_eq rfl) (CLe.of_eq rfl) rfl rfl) .nil ⟨rfl, rfl⟩ _ (.inl rfl)
    · repeat' (first | exact True.intro | exact rfl | refine ⟨?_, ?_⟩)
    · exact ⟨trivial, trivial, trivial⟩
end Go.Proofs.YtcmgpkibjdbonaaGreat
