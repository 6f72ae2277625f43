/- law19.awake by rules. -/
import Derived.Test.YtcmgpkibjdbonaaGreatPR1Z
import Derived.Test.YtcmgpkibjdbonaaGreatN3Z
import Derived.Test.YtcmgpkibjdbonaaGreatV31Z
import Derived.Test.YtcmgpkibjdbonaaGreatR6Z
import Derived.Test.YtcmgpkibjdbonaaGreatZA2
set_option maxHeartbeats 16000000
set_option maxRecDepth 100000
namespace Go.Proofs.YtcmgpkibjdbonaaGreat
open Go Go.RowKit
def awB19 : Lef := ⟨labC 128, List.replicate 32 0, 4⟩
def awa19 : List Lef := [lef0]
def awb19 : List Lef := [awB19]
theorem aw19_e : (smk awa19 [] awb19).2 = 0 := by decide +kernel
theorem aw19_s : (smk awa19 [] awb19).1.same.length = 0 := by decide +kernel
theorem aw19_o : (smk awa19 [] awb19).1.old.length = 1 := by decide +kernel
theorem aw19_n : (smk awa19 [] awb19).1.new.length = 2 := by decide +kernel
theorem aw19_4 : insF (smk awa19 [] awb19).1 4 = true := by decide +kernel
theorem aw19_5 : insF (smk awa19 [] awb19).1 5 = false := by decide +kernel
theorem aw19_oka : ∀ x ∈ awa19, x.ok := fun x hx => by rw [List.mem_singleton.1 hx]; exact ⟨rfl, rfl⟩
theorem aw19_okb : ∀ x ∈ awb19, x.ok := fun x hx => by rw [List.mem_singleton.1 hx]; exact ⟨rfl, rfl⟩
theorem awake19_spec : Spec Tryz.prog 13 [] [] (fun v os => v = .b true ∧ os = []) := by
  have k1 := smake_spec awa19 [] awb19 (by decide) (Nat.zero_le _) (by decide) aw19_oka (fun x hx => by cases hx) aw19_okb
  have hl := mk_leads (gone := []) aw19_oka (fun x hx => by cases hx) aw19_okb (by decide) (by decide) aw19_e
  have hokM : ∀ x ∈ awa19 ++ awb19, x.ok := fun x hx => by
    rcases List.mem_append.1 hx with hx | hx
    · exact aw19_oka x hx
    · exact aw19_okb x hx
  have k2 := of_spec awa19 (by decide) aw19_oka
  have k3 := top_spec (itmsL awa19) (by rw [itmsL_len]; decide) (itmsL_ok aw19_oka)
  have k4 := of_spec (awa19 ++ awb19) (by decide) hokM
  have k5 := top_spec (itmsL (awa19 ++ awb19)) (by rw [itmsL_len]; decide) (itmsL_ok hokM)
  obtain ⟨l1, Sm, Ol, Nw, l2, l3⟩ := hl
  have hb := l3.beh
  have ht := l3.taken (by decide) (by decide)
  rw [beh_nil] at hb ht
  rw [hb] at k5
  rw [show chkI (itmsL awa19) = 0 from l1] at k3
  have hs := aw19_s
  have ho := aw19_o
  have hn := aw19_n
  have h4 := aw19_4
  have h5 := aw19_5
  rw [aw19_e] at k1
  rw [l2] at k1 hs ho hn h4 h5
  dsimp only at hs ho hn
  have oks : (⟨Sm, Ol, Nw⟩ : Stp).ok := ⟨l3.okS, fun x hx => aw19_oka x (l3.inO x hx), l3.okN⟩
  have k6 := scheck_spec (topS (itmsL awa19)) (topS (itmsL (awa19 ++ awb19))) ⟨Sm, Ol, Nw⟩ (by show Sm.length ≤ 50000; omega) (by show Ol.length ≤ 50000; omega) (by show Nw.length ≤ 50000; omega) oks (topS_len _ (itmsL_ok aw19_oka)) (topS_len _ (itmsL_ok hokM))
  rw [ht] at k6
  have k7 := sins_spec ⟨Sm, Ol, Nw⟩ 4 (by show Ol.length ≤ 100000; omega) (by show Nw.length ≤ 100000; omega)
  have k8 := sins_spec ⟨Sm, Ol, Nw⟩ 5 (by show Ol.length ≤ 100000; omega) (by show Nw.length ≤ 100000; omega)
  rw [h4] at k7
  rw [h5] at k8
  have hA : (⟨Sm, Ol, Nw⟩ : Stp).A = .agg [.sl 66 (Sm.map Itm.A), .sl 65 (Ol.map Lef.A), .sl 65 (Nw.map Lef.A)] := rfl
  rw [hA] at k1 k6 k7 k8
  clear l1 l2 l3 hb ht h4 h5 oks hA hokM
  generalize topS (itmsL awa19) = t1 at *
  generalize topS (itmsL (awa19 ++ awb19)) = t2 at *
  generalize itmsL awa19 = I1 at *
  generalize itmsL (awa19 ++ awb19) = I2 at *
  have m1 : awa19.map Lef.A = [.agg [labA (List.replicate 32 0), labA (List.replicate 32 0), .i .i64 0]] := rfl
  have m2 : awb19.map Lef.A = [.agg [labA (labC 128), labA (List.replicate 32 0), .i .i64 4]] := rfl
  have m3 : (awa19 ++ awb19).map Lef.A = [.agg [labA (List.replicate 32 0), labA (List.replicate 32 0), .i .i64 0], .agg [labA (labC 128), labA (List.replicate 32 0), .i .i64 4]] := rfl
  rw [m1, m2] at k1
  rw [m1] at k2
  rw [m3] at k4
  refine spec_of TtOk [] Tryz.func13 rfl Tryz.ntmps13 (by kernel_rfl) rfl rfl (fun C => ?_) rfl
  repeat' (first | (refine o_freezeR 30 30 rfl rfl rfl ?_) | (refine o_freezeR 22 22 rfl rfl rfl ?_) | (refine o_freezeR 16 16 rfl rfl rfl ?_) | (refine o_freezeR 14 14 rfl rfl rfl ?_) | refine Awp.seq ?_ | refine Awp.region ?_ | (refine Ops.nil ?_; show Awp _ _ _ _ _) | (refine Awp.ret ?_; show endK _ _ _ _ _) | refine o_len rfl TtOk rfl rfl rfl (fun _ => ?_) | (refine o_calm rfl TtOk rfl rfl rfl ?_ (fun _ => ?_); exact nd) | refine o_alloc (d := 1) rfl TtOk rfl rfl rfl (fun b1 => ?_) | refine o_alloc (d := 2) rfl TtOk rfl rfl rfl (fun b2 => ?_) | refine o_alloc (d := 3) rfl TtOk rfl rfl rfl (fun b3 => ?_) | refine o_alloc (d := 5) rfl TtOk rfl rfl rfl (fun b5 => ?_) | refine o_alloc (d := 7) rfl TtOk rfl rfl rfl (fun b7 => ?_) | refine o_store TtOk rfl rfl rfl rfl rfl rfl rfl ⟨rfl, rfl⟩ rfl rfl rfl rfl rfl ?_ | refine o_build TtOk rfl rfl rfl rfl rfl rfl (by repeat' (first | exact True.intro | exact rfl | refine ⟨?_, ?_⟩)) ?_ | refine o_buildSlice TtOk rfl rfl rfl rfl rfl rfl rfl rfl rfl rfl rfl (by repeat' (first | exact True.intro | exact rfl | refine ⟨?_, ?_⟩)) (fun _ => ?_) | (fail_if_success (refine o_isLit rfl (by first | exact .inl rfl | exact .inr rfl) ?_)); (refine o_splitP rfl rfl (fun hc => ?_) (fun hc => ?_) <;> try (exfalso; omega)) | (refine o_buildArr TtOk rfl ((labC 128).map byA) rfl rfl rfl (by kernel_rfl) rfl rfl ?_) | (refine o_call0 rfl k1 ⟨SLe.of_eq rfl, sle_nilsl, SLe.of_eq rfl, True.intro⟩ rfl ?_; rintro _ _ ⟨rfl, rfl⟩; refine ⟨rfl, ?_⟩) | (refine o_call0 rfl (k2) ⟨SLe.of_eq rfl, True.intro⟩ rfl ?_; rintro _ _ ⟨rfl, rfl⟩; refine ⟨rfl, ?_⟩) | (refine o_call0 rfl (k3) ⟨SLe.of_eq rfl, True.intro⟩ rfl ?_; rintro _ _ ⟨rfl, rfl⟩; refine ⟨rfl, ?_⟩) | (refine o_call0 rfl (k4) ⟨SLe.of_eq rfl, True.intro⟩ rfl ?_; rintro _ _ ⟨rfl, rfl⟩; refine ⟨rfl, ?_⟩) | (refine o_call0 rfl (k5) ⟨SLe.of_eq rfl, True.intro⟩ rfl ?_; rintro _ _ ⟨rfl, rfl⟩; refine ⟨rfl, ?_⟩) | (refine o_call0 rfl (k6) ⟨SLe.of_eq rfl, SLe.of_eq rfl, SLe.of_eq rfl, True.intro⟩ rfl ?_; rintro _ _ ⟨rfl, rfl⟩; refine ⟨rfl, ?_⟩) | (refine o_call0 rfl (k7) ⟨SLe.of_eq rfl, SLe.of_eq rfl, True.intro⟩ rfl ?_; rintro _ _ ⟨rfl, rfl⟩; refine ⟨rfl, ?_⟩) | (refine o_call0 rfl (k8) ⟨SLe.of_eq rfl, SLe.of_eq rfl, True.intro⟩ rfl ?_; rintro _ _ ⟨rfl, rfl⟩; refine ⟨rfl, ?_⟩))
  all_goals exact end_tmp rfl rfl rfl [] [] (CLe.of_eq rfl) .nil ⟨rfl, rfl⟩ _ (.inl rfl)
end Go.Proofs.YtcmgpkibjdbonaaGreat
set_option maxHeartbeats 16000000
set_option maxRecDepth 100000
namespace Go.Proofs.YtcmgpkibjdbonaaGreat
open Go Go.RowKit
theorem few19_spec (l : List (List UInt8)) (hl : l.length ≤ 9223372036854775807) :
    Spec Tryz.prog 9 [.sl 32 (l.map labA)] [] (fun r os => r = .sl 32 ((l.take 40).map labA) ∧ os = []) := by
  refine spec_of TtOk [] Tryz.func9 rfl Tryz.ntmps9 (by kernel_rfl) rfl rfl (fun C => ?_) rfl
  by_cases h : 40 < l.length
  · have hln : (l.take 40).length = 40 := by rw [List.length_take]; omega
    repeat' (first | refine Awp.seq ?_ | refine Awp.region ?_ | (refine Ops.nil ?_; show Awp _ _ _ _ _) | (refine Awp.ret ?_; show endK _ _ _ _ _) | refine o_len rfl TtOk rfl rfl rfl (fun _ => ?_) | (refine o_calm rfl TtOk rfl rfl rfl ?_ (fun _ => ?_); exact nd) | refine o_buildSlice TtOk rfl rfl rfl rfl rfl rfl rfl rfl rfl rfl rfl (by repeat' (first | exact True.intro | exact rfl | refine ⟨?_, ?_⟩)) (fun _ => ?_) | (refine o_append TtOk rfl rfl rfl rfl rfl rfl rfl rfl rfl (by first | exact True.intro | exact rfl) rfl rfl (fun _ => rfl) ?_ ?_ (fun _ => ?_); ((repeat' (first | rw [List.length_append] | rw [List.length_map] | rw [List.length_cons] | rw [List.length_nil] | rw [List.length_take] | rw [List.length_drop])) <;> omega); ((repeat' (first | rw [List.length_append] | rw [List.length_map] | rw [List.length_cons] | rw [List.length_nil] | rw [List.length_take] | rw [List.length_drop])) <;> omega)) | (refine a_condP rfl (fun hc => ?_) (fun hc => ?_)) <;> (try (exfalso; omega)) | (refine o_sliceSl TtOk rfl 0 40 rfl rfl rfl rfl rfl bnd_none (bnd_some rfl rfl) (by omega) (by omega) ?_))
    refine end_tmp rfl rfl rfl [8] [] (CLe.fz ?_) .nil ⟨rfl, rfl⟩ _ (.inl rfl)
    exact .head _
  · rw [List.take_of_length_le (by omega)]
    repeat' (first | refine Awp.seq ?_ | refine Awp.region ?_ | (refine Ops.nil ?_; show Awp _ _ _ _ _) | (refine Awp.skip ?_; show Awp _ _ _ _ _) | (refine Awp.ret ?_; show endK _ _ _ _ _) | refine o_len rfl TtOk rfl rfl rfl (fun _ => ?_) | (refine o_calm rfl TtOk rfl rfl rfl ?_ (fun _ => ?_); exact nd) | refine o_buildSlice TtOk rfl rfl rfl rfl rfl rfl rfl rfl rfl rfl rfl (by repeat' (first | exact True.intro | exact rfl | refine ⟨?_, ?_⟩)) (fun _ => ?_) | (refine o_append TtOk rfl rfl rfl rfl rfl rfl rfl rfl rfl (by first | exact True.intro | exact rfl) rfl rfl (fun _ => rfl) ?_ ?_ (fun _ => ?_); ((repeat' (first | rw [List.length_append] | rw [List.length_map] | rw [List.length_cons] | rw [List.length_nil] | rw [List.length_take] | rw [List.length_drop])) <;> omega); ((repeat' (first | rw [List.length_append] | rw [List.length_map] | rw [List.length_cons] | rw [List.length_nil] | rw [List.length_take] | rw [List.length_drop])) <;> omega)) | (refine a_condP rfl (fun hc => ?_) (fun hc => ?_)) <;> (try (exfalso; omega)))
    refine end_tmp rfl rfl rfl [8] [] (CLe.fz ?_) .nil ⟨rfl, rfl⟩ _ (.inl rfl)
    exact .head _
end Go.Proofs.YtcmgpkibjdbonaaGreat
set_option maxHeartbeats 4000000
namespace Go.Proofs.YtcmgpkibjdbonaaGreat
open Go Go.RowKit
def sumT (T : List Itm) : List UInt8 := if T = [] then shaN [18] else (joinF T.length T).s
def sumR (R : List Lef) : List UInt8 := if R = [] then shaN [18] else (jnI R).s
/-- Parts that are a tree's own ones, as far as they are told. -/
inductive Mir (O : List Lef) : List Itm → List Lef → Prop
  | nil : Mir O [] []
  | un (p : Itm) (R : List Lef) (h : unT [p] O = true) : Mir O [p] R
  | one (x : Lef) (h : hasLf O x.l = true) (h2 : fndL O x.l = x) : Mir O [leafI x] [x]
  | two {T : List Itm} {R : List Lef} (hT : 2 ≤ T.length) (hR : 2 ≤ R.length) (hA : parA T = parA (R.map leafI)) (hB : parB T = parB (R.map leafI)) (h1 : Mir O (T.take (splI T)) (R.take (splI (R.map leafI)))) (h2 : Mir O (T.drop (splI T)) (R.drop (splI (R.map leafI)))) : Mir O T R
/-- Unlike bytes of one sum. -/
def Clh (q : List UInt8 × List UInt8 × Bool) : Prop := q.2.2 = true ∧ q.1 ≠ q.2.1 ∧ shaN q.1 = shaN q.2.1
structure Tgd (T : List Itm) (O : List Lef) : Prop where
  rise : RiseI T
  ok : ∀ x ∈ T, x.ok
  good : ∀ x ∈ T, goodI x = true
  own : ∀ p ∈ T, hasLf O p.l = true → p = leafI (fndL O p.l)
theorem Tgd.take {T : List Itm} {O : List Lef} (h : Tgd T O) (i : Nat) : Tgd (T.take i) O := ⟨h.rise.sublist (List.take_sublist ..), fun x hx => h.ok x (List.mem_of_mem_take hx), fun x hx => h.good x (List.mem_of_mem_take hx), fun x hx => h.own x (List.mem_of_mem_take hx)⟩
theorem Tgd.drop {T : List Itm} {O : List Lef} (h : Tgd T O) (i : Nat) : Tgd (T.drop i) O := ⟨h.rise.sublist (List.drop_sublist ..), fun x hx => h.ok x (List.mem_of_mem_drop hx), fun x hx => h.good x (List.mem_of_mem_drop hx), fun x hx => h.own x (List.mem_of_mem_drop hx)⟩
theorem Tgd.jn {T : List Itm} {O : List Lef} (h : Tgd T O) (hn : T ≠ []) : goodI (joinF T.length T) = true := by
  have h0 := List.length_pos_iff.2 hn
  have hg := (join_B h0 h.rise h.ok (fun x hx => good_n (h.good x hx))).good h.good
  have ht := joinF_t T.length T hn (Nat.le_refl _) h.rise h.ok (fun x hx => good_t (h.good x hx))
  unfold goodI
  rw [show (⟨(joinF T.length T).n, (joinF T.length T).l⟩ : Pfx) = (joinF T.length T).p from rfl, hg, decide_eq_true ht.1, decide_eq_true ht.2]; rfl
theorem Mir.leaf {O : List Lef} {T : List Itm} {R : List Lef} (h : Mir O T R) : ∀ p ∈ T, hasLf O p.l = true → ¬ p.n < 256 → fndL O p.l ∈ R := by
  induction h with
  | nil => intro p hp; cases hp
  | un q R hu =>
    intro p hp h1 h2
    rw [List.mem_singleton.1 hp] at h1 h2
    have hu : (!(hasLf O q.l) || decide (q.n < 256)) = true := hu
    rw [h1, decide_eq_false h2] at hu; cases hu
  | one x _ h2 =>
    intro p hp _ _
    rw [List.mem_singleton.1 hp]
    show fndL O x.l ∈ [x]
    rw [h2]; exact List.mem_cons_self ..
  | @two T R hT hR2 hA hB h1 h2 i1 i2 =>
    intro p hp k1 k2
    rw [← List.take_append_drop (splI T) T] at hp
    rcases List.mem_append.1 hp with hp | hp
    · exact List.mem_of_mem_take (i1 p hp k1 k2)
    · exact List.mem_of_mem_drop (i2 p hp k1 k2)
end Go.Proofs.YtcmgpkibjdbonaaGreat
set_option maxHeartbeats 4000000
namespace Go.Proofs.YtcmgpkibjdbonaaGreat
open Go Go.RowKit
structure BlkC (l : List Lef) (q : Itm × List Lef) : Prop where
  ne : q.2 ≠ []
  rsn : Rsn q.2
  eq : q.1 = jnI q.2
  sub : ∀ y ∈ q.2, y ∈ l
theorem BlkC.join {l : List Lef} {q : Itm × List Lef} (h : BlkC l q) : JoinB q.1 (q.2.map leafI) := by
  rw [h.eq]; exact (h.rsn.join (List.length_pos_iff.2 h.ne)).1
theorem BlkC.up {l l' : List Lef} {q : Itm × List Lef} (h : BlkC l q) (hs : ∀ x ∈ l, x ∈ l') : BlkC l' q := ⟨h.ne, h.rsn, h.eq, fun y hy => hs y (h.sub y hy)⟩
theorem BlkC.deep {l : List Lef} {q : Itm × List Lef} (h : BlkC l q) {n : Nat} (hn : n < 256) (hb : ∀ x ∈ l, ∀ y ∈ l, ∀ i, i ≤ n → bitL x.l i = bitL y.l i) : ((n : Nat) : Int) < q.1.n := by
  rw [h.eq]
  exact (h.rsn.deep (List.length_pos_iff.2 h.ne) hn (fun x hx y hy i hi => hb x (h.sub x hx) y (h.sub y hy) i hi)).1
end Go.Proofs.YtcmgpkibjdbonaaGreat
set_option maxHeartbeats 16000000
set_option maxRecDepth 100000
namespace Go.Proofs.YtcmgpkibjdbonaaGreat
open Go Go.RowKit
def wout (l : List Lef) (g : List UInt8) : List Lef := l.filter (fun y => y.l != g)
def cutS (s : Stp) : Stp := ⟨s.same.take 60, s.old.take 60, s.new.take 60⟩
end Go.Proofs.YtcmgpkibjdbonaaGreat
set_option maxHeartbeats 16000000
set_option maxRecDepth 100000
namespace Go.Proofs.YtcmgpkibjdbonaaGreat
open Go Go.RowKit
theorem told19_spec (s : Stp) (h1 : s.same.length ≤ 3000) (h2 : s.old.length ≤ 100000) (h3 : s.new.length ≤ 100000) : Spec Tryz.prog 15 [s.A] [] (fun v os => v = s.R ∧ os = []) := by
  obtain ⟨same, old, new⟩ := s
  dsimp only at h1 h2 h3
  have k1 := told16_spec same 3000 (by omega) (by decide) h1
  have k2 := leaves16_spec old h2
  have k3 := leaves16_spec new h3
  show Spec Tryz.prog 15 [.agg [.sl 66 (same.map Itm.A), .sl 65 (old.map Lef.A), .sl 65 (new.map Lef.A)]] [] (fun v os => v = .agg [.sl 66 (same.map Itm.R), .sl 65 (old.map Lef.A), .sl 65 (new.map Lef.A)] ∧ os = [])
  refine spec_of TtOk [] Tryz.func15 rfl Tryz.ntmps15 (by kernel_rfl) rfl rfl (fun C => ?_) rfl
  repeat' (first | refine Awp.seq ?_ | refine Awp.region ?_ | (refine Ops.nil ?_; show Awp _ _ _ _ _) | (refine Awp.ret ?_; show endK _ _ _ _ _) | (refine o_calm rfl TtOk rfl rfl rfl ?_ (fun _ => ?_); exact nd) | refine o_alloc (d := 2) rfl TtOk rfl rfl rfl (fun b2 => ?_) | refine o_box (d := 1) rfl rfl rfl rfl (fun b1 => ?_) | refine o_store TtOk rfl rfl rfl rfl rfl rfl rfl ⟨rfl, rfl⟩ rfl rfl rfl rfl rfl ?_ | refine o_build TtOk rfl rfl rfl rfl rfl rfl (by repeat' (first | exact True.intro | exact rfl | refine ⟨?_, ?_⟩)) ?_ | refine a_any 1 [2] [4, 7, 10] [5, 8, 11] [0, 3, 6, 1, 4, 7, 2, 5, 8, 9, 10] (by kernel_rfl) (by kernel_rfl) (by kernel_rfl) rfl rfl rfl ?_ | (refine o_call0 rfl (k1) ⟨SLe.of_eq rfl, SLe.of_eq rfl, True.intro⟩ rfl ?_; rintro _ _ ⟨rfl, rfl⟩; refine ⟨rfl, ?_⟩) | (refine o_call0 rfl (k2) ⟨SLe.of_eq rfl, True.intro⟩ rfl ?_; rintro _ _ ⟨rfl, rfl⟩; refine ⟨rfl, ?_⟩) | (refine o_call0 rfl (k3) ⟨SLe.of_eq rfl, True.intro⟩ rfl ?_; rintro _ _ ⟨rfl, rfl⟩; refine ⟨rfl, ?_⟩))
  all_goals
    refine end_all [] [] (.agg [.sl 66 (same.map Itm.R), .sl 65 (old.map Lef.A), .sl 65 (new.map Lef.A)]) rfl ?_ ?_ (rle_one (CLe.of_eq rfl) rfl) .nil ⟨rfl, rfl⟩ _ (.inl rfl)
    · repeat' (first | exact True.intro | exact rfl | refine ⟨?_, ?_⟩)
    · exact ⟨trivial, trivial⟩
theorem sameI19_spec (l : List Itm) : Spec Tryz.prog 69 [.sl 66 (l.map Itm.R), .sl 66 (l.map Itm.R)] [] (fun v os => v = .b true ∧ os = []) := by
  have qp : ∀ (i : Nat) (h : i < l.length), (!(eqI l[i] l[i])) = false := fun i h => by rw [eqI_self]; rfl
  refine spec_of TtOk [] Tryz.func69 rfl Tryz.ntmps69 (by kernel_rfl) rfl rfl (fun C => ?_) rfl
  repeat' (first | refine Awp.seq ?_ | refine Awp.block ?_ | refine Awp.region ?_ | (refine Ops.nil ?_; show Awp _ _ _ _ _) | (refine Awp.skip ?_; show Awp _ _ _ _ _) | refine o_len rfl TtOk rfl rfl rfl (fun _ => ?_) | (refine o_calm rfl TtOk rfl rfl rfl ?_ (fun _ => ?_); exact nd) | (refine a_condN rfl (fun hc => ?_) (fun hc => ?_)) <;> (try (exfalso; omega)))
  refine Awp.loop (fun i : Nat => ⟨26, [(13, .i .i64 i), (12, .i .i64 l.length), (0, .sl 66 (l.map Itm.R)), (1, .sl 66 (l.map Itm.R))], []⟩) (fun i => i ≤ l.length) (fun i => l.length - i) [] 0 (Nat.zero_le _) ?_ ?_
  · exact ⟨rfl, ⟨sle_i rfl, sle_i rfl, sle_sl rfl, sle_sl rfl, True.intro⟩, .nil⟩
  intro i hi
  by_cases hlt : i < l.length
  · have hi1 : ((i : Int) + 1 = ((i + 1 : Nat) : Int)) := by omega
    have qi := qp i hlt
    repeat' (first | refine Awp.seq ?_ | refine Awp.block ?_ | refine Awp.region ?_ | (refine Ops.nil ?_; show Awp _ _ _ _ _) | (refine Ops.nil ?_; show Exists _) | (refine Awp.skip ?_; show Awp _ _ _ _ _) | (refine o_add rfl rfl rfl rfl ?_ ?_; omega) | (refine o_calm rfl TtOk rfl rfl rfl ?_ (fun _ => ?_); exact nd) | (refine o_index rfl TtOk rfl rfl rfl rfl rfl rfl ?_ (getq_nat ?_) ?_; omega; omega) | refine a_condF rfl ?_ | (refine a_condP rfl (fun hc => ?_) (fun hc => ?_)) <;> (try (exfalso; omega)) | refine a_any 6 [] [] [] [0, 1, 2, 4, 5, 6, 3, 7, 8] (by kernel_rfl) (by kernel_rfl) (by kernel_rfl) rfl rfl rfl ?_ | (refine o_neItm rfl rfl rfl rfl ?_; rw [qi]))
    exact ⟨i + 1, [], hlt, by omega, rfl, ⟨sle_i hi1, sle_i rfl, sle_sl rfl, sle_sl rfl, True.intro⟩, .nil⟩
  · repeat' (first | refine Awp.seq ?_ | refine Awp.region ?_ | (refine Ops.nil ?_; show Awp _ _ _ _ _) | (refine Awp.exit ?_; show Awp _ _ _ _ _) | (refine Awp.ret ?_; show endK _ _ _ _ _) | (refine o_calm rfl TtOk rfl rfl rfl ?_ (fun _ => ?_); exact nd) | (refine a_condP rfl (fun hc => ?_) (fun hc => ?_)) <;> (try (exfalso; omega)))
    exact end_tmp rfl rfl rfl [] [] (CLe.of_eq rfl) .nil ⟨rfl, rfl⟩ _ (.inl rfl)
theorem sameL19_spec (l : List Lef) : Spec Tryz.prog 70 [.sl 65 (l.map Lef.A), .sl 65 (l.map Lef.A)] [] (fun v os => v = .b true ∧ os = []) := by
  have qp : ∀ (i : Nat) (h : i < l.length), (!(eqLf l[i] l[i])) = false := fun i h => by rw [eqLf_self]; rfl
  refine spec_of TtOk [] Tryz.func70 rfl Tryz.ntmps70 (by kernel_rfl) rfl rfl (fun C => ?_) rfl
  repeat' (first | refine Awp.seq ?_ | refine Awp.block ?_ | refine Awp.region ?_ | (refine Ops.nil ?_; show Awp _ _ _ _ _) | (refine Awp.skip ?_; show Awp _ _ _ _ _) | refine o_len rfl TtOk rfl rfl rfl (fun _ => ?_) | (refine o_calm rfl TtOk rfl rfl rfl ?_ (fun _ => ?_); exact nd) | (refine a_condN rfl (fun hc => ?_) (fun hc => ?_)) <;> (try (exfalso; omega)))
  refine Awp.loop (fun i : Nat => ⟨26, [(13, .i .i64 i), (12, .i .i64 l.length), (0, .sl 65 (l.map Lef.A)), (1, .sl 65 (l.map Lef.A))], []⟩) (fun i => i ≤ l.length) (fun i => l.length - i) [] 0 (Nat.zero_le _) ?_ ?_
  · exact ⟨rfl, ⟨sle_i rfl, sle_i rfl, sle_sl rfl, sle_sl rfl, True.intro⟩, .nil⟩
  intro i hi
  by_cases hlt : i < l.length
  · have hi1 : ((i : Int) + 1 = ((i + 1 : Nat) : Int)) := by omega
    have qi := qp i hlt
    repeat' (first | refine Awp.seq ?_ | refine Awp.block ?_ | refine Awp.region ?_ | (refine Ops.nil ?_; show Awp _ _ _ _ _) | (refine Ops.nil ?_; show Exists _) | (refine Awp.skip ?_; show Awp _ _ _ _ _) | (refine o_add rfl rfl rfl rfl ?_ ?_; omega) | (refine o_calm rfl TtOk rfl rfl rfl ?_ (fun _ => ?_); exact nd) | (refine o_index rfl TtOk rfl rfl rfl rfl rfl rfl ?_ (getq_nat ?_) ?_; omega; omega) | refine a_condF rfl ?_ | (refine a_condP rfl (fun hc => ?_) (fun hc => ?_)) <;> (try (exfalso; omega)) | refine a_any 6 [] [] [] [0, 1, 2, 4, 5, 6, 3, 7, 8] (by kernel_rfl) (by kernel_rfl) (by kernel_rfl) rfl rfl rfl ?_ | (refine o_neLefR (p := l[i]) (q := l[i]) rfl rfl rfl rfl ?_; rw [qi]))
    exact ⟨i + 1, [], hlt, by omega, rfl, ⟨sle_i hi1, sle_i rfl, sle_sl rfl, sle_sl rfl, True.intro⟩, .nil⟩
  · repeat' (first | refine Awp.seq ?_ | refine Awp.region ?_ | (refine Ops.nil ?_; show Awp _ _ _ _ _) | (refine Awp.exit ?_; show Awp _ _ _ _ _) | (refine Awp.ret ?_; show endK _ _ _ _ _) | (refine o_calm rfl TtOk rfl rfl rfl ?_ (fun _ => ?_); exact nd) | (refine a_condP rfl (fun hc => ?_) (fun hc => ?_)) <;> (try (exfalso; omega)))
    exact end_tmp rfl rfl rfl [] [] (CLe.of_eq rfl) .nil ⟨rfl, rfl⟩ _ (.inl rfl)
theorem same19_spec (s : Stp) : Spec Tryz.prog 14 [s.R, s.R] [] (fun v os => v = .b true ∧ os = []) := by
  obtain ⟨same, old, new⟩ := s
  have k1 := sameI19_spec same
  have k2 := sameL19_spec old
  have k3 := sameL19_spec new
  show Spec Tryz.prog 14 [.agg [.sl 66 (same.map Itm.R), .sl 65 (old.map Lef.A), .sl 65 (new.map Lef.A)], .agg [.sl 66 (same.map Itm.R), .sl 65 (old.map Lef.A), .sl 65 (new.map Lef.A)]] [] _
  refine spec_of TtOk [] Tryz.func14 rfl Tryz.ntmps14 (by kernel_rfl) rfl rfl (fun C => ?_) rfl
  repeat' (first | refine Awp.seq ?_ | refine Awp.region ?_ | (refine Ops.nil ?_; show Awp _ _ _ _ _) | (refine Awp.ret ?_; show endK _ _ _ _ _) | (refine o_calm rfl TtOk rfl rfl rfl ?_ (fun _ => ?_); exact nd) | refine o_box (d := 2) rfl rfl rfl rfl (fun b2 => ?_) | refine o_box (d := 3) rfl rfl rfl rfl (fun b3 => ?_) | (refine o_call0 rfl (k1) ⟨SLe.of_eq rfl, SLe.of_eq rfl, True.intro⟩ rfl ?_; rintro _ _ ⟨rfl, rfl⟩; refine ⟨rfl, ?_⟩) | (refine o_call0 rfl (k2) ⟨SLe.of_eq rfl, SLe.of_eq rfl, True.intro⟩ rfl ?_; rintro _ _ ⟨rfl, rfl⟩; refine ⟨rfl, ?_⟩) | (refine o_call0 rfl (k3) ⟨SLe.of_eq rfl, SLe.of_eq rfl, True.intro⟩ rfl ?_; rintro _ _ ⟨rfl, rfl⟩; refine ⟨rfl, ?_⟩))
  all_goals exact end_tmp rfl rfl rfl [] [] (CLe.of_eq rfl) .nil ⟨rfl, rfl⟩ _ (.inl rfl)
end Go.Proofs.YtcmgpkibjdbonaaGreat
set_option maxHeartbeats 16000000
set_option maxRecDepth 100000
namespace Go.Proofs.YtcmgpkibjdbonaaGreat
open Go Go.RowKit
theorem smk_len (L : List Lef) (gone : List (List UInt8)) (fresh : List Lef) (hl : L.length ≤ 1000) (hf : fresh.length ≤ 1000) : (smk L gone fresh).1.same.length ≤ 3000 ∧ (smk L gone fresh).1.old.length ≤ 3000 ∧ (smk L gone fresh).1.new.length ≤ 3000 := by
  have z : stp0.same.length ≤ 3000 ∧ stp0.old.length ≤ 3000 ∧ stp0.new.length ≤ 3000 := ⟨Nat.zero_le _, Nat.zero_le _, Nat.zero_le _⟩
  have c1 := cvI_len L (lbs gone fresh)
  have c2 := cvT_len L (lbs gone fresh)
  unfold smk
  split
  · exact z
  split
  · exact z
  generalize cvI L (lbs gone fresh) = cI at *
  generalize cvT L (lbs gone fresh) = cT at *
  unfold smkF
  split
  · exact z
  split
  · exact z
  unfold smkT
  split
  · exact z
  refine ⟨?_, ?_, ?_⟩
  · have := mkSm_len (fresh := fresh) (cT := cT) c1 hl
    show (mkSm L cI cT fresh).length ≤ 3000
    omega
  · show (mkOl L cI cT fresh).length ≤ 3000
    unfold mkOl
    split
    · split
      · omega
      · omega
    · omega
  · have := mkNw_len (L := L) (cI := cI) (cT := cT) hf
    show (srtL (mkNw L cI cT fresh)).length ≤ 3000
    rw [srtL_len]
    omega
theorem stepMakes_spec (L0 : List Lef) (G0 : List (List UInt8)) (F0 : List Lef) (hl : L0.length ≤ 9223372036854775807) (hg : G0.length ≤ 9223372036854775807) (hf : F0.length ≤ 9223372036854775807) (okl : ∀ x ∈ L0, x.ok) (okg : ∀ x ∈ G0, x.length = 32) (okf : ∀ x ∈ F0, x.ok) : Spec Tryz.prog 3 [.sl 65 (L0.map Lef.A), .sl 32 (G0.map labA), .sl 65 (F0.map Lef.A)] [] (fun v os => v = .b true ∧ os = []) := by
  have h1 := few_spec L0 30 hl (by decide)
  have h2 := few19_spec G0 hg
  have h3 := few_spec F0 30 hf (by decide)
  have e1 : (L0.take 30).length ≤ 30 := by rw [List.length_take]; omega
  have e2 : (G0.take 40).length ≤ 40 := by rw [List.length_take]; omega
  have e3 : (F0.take 30).length ≤ 30 := by rw [List.length_take]; omega
  have o1 : ∀ x ∈ L0.take 30, x.ok := fun x hx => okl x (List.mem_of_mem_take hx)
  have o2 : ∀ x ∈ G0.take 40, x.length = 32 := fun x hx => okg x (List.mem_of_mem_take hx)
  have o3 : ∀ x ∈ F0.take 30, x.ok := fun x hx => okf x (List.mem_of_mem_take hx)
  clear hl hg hf okl okg okf
  generalize L0.take 30 = L at *
  generalize G0.take 40 = G at *
  generalize F0.take 30 = F at *
  have k1 := smake_spec L G F (by omega) (by omega) (by omega) o1 o2 o3
  have k2 := awake19_spec
  have k3 := leaves16_spec L (by omega)
  have k4 := leaves16_spec F (by omega)
  have k5 := rmake19_spec L G F (by omega) (by omega) (by omega) o1 o2 o3
  obtain ⟨m1, m2, m3⟩ := smk_len L G F (by omega) (by omega)
  have k6 := told19_spec (smk L G F).1 m1 (by omega) (by omega)
  have k7 := same19_spec (smk L G F).1
  generalize smk L G F = q at *
  obtain ⟨⟨x, y, z⟩, e⟩ := q
  have hA : (⟨x, y, z⟩ : Stp).A = .agg [.sl 66 (x.map Itm.A), .sl 65 (y.map Lef.A), .sl 65 (z.map Lef.A)] := rfl
  have hR : (⟨x, y, z⟩ : Stp).R = .agg [.sl 66 (x.map Itm.R), .sl 65 (y.map Lef.A), .sl 65 (z.map Lef.A)] := rfl
  dsimp only at k1 k5 k6 k7
  rw [hA] at k1 k6
  rw [hR] at k5 k6 k7
  clear hA hR m1 m2 m3 o1 o2 o3 e1 e2 e3
  refine spec_of TtOk [] Tryz.func3 rfl Tryz.ntmps3 (by kernel_rfl) rfl rfl (fun C => ?_) rfl
  repeat' (first | (refine o_freezeR 16 2 rfl rfl rfl ?_) | (refine o_freezeR 12 0 rfl rfl rfl ?_) | refine Awp.seq ?_ | refine Awp.region ?_ | (refine Ops.nil ?_; show Awp _ _ _ _ _) | (refine Awp.ret ?_; show endK _ _ _ _ _) | (refine o_calm rfl TtOk rfl rfl rfl ?_ (fun _ => ?_); exact nd) | refine o_alloc (d := 7) rfl TtOk rfl rfl rfl (fun b7 => ?_) | refine o_alloc (d := 9) rfl TtOk rfl rfl rfl (fun b9 => ?_) | refine o_store TtOk rfl rfl rfl rfl rfl rfl rfl ⟨rfl, rfl⟩ rfl rfl rfl rfl rfl ?_ | (fail_if_success (refine o_isLit rfl (by first | exact .inl rfl | exact .inr rfl) ?_)); (refine o_splitP rfl rfl (fun hc => ?_) (fun hc => ?_) <;> try (exfalso; omega)) | refine a_any 4 [] [] [] [0, 1, 2, 3, 4, 5, 6, 7, 9, 8, 10, 11, 12] (by kernel_rfl) (by kernel_rfl) (by kernel_rfl) rfl rfl rfl ?_ | (refine o_callR rfl h1 ⟨SLe.of_eq rfl, SLe.of_eq rfl, True.intro⟩ rfl (fun vR1 => ?_)) | (refine o_callR rfl h3 ⟨SLe.of_eq rfl, SLe.of_eq rfl, True.intro⟩ rfl (fun vR3 => ?_)) | (refine o_call0 rfl (h2) ⟨SLe.of_eq rfl, True.intro⟩ rfl ?_; rintro _ _ ⟨rfl, rfl⟩; refine ⟨rfl, ?_⟩) | (refine o_call0 rfl (k1) ⟨SLe.of_eq rfl, SLe.of_eq rfl, SLe.of_eq rfl, True.intro⟩ rfl ?_; rintro _ _ ⟨rfl, rfl⟩; refine ⟨rfl, ?_⟩) | (refine o_call0 rfl (k3) ⟨SLe.of_eq rfl, True.intro⟩ rfl ?_; rintro _ _ ⟨rfl, rfl⟩; refine ⟨rfl, ?_⟩) | (refine o_call0 rfl (k4) ⟨SLe.of_eq rfl, True.intro⟩ rfl ?_; rintro _ _ ⟨rfl, rfl⟩; refine ⟨rfl, ?_⟩) | (refine o_call0 rfl (k5) ⟨SLe.of_eq rfl, SLe.of_eq rfl, SLe.of_eq rfl, True.intro⟩ rfl ?_; rintro _ _ ⟨rfl, rfl⟩; refine ⟨rfl, ?_⟩) | (refine o_call0 rfl (k6) ⟨SLe.of_eq rfl, True.intro⟩ rfl ?_; rintro _ _ ⟨rfl, rfl⟩; refine ⟨rfl, ?_⟩) | (refine o_call0 rfl (k7) ⟨SLe.of_eq rfl, SLe.of_eq rfl, True.intro⟩ rfl ?_; rintro _ _ ⟨rfl, rfl⟩; refine ⟨rfl, ?_⟩) | (refine o_call0 rfl (k2) True.intro rfl ?_; rintro _ _ ⟨rfl, rfl⟩; refine ⟨rfl, ?_⟩))
  all_goals exact end_tmp rfl rfl rfl [] [] (CLe.of_eq rfl) .nil ⟨rfl, rfl⟩ _ (.inl rfl)
end Go.Proofs.YtcmgpkibjdbonaaGreat
