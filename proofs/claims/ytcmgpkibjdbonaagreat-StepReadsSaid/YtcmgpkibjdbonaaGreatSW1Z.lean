/- law19.awake by rules. -/
import Derived.Test.YtcmgpkibjdbonaaGreatPS3Z
import Derived.Test.YtcmgpkibjdbonaaGreatV31Z
import Derived.Test.YtcmgpkibjdbonaaGreatKW2Z
import Derived.Test.YtcmgpkibjdbonaaGreatPP2Z
import Derived.Test.YtcmgpkibjdbonaaGreatC4
import Derived.Test.YtcmgpkibjdbonaaGreatR2Z
import Derived.Test.YtcmgpkibjdbonaaGreatZR3Z
import Derived.Test.YtcmgpkibjdbonaaGreatSB2
import Derived.Test.YtcmgpkibjdbonaaGreatN3Z
set_option maxHeartbeats 16000000
set_option maxRecDepth 100000
namespace Go.Proofs.YtcmgpkibjdbonaaGreat
open Go Go.RowKit
def awB19 : Lef := ⟨labC 128, List.replicate 32 0, 4⟩
def awa19 : List Lef := [lef0]
def awb19 : List Lef := [awB19]
theorem aw19_e : (smk awa19 [] awb19).2 = 0 := by decide +kernel
theorem aw19_s : (smk awa19 [] awb19).1.same.length = 0 := by decide +kernel
theorem aw19_o : (smk awa19 [] awb19).1.old.length = 1 := by decide +kernel
theorem aw19_n : (smk awa19 [] awb19).1.new.length = 2 := by decide +kernel
theorem aw19_4 : insF (smk awa19 [] awb19).1 4 = true := by decide +kernel
theorem aw19_5 : insF (smk awa19 [] awb19).1 5 = false := by decide +kernel
theorem aw19_oka : ∀ x ∈ awa19, x.ok := fun x hx => by rw [List.mem_singleton.1 hx]; exact ⟨rfl, rfl⟩
theorem aw19_okb : ∀ x ∈ awb19, x.ok := fun x hx => by rw [List.mem_singleton.1 hx]; exact ⟨rfl, rfl⟩
theorem awake19_spec : Spec Tryz.prog 13 [] [] (fun v os => v = .b true ∧ os = []) := by
  have k1 := smake_spec awa19 [] awb19 (by decide) (Nat.zero_le _) (by decide) aw19_oka (fun x hx => by cases hx) aw19_okb
  have hl := mk_leads (gone := []) aw19_oka (fun x hx => by cases hx) aw19_okb (by decide) (by decide) aw19_e
  have hokM : ∀ x ∈ awa19 ++ awb19, x.ok := fun x hx => by
    rcases List.mem_append.1 hx with hx | hx
    · exact aw19_oka x hx
    · exact aw19_okb x hx
  have k2 := of_spec awa19 (by decide) aw19_oka
  have k3 := top_spec (itmsL awa19) (by rw [itmsL_len]; decide) (itmsL_ok aw19_oka)
  have k4 := of_spec (awa19 ++ awb19) (by decide) hokM
  have k5 := top_spec (itmsL (awa19 ++ awb19)) (by rw [itmsL_len]; decide) (itmsL_ok hokM)
  obtain ⟨l1, Sm, Ol, Nw, l2, l3⟩ := hl
  have hb := l3.beh
  have ht := l3.taken (by decide) (by decide)
  rw [beh_nil] at hb ht
  rw [hb] at k5
  rw [show chkI (itmsL awa19) = 0 from l1] at k3
  have hs := aw19_s
  have ho := aw19_o
  have hn := aw19_n
  have h4 := aw19_4
  have h5 := aw19_5
  rw [aw19_e] at k1
  rw [l2] at k1 hs ho hn h4 h5
  dsimp only at hs ho hn
  have oks : (⟨Sm, Ol, Nw⟩ : Stp).ok := ⟨l3.okS, fun x hx => aw19_oka x (l3.inO x hx), l3.okN⟩
  have k6 := scheck_spec (topS (itmsL awa19)) (topS (itmsL (awa19 ++ awb19))) ⟨Sm, Ol, Nw⟩ (by show Sm.length ≤ 50000; omega) (by show Ol.length ≤ 50000; omega) (by show Nw.length ≤ 50000; omega) oks (topS_len _ (itmsL_ok aw19_oka)) (topS_len _ (itmsL_ok hokM))
  rw [ht] at k6
  have k7 := sins_spec ⟨Sm, Ol, Nw⟩ 4 (by show Ol.length ≤ 100000; omega) (by show Nw.length ≤ 100000; omega)
  have k8 := sins_spec ⟨Sm, Ol, Nw⟩ 5 (by show Ol.length ≤ 100000; omega) (by show Nw.length ≤ 100000; omega)
  rw [h4] at k7
  rw [h5] at k8
  have hA : (⟨Sm, Ol, Nw⟩ : Stp).A = .agg [.sl 66 (Sm.map Itm.A), .sl 65 (Ol.map Lef.A), .sl 65 (Nw.map Lef.A)] := rfl
  rw [hA] at k1 k6 k7 k8
  clear l1 l2 l3 hb ht h4 h5 oks hA hokM
  generalize topS (itmsL awa19) = t1 at *
  generalize topS (itmsL (awa19 ++ awb19)) = t2 at *
  generalize itmsL awa19 = I1 at *
  generalize itmsL (awa19 ++ awb19) = I2 at *
  have m1 : awa19.map Lef.A = [.agg [labA (List.replicate 32 0), labA (List.replicate 32 0), .i .i64 0]] := rfl
  have m2 : awb19.map Lef.A = [.agg [labA (labC 128), labA (List.replicate 32 0), .i .i64 4]] := rfl
  have m3 : (awa19 ++ awb19).map Lef.A = [.agg [labA (List.replicate 32 0), labA (List.replicate 32 0), .i .i64 0], .agg [labA (labC 128), labA (List.replicate 32 0), .i .i64 4]] := rfl
  rw [m1, m2] at k1
  rw [m1] at k2
  rw [m3] at k4
  refine spec_of TtOk [] Tryz.func13 rfl Tryz.ntmps13 (by kernel_rfl) rfl rfl (fun C => ?_) rfl
  repeat' (first | (refine o_freezeR 30 30 rfl rfl rfl ?_) | (refine o_freezeR 22 22 rfl rfl rfl ?_) | (refine o_freezeR 16 16 rfl rfl rfl ?_) | (refine o_freezeR 14 14 rfl rfl rfl ?_) | refine Awp.seq ?_ | refine Awp.region ?_ | (refine Ops.nil ?_; show Awp _ _ _ _ _) | (refine Awp.ret ?_; show endK _ _ _ _ _) | refine o_len rfl TtOk rfl rfl rfl (fun _ => ?_) | (refine o_calm rfl TtOk rfl rfl rfl ?_ (fun _ => ?_); exact nd) | refine o_alloc (d := 1) rfl TtOk rfl rfl rfl (fun b1 => ?_) | refine o_alloc (d := 2) rfl TtOk rfl rfl rfl (fun b2 => ?_) | refine o_alloc (d := 3) rfl TtOk rfl rfl rfl (fun b3 => ?_) | refine o_alloc (d := 5) rfl TtOk rfl rfl rfl (fun b5 => ?_) | refine o_alloc (d := 7) rfl TtOk rfl rfl rfl (fun b7 => ?_) | refine o_store TtOk rfl rfl rfl rfl rfl rfl rfl ⟨rfl, rfl⟩ rfl rfl rfl rfl rfl ?_ | refine o_build TtOk rfl rfl rfl rfl rfl rfl (by repeat' (first | exact True.intro | exact rfl | refine ⟨?_, ?_⟩)) ?_ | refine o_buildSlice TtOk rfl rfl rfl rfl rfl rfl rfl rfl rfl rfl rfl (by repeat' (first | exact True.intro | exact rfl | refine ⟨?_, ?_⟩)) (fun _ => ?_) | (fail_if_success (refine o_isLit rfl (by first | exact .inl rfl | exact .inr rfl) ?_)); (refine o_splitP rfl rfl (fun hc => ?_) (fun hc => ?_) <;> try (exfalso; omega)) | (refine o_buildArr TtOk rfl ((labC 128).map byA) rfl rfl rfl (by kernel_rfl) rfl rfl ?_) | (refine o_call0 rfl k1 ⟨SLe.of_eq rfl, sle_nilsl, SLe.of_eq rfl, True.intro⟩ rfl ?_; rintro _ _ ⟨rfl, rfl⟩; refine ⟨rfl, ?_⟩) | (refine o_call0 rfl (k2) ⟨SLe.of_eq rfl, True.intro⟩ rfl ?_; rintro _ _ ⟨rfl, rfl⟩; refine ⟨rfl, ?_⟩) | (refine o_call0 rfl (k3) ⟨SLe.of_eq rfl, True.intro⟩ rfl ?_; rintro _ _ ⟨rfl, rfl⟩; refine ⟨rfl, ?_⟩) | (refine o_call0 rfl (k4) ⟨SLe.of_eq rfl, True.intro⟩ rfl ?_; rintro _ _ ⟨rfl, rfl⟩; refine ⟨rfl, ?_⟩) | (refine o_call0 rfl (k5) ⟨SLe.of_eq rfl, True.intro⟩ rfl ?_; rintro _ _ ⟨rfl, rfl⟩; refine ⟨rfl, ?_⟩) | (refine o_call0 rfl (k6) ⟨SLe.of_eq rfl, SLe.of_eq rfl, SLe.of_eq rfl, True.intro⟩ rfl ?_; rintro _ _ ⟨rfl, rfl⟩; refine ⟨rfl, ?_⟩) | (refine o_call0 rfl (k7) ⟨SLe.of_eq rfl, SLe.of_eq rfl, True.intro⟩ rfl ?_; rintro _ _ ⟨rfl, rfl⟩; refine ⟨rfl, ?_⟩) | (refine o_call0 rfl (k8) ⟨SLe.of_eq rfl, SLe.of_eq rfl, True.intro⟩ rfl ?_; rintro _ _ ⟨rfl, rfl⟩; refine ⟨rfl, ?_⟩))
  all_goals exact end_tmp rfl rfl rfl [] [] (CLe.of_eq rfl) .nil ⟨rfl, rfl⟩ _ (.inl rfl)
end Go.Proofs.YtcmgpkibjdbonaaGreat
set_option maxHeartbeats 16000000
set_option maxRecDepth 100000
namespace Go.Proofs.YtcmgpkibjdbonaaGreat
open Go Go.RowKit
end Go.Proofs.YtcmgpkibjdbonaaGreat
set_option maxHeartbeats 4000000
namespace Go.Proofs.YtcmgpkibjdbonaaGreat
open Go Go.RowKit
/-- What a proof says of a label in the tree of a sum. -/
def chkE (p : Prf) (top lb : List UInt8) : Int := if (ndsF p lb).2 ≠ 0 then (ndsF p lb).2 else if nsum (ndsF p lb).1 = top then 0 else 11
def chkB (p : Prf) (lb : List UInt8) : Bool := p.e == 1 && p.lf.l == lb
/-- The texts of the tree's way, the top first. -/
def wayT (L : List Lef) (lb : List UInt8) : List (List UInt8) := if srtL L = [] then [[18]] else (wayN (L.length + 1) (srtL L) lb).map Nod.txt
def toldT (p : Prf) (lb : List UInt8) : List (List UInt8) := if (ndsF p lb).1 = [] then [[18]] else (ndsF p lb).1.reverse.map Nod.txt
end Go.Proofs.YtcmgpkibjdbonaaGreat
set_option maxHeartbeats 16000000
set_option maxRecDepth 100000
namespace Go.Proofs.YtcmgpkibjdbonaaGreat
open Go Go.RowKit
def exP (L : List Lef) (p : Prf) (lb : List UInt8) : List UInt8 × List UInt8 × Bool := if (ndsF p lb).2 ≠ 0 ∨ mkE L ≠ 0 then ([], [], false) else exC (ndsF p lb).1.reverse (srtL L) lb
theorem Chain.all {lb : List UInt8} : ∀ {c : List Nod}, Chain lb c → ∀ n ∈ c, n.gd
  | [], h, n, hn => by cases hn
  | [m], h, n, hn => by rw [List.mem_singleton.1 hn]; exact h.1
  | m :: q :: r, h, n, hn => by
    rcases List.mem_cons.1 hn with rfl | hn
    · exact h.1
    · exact Chain.all h.2.2 n hn
end Go.Proofs.YtcmgpkibjdbonaaGreat
set_option maxHeartbeats 16000000
set_option maxRecDepth 100000
namespace Go.Proofs.YtcmgpkibjdbonaaGreat
open Go Go.RowKit
end Go.Proofs.YtcmgpkibjdbonaaGreat
set_option maxHeartbeats 16000000
set_option maxRecDepth 100000
namespace Go.Proofs.YtcmgpkibjdbonaaGreat
open Go Go.RowKit
/-- The leaf of a label among leaves. -/
def hasLf (l : List Lef) (x : List UInt8) : Bool := l.any (fun y => y.l == x)
def fndL (l : List Lef) (x : List UInt8) : Lef := (l.find? (fun y => y.l == x)).getD lef0
end Go.Proofs.YtcmgpkibjdbonaaGreat
set_option maxHeartbeats 16000000
set_option maxRecDepth 100000
namespace Go.Proofs.YtcmgpkibjdbonaaGreat
open Go Go.RowKit
/-- What is summed of the top of told parts. -/
def tdT (T : List Itm) (O : List Lef) : List UInt8 := if T.length = 0 then [18] else if T.length = 1 then leafB (fndL O (T.headD default).l) else innB (parA T) (parB T)
/-- A part that isn't told. -/
def unT (T : List Itm) (O : List Lef) : Bool := T.length == 1 && (!(hasLf O (T.headD default).l) || decide ((T.headD default).n < 256))
def spR (R : List Lef) : Nat := if 2 ≤ R.length then splI (R.map leafI) else 0
def hld : Nat → List Itm → List Lef → List Lef → List UInt8 × List UInt8 × Bool
  | 0, _, _, _ => ([], [], false)
  | k + 1, T, O, R =>
    if unT T O = true then ([], [], false) else
    if tdT T O = rlT R then
      if T.length < 2 then ([], [], false) else
      if (hld k (T.take (splI T)) O (R.take (spR R))).1 = (hld k (T.take (splI T)) O (R.take (spR R))).2.1 then hld k (T.drop (splI T)) O (R.drop (spR R))
      else hld k (T.take (splI T)) O (R.take (spR R))
    else (tdT T O, rlT R, clsh (tdT T O) (rlT R))
end Go.Proofs.YtcmgpkibjdbonaaGreat
set_option maxHeartbeats 16000000
set_option maxRecDepth 100000
namespace Go.Proofs.YtcmgpkibjdbonaaGreat
open Go Go.RowKit
end Go.Proofs.YtcmgpkibjdbonaaGreat
set_option maxHeartbeats 4000000
namespace Go.Proofs.YtcmgpkibjdbonaaGreat
open Go Go.RowKit
/-- Items that make up the tree of leaves, from left to right. -/
inductive Cov : List Itm → List Lef → Prop
  | one {l : List Lef} (h : Rsn l) (hn : l ≠ []) : Cov [jnI l] l
  | two {S T : List Itm} {l : List Lef} (h : Rsn l) (h2 : 2 ≤ l.length) (hS : Cov S (l.take (splI (l.map leafI)))) (hT : Cov T (l.drop (splI (l.map leafI)))) : Cov (S ++ T) l
theorem Cov.rsn {T : List Itm} {l : List Lef} (h : Cov T l) : Rsn l ∧ l ≠ [] := by
  cases h with
  | one h hn => exact ⟨h, hn⟩
  | two h h2 _ _ => exact ⟨h, fun e => by rw [e] at h2; simp at h2⟩
theorem Cov.ne {T : List Itm} {l : List Lef} (h : Cov T l) : T ≠ [] := by
  induction h with
  | one _ _ => exact fun e => by cases e
  | two _ _ _ _ i1 _ => exact fun e => i1 (List.append_eq_nil_iff.1 e).1
theorem Cov.mem {T : List Itm} {l : List Lef} (h : Cov T l) : ∀ p ∈ T, ∃ G, G ≠ [] ∧ Rsn G ∧ (∀ x ∈ G, x ∈ l) ∧ p = jnI G := by
  induction h with
  | @one l h hn => exact fun p hp => ⟨l, hn, h, fun x hx => hx, List.mem_singleton.1 hp⟩
  | two _ _ _ _ i1 i2 =>
    intro p hp
    rcases List.mem_append.1 hp with hp | hp
    · obtain ⟨G, a, b, c, d⟩ := i1 p hp
      exact ⟨G, a, b, fun x hx => List.mem_of_mem_take (c x hx), d⟩
    · obtain ⟨G, a, b, c, d⟩ := i2 p hp
      exact ⟨G, a, b, fun x hx => List.mem_of_mem_drop (c x hx), d⟩
theorem Cov.bits {T : List Itm} {l : List Lef} (h : Cov T l) {n : Nat} (hn : n < 256) (hb : ∀ x ∈ l, ∀ y ∈ l, ∀ i, i ≤ n → bitL x.l i = bitL y.l i) : ∀ p ∈ T, ∀ x ∈ l, ∀ i, i ≤ n → bitL p.l i = bitL x.l i := by
  intro p hp x hx i hi
  obtain ⟨G, hne, hG, hs, rfl⟩ := h.mem p hp
  obtain ⟨y, hy⟩ := List.exists_mem_of_ne_nil G hne
  have := (hG.deep (List.length_pos_iff.2 hne) (n := i) (by omega) (fun x hx y hy j hj => hb x (hs x hx) y (hs y hy) j (by omega))).2 y hy
  rw [this]
  exact hb y (hs y hy) x hx i hi
theorem Cov.okI {T : List Itm} {l : List Lef} (h : Cov T l) : ∀ p ∈ T, p.ok := by
  intro p hp
  obtain ⟨G, hne, hG, hs, rfl⟩ := h.mem p hp
  exact (hG.join (List.length_pos_iff.2 hne)).1.ok
theorem Rsn.bits {l : List Lef} (h : Rsn l) : ∀ x ∈ l, ∀ y ∈ l, ∀ i, i < frkI (l.map leafI) → bitL x.l i = bitL y.l i := fun x hx y hy i hi => by
  obtain ⟨j, hj, rfl⟩ := List.getElem_of_mem hx
  obtain ⟨k, hk, rfl⟩ := List.getElem_of_mem hy
  have hml : (l.map leafI).length = l.length := List.length_map ..
  have a := rise_bits h.rise h.okI (by omega) j (by omega) i hi
  have b := rise_bits h.rise h.okI (by omega) k (by omega) i hi
  rw [List.getElem_map] at a b
  exact a.trans b.symm
/-- Of the two sides. -/
theorem cov_sides {S T : List Itm} {l : List Lef} (h : Rsn l) (h2 : 2 ≤ l.length) (hS : Cov S (l.take (splI (l.map leafI)))) (hT : Cov T (l.drop (splI (l.map leafI)))) :
    (∀ p ∈ S, bitL p.l (frkI (l.map leafI)) = 0) ∧ (∀ q ∈ T, bitL q.l (frkI (l.map leafI)) = 1) ∧ (∀ p ∈ S, ∀ q ∈ T, comL p.l q.l = frkI (l.map leafI) ∧ cmpS p.l q.l < 0) := by
  have hSd := h.sides h2
  have hf := hSd.f256
  have tm : ∀ x ∈ l.take (splI (l.map leafI)), x ∈ l := fun x hx => List.mem_of_mem_take hx
  have dm : ∀ x ∈ l.drop (splI (l.map leafI)), x ∈ l := fun x hx => List.mem_of_mem_drop hx
  have bS := hS.bits hf (fun x hx y hy i hi => by
    rcases Nat.lt_or_eq_of_le hi with hi | rfl
    · exact h.bits x (tm x hx) y (tm y hy) i hi
    · rw [hSd.lo x hx, hSd.lo y hy])
  have bT := hT.bits hf (fun x hx y hy i hi => by
    rcases Nat.lt_or_eq_of_le hi with hi | rfl
    · exact h.bits x (dm x hx) y (dm y hy) i hi
    · rw [hSd.hi x hx, hSd.hi y hy])
  obtain ⟨x, hx⟩ := List.exists_mem_of_ne_nil _ hS.rsn.2
  obtain ⟨y, hy⟩ := List.exists_mem_of_ne_nil _ hT.rsn.2
  have z0 : ∀ p ∈ S, bitL p.l (frkI (l.map leafI)) = 0 := fun p hp => by rw [bS p hp x hx _ (Nat.le_refl _), hSd.lo x hx]
  have z1 : ∀ q ∈ T, bitL q.l (frkI (l.map leafI)) = 1 := fun q hq => by rw [bT q hq y hy _ (Nat.le_refl _), hSd.hi y hy]
  refine ⟨z0, z1, fun p hp q hq => ?_⟩
  have op := (hS.okI p hp).1
  have oq := (hT.okI q hq).1
  have hcm := com_is op oq hf (fun i hi => by rw [bS p hp x hx i (by omega), bT q hq y hy i (by omega)]; exact h.bits x (tm x hx) y (dm y hy) i hi) (by rw [z0 p hp, z1 q hq]; decide)
  exact ⟨hcm, lt_cmp op oq (by rw [hcm]; exact hf) (by rw [hcm]; exact z0 p hp)⟩
theorem Cov.rise {T : List Itm} {l : List Lef} (h : Cov T l) : RiseI T := by
  induction h with
  | one _ _ => exact List.pairwise_singleton ..
  | two h h2 hS hT i1 i2 => exact List.pairwise_append.2 ⟨i1, i2, fun p hp q hq => ((cov_sides h h2 hS hT).2.2 p hp q hq).2⟩
theorem cov_split {S T : List Itm} {l : List Lef} (h : Rsn l) (h2 : 2 ≤ l.length) (hS : Cov S (l.take (splI (l.map leafI)))) (hT : Cov T (l.drop (splI (l.map leafI)))) : splI (S ++ T) = S.length := by
  obtain ⟨z0, z1, z2⟩ := cov_sides h h2 hS hT
  have pS := List.length_pos_iff.2 hS.ne
  have pT := List.length_pos_iff.2 hT.ne
  have hl : (S ++ T).length = S.length + T.length := List.length_append
  have hf : frkI (S ++ T) = frkI (l.map leafI) := by
    rw [frk_eq (by omega)]
    refine (z2 _ ?_ _ ?_).1
    · rw [List.getElem_append_left pS]; exact List.getElem_mem _
    · rw [List.getElem_append_right (by omega)]; exact List.getElem_mem _
  unfold splI
  rw [hf, List.findIdx_eq (by omega)]
  refine ⟨?_, fun j hj => ?_⟩
  · rw [List.getElem_append_right (Nat.le_refl _), z1 _ (List.getElem_mem _)]; rfl
  · rw [List.getElem_append_left hj, z0 _ (List.getElem_mem _)]; rfl
theorem cov_par {S T : List Itm} {l : List Lef} (h : Rsn l) (h2 : 2 ≤ l.length) (hS : Cov S (l.take (splI (l.map leafI)))) (hT : Cov T (l.drop (splI (l.map leafI)))) (jS : joinF S.length S = jnI (l.take (splI (l.map leafI)))) (jT : joinF T.length T = jnI (l.drop (splI (l.map leafI)))) :
    parA (S ++ T) = parA (l.map leafI) ∧ parB (S ++ T) = parB (l.map leafI) := by
  have hs := cov_split h h2 hS hT
  have hSd := h.sides h2
  have pS := List.length_pos_iff.2 hS.ne
  have pT := List.length_pos_iff.2 hT.ne
  have hl : (S ++ T).length = S.length + T.length := List.length_append
  constructor
  · unfold parA
    rw [hs, List.take_left, ← show parA (l.map leafI) = joinF ((l.map leafI).length - 1) ((l.map leafI).take (splI (l.map leafI))) from rfl, hSd.jA, ← jS]
    exact joinF_fuel _ _ _ hS.ne (by omega) (Nat.le_refl _) hS.rise hS.okI
  · unfold parB
    rw [hs, List.drop_left, ← show parB (l.map leafI) = joinF ((l.map leafI).length - 1) ((l.map leafI).drop (splI (l.map leafI))) from rfl, hSd.jB, ← jT]
    exact joinF_fuel _ _ _ hT.ne (by omega) (Nat.le_refl _) hT.rise hT.okI
theorem Cov.join {T : List Itm} {l : List Lef} (h : Cov T l) : joinF T.length T = jnI l := by
  induction h with
  | one _ _ => rfl
  | @two S T l h h2 hS hT i1 i2 =>
    obtain ⟨a, b⟩ := cov_par h h2 hS hT i1 i2
    have pS := List.length_pos_iff.2 hS.ne
    have pT := List.length_pos_iff.2 hT.ne
    have hl : (S ++ T).length = S.length + T.length := List.length_append
    rw [join_par (by omega), a, b, (h.sides h2).jn]
end Go.Proofs.YtcmgpkibjdbonaaGreat
set_option maxHeartbeats 4000000
namespace Go.Proofs.YtcmgpkibjdbonaaGreat
open Go Go.RowKit
end Go.Proofs.YtcmgpkibjdbonaaGreat
set_option maxHeartbeats 16000000
set_option maxRecDepth 100000
namespace Go.Proofs.YtcmgpkibjdbonaaGreat
open Go Go.RowKit
end Go.Proofs.YtcmgpkibjdbonaaGreat
set_option maxHeartbeats 4000000
namespace Go.Proofs.YtcmgpkibjdbonaaGreat
open Go Go.RowKit
def sumT (T : List Itm) : List UInt8 := if T = [] then shaN [18] else (joinF T.length T).s
def sumR (R : List Lef) : List UInt8 := if R = [] then shaN [18] else (jnI R).s
/-- Parts that are a tree's own ones, as far as they are told. -/
inductive Mir (O : List Lef) : List Itm → List Lef → Prop
  | nil : Mir O [] []
  | un (p : Itm) (R : List Lef) (h : unT [p] O = true) : Mir O [p] R
  | one (x : Lef) (h : hasLf O x.l = true) (h2 : fndL O x.l = x) : Mir O [leafI x] [x]
  | two {T : List Itm} {R : List Lef} (hT : 2 ≤ T.length) (hR : 2 ≤ R.length) (hA : parA T = parA (R.map leafI)) (hB : parB T = parB (R.map leafI)) (h1 : Mir O (T.take (splI T)) (R.take (splI (R.map leafI)))) (h2 : Mir O (T.drop (splI T)) (R.drop (splI (R.map leafI)))) : Mir O T R
/-- Unlike bytes of one sum. -/
def Clh (q : List UInt8 × List UInt8 × Bool) : Prop := q.2.2 = true ∧ q.1 ≠ q.2.1 ∧ shaN q.1 = shaN q.2.1
structure Tgd (T : List Itm) (O : List Lef) : Prop where
  rise : RiseI T
  ok : ∀ x ∈ T, x.ok
  good : ∀ x ∈ T, goodI x = true
  own : ∀ p ∈ T, hasLf O p.l = true → p = leafI (fndL O p.l)
theorem Tgd.take {T : List Itm} {O : List Lef} (h : Tgd T O) (i : Nat) : Tgd (T.take i) O := ⟨h.rise.sublist (List.take_sublist ..), fun x hx => h.ok x (List.mem_of_mem_take hx), fun x hx => h.good x (List.mem_of_mem_take hx), fun x hx => h.own x (List.mem_of_mem_take hx)⟩
theorem Tgd.drop {T : List Itm} {O : List Lef} (h : Tgd T O) (i : Nat) : Tgd (T.drop i) O := ⟨h.rise.sublist (List.drop_sublist ..), fun x hx => h.ok x (List.mem_of_mem_drop hx), fun x hx => h.good x (List.mem_of_mem_drop hx), fun x hx => h.own x (List.mem_of_mem_drop hx)⟩
theorem Tgd.jn {T : List Itm} {O : List Lef} (h : Tgd T O) (hn : T ≠ []) : goodI (joinF T.length T) = true := by
  have h0 := List.length_pos_iff.2 hn
  have hg := (join_B h0 h.rise h.ok (fun x hx => good_n (h.good x hx))).good h.good
  have ht := joinF_t T.length T hn (Nat.le_refl _) h.rise h.ok (fun x hx => good_t (h.good x hx))
  unfold goodI
  rw [show (⟨(joinF T.length T).n, (joinF T.length T).l⟩ : Pfx) = (joinF T.length T).p from rfl, hg, decide_eq_true ht.1, decide_eq_true ht.2]; rfl
theorem Mir.leaf {O : List Lef} {T : List Itm} {R : List Lef} (h : Mir O T R) : ∀ p ∈ T, hasLf O p.l = true → ¬ p.n < 256 → fndL O p.l ∈ R := by
  induction h with
  | nil => intro p hp; cases hp
  | un q R hu =>
    intro p hp h1 h2
    rw [List.mem_singleton.1 hp] at h1 h2
    have hu : (!(hasLf O q.l) || decide (q.n < 256)) = true := hu
    rw [h1, decide_eq_false h2] at hu; cases hu
  | one x _ h2 =>
    intro p hp _ _
    rw [List.mem_singleton.1 hp]
    show fndL O x.l ∈ [x]
    rw [h2]; exact List.mem_cons_self ..
  | @two T R hT hR2 hA hB h1 h2 i1 i2 =>
    intro p hp k1 k2
    rw [← List.take_append_drop (splI T) T] at hp
    rcases List.mem_append.1 hp with hp | hp
    · exact List.mem_of_mem_take (i1 p hp k1 k2)
    · exact List.mem_of_mem_drop (i2 p hp k1 k2)
end Go.Proofs.YtcmgpkibjdbonaaGreat
set_option maxHeartbeats 4000000
namespace Go.Proofs.YtcmgpkibjdbonaaGreat
open Go Go.RowKit
structure BlkC (l : List Lef) (q : Itm × List Lef) : Prop where
  ne : q.2 ≠ []
  rsn : Rsn q.2
  eq : q.1 = jnI q.2
  sub : ∀ y ∈ q.2, y ∈ l
theorem BlkC.join {l : List Lef} {q : Itm × List Lef} (h : BlkC l q) : JoinB q.1 (q.2.map leafI) := by
  rw [h.eq]; exact (h.rsn.join (List.length_pos_iff.2 h.ne)).1
theorem BlkC.up {l l' : List Lef} {q : Itm × List Lef} (h : BlkC l q) (hs : ∀ x ∈ l, x ∈ l') : BlkC l' q := ⟨h.ne, h.rsn, h.eq, fun y hy => hs y (h.sub y hy)⟩
theorem BlkC.deep {l : List Lef} {q : Itm × List Lef} (h : BlkC l q) {n : Nat} (hn : n < 256) (hb : ∀ x ∈ l, ∀ y ∈ l, ∀ i, i ≤ n → bitL x.l i = bitL y.l i) : ((n : Nat) : Int) < q.1.n := by
  rw [h.eq]
  exact (h.rsn.deep (List.length_pos_iff.2 h.ne) hn (fun x hx y hy i hi => hb x (h.sub x hx) y (h.sub y hy) i hi)).1
end Go.Proofs.YtcmgpkibjdbonaaGreat
set_option maxHeartbeats 16000000
set_option maxRecDepth 100000
namespace Go.Proofs.YtcmgpkibjdbonaaGreat
open Go Go.RowKit
def wout (l : List Lef) (g : List UInt8) : List Lef := l.filter (fun y => y.l != g)
def cutS (s : Stp) : Stp := ⟨s.same.take 60, s.old.take 60, s.new.take 60⟩
theorem cutS_ok {s : Stp} (h : s.ok) : (cutS s).ok ∧ (cutS s).same.length ≤ 60 ∧ (cutS s).old.length ≤ 60 ∧ (cutS s).new.length ≤ 60 :=
  ⟨⟨fun x hx => h.same x (List.mem_of_mem_take hx), fun x hx => h.old x (List.mem_of_mem_take hx), fun x hx => h.new x (List.mem_of_mem_take hx)⟩, by show (s.same.take 60).length ≤ 60; rw [List.length_take]; omega, by show (s.old.take 60).length ≤ 60; rw [List.length_take]; omega, by show (s.new.take 60).length ≤ 60; rw [List.length_take]; omega⟩
theorem cut19_spec (s : Stp) (h1 : s.same.length ≤ 9223372036854775807) (h2 : s.old.length ≤ 9223372036854775807) (h3 : s.new.length ≤ 9223372036854775807) : Spec Tryz.prog 27 [s.A] [] (fun v os => v = (cutS s).A ∧ os = []) := by
  obtain ⟨same, old, new⟩ := s
  dsimp only at h1 h2 h3
  have f1 := few_spec old 60 h2 (by decide)
  have f2 := few_spec new 60 h3 (by decide)
  unfold cutS
  show Spec Tryz.prog 27 [.agg [.sl 66 (same.map Itm.A), .sl 65 (old.map Lef.A), .sl 65 (new.map Lef.A)]] [] (fun v os => v = .agg [.sl 66 ((same.take 60).map Itm.A), .sl 65 ((old.take 60).map Lef.A), .sl 65 ((new.take 60).map Lef.A)] ∧ os = [])
  refine spec_of TtOk [] Tryz.func27 rfl Tryz.ntmps27 (by kernel_rfl) rfl rfl (fun C => ?_) rfl
  by_cases h : 60 < same.length
  · have hln : (same.take 60).length = 60 := by rw [List.length_take]; omega
    repeat' (first | refine Awp.seq ?_ | refine Awp.region ?_ | (refine Ops.nil ?_; show Awp _ _ _ _ _) | (refine Awp.ret ?_; show endK _ _ _ _ _) | refine o_len rfl TtOk rfl rfl rfl (fun _ => ?_) | (refine o_calm rfl TtOk rfl rfl rfl ?_ (fun _ => ?_); exact nd) | refine o_alloc (d := 2) rfl TtOk rfl rfl rfl (fun b2 => ?_) | refine o_box (d := 1) rfl rfl rfl rfl (fun b1 => ?_) | refine o_store TtOk rfl rfl rfl rfl rfl rfl rfl ⟨rfl, rfl⟩ rfl rfl rfl rfl rfl ?_ | refine o_build TtOk rfl rfl rfl rfl rfl rfl (by repeat' (first | exact True.intro | exact rfl | refine ⟨?_, ?_⟩)) ?_ | refine o_buildSlice (d := 11) TtOk rfl rfl rfl rfl rfl rfl rfl rfl rfl rfl rfl (by repeat' (first | exact True.intro | exact rfl | refine ⟨?_, ?_⟩)) (fun v11 => ?_) | (refine o_append TtOk rfl rfl rfl rfl rfl rfl rfl rfl rfl (by first | exact True.intro | exact rfl) rfl rfl (fun _ => rfl) ?_ ?_ (fun _ => ?_); ((repeat' (first | rw [List.length_append] | rw [List.length_map] | rw [List.length_cons] | rw [List.length_nil] | rw [List.length_take] | rw [List.length_drop])) <;> omega); ((repeat' (first | rw [List.length_append] | rw [List.length_map] | rw [List.length_cons] | rw [List.length_nil] | rw [List.length_take] | rw [List.length_drop])) <;> omega)) | (refine a_condP rfl (fun hc => ?_) (fun hc => ?_)) <;> (try (exfalso; omega)) | refine a_any 3 [2, 11] [13] [11, 17, 20] [1, 4, 7, 2, 5, 8, 0, 3, 6, 9, 10, 11] (by kernel_rfl) (by kernel_rfl) (by kernel_rfl) rfl rfl rfl ?_ | (refine o_sliceSl TtOk rfl 0 60 rfl rfl rfl rfl rfl bnd_none (bnd_some rfl rfl) (by omega) (by omega) ?_) | (refine o_callR rfl f1 ⟨SLe.of_eq rfl, SLe.of_eq rfl, True.intro⟩ rfl (fun vR1 => ?_)) | (refine o_callR rfl f2 ⟨SLe.of_eq rfl, SLe.of_eq rfl, True.intro⟩ rfl (fun vR2 => ?_)))
    all_goals
      refine end_all [11, 17, 20] [] (.agg [.sl 66 ((same.take 60).map Itm.A), .sl 65 ((old.take 60).map Lef.A), .sl 65 ((new.take 60).map Lef.A)]) rfl ?_ ?_ (rle_one (CLe.agg (.cons (CLe.fz (.head _)) (.cons (CLe.fz (.tail _ (.head _))) (.cons (CLe.fz (.tail _ (.tail _ (.head _)))) .nil)))) rfl) .nil ⟨rfl, rfl⟩ _ (.inl rfl)
      · repeat' (first | exact True.intro | exact rfl | refine ⟨?_, ?_⟩)
      · exact ⟨trivial, trivial⟩
  · rw [List.take_of_length_le (by omega)]
    repeat' (first | refine Awp.seq ?_ | refine Awp.region ?_ | (refine Ops.nil ?_; show Awp _ _ _ _ _) | (refine Awp.skip ?_; show Awp _ _ _ _ _) | (refine Awp.ret ?_; show endK _ _ _ _ _) | refine o_len rfl TtOk rfl rfl rfl (fun _ => ?_) | (refine o_calm rfl TtOk rfl rfl rfl ?_ (fun _ => ?_); exact nd) | refine o_alloc (d := 2) rfl TtOk rfl rfl rfl (fun b2 => ?_) | refine o_box (d := 1) rfl rfl rfl rfl (fun b1 => ?_) | refine o_store TtOk rfl rfl rfl rfl rfl rfl rfl ⟨rfl, rfl⟩ rfl rfl rfl rfl rfl ?_ | refine o_build TtOk rfl rfl rfl rfl rfl rfl (by repeat' (first | exact True.intro | exact rfl | refine ⟨?_, ?_⟩)) ?_ | refine o_buildSlice (d := 11) TtOk rfl rfl rfl rfl rfl rfl rfl rfl rfl rfl rfl (by repeat' (first | exact True.intro | exact rfl | refine ⟨?_, ?_⟩)) (fun v11 => ?_) | (refine o_append TtOk rfl rfl rfl rfl rfl rfl rfl rfl rfl (by first | exact True.intro | exact rfl) rfl rfl (fun _ => rfl) ?_ ?_ (fun _ => ?_); ((repeat' (first | rw [List.length_append] | rw [List.length_map] | rw [List.length_cons] | rw [List.length_nil] | rw [List.length_take] | rw [List.length_drop])) <;> omega); ((repeat' (first | rw [List.length_append] | rw [List.length_map] | rw [List.length_cons] | rw [List.length_nil] | rw [List.length_take] | rw [List.length_drop])) <;> omega)) | (refine a_condP rfl (fun hc => ?_) (fun hc => ?_)) <;> (try (exfalso; omega)) | refine a_any 3 [2, 11] [13] [11, 17, 20] [1, 4, 7, 2, 5, 8, 0, 3, 6, 9, 10, 11] (by kernel_rfl) (by kernel_rfl) (by kernel_rfl) rfl rfl rfl ?_ | (refine o_callR rfl f1 ⟨SLe.of_eq rfl, SLe.of_eq rfl, True.intro⟩ rfl (fun vR1 => ?_)) | (refine o_callR rfl f2 ⟨SLe.of_eq rfl, SLe.of_eq rfl, True.intro⟩ rfl (fun vR2 => ?_)))
    all_goals
      refine end_all [11, 17, 20] [] (.agg [.sl 66 (same.map Itm.A), .sl 65 ((old.take 60).map Lef.A), .sl 65 ((new.take 60).map Lef.A)]) rfl ?_ ?_ (rle_one (CLe.agg (.cons (CLe.fz (.head _)) (.cons (CLe.fz (.tail _ (.head _))) (.cons (CLe.fz (.tail _ (.tail _ (.head _)))) .nil)))) rfl) .nil ⟨rfl, rfl⟩ _ (.inl rfl)
      · repeat' (first | exact True.intro | exact rfl | refine ⟨?_, ?_⟩)
      · exact ⟨trivial, trivial⟩
end Go.Proofs.YtcmgpkibjdbonaaGreat
set_option maxHeartbeats 16000000
set_option maxRecDepth 100000
namespace Go.Proofs.YtcmgpkibjdbonaaGreat
open Go Go.RowKit
theorem told19_spec (s : Stp) (h1 : s.same.length ≤ 3000) (h2 : s.old.length ≤ 100000) (h3 : s.new.length ≤ 100000) : Spec Tryz.prog 15 [s.A] [] (fun v os => v = s.R ∧ os = []) := by
  obtain ⟨same, old, new⟩ := s
  dsimp only at h1 h2 h3
  have k1 := told16_spec same 3000 (by omega) (by decide) h1
  have k2 := leaves16_spec old h2
  have k3 := leaves16_spec new h3
  show Spec Tryz.prog 15 [.agg [.sl 66 (same.map Itm.A), .sl 65 (old.map Lef.A), .sl 65 (new.map Lef.A)]] [] (fun v os => v = .agg [.sl 66 (same.map Itm.R), .sl 65 (old.map Lef.A), .sl 65 (new.map Lef.A)] ∧ os = [])
  refine spec_of TtOk [] Tryz.func15 rfl Tryz.ntmps15 (by kernel_rfl) rfl rfl (fun C => ?_) rfl
  repeat' (first | refine Awp.seq ?_ | refine Awp.region ?_ | (refine Ops.nil ?_; show Awp _ _ _ _ _) | (refine Awp.ret ?_; show endK _ _ _ _ _) | (refine o_calm rfl TtOk rfl rfl rfl ?_ (fun _ => ?_); exact nd) | refine o_alloc (d := 2) rfl TtOk rfl rfl rfl (fun b2 => ?_) | refine o_box (d := 1) rfl rfl rfl rfl (fun b1 => ?_) | refine o_store TtOk rfl rfl rfl rfl rfl rfl rfl ⟨rfl, rfl⟩ rfl rfl rfl rfl rfl ?_ | refine o_build TtOk rfl rfl rfl rfl rfl rfl (by repeat' (first | exact True.intro | exact rfl | refine ⟨?_, ?_⟩)) ?_ | refine a_any 1 [2] [4, 7, 10] [5, 8, 11] [0, 3, 6, 1, 4, 7, 2, 5, 8, 9, 10] (by kernel_rfl) (by kernel_rfl) (by kernel_rfl) rfl rfl rfl ?_ | (refine o_call0 rfl (k1) ⟨SLe.of_eq rfl, SLe.of_eq rfl, True.intro⟩ rfl ?_; rintro _ _ ⟨rfl, rfl⟩; refine ⟨rfl, ?_⟩) | (refine o_call0 rfl (k2) ⟨SLe.of_eq rfl, True.intro⟩ rfl ?_; rintro _ _ ⟨rfl, rfl⟩; refine ⟨rfl, ?_⟩) | (refine o_call0 rfl (k3) ⟨SLe.of_eq rfl, True.intro⟩ rfl ?_; rintro _ _ ⟨rfl, rfl⟩; refine ⟨rfl, ?_⟩))
  all_goals
    refine end_all [] [] (.agg [.sl 66 (same.map Itm.R), .sl 65 (old.map Lef.A), .sl 65 (new.map Lef.A)]) rfl ?_ ?_ (rle_one (CLe.of_eq rfl) rfl) .nil ⟨rfl, rfl⟩ _ (.inl rfl)
    · repeat' (first | exact True.intro | exact rfl | refine ⟨?_, ?_⟩)
    · exact ⟨trivial, trivial⟩
theorem sameI19_spec (l : List Itm) : Spec Tryz.prog 69 [.sl 66 (l.map Itm.R), .sl 66 (l.map Itm.R)] [] (fun v os => v = .b true ∧ os = []) := by
  have qp : ∀ (i : Nat) (h : i < l.length), (!(eqI l[i] l[i])) = false := fun i h => by rw [eqI_self]; rfl
  refine spec_of TtOk [] Tryz.func69 rfl Tryz.ntmps69 (by kernel_rfl) rfl rfl (fun C => ?_) rfl
  repeat' (first | refine Awp.seq ?_ | refine Awp.block ?_ | refine Awp.region ?_ | (refine Ops.nil ?_; show Awp _ _ _ _ _) | (refine Awp.skip ?_; show Awp _ _ _ _ _) | refine o_len rfl TtOk rfl rfl rfl (fun _ => ?_) | (refine o_calm rfl TtOk rfl rfl rfl ?_ (fun _ => ?_); exact nd) | (refine a_condN rfl (fun hc => ?_) (fun hc => ?_)) <;> (try (exfalso; omega)))
  refine Awp.loop (fun i : Nat => ⟨26, [(13, .i .i64 i), (12, .i .i64 l.length), (0, .sl 66 (l.map Itm.R)), (1, .sl 66 (l.map Itm.R))], []⟩) (fun i => i ≤ l.length) (fun i => l.length - i) [] 0 (Nat.zero_le _) ?_ ?_
  · exact ⟨rfl, ⟨sle_i rfl, sle_i rfl, sle_sl rfl, sle_sl rfl, True.intro⟩, .nil⟩
  intro i hi
  by_cases hlt : i < l.length
  · have hi1 : ((i : Int) + 1 = ((i + 1 : Nat) : Int)) := by omega
    have qi := qp i hlt
    repeat' (first | refine Awp.seq ?_ | refine Awp.block ?_ | refine Awp.region ?_ | (refine Ops.nil ?_; show Awp _ _ _ _ _) | (refine Ops.nil ?_; show Exists _) | (refine Awp.skip ?_; show Awp _ _ _ _ _) | (refine o_add rfl rfl rfl rfl ?_ ?_; omega) | (refine o_calm rfl TtOk rfl rfl rfl ?_ (fun _ => ?_); exact nd) | (refine o_index rfl TtOk rfl rfl rfl rfl rfl rfl ?_ (getq_nat ?_) ?_; omega; omega) | refine a_condF rfl ?_ | (refine a_condP rfl (fun hc => ?_) (fun hc => ?_)) <;> (try (exfalso; omega)) | refine a_any 6 [] [] [] [0, 1, 2, 4, 5, 6, 3, 7, 8] (by kernel_rfl) (by kernel_rfl) (by kernel_rfl) rfl rfl rfl ?_ | (refine o_neItm rfl rfl rfl rfl ?_; rw [qi]))
    exact ⟨i + 1, [], hlt, by omega, rfl, ⟨sle_i hi1, sle_i rfl, sle_sl rfl, sle_sl rfl, True.intro⟩, .nil⟩
  · repeat' (first | refine Awp.seq ?_ | refine Awp.region ?_ | (refine Ops.nil ?_; show Awp _ _ _ _ _) | (refine Awp.exit ?_; show Awp _ _ _ _ _) | (refine Awp.ret ?_; show endK _ _ _ _ _) | (refine o_calm rfl TtOk rfl rfl rfl ?_ (fun _ => ?_); exact nd) | (refine a_condP rfl (fun hc => ?_) (fun hc => ?_)) <;> (try (exfalso; omega)))
    exact end_tmp rfl rfl rfl [] [] (CLe.of_eq rfl) .nil ⟨rfl, rfl⟩ _ (.inl rfl)
theorem sameL19_spec (l : List Lef) : Spec Tryz.prog 70 [.sl 65 (l.map Lef.A), .sl 65 (l.map Lef.A)] [] (fun v os => v = .b true ∧ os = []) := by
  have qp : ∀ (i : Nat) (h : i < l.length), (!(eqLf l[i] l[i])) = false := fun i h => by rw [eqLf_self]; rfl
  refine spec_of TtOk [] Tryz.func70 rfl Tryz.ntmps70 (by kernel_rfl) rfl rfl (fun C => ?_) rfl
  repeat' (first | refine Awp.seq ?_ | refine Awp.block ?_ | refine Awp.region ?_ | (refine Ops.nil ?_; show Awp _ _ _ _ _) | (refine Awp.skip ?_; show Awp _ _ _ _ _) | refine o_len rfl TtOk rfl rfl rfl (fun _ => ?_) | (refine o_calm rfl TtOk rfl rfl rfl ?_ (fun _ => ?_); exact nd) | (refine a_condN rfl (fun hc => ?_) (fun hc => ?_)) <;> (try (exfalso; omega)))
  refine Awp.loop (fun i : Nat => ⟨26, [(13, .i .i64 i), (12, .i .i64 l.length), (0, .sl 65 (l.map Lef.A)), (1, .sl 65 (l.map Lef.A))], []⟩) (fun i => i ≤ l.length) (fun i => l.length - i) [] 0 (Nat.zero_le _) ?_ ?_
  · exact ⟨rfl, ⟨sle_i rfl, sle_i rfl, sle_sl rfl, sle_sl rfl, True.intro⟩, .nil⟩
  intro i hi
  by_cases hlt : i < l.length
  · have hi1 : ((i : Int) + 1 = ((i + 1 : Nat) : Int)) := by omega
    have qi := qp i hlt
    repeat' (first | refine Awp.seq ?_ | refine Awp.block ?_ | refine Awp.region ?_ | (refine Ops.nil ?_; show Awp _ _ _ _ _) | (refine Ops.nil ?_; show Exists _) | (refine Awp.skip ?_; show Awp _ _ _ _ _) | (refine o_add rfl rfl rfl rfl ?_ ?_; omega) | (refine o_calm rfl TtOk rfl rfl rfl ?_ (fun _ => ?_); exact nd) | (refine o_index rfl TtOk rfl rfl rfl rfl rfl rfl ?_ (getq_nat ?_) ?_; omega; omega) | refine a_condF rfl ?_ | (refine a_condP rfl (fun hc => ?_) (fun hc => ?_)) <;> (try (exfalso; omega)) | refine a_any 6 [] [] [] [0, 1, 2, 4, 5, 6, 3, 7, 8] (by kernel_rfl) (by kernel_rfl) (by kernel_rfl) rfl rfl rfl ?_ | (refine o_neLefR (p := l[i]) (q := l[i]) rfl rfl rfl rfl ?_; rw [qi]))
    exact ⟨i + 1, [], hlt, by omega, rfl, ⟨sle_i hi1, sle_i rfl, sle_sl rfl, sle_sl rfl, True.intro⟩, .nil⟩
  · repeat' (first | refine Awp.seq ?_ | refine Awp.region ?_ | (refine Ops.nil ?_; show Awp _ _ _ _ _) | (refine Awp.exit ?_; show Awp _ _ _ _ _) | (refine Awp.ret ?_; show endK _ _ _ _ _) | (refine o_calm rfl TtOk rfl rfl rfl ?_ (fun _ => ?_); exact nd) | (refine a_condP rfl (fun hc => ?_) (fun hc => ?_)) <;> (try (exfalso; omega)))
    exact end_tmp rfl rfl rfl [] [] (CLe.of_eq rfl) .nil ⟨rfl, rfl⟩ _ (.inl rfl)
theorem same19_spec (s : Stp) : Spec Tryz.prog 14 [s.R, s.R] [] (fun v os => v = .b true ∧ os = []) := by
  obtain ⟨same, old, new⟩ := s
  have k1 := sameI19_spec same
  have k2 := sameL19_spec old
  have k3 := sameL19_spec new
  show Spec Tryz.prog 14 [.agg [.sl 66 (same.map Itm.R), .sl 65 (old.map Lef.A), .sl 65 (new.map Lef.A)], .agg [.sl 66 (same.map Itm.R), .sl 65 (old.map Lef.A), .sl 65 (new.map Lef.A)]] [] _
  refine spec_of TtOk [] Tryz.func14 rfl Tryz.ntmps14 (by kernel_rfl) rfl rfl (fun C => ?_) rfl
  repeat' (first | refine Awp.seq ?_ | refine Awp.region ?_ | (refine Ops.nil ?_; show Awp _ _ _ _ _) | (refine Awp.ret ?_; show endK _ _ _ _ _) | (refine o_calm rfl TtOk rfl rfl rfl ?_ (fun _ => ?_); exact nd) | refine o_box (d := 2) rfl rfl rfl rfl (fun b2 => ?_) | refine o_box (d := 3) rfl rfl rfl rfl (fun b3 => ?_) | (refine o_call0 rfl (k1) ⟨SLe.of_eq rfl, SLe.of_eq rfl, True.intro⟩ rfl ?_; rintro _ _ ⟨rfl, rfl⟩; refine ⟨rfl, ?_⟩) | (refine o_call0 rfl (k2) ⟨SLe.of_eq rfl, SLe.of_eq rfl, True.intro⟩ rfl ?_; rintro _ _ ⟨rfl, rfl⟩; refine ⟨rfl, ?_⟩) | (refine o_call0 rfl (k3) ⟨SLe.of_eq rfl, SLe.of_eq rfl, True.intro⟩ rfl ?_; rintro _ _ ⟨rfl, rfl⟩; refine ⟨rfl, ?_⟩))
  all_goals exact end_tmp rfl rfl rfl [] [] (CLe.of_eq rfl) .nil ⟨rfl, rfl⟩ _ (.inl rfl)
end Go.Proofs.YtcmgpkibjdbonaaGreat
set_option maxHeartbeats 16000000
set_option maxRecDepth 100000
namespace Go.Proofs.YtcmgpkibjdbonaaGreat
open Go Go.RowKit
theorem stRd_z {s : List UInt8} (h : (stRd s).2 ≠ 0) : (stRd s).1 = stp0 := by
  unfold stRd at h ⊢
  generalize rIs ((RS.open s).below ((2001 : Nat) : Int)).1 [] ((RS.open s).below ((2001 : Nat) : Int)).2 = a at *
  unfold stA at h ⊢
  split
  · rfl
  rename_i h1
  rw [if_neg h1] at h
  generalize lvs a.2.2 = b at *
  unfold stB at h ⊢
  split
  · rfl
  rename_i h1
  rw [if_neg h1] at h
  generalize lvs b.2.2 = c at *
  unfold stC at h ⊢
  split
  · rfl
  rename_i h1
  rw [if_neg h1] at h
  split
  · rfl
  rename_i h1
  rw [if_neg h1] at h
  exact absurd rfl h
theorem stRd_len {s : List UInt8} (hs : s.length ≤ 9223372036854775807) : (stRd s).1.same.length ≤ 3000 ∧ (stRd s).1.old.length ≤ 3000 ∧ (stRd s).1.new.length ≤ 3000 := by
  by_cases h : (stRd s).2 = 0
  · obtain ⟨b1, -, -⟩ := rd_byS hs h
    have g := bys_inv (s := (stRd s).1) (by rw [b1])
    have a := g.l1
    have b := g.l2
    have c := g.l3
    exact ⟨by omega, by omega, by omega⟩
  · rw [stRd_z h]
    exact ⟨Nat.zero_le _, Nat.zero_le _, Nat.zero_le _⟩
theorem stepReads_spec (b : List UInt8) (s0 : Stp) (hb : b.length ≤ 9223372036854775807) (h1 : s0.same.length ≤ 9223372036854775807) (h2 : s0.old.length ≤ 9223372036854775807) (h3 : s0.new.length ≤ 9223372036854775807) (oks : s0.ok) : Spec Tryz.prog 6 [.s b, s0.A] [] (fun v os => v = .b true ∧ os = []) := by
  have f1 : Spec Tryz.prog 37 [.s b, .i .i64 4000] [] (fun v os => v = .s (b.take 4000) ∧ os = []) := cut_spec b 4000 (by decide)
  have f2 := cut19_spec s0 h1 h2 h3
  obtain ⟨ok1, c1, c2, c3⟩ := cutS_ok oks
  have hA0 : s0.A = .agg [.sl 66 (s0.same.map Itm.A), .sl 65 (s0.old.map Lef.A), .sl 65 (s0.new.map Lef.A)] := rfl
  rw [hA0] at f2 ⊢
  have hb2 : (b.take 4000).length ≤ 9223372036854775807 := by rw [List.length_take]; omega
  clear h1 h2 h3 oks hA0
  generalize cutS s0 = s at *
  generalize b.take 4000 = t at *
  have k1 := sbytes_spec s ok1
  have k2 := rbytes19_spec s ok1 (by omega) (by omega) (by omega)
  have k3 := sread_spec t hb2
  have k4 := rread19_spec t hb2
  obtain ⟨m1, m2, m3⟩ := stRd_len hb2
  have k5 := told19_spec s (by omega) (by omega) (by omega)
  have k6 := told19_spec (stRd t).1 m1 (by omega) (by omega)
  have k7 := same19_spec (stRd t).1
  have k8 := awake19_spec
  generalize stRd t = Q at *
  obtain ⟨⟨x, y, z⟩, e⟩ := Q
  have hA : (⟨x, y, z⟩ : Stp).A = .agg [.sl 66 (x.map Itm.A), .sl 65 (y.map Lef.A), .sl 65 (z.map Lef.A)] := rfl
  have hR : (⟨x, y, z⟩ : Stp).R = .agg [.sl 66 (x.map Itm.R), .sl 65 (y.map Lef.A), .sl 65 (z.map Lef.A)] := rfl
  have hsA : s.A = .agg [.sl 66 (s.same.map Itm.A), .sl 65 (s.old.map Lef.A), .sl 65 (s.new.map Lef.A)] := rfl
  have hsR : s.R = .agg [.sl 66 (s.same.map Itm.R), .sl 65 (s.old.map Lef.A), .sl 65 (s.new.map Lef.A)] := rfl
  dsimp only at k3 k4 k6 k7
  rw [hA] at k3 k6
  rw [hR] at k4 k6 k7
  rw [hsA] at f2 k1 k5
  rw [hsR] at k2 k5
  generalize bysS s = B at *
  obtain ⟨u, f⟩ := B
  dsimp only at k1 k2
  clear hA hR hsA hsR m1 m2 m3 c1 c2 c3 ok1 hb2
  refine spec_of TtOk [] Tryz.func6 rfl Tryz.ntmps6 (by kernel_rfl) rfl rfl (fun C => ?_) rfl
  repeat' (first | refine Awp.seq ?_ | refine Awp.region ?_ | (refine Ops.nil ?_; show Awp _ _ _ _ _) | (refine Awp.ret ?_; show endK _ _ _ _ _) | (refine o_calm rfl TtOk rfl rfl rfl ?_ (fun _ => ?_); exact nd) | refine o_alloc (d := 5) rfl TtOk rfl rfl rfl (fun b5 => ?_) | refine o_alloc (d := 7) rfl TtOk rfl rfl rfl (fun b7 => ?_) | refine o_box (d := 3) rfl rfl rfl rfl (fun b3 => ?_) | refine o_store TtOk rfl rfl rfl rfl rfl rfl rfl ⟨rfl, rfl⟩ rfl rfl rfl rfl rfl ?_ | (fail_if_success (refine o_isLit rfl (by first | exact .inl rfl | exact .inr rfl) ?_)); (refine o_splitP rfl rfl (fun hc => ?_) (fun hc => ?_) <;> try (exfalso; omega)) | refine a_any 7 [] [] [] [0, 1, 2, 3, 4, 5, 6, 7, 9, 8, 10, 11, 12, 13, 14, 15, 16, 17, 18, 19, 20, 21, 22] (by kernel_rfl) (by kernel_rfl) (by kernel_rfl) rfl rfl rfl ?_ | (refine o_call0 rfl (f1) ⟨SLe.of_eq rfl, SLe.of_eq rfl, True.intro⟩ rfl ?_; rintro _ _ ⟨rfl, rfl⟩; refine ⟨rfl, ?_⟩) | (refine o_call0 rfl (f2) ⟨SLe.of_eq rfl, True.intro⟩ rfl ?_; rintro _ _ ⟨rfl, rfl⟩; refine ⟨rfl, ?_⟩) | (refine o_call0 rfl (k1) ⟨SLe.of_eq rfl, True.intro⟩ rfl ?_; rintro _ _ ⟨rfl, rfl⟩; refine ⟨rfl, ?_⟩) | (refine o_call0 rfl (k2) ⟨SLe.of_eq rfl, True.intro⟩ rfl ?_; rintro _ _ ⟨rfl, rfl⟩; refine ⟨rfl, ?_⟩) | (refine o_call0 rfl (k3) ⟨SLe.of_eq rfl, True.intro⟩ rfl ?_; rintro _ _ ⟨rfl, rfl⟩; refine ⟨rfl, ?_⟩) | (refine o_call0 rfl (k4) ⟨SLe.of_eq rfl, True.intro⟩ rfl ?_; rintro _ _ ⟨rfl, rfl⟩; refine ⟨rfl, ?_⟩) | (refine o_call0 rfl (k5) ⟨SLe.of_eq rfl, True.intro⟩ rfl ?_; rintro _ _ ⟨rfl, rfl⟩; refine ⟨rfl, ?_⟩) | (refine o_call0 rfl (k6) ⟨SLe.of_eq rfl, True.intro⟩ rfl ?_; rintro _ _ ⟨rfl, rfl⟩; refine ⟨rfl, ?_⟩) | (refine o_call0 rfl (k7) ⟨SLe.of_eq rfl, SLe.of_eq rfl, True.intro⟩ rfl ?_; rintro _ _ ⟨rfl, rfl⟩; refine ⟨rfl, ?_⟩) | (refine o_call0 rfl (k8) True.intro rfl ?_; rintro _ _ ⟨rfl, rfl⟩; refine ⟨rfl, ?_⟩))
  all_goals exact end_tmp (x := .b (u == u)) (r := .b true) rfl rfl rfl [] [] (CLe.of_eq (congrArg AV.b (beq_self_eq_true u))) .nil ⟨rfl, rfl⟩ _ (.inl rfl)
end Go.Proofs.YtcmgpkibjdbonaaGreat
