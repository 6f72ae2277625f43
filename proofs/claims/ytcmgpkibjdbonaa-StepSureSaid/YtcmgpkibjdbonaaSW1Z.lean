/- law19.awake by rules. -/
import Derived.Test.YtcmgpkibjdbonaaPP2Z
import Derived.Test.YtcmgpkibjdbonaaC5
import Derived.Test.YtcmgpkibjdbonaaG14Z
import Derived.Test.YtcmgpkibjdbonaaGHZ
import Derived.Test.YtcmgpkibjdbonaaC4
set_option maxHeartbeats 16000000
set_option maxRecDepth 100000
namespace Go.Proofs.Ytcmgpkibjdbonaa
open Go Go.RowKit
def awB19 : Lef := ⟨labC 128, List.replicate 32 0, 4⟩
def awa19 : List Lef := [lef0]
def awb19 : List Lef := [awB19]
theorem aw19_e : (smk awa19 [] awb19).2 = 0 := by decide +kernel
theorem aw19_s : (smk awa19 [] awb19).1.same.length = 0 := by decide +kernel
theorem aw19_o : (smk awa19 [] awb19).1.old.length = 1 := by decide +kernel
theorem aw19_n : (smk awa19 [] awb19).1.new.length = 2 := by decide +kernel
theorem aw19_4 : insF (smk awa19 [] awb19).1 4 = true := by decide +kernel
theorem aw19_5 : insF (smk awa19 [] awb19).1 5 = false := by decide +kernel
theorem aw19_oka : ∀ x ∈ awa19, x.ok := fun x hx => by rw [List.mem_singleton.1 hx]; exact ⟨rfl, rfl⟩
theorem aw19_okb : ∀ x ∈ awb19, x.ok := fun x hx => by rw [List.mem_singleton.1 hx]; exact ⟨rfl, rfl⟩
theorem awake19_spec : Spec Try.prog 24 [] [] (fun v os => v = .b true ∧ os = []) := by
  have k1 := smake_spec awa19 [] awb19 (by decide) (Nat.zero_le _) (by decide) aw19_oka (fun x hx => by cases hx) aw19_okb
  have hl := mk_leads (gone := []) aw19_oka (fun x hx => by cases hx) aw19_okb (by decide) (by decide) aw19_e
  have hokM : ∀ x ∈ awa19 ++ awb19, x.ok := fun x hx => by
    rcases List.mem_append.1 hx with hx | hx
    · exact aw19_oka x hx
    · exact aw19_okb x hx
  have k2 := of_spec awa19 (by decide) aw19_oka
  have k3 := top_spec (itmsL awa19) (by rw [itmsL_len]; decide) (itmsL_ok aw19_oka)
  have k4 := of_spec (awa19 ++ awb19) (by decide) hokM
  have k5 := top_spec (itmsL (awa19 ++ awb19)) (by rw [itmsL_len]; decide) (itmsL_ok hokM)
  obtain ⟨l1, Sm, Ol, Nw, l2, l3⟩ := hl
  have hb := l3.beh
  have ht := l3.taken (by decide) (by decide)
  rw [beh_nil] at hb ht
  rw [hb] at k5
  rw [show chkI (itmsL awa19) = 0 from l1] at k3
  have hs := aw19_s
  have ho := aw19_o
  have hn := aw19_n
  have h4 := aw19_4
  have h5 := aw19_5
  rw [aw19_e] at k1
  rw [l2] at k1 hs ho hn h4 h5
  dsimp only at hs ho hn
  have oks : (⟨Sm, Ol, Nw⟩ : Stp).ok := ⟨l3.okS, fun x hx => aw19_oka x (l3.inO x hx), l3.okN⟩
  have k6 := scheck_spec (topS (itmsL awa19)) (topS (itmsL (awa19 ++ awb19))) ⟨Sm, Ol, Nw⟩ (by show Sm.length ≤ 50000; omega) (by show Ol.length ≤ 50000; omega) (by show Nw.length ≤ 50000; omega) oks (topS_len _ (itmsL_ok aw19_oka)) (topS_len _ (itmsL_ok hokM))
  rw [ht] at k6
  have k7 := sins_spec ⟨Sm, Ol, Nw⟩ 4 (by show Ol.length ≤ 100000; omega) (by show Nw.length ≤ 100000; omega)
  have k8 := sins_spec ⟨Sm, Ol, Nw⟩ 5 (by show Ol.length ≤ 100000; omega) (by show Nw.length ≤ 100000; omega)
  rw [h4] at k7
  rw [h5] at k8
  have hA : (⟨Sm, Ol, Nw⟩ : Stp).A = .agg [.sl 66 (Sm.map Itm.A), .sl 65 (Ol.map Lef.A), .sl 65 (Nw.map Lef.A)] := rfl
  rw [hA] at k1 k6 k7 k8
  clear l1 l2 l3 hb ht h4 h5 oks hA hokM
  generalize topS (itmsL awa19) = t1 at *
  generalize topS (itmsL (awa19 ++ awb19)) = t2 at *
  generalize itmsL awa19 = I1 at *
  generalize itmsL (awa19 ++ awb19) = I2 at *
  have m1 : awa19.map Lef.A = [.agg [labA (List.replicate 32 0), labA (List.replicate 32 0), .i .i64 0]] := rfl
  have m2 : awb19.map Lef.A = [.agg [labA (labC 128), labA (List.replicate 32 0), .i .i64 4]] := rfl
  have m3 : (awa19 ++ awb19).map Lef.A = [.agg [labA (List.replicate 32 0), labA (List.replicate 32 0), .i .i64 0], .agg [labA (labC 128), labA (List.replicate 32 0), .i .i64 4]] := rfl
  rw [m1, m2] at k1
  rw [m1] at k2
  rw [m3] at k4
  refine spec_of TtOk [] Try.func24 rfl Try.ntmps24 (by kernel_rfl) rfl rfl (fun C => ?_) rfl
  repeat' (first | (refine o_freezeR 30 30 rfl rfl rfl ?_) | (refine o_freezeR 22 22 rfl rfl rfl ?_) | (refine o_freezeR 16 16 rfl rfl rfl ?_) | (refine o_freezeR 14 14 rfl rfl rfl ?_) | refine Awp.seq ?_ | refine Awp.region ?_ | (refine Ops.nil ?_; show Awp _ _ _ _ _) | (refine Awp.ret ?_; show endK _ _ _ _ _) | refine o_len rfl TtOk rfl rfl rfl (fun _ => ?_) | (refine o_calm rfl TtOk rfl rfl rfl ?_ (fun _ => ?_); first | exact True.intro | exact ⟨rfl, rfl, rfl, rfl⟩ | exact ⟨rfl, True.intro⟩ | exact ⟨rfl, rfl⟩ | exact ⟨rfl, rfl, rfl⟩ | exact rfl | exact ⟨fun h0 => by cases h0, rfl⟩ | exact (fun h0 => by cases h0) | exact ⟨rfl, by omega⟩ | exact ⟨Nat.succ_ne_zero _, rfl⟩ | omega) | refine o_alloc (d := 1) rfl TtOk rfl rfl rfl (fun b1 => ?_) | refine o_alloc (d := 2) rfl TtOk rfl rfl rfl (fun b2 => ?_) | refine o_alloc (d := 3) rfl TtOk rfl rfl rfl (fun b3 => ?_) | refine o_alloc (d := 5) rfl TtOk rfl rfl rfl (fun b5 => ?_) | refine o_alloc (d := 7) rfl TtOk rfl rfl rfl (fun b7 => ?_) | refine o_store TtOk rfl rfl rfl rfl rfl rfl rfl ⟨rfl, rfl⟩ rfl rfl rfl rfl rfl ?_ | refine o_build TtOk rfl rfl rfl rfl rfl rfl (by repeat' (first | exact True.intro | exact rfl | refine ⟨?_, ?_⟩)) ?_ | refine o_buildSlice TtOk rfl rfl rfl rfl rfl rfl rfl rfl rfl rfl rfl (by repeat' (first | exact True.intro | exact rfl | refine ⟨?_, ?_⟩)) (fun _ => ?_) | (fail_if_success (refine o_isLit rfl (by first | exact .inl rfl | exact .inr rfl) ?_)); (refine o_splitP rfl rfl (fun hc => ?_) (fun hc => ?_) <;> try (exfalso; omega)) | (refine o_buildArr TtOk rfl ((labC 128).map byA) rfl rfl rfl (by kernel_rfl) rfl rfl ?_) | (refine o_call0 rfl k1 ⟨SLe.of_eq rfl, sle_nilsl, SLe.of_eq rfl, True.intro⟩ rfl ?_; rintro _ _ ⟨rfl, rfl⟩; refine ⟨rfl, ?_⟩) | (refine o_call0 rfl (k2) ⟨SLe.of_eq rfl, True.intro⟩ rfl ?_; rintro _ _ ⟨rfl, rfl⟩; refine ⟨rfl, ?_⟩) | (refine o_call0 rfl (k3) ⟨SLe.of_eq rfl, True.intro⟩ rfl ?_; rintro _ _ ⟨rfl, rfl⟩; refine ⟨rfl, ?_⟩) | (refine o_call0 rfl (k4) ⟨SLe.of_eq rfl, True.intro⟩ rfl ?_; rintro _ _ ⟨rfl, rfl⟩; refine ⟨rfl, ?_⟩) | (refine o_call0 rfl (k5) ⟨SLe.of_eq rfl, True.intro⟩ rfl ?_; rintro _ _ ⟨rfl, rfl⟩; refine ⟨rfl, ?_⟩) | (refine o_call0 rfl (k6) ⟨SLe.of_eq rfl, SLe.of_eq rfl, SLe.of_eq rfl, True.intro⟩ rfl ?_; rintro _ _ ⟨rfl, rfl⟩; refine ⟨rfl, ?_⟩) | (refine o_call0 rfl (k7) ⟨SLe.of_eq rfl, SLe.of_eq rfl, True.intro⟩ rfl ?_; rintro _ _ ⟨rfl, rfl⟩; refine ⟨rfl, ?_⟩) | (refine o_call0 rfl (k8) ⟨SLe.of_eq rfl, SLe.of_eq rfl, True.intro⟩ rfl ?_; rintro _ _ ⟨rfl, rfl⟩; refine ⟨rfl, ?_⟩))
  all_goals exact end_tmp rfl rfl rfl [] [] (CLe.of_eq rfl) .nil ⟨rfl, rfl⟩ _ (.inl rfl)
end Go.Proofs.Ytcmgpkibjdbonaa
set_option maxHeartbeats 16000000
set_option maxRecDepth 100000
namespace Go.Proofs.Ytcmgpkibjdbonaa
open Go Go.RowKit
end Go.Proofs.Ytcmgpkibjdbonaa
set_option maxHeartbeats 4000000
namespace Go.Proofs.Ytcmgpkibjdbonaa
open Go Go.RowKit
/-- What a proof says of a label in the tree of a sum. -/
def chkE (p : Prf) (top lb : List UInt8) : Int := if (ndsF p lb).2 ≠ 0 then (ndsF p lb).2 else if nsum (ndsF p lb).1 = top then 0 else 11
def chkB (p : Prf) (lb : List UInt8) : Bool := p.e == 1 && p.lf.l == lb
/-- The texts of the tree's way, the top first. -/
def wayT (L : List Lef) (lb : List UInt8) : List (List UInt8) := if srtL L = [] then [[18]] else (wayN (L.length + 1) (srtL L) lb).map Nod.txt
def toldT (p : Prf) (lb : List UInt8) : List (List UInt8) := if (ndsF p lb).1 = [] then [[18]] else (ndsF p lb).1.reverse.map Nod.txt
end Go.Proofs.Ytcmgpkibjdbonaa
set_option maxHeartbeats 16000000
set_option maxRecDepth 100000
namespace Go.Proofs.Ytcmgpkibjdbonaa
open Go Go.RowKit
theorem nod_txt_len {n : Nod} (h : n.gd) : n.txt.length ≤ 1000 := by
  cases n with
  | no => exact absurd h (fun h => h)
  | lf x => exact leafB_len x h.1
  | inn a b => exact innB_len a b h.1 h.2.1
theorem clash_spec (a b : List UInt8) (ha : a.length ≤ 1000) (hb : b.length ≤ 1000) : Spec Try.prog 85 [.s a, .s b] [] (fun v os => v = .b (clsh a b) ∧ os = []) := by
  refine spec_of TtOk [] Try.func85 rfl Try.ntmps85 (by kernel_rfl) rfl rfl (fun C => ?_) rfl
  have h1 := sum_spec a (by omega)
  have h2 := sum_spec b (by omega)
  unfold clsh
  have hn : (a != b) = (!(a == b)) := rfl
  rw [hn]
  generalize shaN a = x at *
  generalize shaN b = y at *
  obtain ⟨r, hq⟩ : ∃ r, (a == b) = r := ⟨_, rfl⟩
  rw [hq]
  cases r with
  | true =>
    have hq2 : (!(a == b)) = false := by rw [hq]; rfl
    repeat' (first | (rw [hq2]) | refine Awp.seq ?_ | refine Awp.region ?_ | (refine Ops.nil ?_; show Awp _ _ _ _ _) | (refine Awp.ret ?_; show endK _ _ _ _ _) | refine o_noT rfl rfl rfl ?_ | (refine o_calm rfl TtOk rfl rfl rfl ?_ (fun _ => ?_); first | exact True.intro | exact ⟨rfl, rfl, rfl, rfl⟩ | exact ⟨rfl, True.intro⟩ | exact ⟨rfl, rfl⟩ | exact ⟨rfl, rfl, rfl⟩ | exact rfl | exact ⟨fun h0 => by cases h0, rfl⟩ | exact (fun h0 => by cases h0) | exact ⟨rfl, by omega⟩ | exact ⟨Nat.succ_ne_zero _, rfl⟩ | omega))
    all_goals exact end_tmp rfl rfl rfl [] [] (CLe.of_eq rfl) .nil ⟨rfl, rfl⟩ _ (.inl rfl)
  | false =>
    have hq2 : (!(a == b)) = true := by rw [hq]; rfl
    repeat' (first | (rw [hq2]) | refine Awp.seq ?_ | refine Awp.region ?_ | (refine Ops.nil ?_; show Awp _ _ _ _ _) | (refine Awp.ret ?_; show endK _ _ _ _ _) | (refine o_calm rfl TtOk rfl rfl rfl ?_ (fun _ => ?_); first | exact True.intro | exact ⟨rfl, rfl, rfl, rfl⟩ | exact ⟨rfl, True.intro⟩ | exact ⟨rfl, rfl⟩ | exact ⟨rfl, rfl, rfl⟩ | exact rfl | exact ⟨fun h0 => by cases h0, rfl⟩ | exact (fun h0 => by cases h0) | exact ⟨rfl, by omega⟩ | exact ⟨Nat.succ_ne_zero _, rfl⟩ | omega) | refine o_eqArr8 TtOk rfl rfl rfl rfl rfl rfl (by kernel_rfl) ?_ | (refine o_call0 rfl (h1) ⟨SLe.of_eq rfl, True.intro⟩ rfl ?_; rintro _ _ ⟨rfl, rfl⟩; refine ⟨rfl, ?_⟩) | (refine o_call0 rfl (h2) ⟨SLe.of_eq rfl, True.intro⟩ rfl ?_; rintro _ _ ⟨rfl, rfl⟩; refine ⟨rfl, ?_⟩))
    all_goals exact end_tmp rfl rfl rfl [] [] (CLe.of_eq rfl) .nil ⟨rfl, rfl⟩ _ (.inl rfl)
def exP (L : List Lef) (p : Prf) (lb : List UInt8) : List UInt8 × List UInt8 × Bool := if (ndsF p lb).2 ≠ 0 ∨ mkE L ≠ 0 then ([], [], false) else exC (ndsF p lb).1.reverse (srtL L) lb
theorem rlT_len {l : List Lef} (h : Rsn l) : (rlT l).length ≤ 1000 := by
  by_cases hn : l = []
  · subst hn; show [18].length ≤ 1000; decide
  · obtain ⟨g1, g2, _⟩ := h.node hn
    rw [← g2]; exact nod_txt_len g1
theorem Chain.all {lb : List UInt8} : ∀ {c : List Nod}, Chain lb c → ∀ n ∈ c, n.gd
  | [], h, n, hn => by cases hn
  | [m], h, n, hn => by rw [List.mem_singleton.1 hn]; exact h.1
  | m :: q :: r, h, n, hn => by
    rcases List.mem_cons.1 hn with rfl | hn
    · exact h.1
    · exact Chain.all h.2.2 n hn
end Go.Proofs.Ytcmgpkibjdbonaa
set_option maxHeartbeats 16000000
set_option maxRecDepth 100000
namespace Go.Proofs.Ytcmgpkibjdbonaa
open Go Go.RowKit
theorem tokGI : TOk Try.prog 214 ⟨.func, 1, 8, .nilf⟩ := ⟨by kernel_rfl, by kernel_rfl, Or.inr ⟨_, rfl, by kernel_rfl⟩⟩
def TgI : List (Nat × TI) := [(214, ⟨.func, 1, 8, .nilf⟩)]
theorem TgIOk : TTOk Try.prog TgI := by
  unfold TTOk TgI
  simp only [List.forall_mem_cons, List.not_mem_nil, false_implies, implies_true, and_true]
  exact tokGI
theorem tokGL : TOk Try.prog 215 ⟨.func, 1, 8, .nilf⟩ := ⟨by kernel_rfl, by kernel_rfl, Or.inr ⟨_, rfl, by kernel_rfl⟩⟩
def TgL : List (Nat × TI) := [(215, ⟨.func, 1, 8, .nilf⟩)]
theorem TgLOk : TTOk Try.prog TgL := by
  unfold TTOk TgL
  simp only [List.forall_mem_cons, List.not_mem_nil, false_implies, implies_true, and_true]
  exact tokGL
theorem hold1_spec (x : Itm) : Spec Try.prog 154 ([x.A] ++ []) [] (fun v os => v = labA x.l ∧ os = []) := by
  obtain ⟨n, l, s, t⟩ := x
  show Spec Try.prog 154 [.agg [pfxA n l, labA s, .i .i64 t]] [] _
  refine spec_of TtOk [] Try.func154 rfl Try.ntmps154 (by kernel_rfl) rfl rfl (fun C => ?_) rfl
  repeat' (first | refine Awp.seq ?_ | refine Awp.region ?_ | (refine Ops.nil ?_; show Awp _ _ _ _ _) | (refine Awp.ret ?_; show endK _ _ _ _ _) | (refine o_calm rfl TtOk rfl rfl rfl ?_ (fun _ => ?_); first | exact True.intro | exact ⟨rfl, rfl, rfl, rfl⟩ | exact ⟨rfl, True.intro⟩ | exact ⟨rfl, rfl⟩ | exact ⟨rfl, rfl, rfl⟩ | exact rfl | exact ⟨fun h0 => by cases h0, rfl⟩ | exact (fun h0 => by cases h0) | exact ⟨rfl, by omega⟩ | exact ⟨Nat.succ_ne_zero _, rfl⟩ | omega) | refine o_alloc (d := 2) rfl TtOk rfl rfl rfl (fun b2 => ?_) | refine o_box (d := 1) rfl rfl rfl rfl (fun b1 => ?_) | refine o_store TtOk rfl rfl rfl rfl rfl rfl rfl ⟨rfl, rfl⟩ rfl rfl rfl rfl rfl ?_)
  refine end_all [] [] (labA l) rfl ?_ ?_ (rle_one (CLe.of_eq rfl) rfl) .nil ⟨rfl, rfl⟩ _ (.inl rfl)
  · repeat' (first | exact True.intro | exact rfl | refine ⟨?_, ?_⟩)
  · exact ⟨trivial, trivial⟩
theorem hold2_spec (x : Lef) : Spec Try.prog 155 ([x.A] ++ []) [] (fun v os => v = labA x.l ∧ os = []) := by
  show Spec Try.prog 155 [.agg [labA x.l, labA x.v, .i .i64 x.t]] [] _
  refine spec_of TtOk [] Try.func155 rfl Try.ntmps155 (by kernel_rfl) rfl rfl (fun C => ?_) rfl
  repeat' (first | refine Awp.seq ?_ | refine Awp.region ?_ | (refine Ops.nil ?_; show Awp _ _ _ _ _) | (refine Awp.ret ?_; show endK _ _ _ _ _) | (refine o_calm rfl TtOk rfl rfl rfl ?_ (fun _ => ?_); first | exact True.intro | exact ⟨rfl, rfl, rfl, rfl⟩ | exact ⟨rfl, True.intro⟩ | exact ⟨rfl, rfl⟩ | exact ⟨rfl, rfl, rfl⟩ | exact rfl | exact ⟨fun h0 => by cases h0, rfl⟩ | exact (fun h0 => by cases h0) | exact ⟨rfl, by omega⟩ | exact ⟨Nat.succ_ne_zero _, rfl⟩ | omega) | refine o_alloc (d := 2) rfl TtOk rfl rfl rfl (fun b2 => ?_) | refine o_box (d := 1) rfl rfl rfl rfl (fun b1 => ?_) | refine o_store TtOk rfl rfl rfl rfl rfl rfl rfl ⟨rfl, rfl⟩ rfl rfl rfl rfl rfl ?_)
  refine end_all [] [] (labA x.l) rfl ?_ ?_ (rle_one (CLe.of_eq rfl) rfl) .nil ⟨rfl, rfl⟩ _ (.inl rfl)
  · repeat' (first | exact True.intro | exact rfl | refine ⟨?_, ?_⟩)
  · exact ⟨trivial, trivial⟩
theorem sjoin1_spec (x : Itm) : Spec Try.prog 186 ([x.A] ++ []) [] (fun v os => v = labA x.l ∧ os = []) := by
  obtain ⟨n, l, s, t⟩ := x
  show Spec Try.prog 186 [.agg [pfxA n l, labA s, .i .i64 t]] [] _
  refine spec_of TtOk [] Try.func186 rfl Try.ntmps186 (by kernel_rfl) rfl rfl (fun C => ?_) rfl
  repeat' (first | refine Awp.seq ?_ | refine Awp.region ?_ | (refine Ops.nil ?_; show Awp _ _ _ _ _) | (refine Awp.ret ?_; show endK _ _ _ _ _) | (refine o_calm rfl TtOk rfl rfl rfl ?_ (fun _ => ?_); first | exact True.intro | exact ⟨rfl, rfl, rfl, rfl⟩ | exact ⟨rfl, True.intro⟩ | exact ⟨rfl, rfl⟩ | exact ⟨rfl, rfl, rfl⟩ | exact rfl | exact ⟨fun h0 => by cases h0, rfl⟩ | exact (fun h0 => by cases h0) | exact ⟨rfl, by omega⟩ | exact ⟨Nat.succ_ne_zero _, rfl⟩ | omega) | refine o_alloc (d := 2) rfl TtOk rfl rfl rfl (fun b2 => ?_) | refine o_box (d := 1) rfl rfl rfl rfl (fun b1 => ?_) | refine o_store TtOk rfl rfl rfl rfl rfl rfl rfl ⟨rfl, rfl⟩ rfl rfl rfl rfl rfl ?_)
  refine end_all [] [] (labA l) rfl ?_ ?_ (rle_one (CLe.of_eq rfl) rfl) .nil ⟨rfl, rfl⟩ _ (.inl rfl)
  · repeat' (first | exact True.intro | exact rfl | refine ⟨?_, ?_⟩)
  · exact ⟨trivial, trivial⟩
theorem scutI1_spec (g : Nat) (hg : ∀ x : Itm, Spec Try.prog g ([x.A] ++ []) [] (fun v os => v = labA x.l ∧ os = [])) (n : Nat) (hn : n < 256) (x : Itm) (hx : x.ok) : Spec Try.prog 185 ([x.A] ++ [.cp (.fn (.func g) []), .cp (.i .i64 n)]) [] (fun v os => v = .b (bitL x.l n == 1) ∧ os = []) := by
  have h0 := hg x
  have h1 := bit_spec x.l hx.1 n (by omega) (by omega)
  rw [if_pos (by omega), Int.toNat_natCast] at h1
  have hb := bitL_or x.l n
  generalize bitL x.l n = b at h1 hb
  obtain ⟨m, l, s, t⟩ := x
  dsimp only at h1
  show Spec Try.prog 185 [.agg [pfxA m l, labA s, .i .i64 t], .cp (.fn (.func g) []), .cp (.i .i64 n)] [] _
  refine spec_of TtOk [] Try.func185 rfl Try.ntmps185 (by kernel_rfl) rfl rfl (fun C => ?_) rfl
  repeat' (first | refine Awp.seq ?_ | refine Awp.region ?_ | (refine Ops.nil ?_; show Awp _ _ _ _ _) | (refine Awp.ret ?_; show endK _ _ _ _ _) | (refine o_calm rfl TtOk rfl rfl rfl ?_ (fun _ => ?_); first | exact True.intro | exact ⟨rfl, rfl, rfl, rfl⟩ | exact ⟨rfl, True.intro⟩ | exact ⟨rfl, rfl⟩ | exact ⟨rfl, rfl, rfl⟩ | exact rfl | exact ⟨fun h0 => by cases h0, rfl⟩ | exact (fun h0 => by cases h0) | exact ⟨rfl, by omega⟩ | exact ⟨Nat.succ_ne_zero _, rfl⟩ | omega) | refine o_box (d := 3) rfl rfl rfl rfl (fun b3 => ?_) | refine a_any 1 [] [] [] [0, 1, 3, 2, 4, 5, 6] (by kernel_rfl) (by kernel_rfl) (by kernel_rfl) rfl rfl rfl ?_ | (refine o_callClo rfl rfl rfl h0 ⟨SLe.of_eq rfl, argsLe_same _⟩ rfl rfl ?_; rintro _ _ ⟨rfl, rfl⟩; refine ⟨rfl, ?_⟩) | (refine o_calm rfl TgIOk rfl rfl rfl ?_ (fun _ => ?_); exact ⟨rfl, rfl⟩) | (refine o_call0 rfl (h1) ⟨SLe.of_eq rfl, SLe.of_eq rfl, True.intro⟩ rfl ?_; rintro _ _ ⟨rfl, rfl⟩; refine ⟨rfl, ?_⟩))
  all_goals
    refine end_tmp rfl rfl rfl [] [] (CLe.of_eq ?_) .nil ⟨rfl, rfl⟩ _ (.inl rfl)
    refine congrArg AV.b ?_
    rcases hb with rfl | rfl <;> rfl
theorem scutL1_spec (g : Nat) (hg : ∀ x : Lef, Spec Try.prog g ([x.A] ++ []) [] (fun v os => v = labA x.l ∧ os = [])) (n : Nat) (hn : n < 256) (x : Lef) (hx : x.ok) : Spec Try.prog 187 ([x.A] ++ [.cp (.fn (.func g) []), .cp (.i .i64 n)]) [] (fun v os => v = .b (bitL x.l n == 1) ∧ os = []) := by
  have h0 := hg x
  have h1 := bit_spec x.l hx.1 n (by omega) (by omega)
  rw [if_pos (by omega), Int.toNat_natCast] at h1
  have hb := bitL_or x.l n
  generalize bitL x.l n = b at h1 hb
  obtain ⟨l, w, t⟩ := x
  dsimp only at h1
  show Spec Try.prog 187 [.agg [labA l, labA w, .i .i64 t], .cp (.fn (.func g) []), .cp (.i .i64 n)] [] _
  refine spec_of TtOk [] Try.func187 rfl Try.ntmps187 (by kernel_rfl) rfl rfl (fun C => ?_) rfl
  repeat' (first | refine Awp.seq ?_ | refine Awp.region ?_ | (refine Ops.nil ?_; show Awp _ _ _ _ _) | (refine Awp.ret ?_; show endK _ _ _ _ _) | (refine o_calm rfl TtOk rfl rfl rfl ?_ (fun _ => ?_); first | exact True.intro | exact ⟨rfl, rfl, rfl, rfl⟩ | exact ⟨rfl, True.intro⟩ | exact ⟨rfl, rfl⟩ | exact ⟨rfl, rfl, rfl⟩ | exact rfl | exact ⟨fun h0 => by cases h0, rfl⟩ | exact (fun h0 => by cases h0) | exact ⟨rfl, by omega⟩ | exact ⟨Nat.succ_ne_zero _, rfl⟩ | omega) | refine o_box (d := 3) rfl rfl rfl rfl (fun b3 => ?_) | refine a_any 1 [] [] [] [0, 1, 3, 2, 4, 5, 6] (by kernel_rfl) (by kernel_rfl) (by kernel_rfl) rfl rfl rfl ?_ | (refine o_callClo rfl rfl rfl h0 ⟨SLe.of_eq rfl, argsLe_same _⟩ rfl rfl ?_; rintro _ _ ⟨rfl, rfl⟩; refine ⟨rfl, ?_⟩) | (refine o_calm rfl TgLOk rfl rfl rfl ?_ (fun _ => ?_); exact ⟨rfl, rfl⟩) | (refine o_call0 rfl (h1) ⟨SLe.of_eq rfl, SLe.of_eq rfl, True.intro⟩ rfl ?_; rintro _ _ ⟨rfl, rfl⟩; refine ⟨rfl, ?_⟩))
  all_goals
    refine end_tmp rfl rfl rfl [] [] (CLe.of_eq ?_) .nil ⟨rfl, rfl⟩ _ (.inl rfl)
    refine congrArg AV.b ?_
    rcases hb with rfl | rfl <;> rfl
theorem scutI_spec (g : Nat) (hg : ∀ x : Itm, Spec Try.prog g ([x.A] ++ []) [] (fun v os => v = labA x.l ∧ os = [])) (n : Nat) (hn : n < 256) (l : List Itm) (hok : ∀ x ∈ l, x.ok) (hl : l.length ≤ 100000) (ha : l.any (fun x => bitL x.l n == 1) = true) : Spec Try.prog 156 [.sl 66 (l.map Itm.A), .i .i64 n, .fn (.func g) []] [] (fun v os => v = .i .i64 (l.findIdx (fun x => bitL x.l n == 1) : Nat) ∧ os = []) := by
  have hx := ixI_spec l 185 [.cp (.fn (.func g) []), .cp (.i .i64 n)] rfl (fun x => bitL x.l n == 1) (fun x hx => scutI1_spec g hg n hn x (hok x hx)) hl
  rw [if_pos ha] at hx
  generalize l.findIdx (fun x => bitL x.l n == 1) = i at *
  refine spec_of TtOk [] Try.func156 rfl Try.ntmps156 (by kernel_rfl) rfl rfl (fun C => ?_) rfl
  repeat' (first | (refine a_freezeV 5 5 rfl rfl rfl ?_) | (refine a_freezeV 4 4 rfl rfl rfl ?_) | refine Awp.seq ?_ | refine Awp.region ?_ | (refine Ops.nil ?_; show Awp _ _ _ _ _) | (refine Awp.skip ?_; show Awp _ _ _ _ _) | (refine Awp.ret ?_; show endK _ _ _ _ _) | (refine o_calm rfl TtOk rfl rfl rfl ?_ (fun _ => ?_); first | exact True.intro | exact ⟨rfl, rfl, rfl, rfl⟩ | exact ⟨rfl, True.intro⟩ | exact ⟨rfl, rfl⟩ | exact ⟨rfl, rfl, rfl⟩ | exact rfl | exact ⟨fun h0 => by cases h0, rfl⟩ | exact (fun h0 => by cases h0) | exact ⟨rfl, by omega⟩ | exact ⟨Nat.succ_ne_zero _, rfl⟩ | omega) | refine o_box (d := 4) rfl rfl rfl rfl (fun b4 => ?_) | refine o_box (d := 5) rfl rfl rfl rfl (fun b5 => ?_) | refine a_condF rfl ?_ | (refine o_makeFunc2 rfl rfl rfl rfl rfl rfl rfl rfl ?_) | (refine o_call0 rfl (hx) ⟨SLe.of_eq rfl, SLe.of_eq rfl, True.intro⟩ rfl ?_; rintro _ _ ⟨rfl, rfl⟩; refine ⟨rfl, ?_⟩))
  all_goals exact end_tmp rfl rfl rfl [] [] (CLe.of_eq rfl) .nil ⟨rfl, rfl⟩ _ (.inl rfl)
theorem scutL_spec (g : Nat) (hg : ∀ x : Lef, Spec Try.prog g ([x.A] ++ []) [] (fun v os => v = labA x.l ∧ os = [])) (n : Nat) (hn : n < 256) (l : List Lef) (hok : ∀ x ∈ l, x.ok) (hl : l.length ≤ 100000) (ha : l.any (fun x => bitL x.l n == 1) = true) : Spec Try.prog 158 [.sl 65 (l.map Lef.A), .i .i64 n, .fn (.func g) []] [] (fun v os => v = .i .i64 (l.findIdx (fun x => bitL x.l n == 1) : Nat) ∧ os = []) := by
  have hx := ixL_spec l 187 [.cp (.fn (.func g) []), .cp (.i .i64 n)] rfl (fun x => bitL x.l n == 1) (fun x hx => scutL1_spec g hg n hn x (hok x hx)) hl
  rw [if_pos ha] at hx
  generalize l.findIdx (fun x => bitL x.l n == 1) = i at *
  refine spec_of TtOk [] Try.func158 rfl Try.ntmps158 (by kernel_rfl) rfl rfl (fun C => ?_) rfl
  repeat' (first | (refine a_freezeV 5 5 rfl rfl rfl ?_) | (refine a_freezeV 4 4 rfl rfl rfl ?_) | refine Awp.seq ?_ | refine Awp.region ?_ | (refine Ops.nil ?_; show Awp _ _ _ _ _) | (refine Awp.skip ?_; show Awp _ _ _ _ _) | (refine Awp.ret ?_; show endK _ _ _ _ _) | (refine o_calm rfl TtOk rfl rfl rfl ?_ (fun _ => ?_); first | exact True.intro | exact ⟨rfl, rfl, rfl, rfl⟩ | exact ⟨rfl, True.intro⟩ | exact ⟨rfl, rfl⟩ | exact ⟨rfl, rfl, rfl⟩ | exact rfl | exact ⟨fun h0 => by cases h0, rfl⟩ | exact (fun h0 => by cases h0) | exact ⟨rfl, by omega⟩ | exact ⟨Nat.succ_ne_zero _, rfl⟩ | omega) | refine o_box (d := 4) rfl rfl rfl rfl (fun b4 => ?_) | refine o_box (d := 5) rfl rfl rfl rfl (fun b5 => ?_) | refine a_condF rfl ?_ | (refine o_makeFunc2 rfl rfl rfl rfl rfl rfl rfl rfl ?_) | (refine o_call0 rfl (hx) ⟨SLe.of_eq rfl, SLe.of_eq rfl, True.intro⟩ rfl ?_; rintro _ _ ⟨rfl, rfl⟩; refine ⟨rfl, ?_⟩))
  all_goals exact end_tmp rfl rfl rfl [] [] (CLe.of_eq rfl) .nil ⟨rfl, rfl⟩ _ (.inl rfl)
end Go.Proofs.Ytcmgpkibjdbonaa
set_option maxHeartbeats 16000000
set_option maxRecDepth 100000
namespace Go.Proofs.Ytcmgpkibjdbonaa
open Go Go.RowKit
theorem sjoin_spec : ∀ (k : Nat) (l : List Itm), l ≠ [] → l.length ≤ k → l.length ≤ 100000 → RiseI l → (∀ x ∈ l, x.ok) → Spec Try.prog 157 [.sl 66 (l.map Itm.A)] [] (fun v os => v = (joinF k l).A ∧ os = [])
  | 0, l, hn, hl, _, _, _ => absurd (List.length_eq_zero_iff.1 (by omega)) hn
  | k + 1, l, hn, hl, hl2, hr, hok => by
    have hp : 0 < l.length := List.length_pos_iff.2 hn
    unfold joinF
    refine spec_of TtOk [] Try.func157 rfl Try.ntmps157 (by kernel_rfl) rfl rfl (fun C => ?_) rfl
    by_cases h1 : l.length = 1
    · rw [if_pos h1, headD_get hp]
      repeat' (first | refine Awp.seq ?_ | refine Awp.region ?_ | (refine Ops.nil ?_; show Awp _ _ _ _ _) | (refine Awp.ret ?_; show endK _ _ _ _ _) | refine o_len rfl TtOk rfl rfl rfl (fun _ => ?_) | (refine o_calm rfl TtOk rfl rfl rfl ?_ (fun _ => ?_); first | exact True.intro | exact ⟨rfl, rfl, rfl, rfl⟩ | exact ⟨rfl, True.intro⟩ | exact ⟨rfl, rfl⟩ | exact ⟨rfl, rfl, rfl⟩ | exact rfl | exact ⟨fun h0 => by cases h0, rfl⟩ | exact (fun h0 => by cases h0) | exact ⟨rfl, by omega⟩ | exact ⟨Nat.succ_ne_zero _, rfl⟩ | omega) | refine o_alloc (d := 2) rfl TtOk rfl rfl rfl (fun b2 => ?_) | refine o_store TtOk rfl rfl rfl rfl rfl rfl rfl ⟨rfl, rfl⟩ rfl rfl rfl rfl rfl ?_ | (refine o_index rfl TtOk rfl rfl rfl rfl rfl rfl ?_ (getq_nat ?_) ?_; omega; omega) | (refine a_condP rfl (fun hc => ?_) (fun hc => ?_)) <;> (try (exfalso; omega)))
      refine end_all [] [] (l[0].A) rfl ?_ ?_ (rle_one (CLe.of_eq rfl) rfl) .nil ⟨rfl, rfl⟩ _ (.inl rfl)
      · repeat' (first | exact True.intro | exact rfl | refine ⟨?_, ?_⟩)
      · exact ⟨trivial, trivial⟩
    rw [if_neg h1]
    obtain ⟨hf, s1, s2, s3⟩ := spl_ok hr hok (by omega)
    have hj : l.length - 1 < l.length := by omega
    have hcm := bcommon_spec l[0].l l[l.length - 1].l (hok _ (List.getElem_mem hp)).1 (hok _ (List.getElem_mem hj)).1
    have hfe : comL l[0].l l[l.length - 1].l = frkI l := by unfold frkI; rw [headD_get hp, lastD_get hp]
    rw [hfe] at hcm
    have hx := scutI_spec 186 sjoin1_spec (frkI l) hf l hok hl2 s3
    have hsp : l.findIdx (fun x => bitL x.l (frkI l) == 1) = splI l := rfl
    rw [hsp] at hx
    have n1 : l.take (splI l) ≠ [] := take_ne s1 s2
    have n2 : l.drop (splI l) ≠ [] := drop_ne s2
    have r1 : RiseI (l.take (splI l)) := hr.sublist (List.take_sublist ..)
    have r2 : RiseI (l.drop (splI l)) := hr.sublist (List.drop_sublist ..)
    have k1 : ∀ x ∈ l.take (splI l), x.ok := fun x hx => hok x (List.mem_of_mem_take hx)
    have k2 : ∀ x ∈ l.drop (splI l), x.ok := fun x hx => hok x (List.mem_of_mem_drop hx)
    have l1 : (l.take (splI l)).length ≤ k := by rw [List.length_take]; omega
    have l2 : (l.drop (splI l)).length ≤ k := by rw [List.length_drop]; omega
    have j1 := sjoin_spec k (l.take (splI l)) n1 l1 (by rw [List.length_take]; omega) r1 k1
    have j2 := sjoin_spec k (l.drop (splI l)) n2 l2 (by rw [List.length_drop]; omega) r2 k2
    have i1 := iitem_spec _ _ (joinF_ok k _ n1 l1 r1 k1) (joinF_ok k _ n2 l2 r2 k2)
    generalize joinF k (l.take (splI l)) = x at j1 i1 ⊢
    generalize joinF k (l.drop (splI l)) = y at j2 i1 ⊢
    clear r1 r2 k1 k2 l1 l2 n1 n2 hsp s3 hfe
    generalize frkI l = c at hcm hx hf
    generalize splI l = i at s1 s2 hx j1 j2
    have ht : l.drop i = (l.take l.length).drop i := by rw [List.take_length]
    rw [ht] at j2
    repeat' (first | refine Awp.seq ?_ | refine Awp.region ?_ | (refine Ops.nil ?_; show Awp _ _ _ _ _) | (refine Awp.skip ?_; show Awp _ _ _ _ _) | (refine Awp.ret ?_; show endK _ _ _ _ _) | (refine o_sub rfl rfl rfl rfl ?_ ?_; omega) | refine o_len rfl TtOk rfl rfl rfl (fun _ => ?_) | (refine o_calm rfl TtOk rfl rfl rfl ?_ (fun _ => ?_); first | exact True.intro | exact ⟨rfl, rfl, rfl, rfl⟩ | exact ⟨rfl, True.intro⟩ | exact ⟨rfl, rfl⟩ | exact ⟨rfl, rfl, rfl⟩ | exact rfl | exact ⟨fun h0 => by cases h0, rfl⟩ | exact (fun h0 => by cases h0) | exact ⟨rfl, by omega⟩ | exact ⟨Nat.succ_ne_zero _, rfl⟩ | omega) | refine o_alloc (d := 2) rfl TtOk rfl rfl rfl (fun b2 => ?_) | refine o_store TtOk rfl rfl rfl rfl rfl rfl rfl ⟨rfl, rfl⟩ rfl rfl rfl rfl rfl ?_ | (refine o_index rfl TtOk rfl rfl rfl rfl rfl rfl ?_ (getq_nat ?_) ?_; omega; omega) | refine o_build TtOk rfl rfl rfl rfl rfl rfl (by repeat' (first | exact True.intro | exact rfl | refine ⟨?_, ?_⟩)) ?_ | (refine a_condP rfl (fun hc => ?_) (fun hc => ?_)) <;> (try (exfalso; omega)) | refine a_any 3 [3] [15, 23] [] [0, 1, 2, 3, 5, 6, 7, 8, 9, 10, 11, 4, 12, 13, 14] (by kernel_rfl) (by kernel_rfl) (by kernel_rfl) rfl rfl rfl ?_ | refine a_any 5 [2] [] [] [0, 1, 2, 4, 5, 6, 3, 7, 8, 9, 10] (by kernel_rfl) (by kernel_rfl) (by kernel_rfl) rfl rfl rfl ?_ | (refine o_sliceSl TtOk rfl 0 i rfl rfl rfl rfl rfl bnd_none (bnd_some rfl rfl) (by omega) (by omega) ?_) | (refine o_sliceSl TtOk rfl i l.length rfl rfl rfl rfl rfl (bnd_some rfl rfl) bnd_none (by omega) (by omega) ?_) | (refine o_index rfl TtOk rfl rfl rfl rfl rfl rfl ?_ (getq_as (l.length-1) ?_ hj) ?_; omega; omega) | (refine o_call0 rfl (hcm) ⟨SLe.of_eq rfl, SLe.of_eq rfl, True.intro⟩ rfl ?_; rintro _ _ ⟨rfl, rfl⟩; refine ⟨rfl, ?_⟩) | (refine o_call0 rfl (hx) ⟨SLe.of_eq rfl, SLe.of_eq rfl, SLe.of_eq rfl, True.intro⟩ rfl ?_; rintro _ _ ⟨rfl, rfl⟩; refine ⟨rfl, ?_⟩) | (refine o_call0 rfl (j1) ⟨SLe.of_eq rfl, True.intro⟩ rfl ?_; rintro _ _ ⟨rfl, rfl⟩; refine ⟨rfl, ?_⟩) | (refine o_call0 rfl (j2) ⟨SLe.of_eq rfl, True.intro⟩ rfl ?_; rintro _ _ ⟨rfl, rfl⟩; refine ⟨rfl, ?_⟩) | (refine o_call0 rfl (i1) ⟨SLe.of_eq rfl, True.intro⟩ rfl ?_; rintro _ _ ⟨rfl, rfl⟩; refine ⟨rfl, ?_⟩))
    all_goals
      refine end_all [] [] (innI x y).A rfl ?_ ?_ (rle_one (CLe.of_eq rfl) rfl) .nil ⟨rfl, rfl⟩ _ (.inl rfl)
      · repeat' (first | exact True.intro | exact rfl | refine ⟨?_, ?_⟩)
      · exact ⟨trivial, trivial⟩
theorem srtL_rise {l : List Lef} (h : Rsn l) : srtL l = l := sortS_id woL (by
  have := h.rise
  unfold RiseI at this
  rw [List.pairwise_map] at this
  exact this.imp (fun {a b} hab => by
    show decide (cmpS b.l a.l < 0) = false
    exact decide_eq_false (fun h2 => by
      have h : cmpS a.l b.l < 0 := hab
      have := cmp_trans h h2
      rw [cmpS_eq] at this; omega)))
theorem cvI_rise {l : List Lef} (h : Rsn l) (hn : l ≠ []) (hl : l.length ≤ 2000) : cvI l [] = [jnI l] := by
  have := cvI_side (L := l) (p := fun _ => true) h.ok (T := l) (by rw [List.filter_eq_self.2 (fun _ _ => rfl)]; exact srtL_rise h) h hn hl
  rwa [List.filter_eq_self.2 (fun _ _ => rfl)] at this
theorem swhole_spec (l : List Lef) (h : Rsn l) (hn : l ≠ []) (hl : l.length ≤ 2000) : Spec Try.prog 159 [.sl 65 (l.map Lef.A)] [] (fun v os => v = (jnI l).A ∧ os = []) := by
  have h1 := cover_spec l [] (by omega) h.ok (Nat.zero_le _) (fun x hx => by cases hx)
  rw [cvI_rise h hn hl] at h1
  generalize cvT l [] = t at *
  generalize cvE l = e at *
  generalize jnI l = x at *
  refine spec_of TtOk [] Try.func159 rfl Try.ntmps159 (by kernel_rfl) rfl rfl (fun C => ?_) rfl
  repeat' (first | refine Awp.seq ?_ | refine Awp.region ?_ | (refine Ops.nil ?_; show Awp _ _ _ _ _) | (refine Awp.ret ?_; show endK _ _ _ _ _) | (refine o_calm rfl TtOk rfl rfl rfl ?_ (fun _ => ?_); first | exact True.intro | exact ⟨rfl, rfl, rfl, rfl⟩ | exact ⟨rfl, True.intro⟩ | exact ⟨rfl, rfl⟩ | exact ⟨rfl, rfl, rfl⟩ | exact rfl | exact ⟨fun h0 => by cases h0, rfl⟩ | exact (fun h0 => by cases h0) | exact ⟨rfl, by omega⟩ | exact ⟨Nat.succ_ne_zero _, rfl⟩ | omega) | refine o_alloc (d := 2) rfl TtOk rfl rfl rfl (fun b2 => ?_) | refine o_store TtOk rfl rfl rfl rfl rfl rfl rfl ⟨rfl, rfl⟩ rfl rfl rfl rfl rfl ?_ | (refine o_call0 rfl h1 ⟨SLe.of_eq rfl, sle_nilsl, True.intro⟩ rfl ?_; rintro _ _ ⟨rfl, rfl⟩; refine ⟨rfl, ?_⟩) | (refine o_index rfl TtOk rfl rfl rfl rfl rfl rfl ?_ (getq_as 0 ?_ (by exact Nat.zero_lt_one)) ?_; omega; omega))
  all_goals
    refine end_all [] [] x.A rfl ?_ ?_ (rle_one (CLe.of_eq rfl) rfl) .nil ⟨rfl, rfl⟩ _ (.inl rfl)
    · repeat' (first | exact True.intro | exact rfl | refine ⟨?_, ?_⟩)
    · exact ⟨trivial, trivial⟩
/-- The leaf of a label among leaves. -/
def hasLf (l : List Lef) (x : List UInt8) : Bool := l.any (fun y => y.l == x)
def fndL (l : List Lef) (x : List UInt8) : Lef := (l.find? (fun y => y.l == x)).getD lef0
theorem sfind1_spec (x : Lef) (g : List UInt8) : Spec Try.prog 152 ([x.A] ++ [.cp (labA g)]) [] (fun v os => v = .b (x.l == g) ∧ os = []) := by
  show Spec Try.prog 152 [.agg [labA x.l, labA x.v, .i .i64 x.t], .cp (labA g)] [] _
  refine spec_of TtOk [] Try.func152 rfl Try.ntmps152 (by kernel_rfl) rfl rfl (fun C => ?_) rfl
  repeat' (first | refine Awp.seq ?_ | refine Awp.region ?_ | (refine Ops.nil ?_; show Awp _ _ _ _ _) | (refine Awp.ret ?_; show endK _ _ _ _ _) | (refine o_calm rfl TtOk rfl rfl rfl ?_ (fun _ => ?_); first | exact True.intro | exact ⟨rfl, rfl, rfl, rfl⟩ | exact ⟨rfl, True.intro⟩ | exact ⟨rfl, rfl⟩ | exact ⟨rfl, rfl, rfl⟩ | exact rfl | exact ⟨fun h0 => by cases h0, rfl⟩ | exact (fun h0 => by cases h0) | exact ⟨rfl, by omega⟩ | exact ⟨Nat.succ_ne_zero _, rfl⟩ | omega) | refine o_box (d := 2) rfl rfl rfl rfl (fun b2 => ?_) | refine o_eqArr8 TtOk rfl rfl rfl rfl rfl rfl (by kernel_rfl) ?_)
  exact end_tmp rfl rfl rfl [] [] (CLe.of_eq rfl) .nil ⟨rfl, rfl⟩ _ (.inl rfl)
theorem sfind_spec (l : List Lef) (g : List UInt8) (hl : l.length ≤ 100000) : Spec Try.prog 96 [.sl 65 (l.map Lef.A), labA g] [] (fun v os => v = .tup [(fndL l g).A, .b (hasLf l g)] ∧ os = []) := by
  have hx := ixL_spec l 152 [.cp (labA g)] rfl (fun y => y.l == g) (fun x _ => sfind1_spec x g) hl
  refine spec_of TtOk [] Try.func96 rfl Try.ntmps96 (by kernel_rfl) rfl rfl (fun C => ?_) rfl
  by_cases hm : l.any (fun y => y.l == g) = true
  · rw [if_pos hm] at hx
    have hlt := List.findIdx_lt_length_of_exists (List.any_eq_true.1 hm)
    have hf : fndL l g = l[l.findIdx (fun y => y.l == g)] := by
      unfold fndL
      rw [List.find?_eq_getElem?_findIdx, List.getElem?_eq_getElem hlt]; rfl
    have hh : hasLf l g = true := hm
    rw [hf, hh]
    generalize l.findIdx (fun y => y.l == g) = i at *
    repeat' (first | (refine a_freezeV 3 3 rfl rfl rfl ?_) | refine Awp.seq ?_ | refine Awp.region ?_ | (refine Ops.nil ?_; show Awp _ _ _ _ _) | (refine Awp.skip ?_; show Awp _ _ _ _ _) | (refine Awp.ret ?_; show endK _ _ _ _ _) | (refine o_calm rfl TtOk rfl rfl rfl ?_ (fun _ => ?_); first | exact True.intro | exact ⟨rfl, rfl, rfl, rfl⟩ | exact ⟨rfl, True.intro⟩ | exact ⟨rfl, rfl⟩ | exact ⟨rfl, rfl, rfl⟩ | exact rfl | exact ⟨fun h0 => by cases h0, rfl⟩ | exact (fun h0 => by cases h0) | exact ⟨rfl, by omega⟩ | exact ⟨Nat.succ_ne_zero _, rfl⟩ | omega) | refine o_alloc (d := 4) rfl TtOk rfl rfl rfl (fun b4 => ?_) | refine o_box (d := 3) rfl rfl rfl rfl (fun b3 => ?_) | refine o_store TtOk rfl rfl rfl rfl rfl rfl rfl ⟨rfl, rfl⟩ rfl rfl rfl rfl rfl ?_ | (refine o_index rfl TtOk rfl rfl rfl rfl rfl rfl ?_ (getq_nat ?_) ?_; omega; omega) | refine a_condF rfl ?_ | (refine o_makeFunc1 rfl rfl rfl rfl rfl ?_) | (refine o_call0 rfl (hx) ⟨SLe.of_eq rfl, SLe.of_eq rfl, True.intro⟩ rfl ?_; rintro _ _ ⟨rfl, rfl⟩; refine ⟨rfl, ?_⟩))
    all_goals
      refine end_all [] [] (.tup [l[i].A, .b true]) rfl ?_ ?_ (rle_tup2 (CLe.of_eq rfl) (CLe.of_eq rfl) rfl rfl) .nil ⟨rfl, rfl⟩ _ (.inl rfl)
      · repeat' (first | exact True.intro | exact rfl | refine ⟨?_, ?_⟩)
      · exact ⟨trivial, trivial, trivial⟩
  · rw [if_neg hm] at hx
    have hf : fndL l g = lef0 := by
      unfold fndL
      rw [List.find?_eq_none.2 (fun x hx hc => hm (List.any_eq_true.2 ⟨x, hx, by simpa using hc⟩))]; rfl
    have hh : hasLf l g = false := by
      unfold hasLf
      revert hm
      cases l.any (fun y => y.l == g) <;> simp
    rw [hf, hh]
    repeat' (first | (refine a_freezeV 3 3 rfl rfl rfl ?_) | refine Awp.seq ?_ | refine Awp.region ?_ | (refine Ops.nil ?_; show Awp _ _ _ _ _) | (refine Awp.ret ?_; show endK _ _ _ _ _) | (refine o_calm rfl TtOk rfl rfl rfl ?_ (fun _ => ?_); first | exact True.intro | exact ⟨rfl, rfl, rfl, rfl⟩ | exact ⟨rfl, True.intro⟩ | exact ⟨rfl, rfl⟩ | exact ⟨rfl, rfl, rfl⟩ | exact rfl | exact ⟨fun h0 => by cases h0, rfl⟩ | exact (fun h0 => by cases h0) | exact ⟨rfl, by omega⟩ | exact ⟨Nat.succ_ne_zero _, rfl⟩ | omega) | refine o_alloc (d := 4) rfl TtOk rfl rfl rfl (fun b4 => ?_) | refine o_box (d := 3) rfl rfl rfl rfl (fun b3 => ?_) | refine o_store TtOk rfl rfl rfl rfl rfl rfl rfl ⟨rfl, rfl⟩ rfl rfl rfl rfl rfl ?_ | refine o_build TtOk rfl rfl rfl rfl rfl rfl (by repeat' (first | exact True.intro | exact rfl | refine ⟨?_, ?_⟩)) ?_ | refine a_condT rfl ?_ | (refine o_makeFunc1 rfl rfl rfl rfl rfl ?_) | (refine o_call0 rfl (hx) ⟨SLe.of_eq rfl, SLe.of_eq rfl, True.intro⟩ rfl ?_; rintro _ _ ⟨rfl, rfl⟩; refine ⟨rfl, ?_⟩))
    all_goals
      refine end_all [] [] (.tup [lef0.A, .b false]) rfl ?_ ?_ (rle_tup2 (CLe.of_eq rfl) (CLe.of_eq rfl) rfl rfl) .nil ⟨rfl, rfl⟩ _ (.inl rfl)
      · repeat' (first | exact True.intro | exact rfl | refine ⟨?_, ?_⟩)
      · exact ⟨trivial, trivial, trivial⟩
end Go.Proofs.Ytcmgpkibjdbonaa
