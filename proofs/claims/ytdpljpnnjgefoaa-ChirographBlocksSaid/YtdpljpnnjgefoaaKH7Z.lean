/- law03.Cut, law08.Few, bloom.Filter.Bytes, bloom.Read, ref02.Number, Text by rules. -/
import Derived.Test.YtdpljpnnjgefoaaKH5
import Derived.Test.YtdpljpnnjgefoaaKWZ
import Derived.Test.YtdpljpnnjgefoaaKR2Z
set_option maxHeartbeats 4000000
namespace Go.Proofs.Ytdpljpnnjgefoaa
open Go Go.RowKit
def few8 (l : List (List UInt8)) (n : Nat) : List (List UInt8) := (l.take n).map (fun s => s.take 100)
def fbytes (p : Int) (b : List UInt8) : List UInt8 × Int := if goodB p (bitsOf b).length then (numBytes p.toNat ++ txB b, 0) else ([], 3)
theorem wdone_good {p : Int} {b : List UInt8} (hg : goodB p (bitsOf b).length = true) : (((⟨[], 0⟩ : WS).number p).text b).done = (numBytes p.toNat ++ txB b, 0) := by
  rw [bitsOf_len, goodB_iff] at hg
  have h1 := numBytes_len p.toNat (by omega)
  have h2 := numBytes_len b.length (by omega)
  have e1 : (⟨[], 0⟩ : WS).number p = ⟨numBytes p.toNat, 0⟩ := by unfold WS.number; rw [if_neg (by omega)]; rfl
  have e2 : (⟨numBytes p.toNat, 0⟩ : WS).text b = ⟨numBytes p.toNat ++ txB b, 0⟩ := by
    unfold WS.text WS.number; rw [if_neg (by omega), if_neg (by omega)]
    unfold WS.put txB; rw [List.append_assoc]; rfl
  rw [e1, e2]
  unfold WS.done
  have hl : (numBytes p.toNat ++ txB b).length ≤ 65536 := by unfold txB; rw [List.length_append, List.length_append]; omega
  rw [if_neg (fun h => h rfl), if_neg (by show ¬ 65536 < (numBytes p.toNat ++ txB b).length; omega)]
theorem fbytes_spec (p : Int) (b : List UInt8) (hb : b.length ≤ 1000000000) : Spec Try.prog 30 [flA p b] [] (fun v os => v = .tup [.s (fbytes p b).1, .i .i64 (fbytes p b).2] ∧ os = []) := by
  refine spec_of TtOk [] Try.func30 rfl Try.ntmps30 (by kernel_rfl) rfl rfl (fun C => ?_) rfl
  have hgd := good_spec p b (by omega)
  cases hg : goodB p (bitsOf b).length
  · have hF : fbytes p b = ([], 3) := by unfold fbytes; rw [hg]; rfl
    rw [hF]
    rw [hg] at hgd
    repeat' (first | refine Awp.seq ?_ | refine Awp.region ?_ | (refine Ops.nil ?_; show Awp _ _ _ _ _) | (refine Ops.nil ?_; show Exists _) | (refine Ops.nil ?_; show endK _ _ _ _ _) | (refine Awp.skip ?_; show Awp _ _ _ _ _) | (refine Awp.skip ?_; show endK _ _ _ _ _) | (refine Awp.skip ?_; show Exists _) | (refine Awp.ret ?_; show endK _ _ _ _ _) | refine o_convB rfl TtOk rfl rfl rfl rfl ?_ | (refine o_conv64 rfl TtOk rfl rfl rfl rfl ?_ ?_; omega) | (refine o_calm rfl TtOk rfl rfl rfl ?_ (fun _ => ?_); first | exact True.intro | exact ⟨rfl, rfl, rfl, rfl⟩ | exact ⟨rfl, True.intro⟩ | exact ⟨rfl, rfl⟩ | exact ⟨rfl, rfl, rfl⟩ | exact rfl | exact ⟨fun h0 => by cases h0, rfl⟩ | exact (fun h0 => by cases h0) | exact ⟨rfl, by omega⟩ | exact ⟨Nat.succ_ne_zero _, rfl⟩ | omega) | refine o_alloc (d := 4) rfl TtOk rfl rfl rfl (fun b4 => ?_) | refine o_box (d := 1) rfl rfl rfl rfl (fun b1 => ?_) | refine o_toBytes TtOk rfl rfl rfl rfl rfl rfl ?_ | refine a_condT rfl ?_ | refine a_condF rfl ?_ | (refine a_condP rfl (fun hc => ?_) (fun hc => ?_)) <;> (try (exfalso; omega)) | (refine a_condI rfl (fun hc => ?_) (fun hc => ?_)) <;> (try (exfalso; omega)) | (refine a_condN rfl (fun hc => ?_) (fun hc => ?_)) <;> (try (exfalso; omega)) | (refine Awp.cond rfl (fun hc => ?_) (fun hc => ?_)) | refine o_toString TtOk rfl rfl rfl rfl rfl (by first | exact True.intro | exact rfl) rfl rfl rfl rfl ?_ | (refine o_call0 rfl hgd ⟨SLe.of_eq rfl, True.intro⟩ rfl ?_; rintro _ _ ⟨rfl, rfl⟩; refine ⟨rfl, ?_⟩))
    refine end_all [] [] (.tup [.s [], .i .i64 3]) rfl ?_ ?_ (rle_tup2 (CLe.refl _) (CLe.refl _) rfl rfl) .nil ⟨rfl, rfl⟩ _ (.inl rfl)
    · repeat' (first | exact True.intro | exact rfl | refine ⟨?_, ?_⟩)
    · exact ⟨trivial, trivial, trivial⟩
  · have hF : fbytes p b = (((⟨[], 0⟩ : WS).number p).text b).done := by unfold fbytes; rw [hg, wdone_good hg]; rfl
    rw [hF]
    rw [hg] at hgd
    rw [goodB_iff] at hg
    have h0 : (⟨[], 0⟩ : WS).bs.length ≤ 1000000000000 := by decide
    have h1 := WS.len_number ⟨[], 0⟩ p (by omega)
    have h10 : (⟨[], 0⟩ : WS).bs.length = 0 := rfl
    refine Awp.seq ?_
    repeat' (first | refine Awp.region ?_ | (refine Ops.nil ?_; show Awp _ _ _ _ _) | (refine Ops.nil ?_; show Exists _) | (refine Ops.nil ?_; show endK _ _ _ _ _) | (refine Awp.skip ?_; show Awp _ _ _ _ _) | (refine Awp.skip ?_; show endK _ _ _ _ _) | (refine Awp.skip ?_; show Exists _) | (refine Awp.ret ?_; show endK _ _ _ _ _) | refine o_convB rfl TtOk rfl rfl rfl rfl ?_ | (refine o_conv64 rfl TtOk rfl rfl rfl rfl ?_ ?_; omega) | (refine o_calm rfl TtOk rfl rfl rfl ?_ (fun _ => ?_); first | exact True.intro | exact ⟨rfl, rfl, rfl, rfl⟩ | exact ⟨rfl, True.intro⟩ | exact ⟨rfl, rfl⟩ | exact ⟨rfl, rfl, rfl⟩ | exact rfl | exact ⟨fun h0 => by cases h0, rfl⟩ | exact (fun h0 => by cases h0) | exact ⟨rfl, by omega⟩ | exact ⟨Nat.succ_ne_zero _, rfl⟩ | omega) | refine o_alloc (d := 4) rfl TtOk rfl rfl rfl (fun b4 => ?_) | refine o_box (d := 1) rfl rfl rfl rfl (fun b1 => ?_) | refine o_toBytes TtOk rfl rfl rfl rfl rfl rfl ?_ | refine o_toString TtOk rfl rfl rfl rfl rfl (by first | exact True.intro | exact rfl) rfl rfl rfl rfl ?_)
    refine a_freezeV 1 1 rfl rfl rfl ?_
    repeat' (first | refine Awp.seq ?_ | refine Awp.region ?_ | (refine Ops.nil ?_; show Awp _ _ _ _ _) | (refine Ops.nil ?_; show Exists _) | (refine Ops.nil ?_; show endK _ _ _ _ _) | (refine Awp.skip ?_; show Awp _ _ _ _ _) | (refine Awp.skip ?_; show endK _ _ _ _ _) | (refine Awp.skip ?_; show Exists _) | (refine Awp.ret ?_; show endK _ _ _ _ _) | refine o_convB rfl TtOk rfl rfl rfl rfl ?_ | (refine o_conv64 rfl TtOk rfl rfl rfl rfl ?_ ?_; omega) | (refine o_calm rfl TtOk rfl rfl rfl ?_ (fun _ => ?_); first | exact True.intro | exact ⟨rfl, rfl, rfl, rfl⟩ | exact ⟨rfl, True.intro⟩ | exact ⟨rfl, rfl⟩ | exact ⟨rfl, rfl, rfl⟩ | exact rfl | exact ⟨fun h0 => by cases h0, rfl⟩ | exact (fun h0 => by cases h0) | exact ⟨rfl, by omega⟩ | exact ⟨Nat.succ_ne_zero _, rfl⟩ | omega) | refine o_alloc (d := 4) rfl TtOk rfl rfl rfl (fun b4 => ?_) | refine o_box (d := 1) rfl rfl rfl rfl (fun b1 => ?_) | refine o_toBytes TtOk rfl rfl rfl rfl rfl rfl ?_ | refine a_condT rfl ?_ | refine a_condF rfl ?_ | (refine a_condP rfl (fun hc => ?_) (fun hc => ?_)) <;> (try (exfalso; omega)) | (refine a_condI rfl (fun hc => ?_) (fun hc => ?_)) <;> (try (exfalso; omega)) | (refine a_condN rfl (fun hc => ?_) (fun hc => ?_)) <;> (try (exfalso; omega)) | (refine Awp.cond rfl (fun hc => ?_) (fun hc => ?_)) | refine o_toString TtOk rfl rfl rfl rfl rfl (by first | exact True.intro | exact rfl) rfl rfl rfl rfl ?_ | (refine o_call0 rfl hgd ⟨SLe.of_eq rfl, True.intro⟩ rfl ?_; rintro _ _ ⟨rfl, rfl⟩; refine ⟨rfl, ?_⟩))
    refine Ops.weaken [] (S' := ⟨18, [(9, .i .i64 p), (4, .ptr 4 b4 [] 0), (1, .cp (.agg [.i .i64 p, .sl 1 (b.map byA)]))], [(4, .var b4 (wrA (.slice none 0 0) ⟨[], 0⟩)), (1, .row (.slice none 0 0) 5 1 [])]⟩) ⟨rfl, ⟨sle_i rfl, sle_ptr, SLe.of_eq rfl, True.intro⟩, HLe.cons 4 rfl (HOLe.var (CLe.agg (.cons CLe.nilown (.cons (CLe.refl _) .nil)))) (.none .nil)⟩ ?_
    repeat' (first | refine Awp.seq ?_ | refine Awp.region ?_ | (refine Ops.nil ?_; show Awp _ _ _ _ _) | (refine Ops.nil ?_; show Exists _) | (refine Ops.nil ?_; show endK _ _ _ _ _) | (refine Awp.skip ?_; show Awp _ _ _ _ _) | (refine Awp.skip ?_; show endK _ _ _ _ _) | (refine Awp.skip ?_; show Exists _) | (refine Awp.ret ?_; show endK _ _ _ _ _) | refine o_convB rfl TtOk rfl rfl rfl rfl ?_ | (refine o_conv64 rfl TtOk rfl rfl rfl rfl ?_ ?_; omega) | (refine o_calm rfl TtOk rfl rfl rfl ?_ (fun _ => ?_); first | exact True.intro | exact ⟨rfl, rfl, rfl, rfl⟩ | exact ⟨rfl, True.intro⟩ | exact ⟨rfl, rfl⟩ | exact ⟨rfl, rfl, rfl⟩ | exact rfl | exact ⟨fun h0 => by cases h0, rfl⟩ | exact (fun h0 => by cases h0) | exact ⟨rfl, by omega⟩ | exact ⟨Nat.succ_ne_zero _, rfl⟩ | omega) | refine o_alloc rfl TtOk rfl rfl rfl (fun bA => ?_) | refine o_box rfl rfl rfl rfl (fun _ => ?_) | refine o_toBytes TtOk rfl rfl rfl rfl rfl rfl ?_ | refine a_condT rfl ?_ | refine a_condF rfl ?_ | (refine a_condP rfl (fun hc => ?_) (fun hc => ?_)) <;> (try (exfalso; omega)) | (refine a_condI rfl (fun hc => ?_) (fun hc => ?_)) <;> (try (exfalso; omega)) | (refine a_condN rfl (fun hc => ?_) (fun hc => ?_)) <;> (try (exfalso; omega)) | (refine Awp.cond rfl (fun hc => ?_) (fun hc => ?_)) | refine o_toString TtOk rfl rfl rfl rfl rfl (by first | exact True.intro | exact rfl) rfl rfl rfl rfl ?_ | (refine o_call0 rfl (good_spec _ _ (by first | assumption | omega)) ⟨SLe.of_eq rfl, True.intro⟩ rfl ?_; rintro _ _ ⟨rfl, rfl⟩; refine ⟨rfl, ?_⟩) | (refine o_callPR rfl rfl rfl rfl rfl (wdone_spec _ _ _) ⟨sle_ptr, True.intro⟩ (HOLe.refl _) (HOLe.refl _) rfl rfl ?_; rintro _ _ ⟨rfl, wv, rfl⟩; refine ⟨_, _, rfl, _, rfl, ?_⟩) | (refine o_callPR rfl rfl rfl rfl rfl (wnumber_spec _ _ (by first | assumption | omega) _ _ (by first | assumption | omega)) ⟨sle_ptr, SLe.of_eq rfl, True.intro⟩ (HOLe.refl _) (HOLe.refl _) rfl rfl ?_; rintro _ _ ⟨rfl, wv, rfl⟩; refine ⟨_, _, rfl, _, rfl, ?_⟩) | (refine o_callPR rfl rfl rfl rfl rfl (wtext_spec _ _ _ _ (by first | assumption | omega)) ⟨sle_ptr, SLe.of_eq rfl, True.intro⟩ (HOLe.refl _) (HOLe.refl _) rfl rfl ?_; rintro _ _ ⟨rfl, wv, rfl⟩; refine ⟨_, _, rfl, _, rfl, ?_⟩))
    generalize (((⟨[], 0⟩ : WS).number p).text b).done = q
    refine end_all [] [] (.tup [.s q.1, .i .i64 q.2]) rfl ?_ ?_ (rle_tup2 (CLe.refl _) (CLe.refl _) rfl rfl) .nil ⟨rfl, rfl⟩ _ (.inl rfl)
    · repeat' (first | exact True.intro | exact rfl | refine ⟨?_, ?_⟩)
    · exact ⟨trivial, trivial, trivial⟩
def fread (s : List UInt8) : Int × List UInt8 × Int :=
  if (RS.open s).number.2.text.2.done ≠ 0 then (0, [], (RS.open s).number.2.text.2.done)
  else if goodB ((RS.open s).number.1 : Nat) (bitsOf (RS.open s).number.2.text.1).length then (((RS.open s).number.1 : Nat), (RS.open s).number.2.text.1, 0) else (0, [], 3)
theorem fread_spec (s : List UInt8) (hs : s.length ≤ 1000000000) : Spec Try.prog 57 [.s s] [] (fun v os => v = .tup [flA (fread s).1 (fread s).2.1, .i .i64 (fread s).2.2] ∧ os = []) := by
  refine spec_of TtOk [] Try.func57 rfl Try.ntmps57 (by kernel_rfl) rfl rfl (fun C => ?_) rfl
  have hok0 := RS.ok_open (s := s) (by omega)
  have hok1 := RS.ok_number hok0
  have hok2 := RS.ok_text hok1
  have htl : (RS.open s).number.2.text.1.length ≤ 1000000000000 := Nat.le_trans (text_len _) (by decide)
  repeat' (first | refine Awp.seq ?_ | refine Awp.region ?_ | (refine Ops.nil ?_; show Awp _ _ _ _ _) | (refine Ops.nil ?_; show Exists _) | (refine Ops.nil ?_; show endK _ _ _ _ _) | (refine Awp.skip ?_; show Awp _ _ _ _ _) | (refine Awp.skip ?_; show endK _ _ _ _ _) | (refine Awp.skip ?_; show Exists _) | (refine Awp.ret ?_; show endK _ _ _ _ _) | refine o_convB rfl TtOk rfl rfl rfl rfl ?_ | (refine o_conv64 rfl TtOk rfl rfl rfl rfl ?_ ?_; omega) | (refine o_calm rfl TtOk rfl rfl rfl ?_ (fun _ => ?_); first | exact True.intro | exact ⟨rfl, rfl, rfl, rfl⟩ | exact ⟨rfl, True.intro⟩ | exact ⟨rfl, rfl⟩ | exact ⟨rfl, rfl, rfl⟩ | exact rfl | exact ⟨fun h0 => by cases h0, rfl⟩ | exact (fun h0 => by cases h0) | exact ⟨rfl, by omega⟩ | exact ⟨Nat.succ_ne_zero _, rfl⟩ | omega) | refine o_alloc (d := 2) rfl TtOk rfl rfl rfl (fun b2 => ?_) | refine o_alloc (d := 5) rfl TtOk rfl rfl rfl (fun b5 => ?_) | refine o_store TtOk rfl rfl rfl rfl rfl rfl rfl ⟨rfl, rfl⟩ rfl rfl rfl rfl rfl ?_ | refine o_build TtOk rfl rfl rfl rfl rfl rfl (by repeat' (first | exact True.intro | exact rfl | refine ⟨?_, ?_⟩)) ?_ | refine o_buildArr0 TtOk rfl rfl rfl rfl ?_ | refine o_toBytes TtOk rfl rfl rfl rfl rfl rfl ?_ | refine a_condT rfl ?_ | refine a_condF rfl ?_ | (refine a_condP rfl (fun hc => ?_) (fun hc => ?_)) <;> (try (exfalso; omega)) | (refine a_condI rfl (fun hc => ?_) (fun hc => ?_)) <;> (try (exfalso; omega)) | (refine a_condN rfl (fun hc => ?_) (fun hc => ?_)) <;> (try (exfalso; omega)) | (refine Awp.cond rfl (fun hc => ?_) (fun hc => ?_)) | refine o_toString TtOk rfl rfl rfl rfl rfl (by first | exact True.intro | exact rfl) rfl rfl rfl rfl ?_ | (refine o_call0 rfl (good_spec _ _ (by first | assumption | omega)) ⟨SLe.of_eq rfl, True.intro⟩ rfl ?_; rintro _ _ ⟨rfl, rfl⟩; refine ⟨rfl, ?_⟩) | (refine o_callN rfl (ropen_spec _) ⟨SLe.of_eq rfl, True.intro⟩ rfl (fun bN => ?_)) | (refine o_callP rfl rfl rfl rfl (rdone_spec _ _) ⟨sle_ptr, True.intro⟩ (HOLe.refl _) rfl rfl ?_; rintro _ _ ⟨rfl, rfl⟩; refine ⟨_, rfl, _, rfl, ?_⟩) | (refine o_callP rfl rfl rfl rfl (rnumber_spec _ _ (by assumption)) ⟨sle_ptr, True.intro⟩ (HOLe.refl _) rfl rfl ?_; rintro _ _ ⟨rfl, rfl⟩; refine ⟨_, rfl, _, rfl, ?_⟩) | (refine o_callP rfl rfl rfl rfl (rtext_spec _ _ (by assumption)) ⟨sle_ptr, True.intro⟩ (HOLe.refl _) rfl rfl ?_; rintro _ _ ⟨rfl, rfl⟩; refine ⟨_, rfl, _, rfl, ?_⟩))
  · have hF : fread s = (0, [], (RS.open s).number.2.text.2.done) := by unfold fread; rw [if_pos hc]
    rw [hF]
    refine end_all [] [] (.tup [flA 0 [], .i .i64 (RS.open s).number.2.text.2.done]) rfl ?_ ?_ (rle_tup2 (CLe.agg (.cons (CLe.refl _) (.cons CLe.nilsl .nil))) (CLe.refl _) rfl rfl) .nil ⟨rfl, rfl⟩ _ (.inl rfl)
    · repeat' (first | exact True.intro | exact rfl | refine ⟨?_, ?_⟩)
    · exact ⟨trivial, trivial, trivial⟩
  · have hF : fread s = (0, [], 3) := by
      unfold fread; rw [if_neg (fun h => h (by assumption)), if_neg (by intro h; rw [h] at hc; exact absurd hc (by decide))]
    rw [hF]
    refine end_all [] [] (.tup [flA 0 [], .i .i64 3]) rfl ?_ ?_ (rle_tup2 (CLe.agg (.cons (CLe.refl _) (.cons CLe.nilsl .nil))) (CLe.refl _) rfl rfl) .nil ⟨rfl, rfl⟩ _ (.inl rfl)
    · repeat' (first | exact True.intro | exact rfl | refine ⟨?_, ?_⟩)
    · exact ⟨trivial, trivial, trivial⟩
  · have hF : fread s = ((((RS.open s).number.1 : Nat) : Int), (RS.open s).number.2.text.1, 0) := by
      unfold fread; rw [if_neg (fun h => h (by assumption)), if_pos (by simpa using hc)]
    rw [hF]
    refine end_all [] [] (.tup [flA ((RS.open s).number.1 : Nat) (RS.open s).number.2.text.1, .i .i64 0]) rfl ?_ ?_ (rle_tup2 (CLe.of_eq rfl) (CLe.refl _) rfl rfl) .nil ⟨rfl, rfl⟩ _ (.inl rfl)
    · repeat' (first | exact True.intro | exact rfl | refine ⟨?_, ?_⟩)
    · exact ⟨trivial, trivial, trivial⟩
end Go.Proofs.Ytdpljpnnjgefoaa
namespace Go.Proofs.Ytdpljpnnjgefoaa
end Go.Proofs.Ytdpljpnnjgefoaa
set_option maxHeartbeats 4000000
namespace Go.Proofs.Ytdpljpnnjgefoaa
open Go Go.RowKit
end Go.Proofs.Ytdpljpnnjgefoaa
set_option maxHeartbeats 4000000
namespace Go.Proofs.Ytdpljpnnjgefoaa
open Go Go.RowKit
/-- Of a filter that was made, each key is there. -/
theorem mk_bits (keys : List (List UInt8)) (e : Nat) (x : Nat) : (bitsOf (mkF keys e)).getD x true = ((List.replicate (8 * nbOf keys.length e) false).getD x true || (keys.map hashN).any (fun H => decide (x ∈ placesN H (pOf e) (8 * nbOf keys.length e)))) := by
  unfold mkF
  rw [mkBits_bits, bitsOf_zero, List.length_replicate, mkB_iff]
theorem mkF_len (keys : List (List UInt8)) (e : Nat) : (mkF keys e).length = nbOf keys.length e := by
  unfold mkF; rw [mkBits_len, List.length_replicate]
theorem may_has (keys : List (List UInt8)) (e : Nat) (k : List UInt8) (hk : k ∈ keys) : mayB (pOf e : Nat) (bitsOf (mkF keys e)) (hashN k) = true := by
  unfold mayB
  have h : (placesN (hashN k) (Int.toNat (pOf e : Nat)) (bitsOf (mkF keys e)).length).all (fun x => (bitsOf (mkF keys e)).getD x true) = true := by
    rw [List.all_eq_true]
    intro x hx
    rw [bitsOf_len, mkF_len] at hx
    show (bitsOf (mkF keys e)).getD x true = true
    rw [mk_bits, Bool.or_eq_true, List.any_eq_true]
    exact .inr ⟨hashN k, List.mem_map.2 ⟨k, hk, rfl⟩, by rw [decide_eq_true_eq]; exact hx⟩
  rw [h, Bool.or_true]
end Go.Proofs.Ytdpljpnnjgefoaa
