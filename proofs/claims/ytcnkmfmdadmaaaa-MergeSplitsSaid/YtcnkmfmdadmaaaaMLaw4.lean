/- law12.MergeSplits walked. -/
import Derived.Test.YtcnkmfmdadmaaaaSplit3
import Derived.Test.YtcnkmfmdadmaaaaMAwake
namespace Go.Proofs.Ytcnkmfmdadmaaaa
open Go.RowKit

theorem split_none (A : Option Addr) (cap n : Nat) (size most : Int) (w : World) (h : size < 1 ∨ most < 1) :
    Calls Try.prog 22 #[.slice A n cap, .int .i64 size, .int .i64 most] w fun e w' => e = .returned (.slice none 0 0) ∧ w' = w := by
  by_cases h1 : size < 1
  · have hd1 := decide_eq_true h1
    clear h h1
    go_enter Try.func22, Try.ntmps22
    go_wp2
    go_ret
    exact ⟨rfl, rfl⟩
  · have hd1 := decide_eq_false h1
    have hd2 : decide (most < 1) = true := decide_eq_true (h.resolve_left h1)
    clear h h1
    go_enter Try.func22, Try.ntmps22
    go_wp2
    go_ret
    exact ⟨rfl, rfl⟩

theorem flatten_take_succ {α : Type} (S : List (List α)) (i : Nat) (h : i < S.length) : (S.take (i + 1)).flatten = (S.take i).flatten ++ S[i] := by
  rw [List.take_succ_eq_append_getElem h, List.flatten_append]; simp
theorem flatten_take_len {α : Type} (S : List (List α)) (i : Nat) : (S.take i).flatten.length ≤ S.flatten.length := by
  conv => rhs; rw [← List.take_append_drop i S, List.flatten_append, List.length_append]
  omega

set_option maxRecDepth 100000 in
set_option maxHeartbeats 1000000 in
theorem law_mergeSplits (A : Option Addr) (cap : Nat) (l : List Ent) (size most : Int) (F : Nat → Prop) (w : World) (hs : EntA w F A l) :
    Calls Try.prog 6 #[.slice A l.length cap, .int .i64 size, .int .i64 most] w fun e w' => e = .returned (.bool true) ∧ Below w.heap.size w w' := by
  have hE := Lib.hid entElem
  go_enter Try.func6, Try.ntmps6
  go_wp2_with fail
  refine (few_any A cap l 100 (by omega) (by omega) F w hs).mono ?_
  rintro e w1 ⟨v, rfl, hfo, hb1⟩
  have hfl : (few l 100).length ≤ 100 := few_len l 100
  have hsh := few_short l 100
  rw [show Int.toNat 100 = 100 from rfl] at hfo
  generalize few l 100 = fl at hfo hfl hsh
  obtain ⟨Af, cf, rfl, hc1, hc2, hfs⟩ := hfo.sl entC_length
  clear hfo
  have HSH := Lib.hid hsh
  by_cases hbad : size < 1 ∨ most < 1
  · go_wp2_with fail
    refine (split_none Af cf _ size most w1 hbad).mono ?_
    rintro e w2 ⟨rfl, rfl⟩
    have hor : size < 1 ∨ (¬ size < 1 ∧ most < 1) := by omega
    clear hbad hsh
    rcases hor with h | ⟨h, h'⟩
    · have hd := decide_eq_true h
      clear h
      go_wp2_with fail
      refine (awake12 w2).mono ?_
      rintro e w3 ⟨rfl, hb3⟩
      go_wp2
      go_ret
      exact ⟨rfl, hb1.trans (hb3.mono hb1.size)⟩
    · have hd := decide_eq_false h; have hd' := decide_eq_true h'
      clear h h'
      go_wp2_with fail
      refine (awake12 w2).mono ?_
      rintro e w3 ⟨rfl, hb3⟩
      go_wp2
      go_ret
      exact ⟨rfl, hb1.trans (hb3.mono hb1.size)⟩
  · have hg1 : 1 ≤ size := by omega
    have hg2 : 1 ≤ most := by omega
    have hd : decide (size < 1) = false := by simp; omega
    have hd' : decide (most < 1) = false := by simp; omega
    have heq : mSplit size most fl [] = rSplit size most fl [] := split_eq _ _ _ _ (fun _ => rfl)
    have hflat : (rSplit size most fl []).flatten = fl := by rw [rSplit_flat]; rfl
    have hrl := rSplit_len size most fl []
    clear hbad hsh
    go_wp2_with fail
    refine (split_any Af cf fl size most _ w1 hg1 hg2 (by omega) hc1 HSH.out hfs).mono ?_
    rintro e w2 ⟨v2, rfl, hm2, hb2⟩
    rw [heq] at hm2
    clear heq
    go_wp2_with fail
    refine (refSplit_any Af cf fl size most _ w2 (by omega) HSH.out (hfs.below hb2)).mono ?_
    rintro e w3 ⟨v3, rfl, hm3, hb3⟩
    have hm2' := hm2.below hb3
    generalize rSplit size most fl [] = S at hm2' hm3 hflat hrl
    obtain ⟨A2, c2, rfl, h21, h22, hL2⟩ := hm2'.LL
    obtain ⟨A3, c3, rfl, h31, h32, hL3⟩ := hm3.LL
    have hs1 := hb1.size; have hs2 := hb2.size; have hs3 := hb3.size
    have hb03 : Below w.heap.size w w3 := hb1.trans ((hb2.mono hs1).trans (hb3.mono (by omega)))
    have hfs3 := (hfs.below hb2).below hb3
    have HFLAT := Lib.hid hflat
    clear hm2 hm2' hm3 hflat hb1 hb2 hb3 hfs hs
    go_wp2_with fail
    refine (awake12 w3).mono ?_
    rintro e w4 ⟨rfl, hb4⟩
    have hne : ((S.length : Int) != (S.length : Int)) = false := by simp
    have hs4 := hb4.size
    have hL2' := hL2.below hb4
    have hL3' := hL3.below hb4
    have hfs4 := hfs3.below hb4
    have hb04 := hb03.trans (hb4.mono (by omega))
    clear hL2 hL3 hfs3
    go_wp2
    have hflen : S.flatten.length ≤ 100 := by rw [HFLAT.out]; exact hfl
    go_loopw [9, 45] (fun o i wr => ∃ k : Nat, k ≤ S.length ∧ i = .int .i64 k ∧ EntO wr w4.heap.size o (S.take k).flatten ∧ Below w4.heap.size w4 wr) (fun _ i _ => S.length - (intOf i).toNat)
    case atStart => exact ⟨0, Nat.zero_le _, rfl, Own.empty _ _ _ _ (Nat.le_refl _), (Below.refl _ _).alloc (Nat.le_refl _) _⟩
    case round =>
      obtain ⟨k, hk, rfl, ho, hb5⟩ := hrel
      have hs5 := hb5.size
      by_cases hlt : k < S.length
      · obtain ⟨b2, o2, B2, d2, rfl, hcell2, g21, g22, hin2⟩ := (hL2'.below hb5).at_ hlt
        obtain ⟨b3, o3, B3, d3, rfl, hcell3, g31, g32, hin3⟩ := (hL3'.below hb5).at_ hlt
        have hft := flatten_take_succ S k hlt
        have hfl2 := flatten_take_len S (k + 1)
        rw [hft] at hfl2
        have HFT := Lib.hid hft; clear hft
        have hSk : S[k].length ≤ 100 := by rw [List.length_append] at hfl2; omega
        have hlen3 : (S.take k).flatten.length + S[k].length ≤ 101 := by simp only [List.length_append] at hfl2; omega
        have hse := sameB_refl S[k]
        have hk0 : (0 : Int) ≤ (k : Int) := by omega
        have hk1 : (k : Int) < (S.length : Int) := by omega
        generalize (S.take k).flatten = cur at ho hlen3 HFT
        clear hfl2
        go_wp2_with fail
        refine wp_still 8 (by kernel_rfl) (by kernel_rfl) ?_
        simp only [List.take_succ_cons, List.take_zero, List.drop_succ_cons, List.drop_zero]
        iterate 8 still_step
        refine wpStill_nil ?_
        go_wp2_with fail
        refine (same_any B2 B3 d2 d3 S[k] S[k] _ _ wr.drew (by unfold maxLen; omega) (show EntA wr.drew _ _ _ from hin2) (show EntA wr.drew _ _ _ from hin3)).mono ?_
        rintro e w5 ⟨rfl, hb6⟩
        have hb6' : Below wr.heap.size wr w5 := ⟨hb6.os, hb6.tape, hb6.output, hb6.size, hb6.block⟩
        have hs6 := hb6'.size
        have hb7 : Below w4.heap.size w4 w5 := hb5.trans (hb6'.mono hs5)
        have ho5 := ho.below hb6'
        have hcell5 := (hb6'.cell (World.block_lt_of_cell? wr _ hcell2)).trans hcell2
        have hin5 := hin2.below hb6'
        clear hb6 hcell2 hcell3 hin2 hin3 ho
        rw [hse]
        go_wp2_with (at_builtin; refine wpList_appS (by rfl) (.tmp 58) (.tmp 62) (by rfl) hE.out entC_length entC_one (by rfl) (by exact ho5) (A := B2) (n := S[k].length) (c := d2) S[k] (by rfl) rfl (by exact hin5) 101 hlen3 (by omega) (by unfold maxLen; omega) (by omega) ?_; intro v6 w6 ho6 hg6 hv6)
        go_roundw
        case rel => exact ⟨k + 1, by omega, by go_num, by rw [HFT.out]; exact ho6, hb7.grown hg6 (by omega) (fun g hg => (ho5.lt g hg).1)⟩
        case measure => simp [intOf] <;> omega
      · have hx : S.take k = S := List.take_of_length_le (by omega)
        rw [hx, HFLAT.out] at ho
        obtain ⟨A5, c5, rfl, h51, h52, hs51⟩ := ho.sl entC_length
        go_wp2_with fail
        refine (same_any A5 Af c5 cf fl fl _ _ wr (by unfold maxLen; omega) hs51 (hfs4.below hb5)).mono ?_
        rintro e w7 ⟨rfl, hb7⟩
        rw [sameB_refl]
        go_wp2
        go_ret
        exact ⟨rfl, hb04.trans ((hb5.mono (by omega)).trans (hb7.mono (by omega)))⟩
end Go.Proofs.Ytcnkmfmdadmaaaa
