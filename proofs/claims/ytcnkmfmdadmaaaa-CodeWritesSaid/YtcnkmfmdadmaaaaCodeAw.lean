/- law02.awake walked: it answers true. -/
import Derived.Test.YtcnkmfmdadmaaaaCodeW3
namespace Go.Proofs.Ytcnkmfmdadmaaaa
open Go.RowKit
theorem IsW.new (w : World) : IsW (w.alloc (.cells #[.slice none 0 0, .int .i64 0] 40)) w.heap.size (.slice none 0 0) ⟨[], 0⟩ := ⟨Blk.new _ _ _, Own.nil _ _ _ _ _, by simp [Value.ownBlock]⟩
theorem WTo.below_ {w w' : World} {b : Nat} {v : Value} {s : WS} {B : Nat} (h : WTo w w' b v s) (hB : B ≤ w.heap.size) (hb : B ≤ b) (hv : ∀ k, v.ownBlock = some k → B ≤ k) : Below B w w' := by
  obtain ⟨v2, h2, hm, hv2⟩ := h
  refine hm.to_below ?_ hB
  intro k hk hW
  rcases hW with rfl | hW
  · omega
  · have := hv k hW; omega

theorem awake_bytes : (((WS.mk [] 0).number 300).text ⟨#[97, 98]⟩).done = (⟨#[2, 1, 44, 1, 2, 97, 98]⟩, 0) := by
  have h300 : digits 300 = [1, 44] := by rw [digits_pos (by omega), digits_pos (by omega), digits_zero]; rfl
  have h2 : digits 2 = [2] := by rw [digits_pos (by omega), digits_zero]; rfl
  have hn : (WS.mk [] 0).number 300 = ⟨[2, 1, 44], 0⟩ := by
    show WS.mk ([] ++ numBytes 300) 0 = _
    unfold numBytes; rw [h300]; rfl
  rw [hn]
  have ht : (WS.mk [2, 1, 44] 0).text ⟨#[97, 98]⟩ = ⟨[2, 1, 44, 1, 2, 97, 98], 0⟩ := by
    show WS.mk ([2, 1, 44] ++ numBytes 2 ++ [97, 98]) 0 = _
    unfold numBytes; rw [h2]; rfl
  rw [ht]; rfl
theorem awake_done : ((RS.open ⟨#[2, 0, 44]⟩).number.2).done = 4 := by
  rfl

theorem awake02_any (w : World) : Calls Try.prog 27 #[] w fun e w' => e = .returned (.bool true) ∧ Below w.heap.size w w' := by
  have HB := Box.mk awake_bytes
  have HD := Box.mk awake_done
  go_enter Try.func27, Try.ntmps27
  go_wp2_with fail
  have hw0 := IsW.new w
  have hb0 : Below w.heap.size w (w.alloc (.cells #[.slice none 0 0, .int .i64 0] 40)) := (Below.refl _ _).alloc (Nat.le_refl _) _
  refine (wnumber_any w.heap.size 300 (by omega) _ _ (by simp) _ hw0).mono ?_
  rintro e w1 ⟨rfl, h1⟩
  have hb1 := hb0.trans (h1.below_ hb0.size (Nat.le_refl _) (by simp [Value.ownBlock]))
  clear hw0
  obtain ⟨v1, hw1, hm1, hv1⟩ := h1
  have hl1 : ((WS.mk [] 0).number 300).bs.length ≤ 900000000000 := Nat.le_trans (WS.len_number _ _ (by omega)) (by simp)
  go_wp2_with fail
  refine (wtext_any w.heap.size ⟨#[97, 98]⟩ v1 _ hl1 w1 hw1).mono ?_
  rintro e w2 ⟨rfl, h2⟩
  have hvB : ∀ k, v1.ownBlock = some k → w.heap.size ≤ k := by
    intro k hk
    rcases hv1 k hk with h | h
    · simp [Value.ownBlock] at h
    · exact Nat.le_trans hb0.size h
  have hb2 := hb1.trans (h2.below_ hb1.size (Nat.le_refl _) hvB)
  obtain ⟨v2, hw2, hm2, hv2⟩ := h2
  clear hw1 hm1 hv1 hm2 hv2 hvB hl1 hb1 hb0
  go_wp2_with fail
  refine (wdone_any w.heap.size v2 _ w2 hw2).mono ?_
  rintro e w3 ⟨rfl, h3⟩
  rw [HB.out]
  have hb3 := hb2.trans (h3.mono hb2.size)
  clear hw2 hb2 h3
  go_wp2_with fail
  refine (ropen_any ⟨#[2, 0, 44]⟩ w3).mono ?_
  rintro e w4 ⟨rfl, hr4, h4⟩
  have hb4 := hb3.trans (h4.mono hb3.size)
  go_wp2_with fail
  refine (rnumber_any w3.heap.size _ (RS.ok_open (by show 3 ≤ 9223372036854775807; omega)) w4 hr4).mono ?_
  rintro e w5 ⟨rfl, hr5, h5⟩
  have hb5 := hb4.trans (h5.to_below (B := w.heap.size) (by intro k hk h; have := hb3.size; omega) hb4.size)
  clear hb4 h4 hr4 h5
  go_wp2_with fail
  refine (rdone_any w3.heap.size _ w5 hr5).mono ?_
  rintro e w6 ⟨rfl, h6⟩
  rw [HD.out]
  have hb6 := hb5.trans (h6.mono hb5.size)
  go_wp2
  go_ret
  exact ⟨rfl, hb6⟩
end Go.Proofs.Ytcnkmfmdadmaaaa
