/- law12.awake walked. -/
import Derived.Test.YtcnkmfmdadmaaaaMergeLaw
import Derived.Test.YtcnkmfmdadmaaaaRise
namespace Go.Proofs.Ytcnkmfmdadmaaaa
open Go.RowKit

theorem rise_sorted (l : List Ent) : Sorted (rise l) := by
  have key : ∀ (l out : List Ent), Sorted out → Sorted (l.foldl riseStep out) := by
    intro l
    induction l with
    | nil => intro out h; exact h
    | cons x l ih =>
      intro out h
      refine ih _ ?_
      unfold riseStep
      split
      · rename_i hn
        have : out = [] := List.getLast?_eq_none_iff.1 hn
        subst this; simp [Sorted]
      · rename_i y hy
        split
        · rename_i hk
          refine List.pairwise_append.2 ⟨h, by simp, fun a ha b hb => ?_⟩
          rw [List.mem_singleton.1 hb]
          by_cases hay : a = y
          · subst hay; exact hk
          · obtain ⟨ys, rfl⟩ := List.getLast?_eq_some_iff.1 hy
            have ha' : a ∈ ys := by
              rcases List.mem_append.1 ha with h1 | h1
              · exact h1
              · exact (hay (List.mem_singleton.1 h1)).elim
            exact kLt_trans ((List.pairwise_append.1 h).2.2 a ha' y (by simp)) hk
        · exact h
  exact key l [] (by simp [Sorted])

def aw1 : List Ent := [⟨⟨#[98]⟩, ⟨#[49]⟩, false⟩, ⟨⟨#[99]⟩, ⟨#[]⟩, true⟩]
def aw2 : List Ent := [⟨⟨#[97]⟩, ⟨#[50]⟩, false⟩, ⟨⟨#[98]⟩, ⟨#[51]⟩, false⟩, ⟨⟨#[99]⟩, ⟨#[52]⟩, false⟩]
theorem aw_eq : mLists [aw1, aw2] true = [⟨⟨#[97]⟩, ⟨#[50]⟩, false⟩, ⟨⟨#[98]⟩, ⟨#[49]⟩, false⟩] := by
  have e : ∀ l : Array UInt8, (ByteArray.mk l).toList = l.toList := fun l => ByteArray.toList_eq _
  simp [mLists, mLoop, total, leastTo, kLt, kEq, aw1, aw2, e, Op.bytesLess]
theorem awLL (w : World) : LL (((w.alloc (.cells #[.string ⟨#[98]⟩, .string ⟨#[49]⟩, .bool false, .string ⟨#[99]⟩, .string ⟨#[]⟩, .bool true] 31)).alloc (.cells #[.string ⟨#[97]⟩, .string ⟨#[50]⟩, .bool false, .string ⟨#[98]⟩, .string ⟨#[51]⟩, .bool false, .string ⟨#[99]⟩, .string ⟨#[52]⟩, .bool false] 31)).alloc (.cells #[.slice (some ⟨w.heap.size, 0, none⟩) 2 2, .slice (some ⟨w.heap.size + 1, 0, none⟩) 3 3] 23)) (fun _ => True) (fun _ => True) (some ⟨w.heap.size + 1 + 1, 0, none⟩) [aw1, aw2] := by
  refine ⟨[⟨some ⟨w.heap.size, 0, none⟩, 2, 2⟩, ⟨some ⟨w.heap.size + 1, 0, none⟩, 3, 3⟩], rfl, (SlA.of_blk (Blk.new_ (by simp)) svC_length rfl).imp (fun _ _ => trivial), ?_⟩
  intro i v l h1 h2
  rcases i with _ | _ | i
  · simp at h1 h2; subst h1; subst h2
    exact (Sl.of_blk (xs := aw1) (n := 2) (cap := 2) (((Blk.new_ rfl).alloc _).alloc _) entC_length rfl rfl (Nat.le_refl _) (by unfold maxLen; omega)).imp (fun _ _ => trivial)
  · simp at h1 h2; subst h1; subst h2
    exact (Sl.of_blk (xs := aw2) (n := 3) (cap := 3) (Blk.alloc (Blk.new_ (by rw [World.size_alloc])) _) entC_length rfl rfl (Nat.le_refl _) (by unfold maxLen; omega)).imp (fun _ _ => trivial)
  · simp at h1
set_option maxRecDepth 100000 in
set_option maxHeartbeats 1000000 in
theorem awake12 (w : World) : Calls Try.prog 16 #[] w fun e w' => e = .returned (.bool true) ∧ Below w.heap.size w w' := by
  have haw := Lib.hid aw_eq
  have hll := Lib.hid (awLL w)
  go_enter Try.func16, Try.ntmps16
  go_wp2_with fail
  refine (mLists_any _ 2 [aw1, aw2] true _ _ _ (by simp) (by simp [total, aw1, aw2]) hll.out).mono ?_
  rintro e w1 ⟨v, rfl, ho, hb⟩
  rw [haw.out] at ho
  obtain ⟨A, cap, rfl, h1, h2, hs⟩ := ho.sl entC_length
  obtain ⟨b, off, rfl, _, _, c1, _⟩ := EntA.cells hs (k := 0) (by simp)
  obtain ⟨b', off', hA, _, _, d1, _⟩ := EntA.cells hs (k := 1) (by simp)
  injection hA with hA; injection hA with e1 e2; subst e1; subst e2
  simp at c1 d1
  have hb' : Below w.heap.size w w1 := (((Below.refl _ _).alloc (Nat.le_refl _) _).alloc (by simp) _).alloc (by simp; omega) _ |>.trans (hb.mono (by simp; omega))
  clear ho hs hb
  go_wp2
  go_ret
  exact ⟨rfl, hb'⟩
end Go.Proofs.Ytcnkmfmdadmaaaa
