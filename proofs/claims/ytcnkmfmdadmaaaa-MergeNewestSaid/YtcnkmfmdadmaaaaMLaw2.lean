/- law12.MergeTwice walked. -/
import Derived.Test.YtcnkmfmdadmaaaaMLaw1
namespace Go.Proofs.Ytcnkmfmdadmaaaa
open Go.RowKit

theorem LL.take {w : World} {F G : Nat → Prop} {A : Option Addr} {ls : List (List Ent)} (h : LL w F G A ls) (c : Nat) : LL w F G A (ls.take c) := by
  obtain ⟨vs, h1, h2, h3⟩ := h
  refine ⟨vs.take c, by simp [h1], h2.take c, fun i v l a b => ?_⟩
  rw [List.getElem?_take] at a b
  split at a
  · rename_i hi; rw [if_pos hi] at b; exact h3 i v l a b
  · cases a
theorem LL.drop {w : World} {F G : Nat → Prop} {A : Option Addr} {ls : List (List Ent)} (h : LL w F G A ls) {c cap : Nat} (hc : c ≤ ls.length) (hcap : ls.length ≤ cap) : LL w F G (cutA A cap c 1) (ls.drop c) := by
  obtain ⟨vs, h1, h2, h3⟩ := h
  refine ⟨vs.drop c, by simp [h1], h2.drop (by omega) (by omega), fun i v l a b => ?_⟩
  rw [List.getElem?_drop] at a b
  exact h3 _ v l a b
theorem LL.two {w : World} {g : Nat} {t : TypeId} {A A' : Option Addr} {a b : List Ent} {c c' : Nat} {F : Nat → Prop} (hb : Blk w g t #[.slice A a.length c, .slice A' b.length c']) (h1 : EntS w F (.slice A a.length c) a) (h2 : EntS w F (.slice A' b.length c') b) :
    LL w (fun _ => True) F (some ⟨g, 0, none⟩) [a, b] := by
  refine ⟨[⟨A, a.length, c⟩, ⟨A', b.length, c'⟩], rfl, (SlA.of_blk hb svC_length rfl).imp (fun _ _ => trivial), fun i v l hv hl => ?_⟩
  rcases i with _ | _ | i
  · simp at hv hl; subst hv; subst hl; exact h1
  · simp at hv hl; subst hv; subst hl; exact h2
  · simp at hv
theorem mLists_n (A : Option Addr) (cap n : Nat) (ls : List (List Ent)) (drop : Bool) (F G : Nat → Prop) (w : World) (hn : n ≤ 1000) (hl : ls.length = n) (ht : total ls ≤ 100000) (hs : LL w F G A ls) :
    Calls Try.prog 18 #[.slice A n cap, .bool drop] w fun e w' => ∃ v, e = .returned v ∧ EntO w' w.heap.size v (mLists ls drop) ∧ Below w.heap.size w w' := by
  subst hl; exact mLists_any A cap ls drop F G w hn ht hs
theorem total_take (ls : List (List Ent)) (c : Nat) : total (ls.take c) ≤ total ls := by
  induction ls generalizing c with
  | nil => simp
  | cons l ls ih => cases c with
    | zero => simp [total]
    | succ c => have := ih c; simp only [List.take_succ_cons, total, List.map_cons, List.sum_cons] at *; omega

set_option maxRecDepth 100000 in
set_option maxHeartbeats 1000000 in
theorem law_mergeTwice (A : Option Addr) (cap : Nat) (ls : List (List Ent)) (cut : Int) (drop : Bool) (F G : Nat → Prop) (w : World) (hs : LL w F G A ls) :
    Calls Try.prog 4 #[.slice A ls.length cap, .int .i64 cut, .bool drop] w fun e w' => e = .returned (.bool true) ∧ Below w.heap.size w w' := by
  have hE := Lib.hid llElem
  go_enter Try.func4, Try.ntmps4
  go_wp2
  go_loopw [7, 8] (fun o i wr => ∃ k : Nat, k ≤ ls.length ∧ k ≤ 6 ∧ i = .int .i64 k ∧ Made wr w.heap.size o (inOf ls 30 k) ∧ Below w.heap.size w wr) (fun _ i _ => 6 - (intOf i).toNat)
  case atStart => exact ⟨0, Nat.zero_le _, Nat.zero_le _, rfl, Made.empty w (Nat.le_refl _), (Below.refl _ _).alloc (Nat.le_refl _) _⟩
  case round =>
    obtain ⟨k, hk, hk8, rfl, ho, hb⟩ := hrel
    have hbase : w.heap.size ≤ wr.heap.size := hb.size
    by_cases hlt : k < ls.length ∧ k < 6
    · obtain ⟨hlt1, hlt2⟩ := hlt
      obtain ⟨b, off, Bi, ci, rfl, hcell, hl1, hl2, hin⟩ := (hs.below hb).at_ hlt1
      have hnext := inOf_succ ls 30 k hlt1
      have HN := Lib.hid hnext
      have hll := inOf_len ls 30 k
      clear hnext hs
      obtain ⟨vs, hv1, hv2, hv3⟩ := ho
      have hvl : vs.length < 9 := by omega
      have HV1 := Lib.hid hv1; have HV3 := Lib.hid hv3
      clear hv1 hv3 hll
      go_wp2_with fail
      refine (rising_any Bi ci ls[k] 30 (by omega) (by omega) _ wr hin).mono ?_
      rintro e w1 ⟨v1, rfl, ho1, hb1⟩
      obtain ⟨A1, c1, rfl, h1, h2, hs1⟩ := ho1.sl entC_length
      have hbw : w.heap.size ≤ w1.heap.size := by have := hb1.size; omega
      have hv2' := hv2.below hb1
      go_wp2_with (at_builtin; refine wpList_app1 (by rfl) (.tmp 22) (.tmp 28) (by rfl) hE.out svC_length svC_one (by rfl) (by exact hv2'.alloc _) (g := _) 1 ⟨A1, _, c1⟩ (by rfl) (by exact Blk.new_ (by simp)) (by rfl) 9 hvl (by omega) (by unfold maxLen; omega) (by simp; omega) ?_; intro v3 w3 ho3 hg3 hv3)
      go_roundw
      case rel =>
        refine ⟨k + 1, by omega, by omega, by go_num, ?_, (((hb.trans (hb1.mono hb.size)).alloc hbw _).grown hg3 (by simp; omega) (fun g hg => (hv2.lt g hg).1))⟩
        rw [HN.out]
        refine Made.snoc HV1.out (fun i v l a b => (((HV3.out i v l a b).below hb1).below ((Below.refl _ _).alloc (Nat.le_refl _) _))) ?_ ho3 hg3 hv3
        refine Sl.below (w := w1) ?_ ((Below.refl _ _).alloc (Nat.le_refl _) _)
        refine ⟨A1, c1, rfl, h1, h2, hs1.imp fun g hg => ⟨by have := (ho1.lt g hg).1; omega, fun e => by have := (hv2.lt g e).2; have := (ho1.lt g hg).1; omega⟩⟩
      case measure => simp [intOf] <;> omega
    · have htot := inOf_total ls 30 k
      have hlen := inOf_len ls 30 k
      have hsorted := inOf_sorted ls 30 k
      generalize inOf ls 30 k = xs at ho htot hlen hsorted
      clear hs
      obtain ⟨Ax, cx, rfl, hx1, hx2, hx⟩ := ho.LL
      by_cases hcut : 0 ≤ cut ∧ cut ≤ xs.length
      · obtain ⟨hc0, hc1⟩ := hcut
        obtain ⟨c, rfl⟩ := Int.eq_ofNat_of_zero_le hc0
        have hcx : c ≤ xs.length := by omega
        have heq := merge_twice xs hsorted c drop
        have HEQ := Lib.hid heq
        clear heq hsorted
        have hci := fun W => run_cut_hi hE.out Ax xs.length cx c (by omega) W
        have hcl := fun W => run_cut_lo hE.out Ax xs.length cx c hcx W
        have ht1 := total_take xs c
        have ht2 := total_drop xs c
        have hd0 : decide ((c : Int) < 0) = false := by simp
        have hd1 : decide ((xs.length : Int) < (c : Int)) = false := by simp; omega
        have la := mLists_len (xs.take c) false
        have lb := mLists_len (xs.drop c) drop
        go_wp2_with fail
        all_goals
          refine (mLists_n Ax cx c (xs.take c) false _ _ wr (by omega) (by simp; omega) (by omega) (hx.take c)).mono ?_
          rintro e w1 ⟨v1, rfl, ho1, hb1⟩
          go_wp2_with fail
          refine (mLists_n (cutA Ax cx c 1) (cx - c) (xs.length - c) (xs.drop c) drop _ _ w1 (by omega) (by simp) (by omega) ((hx.below hb1).drop hcx hx1)).mono ?_
          rintro e w2 ⟨v2, rfl, ho2, hb2⟩
          obtain ⟨A1, c1, rfl, h11, h12, hs1⟩ := (ho1.sl entC_length).below hb2
          obtain ⟨A2, c2, rfl, h21, h22, hs2⟩ := ho2.sl entC_length
          go_wp2_with fail
          refine (awake12 w2).mono ?_
          rintro e w3 ⟨rfl, hb3⟩
          go_wp2_with fail
          refine (mLists_n (some ⟨w3.heap.size, 0, none⟩) 2 2 [mLists (xs.take c) false, mLists (xs.drop c) drop] drop _ _ _ (by omega) (by rfl) (by simp [total]; omega) (LL.two (Blk.new _ _ _) ⟨_, _, rfl, h11, h12, ((hs1.imp (fun _ _ => trivial)).below hb3).below ((Below.refl _ _).alloc (Nat.le_refl _) _)⟩ ⟨_, _, rfl, h21, h22, ((hs2.imp (fun _ _ => trivial)).below hb3).below ((Below.refl _ _).alloc (Nat.le_refl _) _)⟩)).mono ?_
          rintro e w5 ⟨v5, rfl, ho5, hb5⟩
          have hb35 : Below w3.heap.size w3 w5 := ((Below.refl _ _).alloc (Nat.le_refl _) _).trans (hb5.mono (by simp))
          go_wp2_with fail
          refine (mLists_any Ax cx xs drop _ _ w5 (by omega) (by omega) ((((hx.below hb1).below hb2).below hb3).below hb35)).mono ?_
          rintro e w6 ⟨v6, rfl, ho6, hb6⟩
          rw [HEQ.out] at ho5
          obtain ⟨A5, c5, rfl, h51, h52, hs5⟩ := (ho5.sl entC_length).below hb6
          obtain ⟨A6, c6, rfl, h61, h62, hs6⟩ := ho6.sl entC_length
          go_wp2_with fail
          refine (same_any A5 A6 c5 c6 _ _ _ _ w6 (by omega) hs5 hs6).mono ?_
          rintro e w7 ⟨rfl, hb7⟩
          rw [sameB_refl]
          go_wp2
          go_ret
          have s1 := hb1.size; have s2 := hb2.size; have s3 := hb3.size; have s5 := hb35.size; have s6 := hb6.size
          exact ⟨rfl, hb.trans ((hb1.mono hbase).trans ((hb2.mono (by omega)).trans ((hb3.mono (by omega)).trans ((hb35.mono (by omega)).trans ((hb6.mono (by omega)).trans (hb7.mono (by omega)))))))⟩
      · have hor : cut < 0 ∨ (0 ≤ cut ∧ (xs.length : Int) < cut) := by omega
        rcases hor with hc0 | ⟨hc0, hc1⟩
        · have hd0 : decide (cut < 0) = true := by simpa using hc0
          go_wp2_with fail
          all_goals
            refine (awake12 wr).mono ?_
            rintro e w1 ⟨rfl, hb1⟩
            go_wp2
            go_ret
            exact ⟨rfl, hb.trans (hb1.mono hbase)⟩
        · have hd0 : decide (cut < 0) = false := by simpa using hc0
          have hd1 : decide ((xs.length : Int) < cut) = true := by simpa using hc1
          go_wp2_with fail
          all_goals
            refine (awake12 wr).mono ?_
            rintro e w1 ⟨rfl, hb1⟩
            go_wp2
            go_ret
            exact ⟨rfl, hb.trans (hb1.mono hbase)⟩
end Go.Proofs.Ytcnkmfmdadmaaaa
