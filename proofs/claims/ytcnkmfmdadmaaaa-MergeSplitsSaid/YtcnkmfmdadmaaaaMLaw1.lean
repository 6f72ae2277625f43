/- law12.MergeLists walked. -/
import Derived.Test.YtcnkmfmdadmaaaaMAwake
namespace Go.Proofs.Ytcnkmfmdadmaaaa
open Go.RowKit

theorem llElem : Elem Try.prog 22 23 1 24 := elem_of Try.underlying22 (by kernel_rfl)
def inOf (ls : List (List Ent)) (n k : Nat) : List (List Ent) := (ls.take k).map fun l => rise (few l n)
theorem inOf_succ (ls : List (List Ent)) (n k : Nat) (h : k < ls.length) : inOf ls n (k + 1) = inOf ls n k ++ [rise (few ls[k] n)] := by
  unfold inOf; rw [List.take_succ_eq_append_getElem h, List.map_append]; rfl
theorem inOf_len (ls : List (List Ent)) (n k : Nat) : (inOf ls n k).length ≤ k := by simp [inOf]; omega
theorem inOf_sorted (ls : List (List Ent)) (n k : Nat) : AllSorted (inOf ls n k) := by
  intro l hl
  obtain ⟨l', _, rfl⟩ := List.mem_map.1 hl
  exact rise_sorted _
theorem inOf_total (ls : List (List Ent)) (n k : Nat) : total (inOf ls n k) ≤ k * n := by
  have key : ∀ (m : List (List Ent)), total (m.map fun l => rise (few l n)) ≤ m.length * n := by
    intro m
    induction m with
    | nil => simp [total]
    | cons l m ih =>
      have h1 := rise_len (few l n)
      have h2 := few_len l n
      simp only [total, List.map_cons, List.sum_cons, List.length_cons, Nat.add_mul, Nat.one_mul] at *
      omega
  refine Nat.le_trans (key _) (Nat.mul_le_mul_right _ ?_)
  simp; omega
/-- The lists that a law has made so far: the outer slice's own row, the inner ones beside it. -/
def Made (w : World) (B : Nat) (o : Value) (ls : List (List Ent)) : Prop :=
  ∃ vs : List SV, vs.length = ls.length ∧ Own w B 23 svC 1 o vs ∧ ∀ (i : Nat) v l, vs[i]? = some v → ls[i]? = some l → EntS w (fun g => B ≤ g ∧ o.ownBlock ≠ some g) v.val l
theorem Made.LL {w : World} {B : Nat} {o : Value} {ls : List (List Ent)} (h : Made w B o ls) : ∃ A cap, o = .slice A ls.length cap ∧ ls.length ≤ cap ∧ cap ≤ maxLen ∧ LL w (fun g => B ≤ g) (fun g => B ≤ g) A ls := by
  obtain ⟨vs, h1, h2, h3⟩ := h
  obtain ⟨A, cap, hv, h4, h5, h6⟩ := h2.sl svC_length
  rw [h1] at hv h4
  exact ⟨A, cap, hv, h4, h5, vs, h1, h6.imp (fun k hk => (h2.lt k hk).1), fun i v l a b => (h3 i v l a b).imp (fun g hg => hg.1)⟩
theorem Made.empty (w : World) {B : Nat} (hb : B ≤ w.heap.size) : Made (w.alloc (.cells #[] 23)) B (.slice (some ⟨w.heap.size, 0, none⟩) 0 0) [] :=
  ⟨[], rfl, Own.empty w _ _ _ hb, fun i v l h => by simp at h⟩
theorem Made.below {w w' : World} {B : Nat} {o : Value} {ls : List (List Ent)} (h : Made w B o ls) (hb : Below w.heap.size w w') : Made w' B o ls := by
  obtain ⟨vs, h1, h2, h3⟩ := h
  exact ⟨vs, h1, h2.below hb, fun i v l a b => (h3 i v l a b).below hb⟩
/-- One list more. -/
theorem Made.snoc {w w' : World} {B : Nat} {o o' : Value} {ls : List (List Ent)} {vs : List SV} {s : SV} {l : List Ent} (h1 : vs.length = ls.length)
    (h3 : ∀ (i : Nat) v l, vs[i]? = some v → ls[i]? = some l → EntS w (fun g => B ≤ g ∧ o.ownBlock ≠ some g) v.val l) (hs : EntS w (fun g => B ≤ g ∧ o.ownBlock ≠ some g) s.val l)
    (ho : Own w' B 23 svC 1 o' (vs ++ [s])) (hg : w.grownBy w' o.ownBlock) (hv : o'.ownBlock = o.ownBlock ∨ o'.ownBlock = some w.heap.size) : Made w' B o' (ls ++ [l]) := by
  refine ⟨vs ++ [s], by simp [h1], ho, fun i v m a b => ?_⟩
  rcases Nat.lt_or_ge i vs.length with hi | hi
  · rw [List.getElem?_append_left hi] at a
    rw [List.getElem?_append_left (by omega)] at b
    exact (h3 i v m a b).app entC_pos hg hv
  · rw [List.getElem?_append_right hi] at a
    rw [List.getElem?_append_right (by omega)] at b
    have hi0 : i - vs.length = 0 := by
      have := (List.getElem?_eq_some_iff.1 a).1; simp at this; omega
    rw [hi0] at a; rw [← h1, hi0] at b
    simp at a b; subst a; subst b
    exact hs.app entC_pos hg hv

set_option maxRecDepth 100000 in
set_option maxHeartbeats 1000000 in
theorem law_mergeLists (A : Option Addr) (cap : Nat) (ls : List (List Ent)) (drop : Bool) (F G : Nat → Prop) (w : World) (hs : LL w F G A ls) :
    Calls Try.prog 3 #[.slice A ls.length cap, .bool drop] w fun e w' => e = .returned (.bool true) ∧ Below w.heap.size w w' := by
  have hE := Lib.hid llElem
  go_enter Try.func3, Try.ntmps3
  go_wp2
  go_loopw [5, 6] (fun o i wr => ∃ k : Nat, k ≤ ls.length ∧ k ≤ 8 ∧ i = .int .i64 k ∧ Made wr w.heap.size o (inOf ls 40 k) ∧ Below w.heap.size w wr) (fun _ i _ => 8 - (intOf i).toNat)
  case atStart => exact ⟨0, Nat.zero_le _, Nat.zero_le _, rfl, Made.empty w (Nat.le_refl _), (Below.refl _ _).alloc (Nat.le_refl _) _⟩
  case round =>
    obtain ⟨k, hk, hk8, rfl, ho, hb⟩ := hrel
    have hbase : w.heap.size ≤ wr.heap.size := hb.size
    by_cases hlt : k < ls.length ∧ k < 8
    · obtain ⟨hlt1, hlt2⟩ := hlt
      obtain ⟨b, off, Bi, ci, rfl, hcell, hl1, hl2, hin⟩ := (hs.below hb).at_ hlt1
      have hnext := inOf_succ ls 40 k hlt1
      have HN := Lib.hid hnext
      have hll := inOf_len ls 40 k
      clear hnext hs
      obtain ⟨vs, hv1, hv2, hv3⟩ := ho
      have hvl : vs.length < 9 := by omega
      have HV1 := Lib.hid hv1; have HV3 := Lib.hid hv3
      clear hv1 hv3 hll
      go_wp2_with fail
      refine (rising_any Bi ci ls[k] 40 (by omega) (by omega) _ wr hin).mono ?_
      rintro e w1 ⟨v1, rfl, ho1, hb1⟩
      obtain ⟨A1, c1, rfl, h1, h2, hs1⟩ := ho1.sl entC_length
      have hbw : w.heap.size ≤ w1.heap.size := by have := hb1.size; omega
      have hv2' := hv2.below hb1
      go_wp2_with (at_builtin; refine wpList_app1 (by rfl) (.tmp 18) (.tmp 24) (by rfl) hE.out svC_length svC_one (by rfl) (by exact hv2'.alloc _) (g := _) 1 ⟨A1, _, c1⟩ (by rfl) (by exact Blk.new_ (by simp)) (by rfl) 9 hvl (by omega) (by unfold maxLen; omega) (by simp; omega) ?_; intro v3 w3 ho3 hg3 hv3)
      go_roundw
      case rel =>
        refine ⟨k + 1, by omega, by omega, by go_num, ?_, (((hb.trans (hb1.mono hb.size)).alloc hbw _).grown hg3 (by simp; omega) (fun g hg => (hv2.lt g hg).1))⟩
        rw [HN.out]
        refine Made.snoc HV1.out (fun i v l a b => (((HV3.out i v l a b).below hb1).below ((Below.refl _ _).alloc (Nat.le_refl _) _))) ?_ ho3 hg3 hv3
        refine Sl.below (w := w1) ?_ ((Below.refl _ _).alloc (Nat.le_refl _) _)
        refine ⟨A1, c1, rfl, h1, h2, hs1.imp fun g hg => ⟨by have := (ho1.lt g hg).1; omega, fun e => by have := (hv2.lt g e).2; have := (ho1.lt g hg).1; omega⟩⟩
      case measure => simp [intOf] <;> omega
    · have htot := inOf_total ls 40 k
      have hlen := inOf_len ls 40 k
      have hsorted := inOf_sorted ls 40 k
      generalize inOf ls 40 k = xs at ho htot hlen hsorted
      have heq := mLists_eq xs drop hsorted
      have HEQ := Lib.hid heq
      clear heq hsorted hs
      obtain ⟨Ax, cx, rfl, hx1, hx2, hx⟩ := ho.LL
      go_wp2_with fail
      all_goals
        refine (awake12 wr).mono ?_
        rintro e w1 ⟨rfl, hb1⟩
        go_wp2_with fail
        refine (mLists_any Ax cx xs drop _ _ w1 (by omega) (by omega) (hx.below hb1)).mono ?_
        rintro e w2 ⟨v2, rfl, ho2, hb2⟩
        go_wp2_with fail
        refine (refLists_any Ax cx xs drop _ _ w2 (by omega) (by omega) ((hx.below hb1).below hb2)).mono ?_
        rintro e w3 ⟨v3, rfl, ho3, hb3⟩
        obtain ⟨A2, c2, rfl, h21, h22, hs2⟩ := (ho2.sl entC_length).below hb3
        obtain ⟨A3, c3, rfl, h31, h32, hs3⟩ := ho3
        go_wp2_with fail
        refine (same_any A2 A3 c2 c3 _ _ _ _ w3 (by omega) hs2 hs3).mono ?_
        rintro e w4 ⟨rfl, hb4⟩
        rw [HEQ.out, sameB_refl]
        go_wp2
        go_ret
        exact ⟨rfl, hb.trans ((hb1.trans ((hb2.mono hb1.size).trans ((hb3.mono (Nat.le_trans hb1.size hb2.size)).trans (hb4.mono (Nat.le_trans hb1.size (Nat.le_trans hb2.size hb3.size)))))).mono hbase)⟩
end Go.Proofs.Ytcnkmfmdadmaaaa
