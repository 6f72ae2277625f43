/- Lists of lists of entries in memory; ref12.Lists walked. -/
import Derived.Test.YtcnkmfmdadmaaaaPut
namespace Go.Proofs.Ytcnkmfmdadmaaaa
open Go.RowKit

theorem entC_pos (x : Ent) : 0 < (entC x).length := by simp [entC]

/-- A slice of slices of entries that reads as ls. -/
def LL (w : World) (F G : Nat → Prop) (A : Option Addr) (ls : List (List Ent)) : Prop :=
  ∃ vs : List SV, vs.length = ls.length ∧ SlA w F svC 1 A vs ∧ ∀ (i : Nat) v l, vs[i]? = some v → ls[i]? = some l → EntS w G v.val l

section
variable {w w' : World} {F G S : Nat → Prop} {A : Option Addr} {ls : List (List Ent)}
theorem LL.at_ (h : LL w F G A ls) {i : Nat} (hi : i < ls.length) : ∃ b off B cap, A = some ⟨b, off, none⟩ ∧ w.cell? ⟨b, off + i, none⟩ = some (.slice B ls[i].length cap) ∧ ls[i].length ≤ cap ∧ cap ≤ maxLen ∧ EntA w G B ls[i] := by
  obtain ⟨vs, hl, hs, hv⟩ := h
  have hi' : i < vs.length := by omega
  obtain ⟨b, off, hA, hF, hc⟩ := hs.at_ hi'
  obtain ⟨B, cap, he, h1, h2, h3⟩ := hv i _ _ (List.getElem?_eq_getElem hi') (List.getElem?_eq_getElem hi)
  have := hc 0 (vs[i].val) rfl
  rw [he] at this
  simp only [Nat.mul_one, Nat.add_zero] at this
  exact ⟨b, off, B, cap, hA, this, h1, h2, h3⟩
theorem LL.below (h : LL w F G A ls) (hm : Below w.heap.size w w') : LL w' F G A ls := by
  obtain ⟨vs, hl, hs, hv⟩ := h
  exact ⟨vs, hl, hs.below hm, fun i v l h1 h2 => (hv i v l h1 h2).below hm⟩
theorem LL.mod (h : LL w F G A ls) (hm : Mod S w w') (hF : ∀ k, F k → ¬ S k) (hG : ∀ k, G k → ¬ S k) : LL w' F G A ls := by
  obtain ⟨vs, hl, hs, hv⟩ := h
  exact ⟨vs, hl, hs.mod hm hF, fun i v l h1 h2 => (hv i v l h1 h2).mod hm hG⟩
theorem LL.imp {F' G' : Nat → Prop} (h : LL w F G A ls) (hF : ∀ k, F k → F' k) (hG : ∀ k, G k → G' k) : LL w F' G' A ls := by
  obtain ⟨vs, hl, hs, hv⟩ := h
  exact ⟨vs, hl, hs.imp hF, fun i v l h1 h2 => (hv i v l h1 h2).imp hG⟩
end

def total (ls : List (List Ent)) : Nat := (ls.map List.length).sum
def refAll (ls : List (List Ent)) : List Ent := ls.foldr (fun l all => l.foldl put all) []
def refLists (ls : List (List Ent)) (drop : Bool) : List Ent := (refAll ls).filter fun x => !drop || !x.gone
theorem foldl_put_len (l : List Ent) : ∀ all, (l.foldl put all).length ≤ all.length + l.length := by
  induction l with
  | nil => intro all; simp
  | cons x l ih => intro all; have := ih (put all x); have := put_len all x; simp only [List.foldl_cons, List.length_cons]; omega
theorem refAll_len (ls : List (List Ent)) : (refAll ls).length ≤ total ls := by
  induction ls with
  | nil => simp [refAll, total]
  | cons l ls ih => have := foldl_put_len l (refAll ls); simp only [refAll, total, List.foldr_cons, List.map_cons, List.sum_cons] at *; omega
theorem refAll_drop (ls : List (List Ent)) (k : Nat) (h : k < ls.length) : refAll (ls.drop k) = ls[k].foldl put (refAll (ls.drop (k + 1))) := by
  rw [List.drop_eq_getElem_cons h]; rfl
theorem total_drop (ls : List (List Ent)) (k : Nat) : total (ls.drop k) ≤ total ls := by
  induction ls generalizing k with
  | nil => simp
  | cons l ls ih => cases k with
    | zero => simp
    | succ k => have := ih k; simp only [List.drop_succ_cons, total, List.map_cons, List.sum_cons] at *; omega
theorem total_get (ls : List (List Ent)) (k : Nat) (h : k < ls.length) : total (ls.drop (k + 1)) + ls[k].length ≤ total ls := by
  have h1 := total_drop ls k
  rw [List.drop_eq_getElem_cons h] at h1
  simp only [total, List.map_cons, List.sum_cons] at *; omega

set_option maxRecDepth 100000 in
set_option maxHeartbeats 1000000 in
theorem refLists_any (A : Option Addr) (cap : Nat) (ls : List (List Ent)) (drop : Bool) (F G : Nat → Prop) (w : World) (hn : ls.length ≤ 1000000) (ht : total ls ≤ 100000) (hs : LL w F G A ls) :
    Calls Try.prog 19 #[.slice A ls.length cap, .bool drop] w fun e w' => ∃ v, e = .returned v ∧ EntS w' (fun g => w.heap.size ≤ g) v (refLists ls drop) ∧ Below w.heap.size w w' := by
  have hE := Lib.hid entElem
  go_enter Try.func19, Try.ntmps19
  go_wp2
  go_loopw [5, 6] (fun o i wr => ∃ k : Nat, k ≤ ls.length ∧ i = .int .i64 ((k : Int) - 1) ∧ EntS wr (fun g => w.heap.size ≤ g) o (refAll (ls.drop k)) ∧ Below w.heap.size w wr) (fun _ i _ => (intOf i + 1).toNat)
  case atStart => exact ⟨ls.length, Nat.le_refl _, rfl, by rw [List.drop_length]; exact ((Own.empty w _ entC 3 (Nat.le_refl _)).sl entC_length).imp (fun k hk => by simp [Value.ownBlock] at hk; omega), (Below.refl _ _).alloc (Nat.le_refl _) _⟩
  case round =>
    obtain ⟨k, hk, rfl, ho, hb⟩ := hrel
    rcases k with _ | k
    · rw [List.drop_zero] at ho
      clear hs
      rw [show (((0 : Nat) : Int) - 1) = -1 from rfl]
      obtain ⟨Aa, ca, rfl, hca, hcm, hsa⟩ := ho
      have hsa := hsa.here entC_pos
      have htl := refAll_len ls
      generalize hra : refAll ls = all at *
      have HRA := Lib.hid hra; clear hra
      go_wp2
      have hbw : w.heap.size ≤ wr.heap.size := hb.size
      obtain ⟨wo, rfl⟩ : ∃ wo : World, wo = wr := ⟨_, rfl⟩
      go_loopw [9, 36] (fun o i wr => ∃ j : Nat, j ≤ all.length ∧ i = .int .i64 j ∧ EntO wr wo.heap.size o ((all.take j).filter fun x => !drop || !x.gone) ∧ Below wo.heap.size wo wr) (fun _ i _ => all.length - (intOf i).toNat)
      case atStart => exact ⟨0, Nat.zero_le _, rfl, Own.empty _ _ _ _ (Nat.le_refl _), (Below.refl _ _).alloc (Nat.le_refl _) _⟩
      case round =>
        obtain ⟨j, hj, rfl, ho2, hb2⟩ := hrel
        by_cases hjlt : j < all.length
        · obtain ⟨b2, off2, rfl, hF2, hc0, hc1, hc2⟩ := EntA.cells (hsa.belowB hb2) hjlt
          obtain ⟨y0, y1, y2⟩ := At3.new wr 31 (.string all[j].key) (.string all[j].val) (.bool all[j].gone)
          have hfs : (all.take (j + 1)).filter (fun x => !drop || !x.gone) = ((all.take j).filter fun x => !drop || !x.gone) ++ (if (!drop || !all[j].gone) = true then [all[j]] else []) := by
            rw [List.take_succ_eq_append_getElem hjlt, List.filter_append, List.filter_cons, List.filter_nil]
          have hfl := List.length_filter_le (fun x : Ent => !drop || !x.gone) (all.take j)
          generalize (all.take j).filter (fun x => !drop || !x.gone) = cur at ho2 hfs hfl
          have hcl : cur.length < 100001 := by simp at hfl; omega
          have hbase : wo.heap.size ≤ wr.heap.size := hb2.size
          cases hx : (!drop || !all[j].gone) with
          | true =>
            rw [hx, if_pos rfl] at hfs
            have HFS := Lib.hid hfs; clear hfs
            have hxx := keep_true hx
            rcases hxx with rfl | ⟨rfl, hgn⟩
            all_goals
              go_wp2_with (at_builtin; refine wpList_app1 (by rfl) (.tmp 47) (.tmp 49) (by rfl) hE.out entC_length entC_one (by rfl) (by exact (ho2.alloc _).alloc _) (g := _) 1 all[j] (by rfl) (by exact Blk.new_ (by simp)) (by first | rfl | simp [entC, *]) 100001 hcl (by omega) (by unfold maxLen; omega) (by simp; omega) ?_; intro v3 w3 ho3 hg3 hv3)
              go_roundw
              case rel => exact ⟨j + 1, by omega, by go_num, by rw [HFS.out]; exact ho3, ((hb2.alloc hbase _).alloc (by simp; omega) _).grown hg3 (by simp; omega) (fun g hg => (ho2.lt g hg).1)⟩
              case measure => simp [intOf] <;> omega
          | false =>
            rw [hx, if_neg (by simp), List.append_nil] at hfs
            have HFS := Lib.hid hfs; clear hfs
            have hxx := keep_false hx
            obtain ⟨rfl, hgn⟩ := hxx
            go_wp2
            go_roundw
            case rel => exact ⟨j + 1, by omega, by go_num, by rw [HFS.out]; exact ho2.alloc _, hb2.alloc hbase _⟩
            case measure => simp [intOf] <;> omega
        · have hx : all.take j = all := List.take_of_length_le (by omega)
          rw [hx] at ho2; clear hx
          go_wp2
          go_ret
          exact ⟨_, rfl, by unfold refLists; rw [HRA.out]; exact (ho2.sl entC_length).imp (fun g hg => by have := (ho2.lt g hg).1; omega), hb.trans (hb2.mono hbw)⟩
    · rw [show (((k + 1 : Nat) : Int) - 1) = (k : Int) by omega]
      have hlt : k < ls.length := by omega
      obtain ⟨b, off, Bi, ci, rfl, hcell, hl1, hl2, hin⟩ := (hs.below hb).at_ hlt
      have hge : total (ls.drop (k + 1)) + ls[k].length ≤ 100000 := Nat.le_trans (total_get ls k hlt) ht
      have hln : ls[k].length ≤ 100000 := by omega
      have hra := refAll_len (ls.drop (k + 1))
      obtain ⟨wo, rfl⟩ : ∃ wo : World, wo = wr := ⟨_, rfl⟩
      go_wp2
      go_loopw [5, 25] (fun o i wr => ∃ j : Nat, j ≤ ls[k].length ∧ i = .int .i64 j ∧ EntS wr (fun g => w.heap.size ≤ g) o ((ls[k].take j).foldl put (refAll (ls.drop (k + 1)))) ∧ Below wo.heap.size wo wr) (fun _ i _ => ls[k].length - (intOf i).toNat)
      case atStart => exact ⟨0, Nat.zero_le _, rfl, ho, Below.refl _ _⟩
      case round =>
        obtain ⟨j, hj, rfl, ho2, hb2⟩ := hrel
        by_cases hjlt : j < ls[k].length
        · obtain ⟨b2, off2, rfl, hF2, hc0, hc1, hc2⟩ := EntA.cells (hin.below hb2) hjlt
          have hY := At3.new wr 31 (.string ls[k][j].key) (.string ls[k][j].val) (.bool ls[k][j].gone)
          obtain ⟨y0, y1, y2⟩ := hY
          have hpl := foldl_put_len (ls[k].take j) (refAll (ls.drop (k + 1)))
          have hfs := foldl_take_succ put (refAll (ls.drop (k + 1))) ls[k] j hjlt
          generalize (ls[k].take j).foldl put (refAll (ls.drop (k + 1))) = cur at ho2 hpl hfs
          have HFS := Lib.hid hfs; clear hfs
          obtain ⟨Ao, co, rfl, hco, hcm, hso⟩ := ho2
          go_wp2_with fail
          refine (put_any Ao co cur ls[k][j] _ _ (by simp at hpl; omega) (hso.below ((Below.refl _ _).alloc (Nat.le_refl _) _))).mono ?_
          rintro e w3 ⟨v3, rfl, ho3, hb3⟩
          have hb4 : Below wr.heap.size wr w3 := ((Below.refl _ _).alloc (Nat.le_refl _) _).trans (hb3.mono (by simp))
          go_wp2
          go_roundw
          case rel => exact ⟨j + 1, by omega, by go_num, by rw [HFS.out]; exact (ho3.sl entC_length).imp (fun g hg => by have := (ho3.lt g hg).1; have := hb.size; have := hb2.size; simp at *; omega), hb2.trans (hb4.mono hb2.size)⟩
          case measure => simp [intOf] <;> omega
        · have hx : ls[k].take j = ls[k] := List.take_of_length_le (by omega)
          rw [hx, ← refAll_drop ls k hlt] at ho2; clear hx
          go_wp2
          go_roundw
          case rel => exact ⟨k, by omega, rfl, ho2, hb.trans (hb2.mono hb.size)⟩
          case measure => simp [intOf] <;> omega
end Go.Proofs.Ytcnkmfmdadmaaaa
