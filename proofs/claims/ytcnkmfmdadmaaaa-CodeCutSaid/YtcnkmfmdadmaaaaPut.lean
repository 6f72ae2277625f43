/- ref12.Put, ref12.Lists, ref12.Find walked. -/
import Derived.Test.YtcnkmfmdadmaaaaEnt
namespace Go.Proofs.Ytcnkmfmdadmaaaa
open Go.RowKit

def kLt (a b : ByteArray) : Bool := Op.bytesLess a.toList b.toList
def kEq (a b : ByteArray) : Bool := a.toList == b.toList
def putLoop (x : Ent) : List Ent → Bool → List Ent
  | [], done => if done then [] else [x]
  | y :: ys, done => (if !done && !kLt y.key x.key then [x] else []) ++ ((if !kEq y.key x.key then [y] else []) ++ putLoop x ys (done || !kLt y.key x.key))
def put (l : List Ent) (x : Ent) : List Ent := putLoop x l false
theorem putLoop_drop (x : Ent) (l : List Ent) (k : Nat) (h : k < l.length) (d : Bool) :
    putLoop x (l.drop k) d = (if !d && !kLt l[k].key x.key then [x] else []) ++ ((if !kEq l[k].key x.key then [l[k]] else []) ++ putLoop x (l.drop (k + 1)) (d || !kLt l[k].key x.key)) := by
  rw [List.drop_eq_getElem_cons h]; rfl
theorem putLoop_len (x : Ent) (l : List Ent) (d : Bool) : (putLoop x l d).length ≤ l.length + (if d then 0 else 1) := by
  induction l generalizing d with
  | nil => cases d <;> simp [putLoop]
  | cons y l ih =>
    have h1 := ih (d || !kLt y.key x.key)
    simp only [putLoop, List.length_append, List.length_cons]
    cases d <;> cases h : kLt y.key x.key <;> cases kEq y.key x.key <;> simp [h] at h1 ⊢ <;> omega
theorem put_len (l : List Ent) (x : Ent) : (put l x).length ≤ l.length + 1 := by have := putLoop_len x l false; simp at this; exact this

set_option maxRecDepth 100000 in
set_option maxHeartbeats 1000000 in
theorem put_any (A : Option Addr) (cap : Nat) (l : List Ent) (x : Ent) (F : Nat → Prop) (w : World) (hl : l.length ≤ 1000000) (hs : EntA w F A l) :
    Calls Try.prog 64 #[.slice A l.length cap, .agg #[.string x.key, .string x.val, .bool x.gone]] w fun e w' => ∃ v, e = .returned v ∧ EntO w' w.heap.size v (put l x) ∧ Below w.heap.size w w' := by
  have hE := Lib.hid entElem
  have htot : (put l x).length < 1000002 := by have := put_len l x; omega
  obtain ⟨tgt, ht⟩ : ∃ t, t = put l x := ⟨_, rfl⟩
  rw [← ht] at htot ⊢
  have HT := Lib.hid ht; clear ht
  go_enter Try.func64, Try.ntmps64
  go_wp2
  obtain ⟨x0, x1, x2, hm0, hz0⟩ := new3 w 31 (.string x.key) (.string x.val) (.bool x.gone) _ rfl
  have hsz : (w.alloc (.cells #[.string x.key, .string x.val, .bool x.gone] 31)).heap.size = w.heap.size + 1 := by simp
  generalize w.alloc (.cells #[.string x.key, .string x.val, .bool x.gone] 31) = w1 at x0 x1 x2 hm0 hz0 hsz ⊢
  have HSZ := Lib.hid hsz; clear hsz
  have hs1 : EntA w1 (fun g => g < w1.heap.size) A l := by
    intro hx
    obtain ⟨b, off, hA, hF, hc⟩ := hs.mod hm0 (fun _ _ h => h) hx
    refine ⟨b, off, hA, ?_, hc⟩
    exact SlA.lt_ (hs.mod hm0 (fun _ _ h => h)) hx (fun _ => by simp [entC]) hA
  clear hs
  go_loopw [5, 6, 12] (fun o d i wr => ∃ (k : Nat) (cur : List Ent) (dn : Bool), k ≤ l.length ∧ i = .int .i64 k ∧ d = .bool dn ∧ EntO wr w1.heap.size o cur ∧ Hid (tgt = cur ++ putLoop x (l.drop k) dn) ∧ Below w1.heap.size w1 wr) (fun _ _ i _ => l.length - (intOf i).toNat)
  case atStart => exact ⟨0, [], false, Nat.zero_le _, rfl, rfl, by rw [← HSZ.out]; exact Own.empty _ _ _ _ (Nat.le_refl _), HT, (Below.refl _ _).alloc (Nat.le_refl _) _⟩
  case round =>
    clear HT
    obtain ⟨k, cur, dn, hk, rfl, rfl, ho, HT, hb⟩ := hrel
    have hcl : cur.length < 1000002 := by have := HT.out; rw [this] at htot; simp at htot; omega
    have hbase : w1.heap.size ≤ wr.heap.size := hb.size
    have hX := (show At3 w1 w.heap.size _ _ _ from ⟨x0, x1, x2⟩).below hb hz0
    clear x0 x1 x2
    by_cases hlt : k < l.length
    · obtain ⟨b, off, rfl, hF, hc0, hc1, hc2⟩ := EntA.cells (hs1.below hb) hlt
      have hY := At3.new wr 31 (.string l[k].key) (.string l[k].val) (.bool l[k].gone)
      have hX' := hX.alloc (.cells #[.string l[k].key, .string l[k].val, .bool l[k].gone] 31)
      have hnX : some w.heap.size ≠ u5.ownBlock := by intro e; have := ho.lt _ e.symm; omega
      have hnY : some wr.heap.size ≠ u5.ownBlock := by intro e; have := ho.lt _ e.symm; omega
      have hX2 := hX'; have hY2 := hY
      obtain ⟨e0, e1, e2⟩ := hX2
      obtain ⟨d0, d1, d2⟩ := hY2
      have hd := HT.out; rw [putLoop_drop x l k hlt] at hd
      clear HT
      cases hx2 : kEq l[k].key x.key
      · rcases dn with _ | _
        · cases hx1 : kLt l[k].key x.key
          · rw [hx1, hx2] at hd
            simp at hd
            have HD := Lib.hid hd; clear hd; unfold kLt at hx1; unfold kEq at hx2
            have hcl3 : (cur ++ [x]).length < 1000002 := by have := HD.out; rw [this] at htot; simp at htot ⊢; omega
            go_wp2_with (first | (at_builtin; (refine wpList_app1 (by rfl) (.tmp 25) (.tmp 27) (by rfl) hE.out entC_length entC_one (by rfl) (by exact (ho.alloc _).alloc _) (g := _) 1 x (by rfl) (by exact Blk.new_ (by simp)) (by rfl) 1000002 hcl (by omega) (by unfold maxLen; omega) (by simp; omega) ?_); intro v3 w3 ho3 hg3 hv3; have hX3 := (hX'.alloc _).grown hg3 hnX; have hY3 := (hY.alloc _).grown hg3 hnY; have hX4 := hX3; have hY4 := hY3; obtain ⟨r0, r1, r2⟩ := hX4; obtain ⟨q0, q1, q2⟩ := hY4; have hb3 : Below w1.heap.size w1 w3 := ((hb.alloc hbase _).alloc (by simp; omega) _).grown hg3 (by simp; omega) (fun g hg => (ho.lt g hg).1); have hbs3 := hb3.size; clear hX3 hY3 e0 e1 e2 d0 d1 d2) | (at_builtin; (refine wpList_app1 (by rfl) (.tmp 34) (.tmp 36) (by rfl) hE.out entC_length entC_one (by rfl) (by exact ho3.alloc _) (g := _) 1 l[k] (by rfl) (by exact Blk.new_ (by simp)) (by rfl) 1000002 hcl3 (by omega) (by unfold maxLen; omega) (by simp; omega) ?_); intro v4 w4 ho4 hg4 hv4; have hb4 : Below w1.heap.size w1 w4 := (hb3.alloc hb3.size _).grown hg4 (by have := hb3.size; simp; omega) (fun g hg => (ho3.lt g hg).1)))
            go_roundw
            case rel => exact ⟨k + 1, _, true, by omega, by go_num, rfl, ho4, Lib.hid (by simpa using HD.out), hb4⟩
            case measure => simp [intOf]; omega
          · rw [hx1, hx2] at hd
            simp at hd
            have HD := Lib.hid hd; clear hd; unfold kLt at hx1; unfold kEq at hx2
            go_wp2_with (first | (at_builtin; (refine wpList_app1 (by rfl) (.tmp 34) (.tmp 36) (by rfl) hE.out entC_length entC_one (by rfl) (by exact (ho.alloc _).alloc _) (g := _) 1 l[k] (by rfl) (by exact Blk.new_ (by simp)) (by rfl) 1000002 hcl (by omega) (by unfold maxLen; omega) (by simp; omega) ?_); intro v4 w4 ho4 hg4 hv4; have hb4 : Below w1.heap.size w1 w4 := ((hb.alloc hbase _).alloc (by simp; omega) _).grown hg4 (by simp; omega) (fun g hg => (ho.lt g hg).1)))
            go_roundw
            case rel => exact ⟨k + 1, _, false, by omega, by go_num, rfl, ho4, Lib.hid (by simpa using HD.out), hb4⟩
            case measure => simp [intOf]; omega
        · rw [hx2] at hd
          simp at hd
          have HD := Lib.hid hd; clear hd; unfold kEq at hx2
          go_wp2_with (first | (at_builtin; (refine wpList_app1 (by rfl) (.tmp 34) (.tmp 36) (by rfl) hE.out entC_length entC_one (by rfl) (by exact (ho.alloc _).alloc _) (g := _) 1 l[k] (by rfl) (by exact Blk.new_ (by simp)) (by rfl) 1000002 hcl (by omega) (by unfold maxLen; omega) (by simp; omega) ?_); intro v4 w4 ho4 hg4 hv4; have hb4 : Below w1.heap.size w1 w4 := ((hb.alloc hbase _).alloc (by simp; omega) _).grown hg4 (by simp; omega) (fun g hg => (ho.lt g hg).1)))
          go_roundw
          case rel => exact ⟨k + 1, _, true, by omega, by go_num, rfl, ho4, Lib.hid (by simpa using HD.out), hb4⟩
          case measure => simp [intOf]; omega
      · rcases dn with _ | _
        · cases hx1 : kLt l[k].key x.key
          · rw [hx1, hx2] at hd
            simp at hd
            have HD := Lib.hid hd; clear hd; unfold kLt at hx1; unfold kEq at hx2
            go_wp2_with (first | (at_builtin; (refine wpList_app1 (by rfl) (.tmp 25) (.tmp 27) (by rfl) hE.out entC_length entC_one (by rfl) (by exact (ho.alloc _).alloc _) (g := _) 1 x (by rfl) (by exact Blk.new_ (by simp)) (by rfl) 1000002 hcl (by omega) (by unfold maxLen; omega) (by simp; omega) ?_); intro v3 w3 ho3 hg3 hv3; have hX3 := (hX'.alloc _).grown hg3 hnX; have hY3 := (hY.alloc _).grown hg3 hnY; have hX4 := hX3; have hY4 := hY3; obtain ⟨r0, r1, r2⟩ := hX4; obtain ⟨q0, q1, q2⟩ := hY4; have hb3 : Below w1.heap.size w1 w3 := ((hb.alloc hbase _).alloc (by simp; omega) _).grown hg3 (by simp; omega) (fun g hg => (ho.lt g hg).1); have hbs3 := hb3.size; clear hX3 hY3 e0 e1 e2 d0 d1 d2))
            go_roundw
            case rel => exact ⟨k + 1, _, true, by omega, by go_num, rfl, ho3, Lib.hid (by simpa using HD.out), hb3⟩
            case measure => simp [intOf]; omega
          · rw [hx1, hx2] at hd
            simp at hd
            have HD := Lib.hid hd; clear hd; unfold kLt at hx1; unfold kEq at hx2
            go_wp2
            go_roundw
            case rel => exact ⟨k + 1, _, false, by omega, by go_num, rfl, ho.alloc _, Lib.hid (by simpa using HD.out), hb.alloc hbase _⟩
            case measure => simp [intOf]; omega
        · rw [hx2] at hd
          simp at hd
          have HD := Lib.hid hd; clear hd; unfold kEq at hx2
          go_wp2
          go_roundw
          case rel => exact ⟨k + 1, _, true, by omega, by go_num, rfl, ho.alloc _, Lib.hid (by simpa using HD.out), hb.alloc hbase _⟩
          case measure => simp [intOf]; omega
    · have hx : l.drop k = [] := List.drop_of_length_le (by omega)
      have hd := HT.out; rw [hx] at hd; clear hx HT
      obtain ⟨x0, x1, x2⟩ := hX
      cases dn
      · simp [putLoop] at hd
        have HD := Lib.hid hd; clear hd
        go_wp2_with (at_builtin; (refine wpList_app1 (by rfl) (.tmp 41) (.tmp 43) (by rfl) hE.out entC_length entC_one (by rfl) (by exact ho.alloc _) (g := _) 1 x (by rfl) (by exact Blk.new_ (by simp)) (by rfl) 1000002 hcl (by omega) (by unfold maxLen; omega) (by simp; omega) ?_); intro v4 w4 ho4 hg4 hv4; have hb4 : Below w1.heap.size w1 w4 := (hb.alloc hbase _).grown hg4 (by simp; omega) (fun g hg => (ho.lt g hg).1))
        go_ret
        exact ⟨_, rfl, by rw [HD.out]; exact ho4.base (by omega), (hm0.to_below (fun _ _ h => h) (Nat.le_refl _)).trans (hb4.mono (by omega))⟩
      · simp [putLoop] at hd
        have HD := Lib.hid hd; clear hd
        go_wp2
        go_ret
        exact ⟨_, rfl, by rw [HD.out]; exact ho.base (by omega), (hm0.to_below (fun _ _ h => h) (Nat.le_refl _)).trans (hb.mono (by omega))⟩
end Go.Proofs.Ytcnkmfmdadmaaaa
