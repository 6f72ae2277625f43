/- Entries: how they lie in memory; law03.Cut, law09.Few, ref09.Same walked. -/
import Derived.Test.YtcnkmfmdadmaaaaProg
import Derived.Test.YtcnkmfmdadmaaaaBase
import Derived.Laws.StructEq
namespace Go.Proofs.Ytcnkmfmdadmaaaa
open Go.RowKit

structure Ent where
  key : ByteArray
  val : ByteArray
  gone : Bool

def entC (x : Ent) : List Value := [.string x.key, .string x.val, .bool x.gone]
theorem entC_length (x : Ent) : (entC x).length = 3 := rfl
theorem entC_one (x : Ent) : ∀ u ∈ entC x, u.oneCell' = true := by
  intro u hu
  simp [entC] at hu
  rcases hu with rfl | rfl | rfl <;> rfl

abbrev EntA (w : World) (F : Nat → Prop) (A : Option Addr) (xs : List Ent) : Prop := SlA w F entC 3 A xs
abbrev EntS (w : World) (F : Nat → Prop) (v : Value) (xs : List Ent) : Prop := Sl w F entC 3 v xs
abbrev EntO (w : World) (B : Nat) (v : Value) (xs : List Ent) : Prop := Own w B 31 entC 3 v xs

theorem entElem : Elem Try.prog 23 31 3 40 := elem_of Try.underlying23 (by kernel_rfl)

theorem EntA.cells {w : World} {F : Nat → Prop} {A : Option Addr} {xs : List Ent} (h : EntA w F A xs) {k : Nat} (hk : k < xs.length) :
    ∃ b off, A = some ⟨b, off, none⟩ ∧ F b ∧ w.cell? ⟨b, off + k * 3, none⟩ = some (.string xs[k].key) ∧ w.cell? ⟨b, off + k * 3 + 1, none⟩ = some (.string xs[k].val) ∧ w.cell? ⟨b, off + k * 3 + 2, none⟩ = some (.bool xs[k].gone) := by
  obtain ⟨b, off, hA, hF, hc⟩ := h.at_ hk
  exact ⟨b, off, hA, hF, hc 0 _ rfl, hc 1 _ rfl, hc 2 _ rfl⟩

def cut (s : ByteArray) (n : Nat) : ByteArray := if n < s.size then s.extract 0 n else s

def Is (v : Value) (w : World) (e : Ending) (w' : World) : Prop := e = .returned v ∧ w' = w

theorem cut_any (s : ByteArray) (n : Int) (h0 : 0 ≤ n) (hn : n ≤ 1000000) (w : World) : Calls Try.prog 36 #[.string s, .int .i64 n] w (Is (.string (cut s n.toNat)) w) := by
  obtain ⟨n, rfl⟩ := Int.eq_ofNat_of_zero_le h0
  rw [Int.toNat_natCast]
  by_cases h : n < s.size
  · have hc : cut s n = s.extract 0 n := by simp [cut, h]
    have HC := Lib.hid hc; clear hc
    go_enter Try.func36, Try.ntmps36
    go_wp2
    go_ret
    exact ⟨by rw [HC.out]; rfl, rfl⟩
  · have hc : cut s n = s := by simp [cut, h]
    have HC := Lib.hid hc; clear hc
    go_enter Try.func36, Try.ntmps36
    go_wp2
    go_ret
    exact ⟨by rw [HC.out]; rfl, rfl⟩

def trimE (x : Ent) : Ent := ⟨cut x.key 110, cut x.val 4010, x.gone⟩
def few (l : List Ent) (n : Nat) : List Ent := (l.take n).map trimE

set_option maxHeartbeats 400000 in
set_option maxRecDepth 100000 in
theorem few_any (A : Option Addr) (cap : Nat) (l : List Ent) (n : Int) (h0 : 0 ≤ n) (hn : n ≤ 1000) (F : Nat → Prop) (w : World)
    (hs : EntA w F A l) :
    Calls Try.prog 21 #[.slice A l.length cap, .int .i64 n] w fun e w' => ∃ v, e = .returned v ∧ EntO w' w.heap.size v (few l n.toNat) ∧ Below w.heap.size w w' := by
  obtain ⟨n, rfl⟩ := Int.eq_ofNat_of_zero_le h0
  rw [Int.toNat_natCast]
  have hE := Lib.hid entElem
  go_enter Try.func21, Try.ntmps21
  go_wp2
  go_loopw [5, 6] (fun o i wr => ∃ k : Nat, k ≤ l.length ∧ k ≤ n ∧ i = .int .i64 k ∧ EntO wr w.heap.size o ((l.take k).map trimE) ∧ Below w.heap.size w wr) (fun _ i _ => l.length - (intOf i).toNat)
  case atStart => exact ⟨0, Nat.zero_le _, Nat.zero_le _, rfl, Own.empty w _ _ _ (Nat.le_refl _), (Below.refl _ _).alloc (Nat.le_refl _) _⟩
  case round =>
    obtain ⟨k, hk, hkn, rfl, ho, hb⟩ := hrel
    by_cases hlt : k < l.length ∧ k < n
    · obtain ⟨h1, h2⟩ := hlt
      obtain ⟨b, off, rfl, hF, hc0, hc1, hc2⟩ := EntA.cells (hs.below hb) h1
      go_wp2
      obtain ⟨f0, f1, f2, hm1, hz1⟩ := new3 wr 31 (.string l[k].key) (.string l[k].val) (.bool l[k].gone) _ rfl
      generalize wr.alloc (.cells #[.string l[k].key, .string l[k].val, .bool l[k].gone] 31) = w1 at f0 f1 f2 hm1 hz1 ⊢
      clear hc0 hc1 hc2
      have ho1 := (ho.mod (S := None_) hm1 (fun _ _ h => h))
      have hbase : w.heap.size ≤ w1.heap.size := by have := hb.size; omega
      have hne := Own.far_ ho.lt
      have hlen : ((l.take k).map trimE).length < 1001 := by simp; omega
      go_region_held3 (fun w' => w'.cell? ⟨wr.heap.size, 0, none⟩ = some (.string l[k].key) ∧ w'.cell? ⟨wr.heap.size, 1, none⟩ = some (.string l[k].val) ∧ w'.cell? ⟨wr.heap.size, 2, none⟩ = some (.bool l[k].gone))
        (first | go_keep | exact ⟨hg2.cell (cell_alloc f0 _) hne, hg2.cell (cell_alloc f1 _) hne, hg2.cell (cell_alloc f2 _) hne⟩)
        (first
          | (go_at_call 36; refine (cut_any _ _ (by omega) (by omega) _).mono ?_; rintro e w' ⟨rfl, rfl⟩)
          | (refine step_app1 (by rfl) (.tmp 24) (.tmp 34) (by rfl) hE.out entC_length entC_one (v := u5) (by rfl) (by exact (ho1.alloc _).drew) (g := w1.heap.size) 1 (trimE l[k]) (by rfl) (by exact (Blk.new _ _ _).drew) (by rfl) 1001 hlen (by omega) (by unfold maxLen; omega) (by simp; omega) ?_; intro v' w2 ho2 hg2 hv2))
      go_wp2
      go_roundw
      case rel =>
        refine ⟨k + 1, by omega, by omega, by go_num, ?_, ?_⟩
        · rw [List.take_succ_eq_append_getElem h1, List.map_append]; exact ho2
        · have h3 : Below w.heap.size w w1 := hb.trans (Mod.to_below hm1 (fun _ _ h => h) hb.size)
          exact ((h3.alloc hbase _).drew).grown hg2 (by simp; omega) (fun g hg => (ho.lt g hg).1)
      case measure => simp [intOf]; omega
    · have hx : l.take k = l.take n := by
        rcases Nat.lt_or_ge k l.length with h | h
        · rw [show k = n by omega]
        · rw [List.take_of_length_le h, List.take_of_length_le (by omega)]
      have HX := Lib.hid hx; clear hx
      go_wp2
      all_goals go_ret
      all_goals exact ⟨_, rfl, by unfold few; rw [← HX.out]; exact ho, hb⟩

/-- Two entries, compared by Go's ==. -/
def entEq (x y : Ent) : Bool := x.key.toList == y.key.toList && (x.val.toList == y.val.toList && x.gone == y.gone)

theorem ent_eql (x y : Ent) (w : World) : (binOp .eql 31 (.agg #[.string x.key, .string x.val, .bool x.gone]) (.agg #[.string y.key, .string y.val, .bool y.gone])).run Try.prog w = .ok (.bool (entEq x y)) w := by
  have hS : Try.prog.underlying 31 = some (.struct (Try.prog.fieldsOf 31)) := by kernel_rfl
  have hh : Try.prog.stoodInHeld 31 = false := by kernel_rfl
  rw [run_eql_struct, run_equalIn_agg w 9999 _ _ _ hS hh]
  simp only [Program.fieldsOf, Try.underlying31]
  simp [go_sem, entEq]
  by_cases h1 : x.key.toList = y.key.toList <;> by_cases h2 : x.val.toList = y.val.toList <;> by_cases h3 : x.gone = y.gone <;> simp [h1, h2, h3]

theorem ent_neq (x y : Ent) (w : World) : (binOp .neq 31 (.agg #[.string x.key, .string x.val, .bool x.gone]) (.agg #[.string y.key, .string y.val, .bool y.gone])).run Try.prog w = .ok (.bool (!entEq x y)) w := by
  have hS : Try.prog.underlying 31 = some (.struct (Try.prog.fieldsOf 31)) := by kernel_rfl
  have hh : Try.prog.stoodInHeld 31 = false := by kernel_rfl
  rw [run_neq_struct, run_equalIn_agg w 9999 _ _ _ hS hh]
  simp only [Program.fieldsOf, Try.underlying31]
  simp [go_sem, entEq]
  by_cases h1 : x.key.toList = y.key.toList <;> by_cases h2 : x.val.toList = y.val.toList <;> by_cases h3 : x.gone = y.gone <;> simp [h1, h2, h3]

theorem ent_guard (op : BinOp) (x y : Operand) (xs ys : Array Value) (w : World) : (eqGuard op 31 x y (.agg xs) (.agg ys)).run Try.prog w = .ok () w :=
  run_eqGuard_agg w op _ x y xs ys (by kernel_rfl)

def sameB : List Ent → List Ent → Bool
  | [], [] => true
  | x :: xs, y :: ys => entEq x y && sameB xs ys
  | _, _ => false
theorem sameB_len {a b : List Ent} (h : sameB a b = true) : a.length = b.length := by
  induction a generalizing b with
  | nil => cases b <;> simp_all [sameB]
  | cons x a ih => cases b with
    | nil => simp [sameB] at h
    | cons y b => simp [sameB] at h; simp [ih h.2]
theorem sameB_ne {a b : List Ent} (h : a.length ≠ b.length) : sameB a b = false := by
  cases hs : sameB a b with
  | false => rfl
  | true => exact (h (sameB_len hs)).elim
theorem sameB_drop {a b : List Ent} {k : Nat} (h1 : k < a.length) (h2 : k < b.length) : sameB (a.drop k) (b.drop k) = (entEq a[k] b[k] && sameB (a.drop (k + 1)) (b.drop (k + 1))) := by
  rw [List.drop_eq_getElem_cons h1, List.drop_eq_getElem_cons h2]; rfl

set_option maxRecDepth 100000 in
theorem same_any (A B : Option Addr) (ca cb : Nat) (l m : List Ent) (F G : Nat → Prop) (w : World) (hl : l.length ≤ maxLen)
    (hs : EntA w F A l) (ht : EntA w G B m) :
    Calls Try.prog 17 #[.slice A l.length ca, .slice B m.length cb] w fun e w' => e = .returned (.bool (sameB l m)) ∧ Below w.heap.size w w' := by
  unfold maxLen at hl
  have heq := ent_neq
  have hgd := ent_guard
  by_cases hlen : l.length = m.length
  · have hne : ((l.length : Int) != (m.length : Int)) = false := by simp [hlen]
    have hle : m.length ≤ l.length := by omega
    have hle2 : l.length ≤ m.length := by omega
    clear hlen
    obtain ⟨res, hres⟩ : ∃ r, r = sameB l m := ⟨_, rfl⟩
    rw [← hres]
    have HR := Lib.hid hres; clear hres
    go_enter Try.func17, Try.ntmps17
    go_wp2
    go_loopw [13] (fun i wr => ∃ k : Nat, k ≤ l.length ∧ i = .int .i64 k ∧ Hid (res = sameB (l.drop k) (m.drop k)) ∧ Below w.heap.size w wr) (fun i _ => l.length - (intOf i).toNat)
    case atStart => exact ⟨0, Nat.zero_le _, rfl, HR, Below.refl _ _⟩
    case round =>
      clear HR
      obtain ⟨k, hk, rfl, HR, hb⟩ := hrel
      by_cases hlt : k < l.length
      · obtain ⟨b, off, rfl, hF, hc0, hc1, hc2⟩ := EntA.cells (hs.below hb) hlt
        have hlt' : k < m.length := by omega
        obtain ⟨b', off', rfl, hF', hd0, hd1, hd2⟩ := EntA.cells (ht.below hb) hlt'
        have hd := HR.out; rw [sameB_drop hlt hlt'] at hd
        cases hx : entEq l[k] m[k] with
        | false =>
          rw [hx, Bool.false_and] at hd
          subst hd
          go_wp2
          go_quiet (fail)
          go_wp2
          go_ret
          exact ⟨rfl, below_drewN hb _⟩
        | true =>
          rw [hx, Bool.true_and] at hd
          have HD := Lib.hid hd; clear hd
          go_wp2
          go_quiet (fail)
          go_wp2
          go_roundw
          case rel => exact ⟨k + 1, by omega, by go_num, HD.out, below_drewN hb _⟩
          case measure => simp [intOf]; omega
      · have hd := HR.out
        rw [List.drop_of_length_le (by omega), List.drop_of_length_le (by omega)] at hd
        simp only [sameB] at hd
        subst hd
        go_wp2
        go_ret
        exact ⟨rfl, hb⟩
  · have hne : ((l.length : Int) != (m.length : Int)) = true := by simp; omega
    rw [sameB_ne hlen]
    go_enter Try.func17, Try.ntmps17
    go_wp2
    go_ret
    exact ⟨rfl, Below.refl _ _⟩

theorem few_len (l : List Ent) (n : Nat) : (few l n).length ≤ n := by simp [few]; omega
end Go.Proofs.Ytcnkmfmdadmaaaa
