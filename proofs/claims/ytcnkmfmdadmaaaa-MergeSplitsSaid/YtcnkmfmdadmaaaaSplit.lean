/- slices.Clone of entries, merge.cost, ref12.Cost walked; the plain law of splitting. -/
import Derived.Test.YtcnkmfmdadmaaaaBase2
import Derived.Test.YtcnkmfmdadmaaaaMLaw1
namespace Go.Proofs.Ytcnkmfmdadmaaaa
open Go.RowKit

set_option maxRecDepth 100000 in
theorem clone_any (A : Option Addr) (cap n : Nat) (l : List Ent) (F : Nat → Prop) (w : World) (hl : l.length ≤ 1000000) (hn : n = l.length) (hs : EntA w F A l) :
    Calls Try.prog 66 #[.slice A n cap] w fun e w' => ∃ v, e = .returned v ∧ EntO w' w.heap.size v l ∧ Below w.heap.size w w' := by
  have hE := Lib.hid entElem
  have heq := fun W a n c => Lib.run_eql_slice_nil (P := Try.prog) W 23 31 a n c 0 0 Try.underlying23
  have HN := Lib.hid hn; clear hn
  rcases A with _ | ad
  · have hl0 : l = [] := by
      rcases l with _ | ⟨y, ys⟩
      · rfl
      · obtain ⟨b, off, hA, _⟩ := hs (by simp); cases hA
    subst hl0
    go_enter Try.func66, Try.ntmps66
    go_wp2
    go_ret
    exact ⟨_, rfl, Own.nil _ _ _ _ _, Below.refl _ _⟩
  · go_enter Try.func66, Try.ntmps66
    go_wp2_with (at_builtin; refine wpList_appS (by rfl) (.tmp 5) (.tmp 6) (by rfl) hE.out entC_length entC_one (xs := []) (by rfl) (by exact Own.empty _ _ _ _ (Nat.le_refl _)) (A := some ad) (n := n) (c := cap) l (by rfl) HN.out (by exact hs.below ((Below.refl _ _).alloc (Nat.le_refl _) _)) 1000000 (by simp; omega) (by omega) (by unfold maxLen; omega) (by simp) ?_; intro v3 w3 ho3 hg3 hv3)
    go_ret
    exact ⟨_, rfl, ho3, ((Below.refl _ _).alloc (Nat.le_refl _) _).grown hg3 (by simp) (fun k hk => by have h : w.heap.size = k := Option.some.inj hk; omega)⟩

def costE (x : Ent) : Nat := x.key.size + x.val.size + 8
def costL (l : List Ent) : Nat := (l.map costE).sum
theorem cost_any (x : Ent) (w : World) (hk : x.key.size ≤ 1000000) (hv : x.val.size ≤ 1000000) :
    Calls Try.prog 65 #[.agg #[.string x.key, .string x.val, .bool x.gone]] w fun e w' => e = .returned (.int .i64 (costE x : Nat)) ∧ Below w.heap.size w w' := by
  go_enter Try.func65, Try.ntmps65
  go_wp2
  go_ret
  exact ⟨by unfold costE; rfl, (Below.refl _ _).alloc (Nat.le_refl _) _⟩
/-- Entries whose texts are short. -/
def Short (l : List Ent) : Prop := ∀ x ∈ l, x.key.size ≤ 110 ∧ x.val.size ≤ 4010
theorem cut_size (s : ByteArray) (n : Nat) : (cut s n).size ≤ n := by
  unfold cut; split
  · rw [ByteArray.size_extract]; omega
  · omega
theorem few_short (l : List Ent) (n : Nat) : Short (few l n) := by
  intro x hx
  obtain ⟨y, _, rfl⟩ := List.mem_map.1 hx
  exact ⟨cut_size _ _, cut_size _ _⟩
theorem costL_snoc (l : List Ent) (x : Ent) : costL (l ++ [x]) = costL l + costE x := by simp [costL]
theorem costL_le {l : List Ent} (h : Short l) : costL l ≤ l.length * 4128 := by
  induction l with
  | nil => simp [costL]
  | cons x l ih =>
    have h1 := h x (by simp)
    have h2 := ih (fun y hy => h y (by simp [hy]))
    simp only [costL, List.map_cons, List.sum_cons, List.length_cons, costE] at *
    omega
set_option maxRecDepth 100000 in
theorem costL_any (A : Option Addr) (cap n : Nat) (l : List Ent) (F : Nat → Prop) (w : World) (hl : l.length ≤ 1000000) (hn : n = l.length) (hsh : Short l) (hs : EntA w F A l) :
    Calls Try.prog 67 #[.slice A n cap] w fun e w' => e = .returned (.int .i64 (costL l : Nat)) ∧ Below w.heap.size w w' := by
  subst hn
  have HS := Lib.hid hsh; clear hsh
  go_enter Try.func67, Try.ntmps67
  go_wp2
  go_loopw [3, 8] (fun c i wr => ∃ k : Nat, k ≤ l.length ∧ i = .int .i64 k ∧ c = .int .i64 (costL (l.take k) : Nat) ∧ Below w.heap.size w wr) (fun _ i _ => l.length - (intOf i).toNat)
  case atStart => exact ⟨0, Nat.zero_le _, rfl, rfl, Below.refl _ _⟩
  case round =>
    obtain ⟨k, hk, rfl, rfl, hb⟩ := hrel
    by_cases hlt : k < l.length
    · obtain ⟨b, off, rfl, hF, hc0, hc1, hc2⟩ := EntA.cells (hs.below hb) hlt
      obtain ⟨y0, y1, y2⟩ := At3.new wr 31 (.string l[k].key) (.string l[k].val) (.bool l[k].gone)
      have hst : costL (l.take (k + 1)) = costL (l.take k) + costE l[k] := by rw [List.take_succ_eq_append_getElem hlt, costL_snoc]
      have hcl : costL (l.take k) ≤ 5000000000 := by
        have := costL_le (l := l.take k) (fun x hx => HS.out x (List.mem_of_mem_take hx))
        have h2 : (l.take k).length ≤ 1000000 := by simp; omega
        have := Nat.mul_le_mul_right 4128 h2
        omega
      have hx := HS.out l[k] (List.getElem_mem hlt)
      obtain ⟨hx1, hx2⟩ := hx
      generalize costL (l.take k) = c0 at hst hcl
      have HST := Lib.hid hst; clear hst
      go_wp2
      go_roundw
      case rel => exact ⟨k + 1, by omega, by go_num, by rw [HST.out]; unfold costE; exact congrArg _ (by simp <;> omega), hb.alloc hb.size _⟩
      case measure => simp [intOf] <;> omega
    · have hx : l.take k = l := List.take_of_length_le (by omega)
      rw [hx]
      go_wp2
      go_ret
      exact ⟨rfl, hb⟩

/-! The plain law of splitting. -/
def spCond (size most : Int) (g : List Ent) : Bool := decide (size ≤ (costL g : Nat)) || decide (most ≤ (g.length : Nat))
def rSplit (size most : Int) : List Ent → List Ent → List (List Ent)
  | [], g => if g = [] then [] else [g]
  | x :: xs, g => if spCond size most (g ++ [x]) then (g ++ [x]) :: rSplit size most xs [] else rSplit size most xs (g ++ [x])
def mSplit (size most : Int) : List Ent → List Ent → List (List Ent)
  | [], _ => []
  | x :: xs, g => if (spCond size most (g ++ [x]) || decide (xs = [])) then (g ++ [x]) :: mSplit size most xs [] else mSplit size most xs (g ++ [x])
theorem split_eq (size most : Int) (l g : List Ent) (h : l = [] → g = []) : mSplit size most l g = rSplit size most l g := by
  induction l generalizing g with
  | nil => simp [mSplit, rSplit, h rfl]
  | cons x xs ih =>
    unfold mSplit rSplit
    cases hc : spCond size most (g ++ [x]) with
    | true => simp only [Bool.true_or, if_true]; rw [ih [] (fun _ => rfl)]
    | false =>
      by_cases hx : xs = []
      · subst hx; simp [mSplit, rSplit]
      · simp only [hx, decide_false, Bool.or_false, Bool.false_eq_true, if_false]
        exact ih _ (fun h => (hx h).elim)
theorem rSplit_flat (size most : Int) (l g : List Ent) : (rSplit size most l g).flatten = g ++ l := by
  induction l generalizing g with
  | nil => unfold rSplit; split <;> simp_all
  | cons x xs ih =>
    unfold rSplit
    split
    · rw [List.flatten_cons, ih]; simp
    · rw [ih]; simp
theorem rSplit_len (size most : Int) (l g : List Ent) : (rSplit size most l g).length ≤ l.length + 1 := by
  induction l generalizing g with
  | nil => unfold rSplit; split <;> simp
  | cons x xs ih =>
    unfold rSplit
    split
    · have := ih []; simp only [List.length_cons]; omega
    · have := ih (g ++ [x]); simp only [List.length_cons]; omega
end Go.Proofs.Ytcnkmfmdadmaaaa
