/- merge.least walked: the cursor of the least key, of one key the first. -/
import Derived.Test.YtcnkmfmdadmaaaaLL
namespace Go.Proofs.Ytcnkmfmdadmaaaa
open Go.RowKit

structure Cur where
  sv : SV
  age : Nat
def curC (c : Cur) : List Value := [c.sv.val, .int .i64 (c.age : Nat)]
theorem curC_length (c : Cur) : (curC c).length = 2 := rfl
theorem curC_one (c : Cur) : ∀ u ∈ curC c, u.oneCell' = true := by
  intro u hu; simp [curC] at hu; rcases hu with rfl | rfl <;> rfl
def leastTo (cl : List (List Ent)) : Nat → Option Nat
  | 0 => none
  | k + 1 => match cl[k]? with
    | some (x :: _) => match leastTo cl k with
      | none => some k
      | some j => match cl[j]? with
        | some (y :: _) => if kLt x.key y.key then some k else some j
        | _ => some j
    | _ => leastTo cl k
def leastI : Option Nat → Int
  | none => -1
  | some j => j
theorem leastTo_spec (cl : List (List Ent)) (k : Nat) : ∀ j, leastTo cl k = some j → j < k ∧ ∃ y ys, cl[j]? = some (y :: ys) := by
  induction k with
  | zero => intro j h; simp [leastTo] at h
  | succ k ih =>
    intro j h
    unfold leastTo at h
    split at h
    · rename_i x xs hx
      split at h
      · injection h with h; subst h; exact ⟨by omega, _, _, hx⟩
      · rename_i j' hj'
        obtain ⟨h1, y, ys, h2⟩ := ih j' hj'
        rw [h2] at h
        simp only at h
        split at h
        · injection h with h; subst h; exact ⟨by omega, _, _, hx⟩
        · injection h with h; subst h; exact ⟨by omega, _, _, h2⟩
    · obtain ⟨h1, h2⟩ := ih j h; exact ⟨by omega, h2⟩

/-- A slice of cursors: their values vs, what they still hold cl. -/
def CL (w : World) (F G : Nat → Prop) (A : Option Addr) (vs : List Cur) (cl : List (List Ent)) : Prop :=
  vs.length = cl.length ∧ SlA w F curC 2 A vs ∧ ∀ (i : Nat) v l, vs[i]? = some v → cl[i]? = some l → EntS w G v.sv.val l
section
variable {w w' : World} {F G S : Nat → Prop} {A : Option Addr} {vs : List Cur} {cl : List (List Ent)}
theorem CL.at_ (h : CL w F G A vs cl) {i : Nat} (hi : i < cl.length) : ∃ b off B cap g, ∃ (hi' : i < vs.length), A = some ⟨b, off, none⟩ ∧ F b ∧ w.cell? ⟨b, off + i * 2, none⟩ = some (.slice B cl[i].length cap) ∧ w.cell? ⟨b, off + i * 2 + 1, none⟩ = some (.int .i64 (g : Nat)) ∧ cl[i].length ≤ cap ∧ cap ≤ maxLen ∧ EntA w G B cl[i] ∧ vs[i].sv = ⟨B, cl[i].length, cap⟩ ∧ vs[i].age = g := by
  obtain ⟨hl, hs, hv⟩ := h
  have hi' : i < vs.length := by omega
  obtain ⟨b, off, hA, hF, hc⟩ := hs.at_ hi'
  obtain ⟨B, cap, he, h1, h2, h3⟩ := hv i _ _ (List.getElem?_eq_getElem hi') (List.getElem?_eq_getElem hi)
  have c0 := hc 0 _ rfl
  have c1 := hc 1 _ rfl
  rw [he] at c0
  refine ⟨b, off, B, cap, vs[i].age, hi', hA, hF, c0, c1, h1, h2, h3, ?_, rfl⟩
  generalize vs[i].sv = s at he
  cases s; simp only [SV.val] at he; injection he with e1 e2 e3; subst e1; subst e2; subst e3; rfl
theorem CL.below (h : CL w F G A vs cl) (hm : Below w.heap.size w w') : CL w' F G A vs cl := by
  obtain ⟨hl, hs, hv⟩ := h
  exact ⟨hl, hs.below hm, fun i v l h1 h2 => (hv i v l h1 h2).below hm⟩
end
/-- Two cells at the head of a block. -/
def At2 (w : World) (b : Nat) (x y : Value) : Prop := w.cell? ⟨b, 0, none⟩ = some x ∧ w.cell? ⟨b, 1, none⟩ = some y
theorem At2.new (w : World) (t : TypeId) (x y : Value) : At2 (w.alloc (.cells #[x, y] t)) w.heap.size x y := ⟨(Blk.new w t #[x, y]).cell 0, (Blk.new w t #[x, y]).cell 1⟩

set_option maxRecDepth 100000 in
set_option maxHeartbeats 1000000 in
theorem least_any (A : Option Addr) (cap : Nat) (vs : List Cur) (cl : List (List Ent)) (F G : Nat → Prop) (w : World) (hn : cl.length ≤ 1000000) (hs : CL w F G A vs cl) :
    Calls Try.prog 63 #[.slice A cl.length cap] w fun e w' => e = .returned (.int .i64 (leastI (leastTo cl cl.length))) ∧ Below w.heap.size w w' := by
  go_enter Try.func63, Try.ntmps63
  go_wp2
  go_loopw [3, 8] (fun a i wr => ∃ k : Nat, k ≤ cl.length ∧ i = .int .i64 k ∧ a = .int .i64 (leastI (leastTo cl k)) ∧ Below w.heap.size w wr) (fun _ i _ => cl.length - (intOf i).toNat)
  case atStart => exact ⟨0, Nat.zero_le _, rfl, rfl, Below.refl _ _⟩
  case round =>
    obtain ⟨k, hk, rfl, rfl, hb⟩ := hrel
    have hbase : w.heap.size ≤ wr.heap.size := hb.size
    by_cases hlt : k < cl.length
    · obtain ⟨b, off, Bk, ck, gk, _, rfl, hF, c0, c1, hl1, hl2, hek, _, _⟩ := (hs.below hb).at_ hlt
      have hst : leastTo cl (k + 1) = match cl[k] with
        | x :: _ => (match leastTo cl k with
          | none => some k
          | some j => match cl[j]? with
            | some (y :: _) => if kLt x.key y.key then some k else some j
            | _ => some j)
        | [] => leastTo cl k := by
        conv => lhs; unfold leastTo
        rw [List.getElem?_eq_getElem hlt]
        cases cl[k] <;> rfl
      have hspec := leastTo_spec cl k
      generalize hcur : leastTo cl k = cur at hst hspec
      clear hcur
      have hY := At2.new wr 104 (.slice Bk cl[k].length ck) (.int .i64 (gk : Nat))
      rcases hck : cl[k] with _ | ⟨x, xs⟩
      · rw [hck] at hst c0 hY
        simp only [List.length_nil] at c0 hY
        simp only at hst
        have HST := Lib.hid hst; clear hst hek hck hl1 hspec
        obtain ⟨y0, y1⟩ := hY
        go_wp2
        go_quiet (fail)
        go_wp2
        go_roundw
        case rel => exact ⟨k + 1, by omega, by go_num, by rw [HST.out], below_drewN (hb.alloc hbase _) _⟩
        case measure => simp [intOf] <;> omega
      · rw [hck] at hst c0 hY hek hl1
        simp only [List.length_cons] at c0 hY hl1
        obtain ⟨bx, ox, rfl, hFx, x0, _, _⟩ := EntA.cells hek (k := 0) (by simp)
        simp only [List.getElem_cons_zero, Nat.zero_mul, Nat.add_zero] at x0
        have hln : xs.length + 1 ≤ maxLen := by omega
        unfold maxLen at hln
        have hpos : (0 : Int) < ((xs.length : Nat) : Int) + 1 := by omega
        have x1 := cell_alloc x0 (.cells #[.slice (some ⟨bx, ox, none⟩) (xs.length + 1) ck, .int .i64 (gk : Nat)] 104)
        have hb2 : Below w.heap.size w (wr.alloc (.cells #[.slice (some ⟨bx, ox, none⟩) (xs.length + 1) ck, .int .i64 (gk : Nat)] 104)) := hb.alloc hbase _
        rcases cur with _ | j
        · simp only [leastI]
          simp only at hst
          have HST := Lib.hid hst; clear hst hck hek hl1 hspec
          obtain ⟨y0, y1⟩ := hY
          go_wp2
          generalize wr.alloc (.cells #[.slice (some ⟨bx, ox, none⟩) (xs.length + 1) ck, .int .i64 (gk : Nat)] 104) = w2 at hb2 x1 y0 y1 ⊢
          go_quiet (fail)
          go_wp2
          go_roundw
          case rel => exact ⟨k + 1, by omega, by go_num, by rw [HST.out], below_drewN hb2 _⟩
          case measure => simp [intOf] <;> omega
        · obtain ⟨hjk, y, ys, hjc⟩ := hspec j rfl
          have hjl : j < cl.length := by omega
          obtain ⟨b', off', Bj, cj, gj, _, hA', _, d0, _, hm1, hm2, hej, _, _⟩ := (hs.below hb).at_ hjl
          injection hA' with hA'; injection hA' with hA1 hA2; subst hA1; subst hA2
          have hjv : cl[j] = y :: ys := by rw [List.getElem?_eq_getElem hjl] at hjc; injection hjc
          rw [hjv] at d0 hej hm1
          simp only [List.length_cons] at d0 hm1
          obtain ⟨by_, oy, rfl, hFy, z0, _, _⟩ := EntA.cells hej (k := 0) (by simp)
          simp only [List.getElem_cons_zero, Nat.zero_mul, Nat.add_zero] at z0
          have d1 := cell_alloc d0 (.cells #[.slice (some ⟨bx, ox, none⟩) (xs.length + 1) ck, .int .i64 (gk : Nat)] 104)
          have z1 := cell_alloc z0 (.cells #[.slice (some ⟨bx, ox, none⟩) (xs.length + 1) ck, .int .i64 (gk : Nat)] 104)
          have hposj : (0 : Int) < ((ys.length : Nat) : Int) + 1 := by omega
          have hj0 : (0 : Int) ≤ ((j : Nat) : Int) := by omega
          have hj1 : ((j : Nat) : Int) < ((cl.length : Nat) : Int) := by omega
          have hj2 : decide (((j : Nat) : Int) < 0) = false := by simp
          simp only [hjc] at hst
          simp only [leastI]
          clear hjc hjv hej hek hm1 hck hl1
          cases hlt2 : kLt x.key y.key with
          | true =>
            rw [hlt2, if_pos rfl] at hst
            have HST := Lib.hid hst; clear hst hspec
            unfold kLt at hlt2
            obtain ⟨y0, y1⟩ := hY
            go_wp2
            generalize wr.alloc (.cells #[.slice (some ⟨bx, ox, none⟩) (xs.length + 1) ck, .int .i64 (gk : Nat)] 104) = w2 at hb2 x1 y0 y1 d1 z1 ⊢
            go_quiet (fail)
            go_wp2
            go_roundw
            case rel => exact ⟨k + 1, by omega, by go_num, by rw [HST.out], below_drewN hb2 _⟩
            case measure => simp [intOf] <;> omega
          | false =>
            rw [hlt2, if_neg (by simp)] at hst
            have HST := Lib.hid hst; clear hst hspec
            unfold kLt at hlt2
            obtain ⟨y0, y1⟩ := hY
            go_wp2
            generalize wr.alloc (.cells #[.slice (some ⟨bx, ox, none⟩) (xs.length + 1) ck, .int .i64 (gk : Nat)] 104) = w2 at hb2 x1 y0 y1 d1 z1 ⊢
            go_quiet (fail)
            go_wp2
            go_roundw
            case rel => exact ⟨k + 1, by omega, by go_num, by rw [HST.out], below_drewN hb2 _⟩
            case measure => simp [intOf] <;> omega
    · have hx : k = cl.length := by omega
      subst hx
      go_wp2
      go_ret
      exact ⟨rfl, hb⟩

theorem least_n (A : Option Addr) (cap n : Nat) (vs : List Cur) (cl : List (List Ent)) (F G : Nat → Prop) (w : World) (hn : n ≤ 1000000) (hl : cl.length = n) (hs : CL w F G A vs cl) :
    Calls Try.prog 63 #[.slice A n cap] w fun e w' => e = .returned (.int .i64 (leastI (leastTo cl cl.length))) ∧ Below w.heap.size w w' := by
  subst hl; exact least_any A cap vs cl F G w hn hs
end Go.Proofs.Ytcnkmfmdadmaaaa
