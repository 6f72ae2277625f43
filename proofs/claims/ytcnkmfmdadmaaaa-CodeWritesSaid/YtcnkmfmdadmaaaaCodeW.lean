/- code.Writer walked: what a Writer holds, fail, Number. -/
import Derived.Test.YtcnkmfmdadmaaaaCodeR3
namespace Go.Proofs.Ytcnkmfmdadmaaaa
open Go.RowKit

/-- A fact that no tactic sees through. -/
structure Box (p : Prop) : Prop where
  out : p
/-- What a Writer holds: its bytes, its first error. -/
structure WS where
  bs : List UInt8
  e : Int
def WS.fail (s : WS) (x : Int) : WS := if s.e = 0 then { s with e := x } else s
def WS.put (s : WS) (l : List UInt8) : WS := { s with bs := s.bs ++ l }
def IsW (w : World) (b : Nat) (v : Value) (s : WS) : Prop := Blk w b 40 #[v, .int .i64 s.e] ∧ Own w 0 5 byC 1 v s.bs ∧ v.ownBlock ≠ some b
def WF (b : Nat) (v : Value) (k : Nat) : Prop := k = b ∨ v.ownBlock = some k
/-- From w to w' the Writer at b, whose row was v, has come to hold s. -/
def WTo (w w' : World) (b : Nat) (v : Value) (s : WS) : Prop := ∃ v', IsW w' b v' s ∧ Mod (WF b v) w w' ∧ ∀ k, v'.ownBlock = some k → v.ownBlock = some k ∨ w.heap.size ≤ k

section
variable {w w1 w2 w3 w' : World} {b : Nat} {v v' : Value} {s s' : WS}
theorem IsW.cells (h : IsW w b v s) : w.cell? ⟨b, 0, none⟩ = some v ∧ w.cell? ⟨b, 1, none⟩ = some (.int .i64 s.e) := ⟨by rw [h.1.cell 0]; rfl, by rw [h.1.cell 1]; rfl⟩
theorem IsW.below (h : IsW w b v s) (hm : Below w.heap.size w w') : IsW w' b v s := ⟨h.1.below hm h.1.lt, h.2.1.below hm, h.2.2⟩
theorem IsW.drew (h : IsW w b v s) : IsW w.drew b v s := ⟨h.1.drew, h.2.1.drew, h.2.2⟩
theorem WTo.refl (h : IsW w b v s) : WTo w w b v s := ⟨v, h, Mod.refl _ _, fun _ hk => .inl hk⟩
theorem WTo.trans_ (hm : Mod (WF b v) w w1) (hv : ∀ k, v'.ownBlock = some k → v.ownBlock = some k ∨ w.heap.size ≤ k) (h : WTo w1 w2 b v' s) : WTo w w2 b v s := by
  obtain ⟨v2, h2, hm2, hv2⟩ := h
  refine ⟨v2, h2, hm.trans_ hm2 ?_, ?_⟩
  · intro i hi hT
    rcases hT with rfl | hT
    · exact .inl rfl
    · rcases hv i hT with h | h
      · exact .inr h
      · omega
  · intro k hk
    rcases hv2 k hk with h | h
    · exact hv k h
    · exact .inr (Nat.le_trans hm.size h)
theorem WTo.ahead (hb : Below w.heap.size w w1) (h : WTo w1 w2 b v s) : WTo w w2 b v s :=
  WTo.trans_ (Mod.of_below hb) (fun _ hk => .inl hk) h
/-- Behind an append: the cells of the Writer as they stand. -/
theorem IsW.grown_cells (h : IsW w b v s) (hg : w.grownBy w3 v.ownBlock) : Blk w3 b 40 #[v, .int .i64 s.e] := h.1.grown hg (fun e => h.2.2 e.symm)
theorem WTo.put {bs : List UInt8} (h : IsW w b v s) (hg : w.grownBy w3 v.ownBlock) (ho : Own w3 0 5 byC 1 v' bs) (hv : v'.ownBlock = v.ownBlock ∨ v'.ownBlock = some w.heap.size) :
    WTo w (w3.setCell ⟨b, 0, none⟩ v') b v ⟨bs, s.e⟩ := by
  have hlt := h.1.lt
  have hne : v'.ownBlock ≠ some b := by
    rcases hv with e | e
    · rw [e]; exact h.2.2
    · rw [e]; intro e2; injection e2 with e2; omega
  have hs := (h.grown_cells hg).set_ 0 v'
  refine ⟨v', ⟨by exact hs, ho.far hne _, hne⟩, ?_, ?_⟩
  · exact ((Mod.refl _ w).grown hg (fun k hk _ => .inr hk)).setCell (fun _ => .inl rfl) _
  · intro k hk
    rcases hv with e | e
    · exact .inl (e ▸ hk)
    · rw [e] at hk; injection hk with hk; exact .inr (by omega)
theorem WTo.drew (h : WTo w w' b v s) : WTo w w'.drew b v s := by
  obtain ⟨v2, h2, hm, hv⟩ := h
  exact ⟨v2, ⟨h2.1.drew, h2.2.1.drew, h2.2.2⟩, hm.drew, hv⟩
theorem WTo.of_drew (h : WTo w.drew w' b v s) : WTo w w' b v s := WTo.ahead ((Below.refl _ _).drew) h
end

theorem wfail_any (b : Nat) (x : Int) (v : Value) (s : WS) (w : World) (hw : IsW w b v s) :
    Calls Try.prog 68 #[.pointer (some ⟨b, 0, none⟩), .int .i64 x] w fun e w' => e = .returned (.tuple #[]) ∧ WTo w w' b v (s.fail x) := by
  obtain ⟨h0, h1⟩ := hw.cells
  have hf := Blk.frozen hw.1 1
  by_cases he : s.e = 0
  · have HF := Lib.hid (show s.fail x = ⟨s.bs, x⟩ by simp [WS.fail, he])
    rw [he] at h1
    have hs : WTo w (w.setCell ⟨b, 1, none⟩ (.int .i64 x)) b v ⟨s.bs, x⟩ := ⟨v, ⟨Blk.set_ hw.1 1 _, hw.2.1.far hw.2.2 _, hw.2.2⟩, (Mod.refl _ _).setCell (fun _ => .inl rfl) _, fun _ hk => .inl hk⟩
    clear he
    go_enter Try.func68, Try.ntmps68
    go_wp2
    go_end0
    exact ⟨rfl, by rw [HF.out]; exact hs⟩
  · have HF := Lib.hid (show s.fail x = s by simp [WS.fail, he])
    have he' : (s.e == 0) = false := by simpa using he
    clear he
    go_enter Try.func68, Try.ntmps68
    go_wp2
    go_end0
    exact ⟨rfl, by rw [HF.out]; exact WTo.refl hw⟩

/-- A number's bytes, the most weighty first; none of 0. -/
def digits (n : Nat) : List UInt8 := if n = 0 then [] else digits (n / 256) ++ [UInt8.ofNat n]
termination_by n
decreasing_by omega
def numBytes (n : Nat) : List UInt8 := UInt8.ofNat (digits n).length :: digits n
theorem digits_zero : digits 0 = [] := by unfold digits; rfl
theorem digits_pos {n : Nat} (h : n ≠ 0) : digits n = digits (n / 256) ++ [UInt8.ofNat n] := by rw [digits]; rw [if_neg h]
theorem digits_le : ∀ (k n : Nat), n < 256 ^ k → (digits n).length ≤ k
  | 0, n, h => by
    have : n = 0 := by simpa using h
    subst this; rw [digits_zero]; simp
  | k + 1, n, h => by
    by_cases h0 : n = 0
    · subst h0; rw [digits_zero]; simp
    · rw [digits_pos h0, List.length_append, List.length_singleton]
      have := digits_le k (n / 256) (by rw [Nat.div_lt_iff_lt_mul (by omega)]; rw [Nat.pow_succ] at h; exact h)
      omega
theorem digits_at : ∀ (k n : Nat), n < 256 ^ k → ∀ i, i < (digits n).length → (digits n)[(digits n).length - 1 - i]? = some (UInt8.ofNat (n / 256 ^ i))
  | 0, n, h, i, hi => by
    have : n = 0 := by simpa using h
    subst this; rw [digits_zero] at hi; simp at hi
  | k + 1, n, h, i, hi => by
    by_cases h0 : n = 0
    · subst h0; rw [digits_zero] at hi; simp at hi
    · have hd := digits_pos h0
      rw [hd] at hi ⊢
      rw [List.length_append, List.length_singleton] at hi ⊢
      rcases i with _ | i
      · rw [show (digits (n / 256)).length + 1 - 1 - 0 = (digits (n / 256)).length by omega, List.getElem?_append_right (Nat.le_refl _)]
        simp
      · rw [List.getElem?_append_left (by omega)]
        have := digits_at k (n / 256) (by rw [Nat.div_lt_iff_lt_mul (by omega)]; rw [Nat.pow_succ] at h; exact h) i (by omega)
        rw [show (digits (n / 256)).length + 1 - 1 - (i + 1) = (digits (n / 256)).length - 1 - i by omega, this, Nat.div_div_eq_div_mul, Nat.pow_succ, Nat.mul_comm 256]
def WS.number (s : WS) (n : Int) : WS := if n < 0 then s.fail 1 else s.put (numBytes n.toNat)
end Go.Proofs.Ytcnkmfmdadmaaaa
