/- code.Reader walked: every method, over any bytes. -/
import Derived.Test.YtcnkmfmdadmaaaaProg
import Derived.Test.YtcnkmfmdadmaaaaBase2
namespace Go.Proofs.Ytcnkmfmdadmaaaa
open Go.RowKit

/-- What a Reader holds. -/
structure RS where
  s : ByteArray
  p : Nat
  e : Int
def RS.ok (r : RS) : Prop := r.p ≤ r.s.size ∧ r.s.size ≤ maxLen
def IsR (w : World) (b : Nat) (r : RS) : Prop := Blk w b 114 #[.string r.s, .int .i64 (r.p : Nat), .int .i64 r.e]
theorem IsR.cells {w : World} {b : Nat} {r : RS} (h : IsR w b r) : w.cell? ⟨b, 0, none⟩ = some (.string r.s) ∧ w.cell? ⟨b, 1, none⟩ = some (.int .i64 (r.p : Nat)) ∧ w.cell? ⟨b, 2, none⟩ = some (.int .i64 r.e) := Blk.at3 h
theorem IsR.mod {w w' : World} {S : Nat → Prop} {b : Nat} {r : RS} (h : IsR w b r) (hm : Mod S w w') (hb : ¬ S b) : IsR w' b r := Blk.mod h hm hb
theorem IsR.below {w w' : World} {b : Nat} {r : RS} (h : IsR w b r) (hm : Below w.heap.size w w') : IsR w' b r := Blk.below h hm h.lt
def RS.take (r : RS) (n : Nat) : ByteArray × RS :=
  if r.e ≠ 0 then (⟨#[]⟩, r) else if r.s.size - r.p < n then (⟨#[]⟩, { r with e := 5 }) else (r.s.extract r.p (r.p + n), { r with p := r.p + n })
def RS.fail (r : RS) (x : Int) : RS := if r.e = 0 then { r with e := x } else r
theorem RS.ok_take {r : RS} (h : r.ok) (n : Nat) : (r.take n).2.ok := by
  unfold RS.take; split
  · exact h
  · split
    · exact h
    · exact ⟨by show r.p + n ≤ r.s.size; have := h.1; omega, h.2⟩
theorem RS.ok_fail {r : RS} (h : r.ok) (x : Int) : (r.fail x).ok := by unfold RS.fail; split <;> exact h

theorem rfail_any (b : Nat) (x : Int) (r : RS) (w : World) (hr : IsR w b r) :
    Calls Try.prog 70 #[.pointer (some ⟨b, 0, none⟩), .int .i64 x] w fun e w' => e = .returned (.tuple #[]) ∧ IsR w' b (r.fail x) ∧ Mod (fun k => k = b) w w' := by
  obtain ⟨h0, h1, h2⟩ := hr.cells
  have hf := Blk.frozen hr 2
  by_cases he : r.e = 0
  · have HF := Lib.hid (show r.fail x = { r with e := x } by simp [RS.fail, he])
    rw [he] at h2
    have hs : IsR (w.setCell ⟨b, 2, none⟩ (.int .i64 x)) b { r with e := x } := Blk.set_ hr 2 _
    clear he
    go_enter Try.func70, Try.ntmps70
    go_wp2
    go_end0
    exact ⟨rfl, by rw [HF.out]; exact hs, (Mod.one _ _).set1 _ _⟩
  · have HF := Lib.hid (show r.fail x = r by simp [RS.fail, he])
    have he' : (r.e == 0) = false := by simpa using he
    clear he
    go_enter Try.func70, Try.ntmps70
    go_wp2
    go_end0
    exact ⟨rfl, by rw [HF.out]; exact hr, Mod.one _ _⟩

set_option maxHeartbeats 400000 in
theorem rtake_any (b : Nat) (n : Int) (hn0 : 0 ≤ n) (r : RS) (hok : r.ok) (w : World) (hr : IsR w b r) :
    Calls Try.prog 69 #[.pointer (some ⟨b, 0, none⟩), .int .i64 n] w fun e w' => e = .returned (.string (r.take n.toNat).1) ∧ IsR w' b (r.take n.toNat).2 ∧ Mod (fun k => k = b) w w' := by
  obtain ⟨hp, hs⟩ := hok
  unfold maxLen at hs
  obtain ⟨h0, h1, h2⟩ := hr.cells
  have hf1 := Blk.frozen hr 1
  have hf2 := Blk.frozen hr 2
  obtain ⟨n, rfl⟩ := Int.eq_ofNat_of_zero_le hn0
  rw [Int.toNat_natCast]
  by_cases he : r.e = 0
  · rw [he] at h2
    by_cases hle : r.s.size - r.p < n
    · have HF := Lib.hid (show r.take n = (⟨#[]⟩, { r with e := 5 }) by simp [RS.take, he, hle])
      have hset : ∀ m, IsR (((w.drewN m).setCell ⟨b, 2, none⟩ (.int .i64 5))) b { r with e := 5 } := fun m => Blk.set_ (Blk.drewN hr m) 2 _
      have hlt : (r.s.size : Int) - (r.p : Int) < (n : Int) := by omega
      clear he hr
      go_enter Try.func69, Try.ntmps69
      go_wp2
      go_quiet (fail)
      go_wp2
      go_ret
      exact ⟨by rw [HF.out]; rfl, by rw [HF.out]; exact hset _, ((Mod.one _ _).drewN _).set1 _ _⟩
    · have HF := Lib.hid (show r.take n = (r.s.extract r.p (r.p + n), { r with p := r.p + n }) by simp [RS.take, he, hle])
      have hset : ∀ m, IsR (((w.drewN m).setCell ⟨b, 1, none⟩ (.int .i64 ((r.p + n : Nat) : Int)))) b { r with p := r.p + n } := fun m => by have := Blk.set_ (Blk.drewN hr m) 1 (.int .i64 ((r.p + n : Nat) : Int)); exact this
      have hlt : (n : Int) ≤ (r.s.size : Int) - (r.p : Int) := by omega
      clear he hr hle
      go_enter Try.func69, Try.ntmps69
      go_wp2
      go_quiet (fail)
      go_wp2
      go_quiet (fail)
      go_wp2
      go_ret
      refine ⟨?_, ?_, ?_⟩
      · rw [HF.out]; rfl
      · rw [HF.out]; exact Blk.drewN (hset _) _
      · exact ((((Mod.one _ _).drewN _).set1 _ _).drewN _)
  · have HF := Lib.hid (show r.take n = (⟨#[]⟩, r) by simp [RS.take, he])
    have he' : (r.e == 0) = false := by simpa using he
    have he2 : (r.e != 0) = true := by simpa using he
    clear he
    go_enter Try.func69, Try.ntmps69
    go_wp2
    go_quiet (fail)
    go_wp2
    go_ret
    exact ⟨by rw [HF.out]; rfl, by rw [HF.out]; exact Blk.drewN hr _, (Mod.one _ _).drewN _⟩
end Go.Proofs.Ytcnkmfmdadmaaaa
