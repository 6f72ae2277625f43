/- slices.Clone of bytes; disk.Append by rules. -/
import Derived.Test.YtfdcopbbnmialaaDK1Z
set_option maxHeartbeats 16000000
set_option maxRecDepth 100000
namespace Go.Proofs.Ytfdcopbbnmialaa
open Go Go.RowKit
theorem bclone_spec (xs : List UInt8) (hl : xs.length ≤ 4398046511104) :
    Spec Try.prog 22 [.sl 1 (xs.map byA)] [] (fun r os => ∃ v, r = .own 0 v ∧ os = [.row v 5 1 (xs.map byA)]) := by
  refine spec_of TtOk [] Try.func22 rfl Try.ntmps22 (by kernel_rfl) rfl rfl (fun C => ?_) rfl
  repeat' (first | refine Awp.seq ?_ | refine Awp.region ?_ | (refine Ops.nil ?_; show Awp _ _ _ _ _) | (refine Awp.skip ?_; show Awp _ _ _ _ _) | (refine Awp.ret ?_; show endK _ _ _ _ _) | (refine o_calm rfl TtOk rfl rfl rfl ?_ (fun _ => ?_); first | exact True.intro | exact ⟨rfl, rfl, rfl, rfl⟩ | exact ⟨rfl, True.intro⟩ | exact ⟨rfl, rfl⟩ | exact ⟨rfl, rfl, rfl⟩ | exact rfl | exact ⟨fun h0 => by cases h0, rfl⟩ | exact (fun h0 => by cases h0) | exact ⟨rfl, by omega⟩ | exact ⟨Nat.succ_ne_zero _, rfl⟩ | omega) | refine o_buildSlice TtOk rfl rfl rfl rfl rfl rfl rfl rfl rfl rfl rfl (by repeat' (first | exact True.intro | exact rfl | refine ⟨?_, ?_⟩)) (fun _ => ?_) | (refine o_append TtOk rfl rfl rfl rfl rfl rfl rfl rfl rfl (by first | exact True.intro | exact rfl) rfl rfl (fun _ => rfl) ?_ ?_ (fun _ => ?_); ((repeat' (first | rw [List.length_append] | rw [List.length_map] | rw [List.length_cons] | rw [List.length_nil] | rw [List.length_take] | rw [List.length_drop])) <;> omega); ((repeat' (first | rw [List.length_append] | rw [List.length_map] | rw [List.length_cons] | rw [List.length_nil] | rw [List.length_take] | rw [List.length_drop])) <;> omega)) | (refine Awp.cond rfl (fun hc => ?_) (fun hc => ?_)) | (refine o_eqNilSl TtOk rfl rfl rfl rfl rfl (fun c hc0 => ?_)))
  · have := hc0 hc
    rw [this]
    exact end_tmp rfl rfl rfl [] [(0, _)] (CLe.nilown (k := 0)) (.none .nil) ⟨_, rfl, rfl⟩ _ (.inl rfl)
  · exact end_tmp rfl rfl rfl [] [(0, _)] CLe.own (HLe.cons 5 rfl (HOLe.refl _) .nil) ⟨_, rfl, rfl⟩ _ (.inl rfl)
/-- What an append answers; the disk then. -/
def appE (D : Dsk) (nm b : List UInt8) : Int :=
  if D.dead = true then 10 else if goodN nm = false then 1 else if D.room - (D.used : Int) < b.length ∨ (D.get nm = none ∧ 4096 ≤ D.fs.length) then 9 else (deedR D.fuse D.dead).2.1
def appF (l : List Fil) (clk q : Nat) (nm b : List UInt8) : List Fil := match l.find? (fun f => f.nm == nm) with
  | none => l ++ [⟨nm, q, clk, b, 0⟩]
  | some _ => l.map (fun f => if f.nm = nm then ⟨f.nm, f.blk, f.born, f.b ++ b, f.sure⟩ else f)
def appD (D : Dsk) (nm b : List UInt8) (q : Nat) : Dsk :=
  if D.dead = true ∨ goodN nm = false ∨ D.room - (D.used : Int) < b.length ∨ (D.get nm = none ∧ 4096 ≤ D.fs.length) then D
  else ⟨D.room, (deedR D.fuse D.dead).2.2.1, (deedR D.fuse D.dead).2.2.2, appF D.fs D.clk q nm b, if D.get nm = none then D.clk + 1 else D.clk⟩
theorem map_id_of {α : Type} {f : α → α} : ∀ {l : List α}, (∀ x ∈ l, f x = x) → l.map f = l
  | [], _ => rfl
  | x :: r, h => by rw [List.map_cons, h x (List.mem_cons_self ..), map_id_of (fun y hy => h y (List.mem_cons_of_mem _ hy))]
theorem append_spec (bd bm : Nat) (D : Dsk) (nm b : List UInt8) (ok : D.ok) (hu : D.used ≤ 1099511627776) (hn : nm.length ≤ 9223372036854775807) (hb : b.length ≤ 9223372036854775807) (hf : D.fuse < 9223372036854775808) : Spec Try.prog 18 [.ptr 0 bd [] 0, .s nm, .s b] (dskL bd bm D) (fun v os => ∃ q, v = .i .i64 (appE D nm b) ∧ os = dskL bd bm (appD D nm b q)) := by
  have k1 := dgood_spec nm hn
  have k2 := used_spec bd bm D ok (by omega)
  have k3 := deed_spec bd D.room D.fuse (.map (some bm)) D.dead hf
  have hget := blkP_get D nm
  have hL : dskL bd bm D = [.var bd (.agg [.i .i64 D.room, .own 1 (.map (some bm)), .i .i64 D.fuse, .b D.dead]), .obj bm (mpO D.es D.clk), grpL (D.fs.map Fil.O)] := rfl
  rw [hL] at k2 ⊢
  obtain ⟨E, hE⟩ : ∃ E, appE D nm b = E := ⟨_, rfl⟩
  rw [hE]
  unfold appE at hE
  cases hdd : D.dead
  case true =>
    rw [hdd] at hL hE k2 k3
    rw [if_pos rfl] at hE
    subst hE
    have hD : ∀ q, appD D nm b q = D := fun q => if_pos (.inl hdd)
    refine spec_of TtOk [(0, .var bd (.agg [.i .i64 D.room, .own 1 (.map (some bm)), .i .i64 D.fuse, .b true])), (1, .obj bm (mpO D.es D.clk)), (2, grpL (D.fs.map Fil.O))] Try.func18 rfl Try.ntmps18 (by kernel_rfl) rfl rfl (fun C => ?_) rfl
    repeat' (first | refine Awp.seq ?_ | refine Awp.region ?_ | (refine Ops.nil ?_; show Awp _ _ _ _ _) | (refine Awp.ret ?_; show endK _ _ _ _ _) | (refine o_calm rfl TtOk rfl rfl rfl ?_ (fun _ => ?_); first | exact True.intro | exact ⟨rfl, rfl, rfl, rfl⟩ | exact ⟨rfl, True.intro⟩ | exact ⟨rfl, rfl⟩ | exact ⟨rfl, rfl, rfl⟩ | exact rfl | exact ⟨fun h0 => by cases h0, rfl⟩ | exact (fun h0 => by cases h0) | exact ⟨rfl, by omega⟩ | exact ⟨Nat.succ_ne_zero _, rfl⟩ | omega) | refine a_condT rfl ?_)
    all_goals
      refine end_all [] [(0, _), (1, _), (2, _)] (.i .i64 10) rfl ?_ ?_ (rle_one (CLe.of_eq rfl) rfl) (HLe.cons 0 rfl (HOLe.refl _) (HLe.cons 1 rfl (HOLe.refl _) (HLe.cons 2 rfl (HOLe.refl _) .nil))) ⟨0, rfl, by rw [hD 0]; exact hL.symm⟩ _ (.inl rfl)
      · repeat' (first | exact True.intro | exact rfl | refine ⟨?_, ?_⟩)
      · exact ⟨trivial, trivial⟩
  rw [hdd] at hL hE k2 k3
  rw [if_neg (by decide)] at hE
  refine spec_of TtOk [(0, .var bd (.agg [.i .i64 D.room, .own 1 (.map (some bm)), .i .i64 D.fuse, .b false])), (1, .obj bm (mpO D.es D.clk)), (2, grpL (D.fs.map Fil.O))] Try.func18 rfl Try.ntmps18 (by kernel_rfl) rfl rfl (fun C => ?_) rfl
  by_cases h1 : goodN nm = false
  · rw [if_pos h1] at hE
    subst hE
    have hD : ∀ q, appD D nm b q = D := fun q => if_pos (.inr (.inl h1))
    rw [h1] at k1
    repeat' (first | refine Awp.seq ?_ | refine Awp.region ?_ | (refine Ops.nil ?_; show Awp _ _ _ _ _) | (refine Awp.skip ?_; show Awp _ _ _ _ _) | (refine Awp.ret ?_; show endK _ _ _ _ _) | (refine o_calm rfl TtOk rfl rfl rfl ?_ (fun _ => ?_); first | exact True.intro | exact ⟨rfl, rfl, rfl, rfl⟩ | exact ⟨rfl, True.intro⟩ | exact ⟨rfl, rfl⟩ | exact ⟨rfl, rfl, rfl⟩ | exact rfl | exact ⟨fun h0 => by cases h0, rfl⟩ | exact (fun h0 => by cases h0) | exact ⟨rfl, by omega⟩ | exact ⟨Nat.succ_ne_zero _, rfl⟩ | omega) | refine a_condT rfl ?_ | refine a_condF rfl ?_ | (refine o_call0 rfl (k1) ⟨SLe.of_eq rfl, True.intro⟩ rfl ?_; rintro _ _ ⟨rfl, rfl⟩; refine ⟨rfl, ?_⟩))
    all_goals
      refine end_all [] [(0, _), (1, _), (2, _)] (.i .i64 1) rfl ?_ ?_ (rle_one (CLe.of_eq rfl) rfl) (HLe.cons 0 rfl (HOLe.refl _) (HLe.cons 1 rfl (HOLe.refl _) (HLe.cons 2 rfl (HOLe.refl _) .nil))) ⟨0, rfl, by rw [hD 0]; exact hL.symm⟩ _ (.inl rfl)
      · repeat' (first | exact True.intro | exact rfl | refine ⟨?_, ?_⟩)
      · exact ⟨trivial, trivial⟩
  rw [if_neg h1] at hE
  have h1 : goodN nm = true := by cases h : goodN nm with | false => exact absurd h h1 | true => rfl
  rw [h1] at k1
  obtain ⟨hr0, hr1⟩ := ok.room
  have hfl : D.es.length = D.fs.length := List.length_map ..
  by_cases h2 : D.room - (D.used : Int) < b.length ∨ (D.get nm = none ∧ 4096 ≤ D.fs.length)
  · rw [if_pos h2] at hE
    subst hE
    have hD : ∀ q, appD D nm b q = D := fun q => if_pos (.inr (.inr h2))
    cases hgt : D.get nm with
    | none =>
      rw [hgt] at hget
      have hlk : pqA 3 (blkP nm D.es) = .nilp := by rw [hget]; rfl
      repeat' (first | refine Awp.seq ?_ | refine Awp.region ?_ | (refine Ops.nil ?_; show Awp _ _ _ _ _) | (refine Awp.skip ?_; show Awp _ _ _ _ _) | (refine Awp.ret ?_; show endK _ _ _ _ _) | refine o_noU rfl rfl rfl ?_ | refine o_noF rfl rfl rfl ?_ | (refine o_sub rfl rfl rfl rfl ?_ ?_; omega) | (refine o_calm rfl TtOk rfl rfl rfl ?_ (fun _ => ?_); first | exact True.intro | exact ⟨rfl, rfl, rfl, rfl⟩ | exact ⟨rfl, True.intro⟩ | exact ⟨rfl, rfl⟩ | exact ⟨rfl, rfl, rfl⟩ | exact rfl | exact ⟨fun h0 => by cases h0, rfl⟩ | exact (fun h0 => by cases h0) | exact ⟨rfl, by omega⟩ | exact ⟨Nat.succ_ne_zero _, rfl⟩ | omega) | (fail_if_success (refine o_isLit rfl (by first | exact .inl rfl | exact .inr rfl) ?_)); (refine o_splitP rfl rfl (fun hc => ?_) (fun hc => ?_) <;> try (exfalso; omega)) | refine a_condT rfl ?_ | refine a_condF rfl ?_ | (refine a_condP rfl (fun hc => ?_) (fun hc => ?_)) <;> (try (exfalso; omega)) | (refine Ops.nil ?_; show AnyT _ _ _ _ _ _ _ _ _ _) | refine a_anyT 6 [0, 1, 2] [40, 41, 28] [] (by kernel_rfl) (by kernel_rfl) (n := 22) (listed := [false, false, false, false, false, false, false, false, false, false, false, false, false, false, false, false, false, false, false, false, false, false].toArray) rfl (by kernel_rfl) ?_ | refine t_path (n := 22) (listed := [false, false, false, false, false, false, false, false, false, false, false, false, false, false, false, false, false, false, false, false, false, false].toArray) [0, 1, 2, 3, 4, 6] 16 [true, true, true, true, true, false, true, false, false, false, false, false, false, false, false, false, false, false, false, false, false, false] (by kernel_rfl) rfl rfl rfl (by kernel_rfl) ?_ | refine t_two (n := 16) (listed := [true, true, true, true, true, false, true, false, false, false, false, false, false, false, false, false, false, false, false, false, false, false].toArray) 5 7 [true, true, true, true, true, true, true, false, false, false, false, false, false, false, false, false, false, false, false, false, false, false] [true, true, true, true, true, false, true, true, false, false, false, false, false, false, false, false, false, false, false, false, false, false] rfl (by kernel_rfl) rfl rfl (by kernel_rfl) (by kernel_rfl) ?_ ?_ | refine t_path (n := 15) (listed := [true, true, true, true, true, true, true, false, false, false, false, false, false, false, false, false, false, false, false, false, false, false].toArray) [7, 8, 9, 10, 11, 12, 13, 14, 15, 16, 17, 18, 19, 20, 21] 0 [true, true, true, true, true, true, true, true, true, true, true, true, true, true, true, true, true, true, true, true, true, true] (by kernel_rfl) rfl rfl rfl (by kernel_rfl) ?_ | refine t_fin (n := 0) (listed := [true, true, true, true, true, true, true, true, true, true, true, true, true, true, true, true, true, true, true, true, true, true].toArray) (by kernel_rfl) ?_ | refine t_path (n := 15) (listed := [true, true, true, true, true, false, true, true, false, false, false, false, false, false, false, false, false, false, false, false, false, false].toArray) [5, 8, 9, 10, 11, 12, 13, 14, 15, 16, 17, 18, 19, 20, 21] 0 [true, true, true, true, true, true, true, true, true, true, true, true, true, true, true, true, true, true, true, true, true, true] (by kernel_rfl) rfl rfl rfl (by kernel_rfl) ?_ | (refine o_lookupP 3 TtOk rfl rfl rfl rfl rfl rfl rfl hlk rfl ?_) | (refine o_call [] [0, 1, 2] [0, 1, 2] rfl k2 ⟨sle_ptr, True.intro⟩ rfl ⟨HOLe.refl _, HOLe.refl _, HOLe.refl _, True.intro⟩ rfl rfl ?_; rintro _ _ ⟨rfl, rfl⟩; refine ⟨_, rfl, rfl, ?_⟩) | (refine o_lenP TtOk rfl rfl rfl rfl rfl rfl ?_) | (refine o_eqNilQ TtOk rfl rfl rfl rfl rfl rfl ?_) | (refine o_call0 rfl (k1) ⟨SLe.of_eq rfl, True.intro⟩ rfl ?_; rintro _ _ ⟨rfl, rfl⟩; refine ⟨rfl, ?_⟩))
      all_goals
        refine end_all [] [(0, _), (1, _), (2, _)] (.i .i64 9) rfl ?_ ?_ (rle_one (CLe.of_eq rfl) rfl) (HLe.cons 0 rfl (HOLe.refl _) (HLe.cons 1 rfl (HOLe.refl _) (HLe.cons 2 rfl (HOLe.refl _) .nil))) ⟨0, rfl, by rw [hD 0]; exact hL.symm⟩ _ (.inl rfl)
        · repeat' (first | exact True.intro | exact rfl | refine ⟨?_, ?_⟩)
        · exact ⟨trivial, trivial⟩
    | some f =>
      rw [hgt] at hget
      have hlk : pqA 3 (blkP nm D.es) = .ptr 3 f.blk [] 0 := by rw [hget]; rfl
      have h3 : D.room - (D.used : Int) < b.length := h2.elim id (fun h => by rw [hgt] at h; cases h.1)
      repeat' (first | refine Awp.seq ?_ | refine Awp.region ?_ | (refine Ops.nil ?_; show Awp _ _ _ _ _) | (refine Awp.skip ?_; show Awp _ _ _ _ _) | (refine Awp.ret ?_; show endK _ _ _ _ _) | refine o_noU rfl rfl rfl ?_ | refine o_noF rfl rfl rfl ?_ | (refine o_sub rfl rfl rfl rfl ?_ ?_; omega) | (refine o_calm rfl TtOk rfl rfl rfl ?_ (fun _ => ?_); first | exact True.intro | exact ⟨rfl, rfl, rfl, rfl⟩ | exact ⟨rfl, True.intro⟩ | exact ⟨rfl, rfl⟩ | exact ⟨rfl, rfl, rfl⟩ | exact rfl | exact ⟨fun h0 => by cases h0, rfl⟩ | exact (fun h0 => by cases h0) | exact ⟨rfl, by omega⟩ | exact ⟨Nat.succ_ne_zero _, rfl⟩ | omega) | (fail_if_success (refine o_isLit rfl (by first | exact .inl rfl | exact .inr rfl) ?_)); (refine o_splitP rfl rfl (fun hc => ?_) (fun hc => ?_) <;> try (exfalso; omega)) | refine a_condT rfl ?_ | refine a_condF rfl ?_ | (refine Ops.nil ?_; show AnyT _ _ _ _ _ _ _ _ _ _) | refine a_anyT 6 [0, 1, 2] [40, 41, 28] [] (by kernel_rfl) (by kernel_rfl) (n := 22) (listed := [false, false, false, false, false, false, false, false, false, false, false, false, false, false, false, false, false, false, false, false, false, false].toArray) rfl (by kernel_rfl) ?_ | refine t_path (n := 22) (listed := [false, false, false, false, false, false, false, false, false, false, false, false, false, false, false, false, false, false, false, false, false, false].toArray) [0, 1, 2, 3, 4, 6] 16 [true, true, true, true, true, false, true, false, false, false, false, false, false, false, false, false, false, false, false, false, false, false] (by kernel_rfl) rfl rfl rfl (by kernel_rfl) ?_ | refine t_two (n := 16) (listed := [true, true, true, true, true, false, true, false, false, false, false, false, false, false, false, false, false, false, false, false, false, false].toArray) 5 7 [true, true, true, true, true, true, true, false, false, false, false, false, false, false, false, false, false, false, false, false, false, false] [true, true, true, true, true, false, true, true, false, false, false, false, false, false, false, false, false, false, false, false, false, false] rfl (by kernel_rfl) rfl rfl (by kernel_rfl) (by kernel_rfl) ?_ ?_ | refine t_path (n := 15) (listed := [true, true, true, true, true, true, true, false, false, false, false, false, false, false, false, false, false, false, false, false, false, false].toArray) [7, 8, 9, 10, 11, 12, 13, 14, 15, 16, 17, 18, 19, 20, 21] 0 [true, true, true, true, true, true, true, true, true, true, true, true, true, true, true, true, true, true, true, true, true, true] (by kernel_rfl) rfl rfl rfl (by kernel_rfl) ?_ | refine t_fin (n := 0) (listed := [true, true, true, true, true, true, true, true, true, true, true, true, true, true, true, true, true, true, true, true, true, true].toArray) (by kernel_rfl) ?_ | refine t_path (n := 15) (listed := [true, true, true, true, true, false, true, true, false, false, false, false, false, false, false, false, false, false, false, false, false, false].toArray) [5, 8, 9, 10, 11, 12, 13, 14, 15, 16, 17, 18, 19, 20, 21] 0 [true, true, true, true, true, true, true, true, true, true, true, true, true, true, true, true, true, true, true, true, true, true] (by kernel_rfl) rfl rfl rfl (by kernel_rfl) ?_ | (refine o_lookupP 3 TtOk rfl rfl rfl rfl rfl rfl rfl hlk rfl ?_) | (refine o_call [] [0, 1, 2] [0, 1, 2] rfl k2 ⟨sle_ptr, True.intro⟩ rfl ⟨HOLe.refl _, HOLe.refl _, HOLe.refl _, True.intro⟩ rfl rfl ?_; rintro _ _ ⟨rfl, rfl⟩; refine ⟨_, rfl, rfl, ?_⟩) | (refine o_call0 rfl (k1) ⟨SLe.of_eq rfl, True.intro⟩ rfl ?_; rintro _ _ ⟨rfl, rfl⟩; refine ⟨rfl, ?_⟩))
      all_goals
        refine end_all [] [(0, _), (1, _), (2, _)] (.i .i64 9) rfl ?_ ?_ (rle_one (CLe.of_eq rfl) rfl) (HLe.cons 0 rfl (HOLe.refl _) (HLe.cons 1 rfl (HOLe.refl _) (HLe.cons 2 rfl (HOLe.refl _) .nil))) ⟨0, rfl, by rw [hD 0]; exact hL.symm⟩ _ (.inl rfl)
        · repeat' (first | exact True.intro | exact rfl | refine ⟨?_, ?_⟩)
        · exact ⟨trivial, trivial⟩
  rw [if_neg h2] at hE
  have hbg : (deedR D.fuse false).1 = true := by
    unfold deedR
    rw [if_neg (by decide)]
    split
    · rfl
    · split <;> rfl
  have hD : ∀ q, appD D nm b q = ⟨D.room, (deedR D.fuse false).2.2.1, (deedR D.fuse false).2.2.2, appF D.fs D.clk q nm b, if D.get nm = none then D.clk + 1 else D.clk⟩ := fun q => by
    unfold appD
    rw [hdd, if_neg (fun h => by
      rcases h with h | h | h
      · cases h
      · rw [h1] at h; cases h
      · exact h2 h)]
  generalize deedR D.fuse false = R at *
  obtain ⟨g, e, fu, d2⟩ := R
  dsimp only at hbg k3 hE hD
  subst hbg
  subst hE
  have hbl : (b.length : Int) ≤ D.room - (D.used : Int) := by
    have := fun h => h2 (.inl h)
    omega
  cases hgt : D.get nm with
  | none =>
    rw [hgt] at hget
    have hget : blkP nm D.es = none := hget
    have hlk : pqA 3 (blkP nm D.es) = .nilp := by rw [hget]; rfl
    have hcn : D.fs.length < 4096 := Nat.lt_of_not_le (fun h => h2 (.inr ⟨hgt, h⟩))
    have hA : ∀ q, appF D.fs D.clk q nm b = D.fs ++ [Fil.mk nm q D.clk b 0] := fun q => by
      unfold appF
      rw [show D.fs.find? (fun f => f.nm == nm) = none from hgt]
    have hfin : ∀ q, dskL bd bm (appD D nm b q) = [.var bd (.agg [.i .i64 D.room, .own 1 (.map (some bm)), .i .i64 fu, .b d2]), .obj bm (mpO (D.es ++ [(nm, q, D.clk)]) (D.clk + 1)), grpL ((D.fs ++ [Fil.mk nm q D.clk b 0]).map Fil.O)] := fun q => by
      rw [hD q, hA q, if_pos hgt]
      show [_, HO.obj bm (mpO ((D.fs ++ [Fil.mk nm q D.clk b 0]).map Fil.e) (D.clk + 1)), _] = _
      rw [List.map_append]; rfl
    have hos : ∀ q, ((D.fs ++ [Fil.mk nm q D.clk b 0]).map Fil.O).Perm (HO.var q (.agg [.sl 1 (b.map byA), .i .i64 0]) :: D.fs.map Fil.O) := fun q => by
      rw [List.map_append]
      exact List.perm_append_comm
    have kc := bclone_spec [] (by decide)
    repeat' (first | refine Awp.seq ?_ | refine Awp.region ?_ | (refine Ops.nil ?_; show Awp _ _ _ _ _) | (refine Awp.skip ?_; show Awp _ _ _ _ _) | (refine Awp.ret ?_; show endK _ _ _ _ _) | (refine o_sub rfl rfl rfl rfl ?_ ?_; omega) | (refine o_calm rfl TtOk rfl rfl rfl ?_ (fun _ => ?_); first | exact True.intro | exact ⟨rfl, rfl, rfl, rfl⟩ | exact ⟨rfl, True.intro⟩ | exact ⟨rfl, rfl⟩ | exact ⟨rfl, rfl, rfl⟩ | exact rfl | exact ⟨fun h0 => by cases h0, rfl⟩ | exact (fun h0 => by cases h0) | exact ⟨rfl, by omega⟩ | exact ⟨Nat.succ_ne_zero _, rfl⟩ | omega) | refine o_box (d := 56) rfl rfl rfl rfl (fun b56 => ?_) | refine o_store TtOk rfl rfl rfl rfl rfl rfl rfl ⟨rfl, rfl⟩ rfl rfl rfl rfl rfl ?_ | refine o_build TtOk rfl rfl rfl rfl rfl rfl (by repeat' (first | exact True.intro | exact rfl | refine ⟨?_, ?_⟩)) ?_ | (refine o_appendStr TtOk rfl rfl rfl rfl rfl rfl rfl rfl rfl (fun _ => rfl) ?_ (fun _ => ?_); ((repeat' (first | rw [List.length_append] | rw [List.length_map] | rw [List.length_cons] | rw [List.length_nil] | rw [List.length_take] | rw [List.length_drop])) <;> omega)) | (fail_if_success (refine o_isLit rfl (by first | exact .inl rfl | exact .inr rfl) ?_)); (refine o_splitP rfl rfl (fun hc => ?_) (fun hc => ?_) <;> try (exfalso; omega)) | refine a_condT rfl ?_ | refine a_condF rfl ?_ | (refine a_condP rfl (fun hc => ?_) (fun hc => ?_)) <;> (try (exfalso; omega)) | (refine Ops.nil ?_; show AnyT _ _ _ _ _ _ _ _ _ _) | refine a_anyT 6 [0, 1, 2] [40, 41, 28] [] (by kernel_rfl) (by kernel_rfl) (n := 22) (listed := [false, false, false, false, false, false, false, false, false, false, false, false, false, false, false, false, false, false, false, false, false, false].toArray) rfl (by kernel_rfl) ?_ | refine t_path (n := 22) (listed := [false, false, false, false, false, false, false, false, false, false, false, false, false, false, false, false, false, false, false, false, false, false].toArray) [0, 1, 2, 3, 4, 6] 16 [true, true, true, true, true, false, true, false, false, false, false, false, false, false, false, false, false, false, false, false, false, false] (by kernel_rfl) rfl rfl rfl (by kernel_rfl) ?_ | refine t_two (n := 16) (listed := [true, true, true, true, true, false, true, false, false, false, false, false, false, false, false, false, false, false, false, false, false, false].toArray) 5 7 [true, true, true, true, true, true, true, false, false, false, false, false, false, false, false, false, false, false, false, false, false, false] [true, true, true, true, true, false, true, true, false, false, false, false, false, false, false, false, false, false, false, false, false, false] rfl (by kernel_rfl) rfl rfl (by kernel_rfl) (by kernel_rfl) ?_ ?_ | refine t_path (n := 15) (listed := [true, true, true, true, true, true, true, false, false, false, false, false, false, false, false, false, false, false, false, false, false, false].toArray) [7, 8, 9, 10, 11, 12, 13, 14, 15, 16, 17, 18, 19, 20, 21] 0 [true, true, true, true, true, true, true, true, true, true, true, true, true, true, true, true, true, true, true, true, true, true] (by kernel_rfl) rfl rfl rfl (by kernel_rfl) ?_ | refine t_fin (n := 0) (listed := [true, true, true, true, true, true, true, true, true, true, true, true, true, true, true, true, true, true, true, true, true, true].toArray) (by kernel_rfl) ?_ | refine t_path (n := 15) (listed := [true, true, true, true, true, false, true, true, false, false, false, false, false, false, false, false, false, false, false, false, false, false].toArray) [5, 8, 9, 10, 11, 12, 13, 14, 15, 16, 17, 18, 19, 20, 21] 0 [true, true, true, true, true, true, true, true, true, true, true, true, true, true, true, true, true, true, true, true, true, true] (by kernel_rfl) rfl rfl rfl (by kernel_rfl) ?_ | (refine o_lookupP 3 TtOk rfl rfl rfl rfl rfl rfl rfl hlk rfl ?_) | (refine o_call [] [0, 1, 2] [0, 1, 2] rfl k2 ⟨sle_ptr, True.intro⟩ rfl ⟨HOLe.refl _, HOLe.refl _, HOLe.refl _, True.intro⟩ rfl rfl ?_; rintro _ _ ⟨rfl, rfl⟩; refine ⟨_, rfl, rfl, ?_⟩) | (refine o_lenP TtOk rfl rfl rfl rfl rfl rfl ?_) | (refine o_eqNilQ TtOk rfl rfl rfl rfl rfl rfl ?_) | (refine o_call [] [0] [0] rfl k3 ⟨sle_ptr, True.intro⟩ rfl ⟨HOLe.refl _, True.intro⟩ rfl rfl ?_; rintro _ _ ⟨rfl, rfl⟩; refine ⟨_, rfl, rfl, ?_⟩) | (refine o_updateP TtOk rfl rfl rfl rfl rfl rfl rfl hget rfl rfl ?_) | (refine o_callR rfl kc ⟨sle_nilsl, True.intro⟩ rfl (fun vR => ?_)) | (refine o_call0 rfl (k1) ⟨SLe.of_eq rfl, True.intro⟩ rfl ?_; rintro _ _ ⟨rfl, rfl⟩; refine ⟨rfl, ?_⟩))
    all_goals
      refine end_all [68] [(0, _), (1, _), (2, _)] (.i .i64 e) rfl ?_ ?_ (rle_one (CLe.of_eq rfl) rfl) (HLe.cons 0 rfl (HOLe.refl _) (HLe.cons 1 rfl (HOLe.refl _) (HLe.push 56 2 rfl (HOLe.var (CLe.agg (.cons (CLe.fz (.head _)) (.cons (CLe.refl _) .nil)))) rfl (hos b56) .nil))) ⟨b56, rfl, (hfin b56).symm⟩ _ (.inl rfl)
      · repeat' (first | exact True.intro | exact rfl | refine ⟨?_, ?_⟩)
      · exact ⟨trivial, trivial⟩
  | some f =>
    rw [hgt] at hget
    have hlk : pqA 3 (blkP nm D.es) = .ptr 3 f.blk [] 0 := by rw [hget]; rfl
    obtain ⟨hfm, hfn⟩ := get_mem hgt
    obtain ⟨s, r, hst⟩ := List.append_of_mem hfm
    have hpm : D.fs.Perm (f :: (s ++ r)) := by rw [hst]; exact List.perm_middle
    have hul : D.used = f.b.length + usedF (s ++ r) := by
      have := usedF_perm hpm
      rw [usedF_cons] at this
      exact this
    have kc := bclone_spec f.b (by omega)
    have hos1 : (D.fs.map Fil.O).Perm (HO.var f.blk (.agg [.sl 1 (f.b.map byA), .i .i64 f.sure]) :: (s ++ r).map Fil.O) := hpm.map Fil.O
    have hne : ∀ x ∈ s ++ r, x.nm ≠ nm := fun x hx he => by
      have hnd := (hpm.map (·.nm)).nodup_iff.1 ok.nd
      rw [List.map_cons, List.nodup_cons] at hnd
      exact hnd.1 (List.mem_map.2 ⟨x, hx, by rw [he, hfn]⟩)
    have hA : ∀ q, appF D.fs D.clk q nm b = s ++ Fil.mk f.nm f.blk f.born (f.b ++ b) f.sure :: r := fun q => by
      unfold appF
      rw [show D.fs.find? (fun f => f.nm == nm) = some f from hgt]
      show D.fs.map _ = _
      rw [hst, List.map_append, List.map_cons, if_pos hfn, map_id_of (fun x hx => if_neg (hne x (List.mem_append_left _ hx))), map_id_of (fun x hx => if_neg (hne x (List.mem_append_right _ hx)))]
    have hes : (s ++ Fil.mk f.nm f.blk f.born (f.b ++ b) f.sure :: r).map Fil.e = D.es := by
      unfold Dsk.es
      rw [hst, List.map_append, List.map_append, List.map_cons, List.map_cons]; rfl
    have hfin : dskL bd bm (appD D nm b 0) = [.var bd (.agg [.i .i64 D.room, .own 1 (.map (some bm)), .i .i64 fu, .b d2]), .obj bm (mpO D.es D.clk), grpL ((s ++ Fil.mk f.nm f.blk f.born (f.b ++ b) f.sure :: r).map Fil.O)] := by
      rw [hD 0, hA 0, if_neg (by rw [hgt]; exact fun h => by cases h)]
      show [_, HO.obj bm (mpO ((s ++ Fil.mk f.nm f.blk f.born (f.b ++ b) f.sure :: r).map Fil.e) D.clk), _] = _
      rw [hes]; rfl
    have hos2 : ((s ++ Fil.mk f.nm f.blk f.born (f.b ++ b) f.sure :: r).map Fil.O).Perm (HO.var f.blk (.agg [.sl 1 (f.b.map byA ++ b.map byA), .i .i64 f.sure]) :: (s ++ r).map Fil.O) := by
      rw [← List.map_append]
      exact (List.perm_middle (l₁ := s) (l₂ := r)).map Fil.O
    repeat' (first | refine Awp.seq ?_ | refine Awp.region ?_ | (refine Ops.nil ?_; show Awp _ _ _ _ _) | (refine Awp.skip ?_; show Awp _ _ _ _ _) | refine o_noT rfl rfl rfl ?_ | (refine o_sub rfl rfl rfl rfl ?_ ?_; omega) | (refine o_calm rfl TtOk rfl rfl rfl ?_ (fun _ => ?_); first | exact True.intro | exact ⟨rfl, rfl, rfl, rfl⟩ | exact ⟨rfl, True.intro⟩ | exact ⟨rfl, rfl⟩ | exact ⟨rfl, rfl, rfl⟩ | exact rfl | exact ⟨fun h0 => by cases h0, rfl⟩ | exact (fun h0 => by cases h0) | exact ⟨rfl, by omega⟩ | exact ⟨Nat.succ_ne_zero _, rfl⟩ | omega) | refine o_eqNil TtOk rfl rfl rfl rfl rfl ?_ | (fail_if_success (refine o_isLit rfl (by first | exact .inl rfl | exact .inr rfl) ?_)); (refine o_splitP rfl rfl (fun hc => ?_) (fun hc => ?_) <;> try (exfalso; omega)) | refine a_condF rfl ?_ | (refine Ops.nil ?_; show AnyT _ _ _ _ _ _ _ _ _ _) | refine a_anyT 6 [0, 1, 2] [40, 41, 28] [] (by kernel_rfl) (by kernel_rfl) (n := 22) (listed := [false, false, false, false, false, false, false, false, false, false, false, false, false, false, false, false, false, false, false, false, false, false].toArray) rfl (by kernel_rfl) ?_ | refine t_path (n := 22) (listed := [false, false, false, false, false, false, false, false, false, false, false, false, false, false, false, false, false, false, false, false, false, false].toArray) [0, 1, 2, 3, 4, 6] 16 [true, true, true, true, true, false, true, false, false, false, false, false, false, false, false, false, false, false, false, false, false, false] (by kernel_rfl) rfl rfl rfl (by kernel_rfl) ?_ | refine t_two (n := 16) (listed := [true, true, true, true, true, false, true, false, false, false, false, false, false, false, false, false, false, false, false, false, false, false].toArray) 5 7 [true, true, true, true, true, true, true, false, false, false, false, false, false, false, false, false, false, false, false, false, false, false] [true, true, true, true, true, false, true, true, false, false, false, false, false, false, false, false, false, false, false, false, false, false] rfl (by kernel_rfl) rfl rfl (by kernel_rfl) (by kernel_rfl) ?_ ?_ | refine t_path (n := 15) (listed := [true, true, true, true, true, true, true, false, false, false, false, false, false, false, false, false, false, false, false, false, false, false].toArray) [7, 8, 9, 10, 11, 12, 13, 14, 15, 16, 17, 18, 19, 20, 21] 0 [true, true, true, true, true, true, true, true, true, true, true, true, true, true, true, true, true, true, true, true, true, true] (by kernel_rfl) rfl rfl rfl (by kernel_rfl) ?_ | refine t_fin (n := 0) (listed := [true, true, true, true, true, true, true, true, true, true, true, true, true, true, true, true, true, true, true, true, true, true].toArray) (by kernel_rfl) ?_ | refine t_path (n := 15) (listed := [true, true, true, true, true, false, true, true, false, false, false, false, false, false, false, false, false, false, false, false, false, false].toArray) [5, 8, 9, 10, 11, 12, 13, 14, 15, 16, 17, 18, 19, 20, 21] 0 [true, true, true, true, true, true, true, true, true, true, true, true, true, true, true, true, true, true, true, true, true, true] (by kernel_rfl) rfl rfl rfl (by kernel_rfl) ?_ | (refine o_lookupP 3 TtOk rfl rfl rfl rfl rfl rfl rfl hlk rfl ?_) | (refine o_call [] [0, 1, 2] [0, 1, 2] rfl k2 ⟨sle_ptr, True.intro⟩ rfl ⟨HOLe.refl _, HOLe.refl _, HOLe.refl _, True.intro⟩ rfl rfl ?_; rintro _ _ ⟨rfl, rfl⟩; refine ⟨_, rfl, rfl, ?_⟩) | (refine o_call [] [0] [0] rfl k3 ⟨sle_ptr, True.intro⟩ rfl ⟨HOLe.refl _, True.intro⟩ rfl rfl ?_; rintro _ _ ⟨rfl, rfl⟩; refine ⟨_, rfl, rfl, ?_⟩) | (refine o_call0 rfl (k1) ⟨SLe.of_eq rfl, True.intro⟩ rfl ?_; rintro _ _ ⟨rfl, rfl⟩; refine ⟨rfl, ?_⟩))
    all_goals
      refine Ops.pull 2 3 rfl hos1 rfl ?_
      repeat' (first | refine Awp.seq ?_ | refine Awp.region ?_ | (refine Ops.nil ?_; show Awp _ _ _ _ _) | (refine Awp.ret ?_; show endK _ _ _ _ _) | (refine o_calm rfl TtOk rfl rfl rfl ?_ (fun _ => ?_); first | exact True.intro | exact ⟨rfl, rfl, rfl, rfl⟩ | exact ⟨rfl, True.intro⟩ | exact ⟨rfl, rfl⟩ | exact ⟨rfl, rfl, rfl⟩ | exact rfl | exact ⟨fun h0 => by cases h0, rfl⟩ | exact (fun h0 => by cases h0) | exact ⟨rfl, by omega⟩ | exact ⟨Nat.succ_ne_zero _, rfl⟩ | omega) | refine o_store TtOk rfl rfl rfl rfl rfl rfl rfl ⟨rfl, rfl⟩ rfl rfl rfl rfl rfl ?_ | (refine o_appendStr TtOk rfl rfl rfl rfl rfl rfl rfl rfl rfl (fun _ => rfl) ?_ (fun _ => ?_); ((repeat' (first | rw [List.length_append] | rw [List.length_map] | rw [List.length_cons] | rw [List.length_nil] | rw [List.length_take] | rw [List.length_drop])) <;> omega)) | (refine o_callR rfl kc ⟨SLe.of_eq rfl, True.intro⟩ rfl (fun vR => ?_)))
      refine end_all [68] [(0, _), (1, _), (2, _)] (.i .i64 e) rfl ?_ ?_ (rle_one (CLe.of_eq rfl) rfl) (HLe.cons 0 rfl (HOLe.refl _) (HLe.cons 1 rfl (HOLe.refl _) (HLe.push 3 2 rfl (HOLe.var (CLe.agg (.cons (CLe.fz (.head _)) (.cons (CLe.refl _) .nil)))) rfl hos2 .nil))) ⟨0, rfl, hfin.symm⟩ _ (.inl rfl)
      · repeat' (first | exact True.intro | exact rfl | refine ⟨?_, ?_⟩)
      · exact ⟨trivial, trivial⟩
end Go.Proofs.Ytfdcopbbnmialaa
