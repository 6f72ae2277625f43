/- ref12.Split walked. -/
import Derived.Test.YtcnkmfmdadmaaaaSplit2
namespace Go.Proofs.Ytcnkmfmdadmaaaa
open Go.RowKit

set_option maxRecDepth 100000 in
set_option maxHeartbeats 1000000 in
theorem refSplit_any (A : Option Addr) (cap : Nat) (l : List Ent) (size most : Int) (F : Nat → Prop) (w : World) (hl : l.length ≤ 100000) (hsh : Short l) (hs : EntA w F A l) :
    Calls Try.prog 23 #[.slice A l.length cap, .int .i64 size, .int .i64 most] w fun e w' => ∃ v, e = .returned v ∧ MF w' w.heap.size v (fun _ => True) (rSplit size most l []) ∧ Below w.heap.size w w' := by
  have hE := Lib.hid entElem
  have hEl := Lib.hid llElem
  have HS := Lib.hid hsh; clear hsh
  obtain ⟨tgt, ht⟩ : ∃ t, t = rSplit size most l [] := ⟨_, rfl⟩
  have htl : tgt.length ≤ l.length + 1 := by rw [ht]; exact rSplit_len _ _ _ _
  have hfl : tgt.flatten.length ≤ 100000 := by rw [ht, rSplit_flat]; simpa using hl
  rw [← ht]
  have HT := Lib.hid ht; clear ht
  go_enter Try.func23, Try.ntmps23
  go_wp2
  go_loopw [7, 8, 15] (fun o gv i wr => ∃ (k : Nat) (g : List Ent) (done : List (List Ent)), k ≤ l.length ∧ i = .int .i64 k ∧ EntO wr w.heap.size gv g ∧ Hid (Short g) ∧ g.length ≤ k ∧ MF wr w.heap.size o (fun k => w.heap.size ≤ k ∧ o.ownBlock ≠ some k ∧ gv.ownBlock ≠ some k) done ∧ Hid (tgt = done ++ rSplit size most (l.drop k) g) ∧ Below w.heap.size w wr) (fun _ _ i _ => l.length - (intOf i).toNat)
  case atStart =>
    refine ⟨0, [], [], Nat.zero_le _, rfl, ?_, Lib.hid (fun x h => by cases h), Nat.zero_le _, ?_, HT, ((Below.refl _ _).alloc (Nat.le_refl _) _).alloc (by simp) _⟩
    · have := Own.empty (w.alloc (.cells #[] 23)) (B := w.heap.size) 31 entC 3 (by simp)
      rw [World.size_alloc] at this; exact this
    · exact (MF.empty w (Nat.le_refl _) (fun _ => False)).step ((Mod.refl None_ _).alloc _) (fun _ _ h => h) (fun _ _ h => h) (fun _ h => h.elim)
  case round =>
    clear HT
    obtain ⟨k, g, done, hk, rfl, hg, HG, hgk, ho, HT, hb⟩ := hrel
    have hbase : w.heap.size ≤ wr.heap.size := hb.size
    by_cases hlt : k < l.length
    · obtain ⟨b, off, rfl, hF, hc0, hc1, hc2⟩ := EntA.cells (hs.below hb) hlt
      obtain ⟨y0, y1, y2⟩ := At3.new wr 31 (.string l[k].key) (.string l[k].val) (.bool l[k].gone)
      have hgl : g.length < 100001 := by omega
      have hd := HT.out
      rw [List.drop_eq_getElem_cons hlt] at hd
      unfold rSplit at hd
      have hshx : Short (g ++ [l[k]]) := by
        intro x hx
        rcases List.mem_append.1 hx with h | h
        · exact HG.out x h
        · rw [List.mem_singleton.1 h]; exact HS.out _ (List.getElem_mem hlt)
      have HGX := Lib.hid hshx
      have hgx : (g ++ [l[k]]).length ≤ k + 1 := by simp; omega
      have hdl : done.length ≤ l.length + 1 := by
        have := HT.out; rw [this] at htl; simp at htl; omega
      have HD := Lib.hid hd
      clear hd HT hshx
      go_wp2_with (at_builtin; refine wpList_app1 (by rfl) (.tmp 19) (.tmp 21) (by rfl) hE.out entC_length entC_one (by rfl) (by exact (hg.alloc _).alloc _) (g := _) 1 l[k] (by rfl) (by exact Blk.new_ (by simp)) (by rfl) 100001 hgl (by omega) (by unfold maxLen; omega) (by simp; omega) ?_; intro v3 w3 ho3 hg3 hv3)
      have hm3 : Mod (fun k => u8.ownBlock = some k) wr w3 := (((Mod.refl _ wr).alloc _).alloc _).grown hg3 (fun k hk _ => hk)
      have hne : ∀ k, u7.ownBlock = some k → ¬ u8.ownBlock = some k := by
        obtain ⟨vs, _, h2, _⟩ := ho
        exact fun k h => h2.ne_ hg (by decide) k h
      have ho2 : MF w3 w.heap.size u7 (fun k => w.heap.size ≤ k ∧ u7.ownBlock ≠ some k ∧ v3.ownBlock ≠ some k) done := ho.step hm3 hne (fun k hk => hk.2.2) (fun k hk hk2 => ⟨hk.1, hk.2.1, fun e => by
        rcases hv3 with h | h
        · rw [h] at e; exact hk.2.2 e
        · rw [h] at e; simp at e; omega⟩)
      have hb3 : Below w.heap.size w w3 := ((hb.alloc hbase _).alloc (by simp; omega) _).grown hg3 (by simp; omega) (fun k hk => (hg.lt k hk).1)
      have hbw3 := hb3.size
      obtain ⟨A3, c3, rfl, h31, h32, hs3⟩ := ho3.sl entC_length
      clear ho hm3 hne hg hg3 hv3
      go_wp2_with fail
      refine (costL_any A3 c3 _ (g ++ [l[k]]) _ w3 (by omega) (by simp) HGX.out hs3).mono ?_
      rintro e w4 ⟨rfl, hb4⟩
      have ho4 := ho2.below hb4
      have hg4 := ho3.below hb4
      have hb5 := hb3.trans (hb4.mono hbw3)
      have hbw4 := hb5.size
      clear ho2 ho3 hs3 hb3 hb4
      by_cases hc : spCond size most (g ++ [l[k]]) = true
      · have hd := HD.out; rw [if_pos hc] at hd
        have HD2 := Lib.hid hd; clear hd HD
        have hor : (size ≤ ((costL (g ++ [l[k]]) : Nat) : Int)) ∨ (¬ size ≤ ((costL (g ++ [l[k]]) : Nat) : Int)) ∧ (most ≤ (g.length : Int) + 1) := by
          unfold spCond at hc; simp at hc; omega
        clear hc
        generalize costL (g ++ [l[k]]) = c0 at hor ⊢
        obtain ⟨vs, hv1, hv2, hv3⟩ := ho4
        have hvl : vs.length < 100002 := by omega
        have HV1 := Lib.hid hv1; have HV3 := Lib.hid hv3
        have hne : ∀ kk, u7.ownBlock = some kk → ¬ Value.ownBlock (.slice A3 (g ++ [l[k]]).length c3) = some kk := fun kk h => hv2.ne_ hg4 (by decide) kk h
        have hlt2 := hv2.lt
        have hglt := hg4.lt
        obtain ⟨A4, c4, he4, h41, h42, hs4⟩ := hg4.sl entC_length
        injection he4 with e1 e2 e3; subst e1; subst e3; clear e2
        clear hv1 hv3 hg4
        rcases hor with a1 | ⟨a1, a2⟩
        all_goals
          go_wp2_with (at_builtin; refine wpList_app1 (by rfl) (.tmp 33) (.tmp 35) (by rfl) hEl.out svC_length svC_one (by rfl) (by exact hv2.alloc _) (g := _) 1 ⟨A3, _, c3⟩ (by rfl) (by exact Blk.new_ (by simp)) (by rfl) 100002 hvl (by omega) (by unfold maxLen; omega) (by simp; omega) ?_; intro v5 w5 ho5 hg5 hv5)
          go_roundw
          case rel =>
            have hb6 : Below w.heap.size w w5 := (hb5.alloc hbw4 _).grown hg5 (by simp; omega) (fun k hk => (hlt2 k hk).1)
            refine ⟨k + 1, [], done ++ [g ++ [l[k]]], by omega, by go_num, Own.empty _ _ _ _ hb6.size, Lib.hid (fun x h => by cases h), Nat.zero_le _, ?_, Lib.hid (by simpa using HD2.out), hb6.alloc hb6.size _⟩
            have hmf : MF w5 w.heap.size v5 (fun k => w.heap.size ≤ k ∧ v5.ownBlock ≠ some k) (done ++ [g ++ [l[k]]]) := by
              refine MF.snoc HV1.out (fun i v m a b => ((HV3.out i v m a b).below ((Below.refl _ _).alloc (Nat.le_refl _) _)).imp (fun k hk => (⟨hk.1, hk.2.1⟩ : w.heap.size ≤ k ∧ u7.ownBlock ≠ some k))) ?_ ho5 hg5 (fun k hk => hk.2) (fun k hk hk2 => ⟨hk.1, fun e => ?_⟩)
              · refine Sl.below (w := w4) ?_ ((Below.refl _ _).alloc (Nat.le_refl _) _)
                exact ⟨A3, c3, by simp [SV.val], h41, h42, hs4.imp fun k hk => ⟨(hglt k hk).1, fun e => hne k e hk⟩⟩
              · rcases hv5 with h | h
                · rw [h] at e; exact hk.2 e
                · rw [h] at e; injection e with e; omega
            exact hmf.step ((Mod.refl None_ _).alloc _) (fun _ _ h => h) (fun _ _ h => h) (fun kk hk hk2 => ⟨hk.1, hk.2, fun e => by have e' : w5.heap.size = kk := Option.some.inj e; omega⟩)
          case measure => simp [intOf] <;> omega
      · have hd := HD.out; rw [if_neg hc] at hd
        have HD2 := Lib.hid hd; clear hd HD
        have hor : (¬ size ≤ ((costL (g ++ [l[k]]) : Nat) : Int)) ∧ (¬ most ≤ (g.length : Int) + 1) := by
          unfold spCond at hc; simp at hc; omega
        clear hc
        generalize costL (g ++ [l[k]]) = c0 at hor ⊢
        obtain ⟨a1, a2⟩ := hor
        go_wp2
        go_roundw
        case rel => exact ⟨k + 1, g ++ [l[k]], done, by omega, by go_num, by simpa using hg4, HGX, hgx, by simpa using ho4, HD2, hb5⟩
        case measure => simp [intOf] <;> omega
    · have hx : l.drop k = [] := List.drop_of_length_le (by omega)
      have hd := HT.out; rw [hx] at hd
      unfold rSplit at hd
      clear HT hx
      rcases g with _ | ⟨x, g⟩
      · rw [if_pos rfl, List.append_nil] at hd
        have HD := Lib.hid hd; clear hd
        obtain ⟨Ag, cg, rfl, _, _, _⟩ := hg.sl entC_length
        go_wp2
        go_ret
        exact ⟨_, rfl, by rw [HD.out]; exact ho.step (Mod.refl None_ _) (fun _ _ h => h) (fun _ _ h => h) (fun _ _ _ => trivial), hb⟩
      · rw [if_neg (by simp)] at hd
        have hdl : done.length ≤ l.length + 1 := by rw [hd] at htl; simp at htl; omega
        have HD := Lib.hid hd; clear hd
        obtain ⟨vs, hv1, hv2, hv3⟩ := ho
        have hvl : vs.length < 100002 := by omega
        have hlt2 := hv2.lt
        have HV1 := Lib.hid hv1; have HV3 := Lib.hid hv3
        have hne : ∀ k, u7.ownBlock = some k → ¬ u8.ownBlock = some k := fun k h => hv2.ne_ hg (by decide) k h
        obtain ⟨Ag, cg, rfl, hg1, hg2, hgs⟩ := hg.sl entC_length
        have hpos : (0 : Int) < ((g.length : Nat) : Int) + 1 := by omega
        clear hv1 hv3
        go_wp2_with (at_builtin; refine wpList_app1 (by rfl) (.tmp 42) (.tmp 44) (by rfl) hEl.out svC_length svC_one (by rfl) (by exact hv2.alloc _) (g := _) 1 ⟨Ag, _, cg⟩ (by rfl) (by exact Blk.new_ (by simp)) (by rfl) 100002 hvl (by omega) (by unfold maxLen; omega) (by simp; omega) ?_; intro v5 w5 ho5 hg5 hv5)
        go_ret
        refine ⟨_, rfl, ?_, (hb.alloc hbase _).grown hg5 (by simp; omega) (fun k hk => (hlt2 k hk).1)⟩
        rw [HD.out]
        refine MF.snoc (F := fun k => u7.ownBlock ≠ some k) HV1.out (fun i v m a b => ((HV3.out i v m a b).below ((Below.refl _ _).alloc (Nat.le_refl _) _)).imp (fun k hk => hk.2.1)) ?_ ho5 hg5 (fun k hk => hk) (fun _ _ _ => trivial)
        refine Sl.below (w := wr) ?_ ((Below.refl _ _).alloc (Nat.le_refl _) _)
        exact ⟨Ag, cg, by simp [SV.val], hg1, hg2, hgs.imp fun k hk e => hne k e hk⟩
end Go.Proofs.Ytcnkmfmdadmaaaa
