/- code.Writer.Number walked. -/
import Derived.Test.YtcnkmfmdadmaaaaCodeW
import Derived.Deep.RegionLaw
namespace Go.Proofs.Ytcnkmfmdadmaaaa
open Go.RowKit
theorem shr_byte (n t : Nat) : [Value.int .u8 (IntKind.u8.wrap ((n : Int) / 2 ^ (8 * (t : Int)).toNat))] = byC (UInt8.ofNat (n / 256 ^ t)) := by
  have h1 : (8 * (t : Int)).toNat = 8 * t := by omega
  have h2 : (2 : Int) ^ (8 * t) = ((256 ^ t : Nat) : Int) := by rw [Int.pow_mul, Int.natCast_pow]; rfl
  rw [h1, h2, ← Int.natCast_ediv]
  show [Value.int .u8 _] = [Value.int .u8 _]
  rw [UInt8.toNat_ofNat', show IntKind.u8.wrap ((n / 256 ^ t : Nat) : Int) = (((n / 256 ^ t) % 256 : Nat) : Int) from by rw [Int.natCast_emod]; rfl]
set_option maxRecDepth 100000 in
set_option maxHeartbeats 400000 in
theorem wnumber_any (b : Nat) (n : Int) (hn : n < 9223372036854775808) (v : Value) (s : WS) (hs : s.bs.length ≤ 1000000000000) (w : World) (hw : IsW w b v s) :
    Calls Try.prog 24 #[.pointer (some ⟨b, 0, none⟩), .int .i64 n] w fun e w' => e = .returned (.tuple #[]) ∧ WTo w w' b v (s.number n) := by
  by_cases hneg : n < 0
  · have HR := Lib.hid (show s.number n = s.fail 1 by unfold WS.number; rw [if_pos hneg])
    go_enter Try.func24, Try.ntmps24
    go_wp2_with fail
    refine (wfail_any b 1 v s w hw).mono ?_
    rintro e w1 ⟨rfl, hw1⟩
    go_wp2
    exact bodyPost_ret (results_none rfl _ _ _) rfl ⟨rfl, by rw [HR.out]; exact hw1⟩

  · have HR := Lib.hid (show s.number n = s.put (numBytes n.toNat) by unfold WS.number; rw [if_neg hneg])
    obtain ⟨n, rfl⟩ := Int.eq_ofNat_of_zero_le (Int.not_lt.1 hneg)
    rw [Int.toNat_natCast] at HR
    have hle := digits_le 8 n (by omega)
    have HD := Box.mk (digits_at 8 n (by omega))
    obtain ⟨L, hL⟩ : ∃ L, (digits n).length = L := ⟨_, rfl⟩
    rw [hL] at hle
    have HL := Box.mk hL
    have HN := Box.mk hn
    have hn0 : (0 : Int) ≤ (n : Int) := by omega
    clear hL hn hneg
    obtain ⟨h0, h1⟩ := hw.cells
    have hE := Lib.hid byElem
    go_enter Try.func24, Try.ntmps24
    go_wp2
    go_loop [4, 5] (fun k m => ∃ (i j : Nat), k = .int .i64 i ∧ m = .int .i64 j ∧ Box (j ≤ n) ∧ Box (i + (digits j).length = L) ∧ i ≤ 8) (fun _ m => (intOf m).toNat)
    case atStart => exact ⟨0, n, rfl, rfl, Box.mk (Nat.le_refl _), Box.mk (by rw [HL.out]; omega), by omega⟩
    case round =>
      obtain ⟨i, j, rfl, rfl, hj, hij, hi8⟩ := hrel
      by_cases hj0 : j = 0
      · subst hj0
        have hij' := hij.out
        rw [digits_zero] at hij'
        simp only [List.length_nil, Nat.add_zero] at hij'
        subst hij'
        have hwa : ∀ o, IsW (w.alloc o) b v s := fun o => hw.below ((Below.refl _ _).alloc (Nat.le_refl _) o)
        have hlen : s.bs.length < 2000000000000 := by omega
        go_wp2_with (at_builtin; refine wpList_app1 (by rfl) (.tmp 22) (.tmp 25) (by rfl) hE.out byC_length byC_one (by rfl) (by exact (hwa _).2.1) (g := w.heap.size) 1 (UInt8.ofNat i) (by rfl) (by exact Blk.new_ (by simp)) ?_ 2000000000000 hlen (by omega) (by unfold maxLen; omega) (by simp) ?_; rotate_left; intro v' w3 ho3 hg3 hv3; obtain ⟨A3, c3, hv', -, -, -⟩ := ho3.sl byC_length; generalize (s.bs ++ [UInt8.ofNat i]).length = n3 at hv'; subst hv'; have hc3 := (hwa _).grown_cells hg3; have hcell := hc3.cell 0; have hfz := hc3.frozen 0; simp only [List.getElem?_toArray, List.getElem?_cons_zero] at hcell)
        rotate_left
        · simp [byC, UInt8.toNat_ofNat']; omega
        have W1 : WTo w (w3.setCell ⟨b, 0, none⟩ (.slice A3 n3 c3)) b v ⟨s.bs ++ [UInt8.ofNat i], s.e⟩ := WTo.ahead ((Below.refl _ _).alloc (Nat.le_refl _) _) (WTo.put (hwa _) hg3 ho3 hv3)
        generalize w3.setCell ⟨b, 0, none⟩ (.slice A3 n3 c3) = w4 at W1 ⊢
        clear hg3 ho3 hv3 hc3 hcell hfz h0 h1 hwa
        go_loopw [6] (fun i' wr => ∃ t : Nat, t ≤ i ∧ i' = .int .i64 ((t : Int) - 1) ∧ WTo w wr b v ⟨s.bs ++ (UInt8.ofNat i :: (digits n).take (i - t)), s.e⟩) (fun i' _ => (intOf i' + 1).toNat)
        case atStart => exact ⟨i, Nat.le_refl _, rfl, by rw [Nat.sub_self, List.take_zero]; exact W1⟩
        case round =>
          clear W1
          obtain ⟨t, ht, rfl, hW⟩ := hrel
          obtain ⟨vr, hwr, hmr, hvr⟩ := hW
          rcases t with _ | t
          · go_wp2
            go_end0
            refine ⟨rfl, ?_⟩
            rw [HR.out]
            refine ⟨vr, ?_, hmr, hvr⟩
            have : (digits n).take (i - 0) = digits n := List.take_of_length_le (by rw [HL.out]; omega)
            rw [this] at hwr
            unfold WS.put numBytes
            rw [HL.out]
            exact hwr
          · rw [show ((t + 1 : Nat) : Int) - 1 = (t : Int) by omega]
            obtain ⟨h0, h1⟩ := hwr.cells
            have hfz := hwr.1.frozen 0
            have hwa : ∀ o, IsW (wr.alloc o) b vr _ := fun o => hwr.below ((Below.refl _ _).alloc (Nat.le_refl _) o)
            have hlen2 : (s.bs ++ (UInt8.ofNat i :: (digits n).take (i - (t + 1)))).length < 2000000000000 := by simp; omega
            have ht8 : (8 : Int) * (t : Int) ≤ 64 := by omega
            have htk : (digits n).take (i - t) = (digits n).take (i - (t + 1)) ++ [UInt8.ofNat (n / 256 ^ t)] := by
              have h1 := HD.out t (by rw [HL.out]; omega)
              rw [HL.out, show i - 1 - t = i - (t + 1) by omega] at h1
              rw [show i - t = (i - (t + 1)) + 1 by omega, List.take_add_one, h1]; rfl
            have HTK := Box.mk htk
            clear htk
            have HBY := Box.mk (shr_byte n t)
            have hwm : IntKind.i64.wrap (8 * (t : Int)) = 8 * (t : Int) := IntWalk.i64_in _ (by omega)
            have ht0 : (0 : Int) ≤ 8 * (t : Int) := by omega
            go_wp2_with (fail)
            have hca : ∀ o, (wr.alloc o).cell? ⟨b, 0, none⟩ = some vr := fun o => (hwa o).cells.1
            go_region_law (refine step_app1 (by rfl) (.tmp 39) (.tmp 45) (by rfl) hE.out byC_length byC_one (v := vr) (by rfl) (by exact (hwa _).drew.2.1) (g := wr.heap.size) 1 (UInt8.ofNat (n / 256 ^ t)) (by rfl) (by exact Blk.new_ (by simp)) (by exact HBY.out) 2000000000000 hlen2 (by omega) (by unfold maxLen; omega) (by simp) ?_; intro v' w3 ho3 hg3 hv3; obtain ⟨A3, c3, hv', -, -, -⟩ := ho3.sl byC_length; generalize (s.bs ++ (UInt8.ofNat i :: (digits n).take (i - (t + 1))) ++ [UInt8.ofNat (n / 256 ^ t)]).length = n4 at hv'; subst hv'; have hcell := ((hwa _).drew.grown_cells hg3).cell 0; have hfz3 := ((hwa _).drew.grown_cells hg3).frozen 0; simp only [List.getElem?_toArray, List.getElem?_cons_zero] at hcell)
            all_goals
              have W3 : WTo w (w3.setCell ⟨b, 0, none⟩ (.slice A3 n4 c3)) b v ⟨s.bs ++ (UInt8.ofNat i :: (digits n).take (i - (t + 1))) ++ [UInt8.ofNat (n / 256 ^ t)], s.e⟩ :=
                WTo.trans_ hmr hvr (WTo.ahead (((Below.refl _ _).alloc (Nat.le_refl _) _).drew) (WTo.put (s := ⟨s.bs ++ (UInt8.ofNat i :: (digits n).take (i - (t + 1))), s.e⟩) (hwa _).drew hg3 ho3 hv3))
              go_wp2
              go_roundw
              case rel => exact ⟨t, by omega, by go_num, by rw [HTK.out, ← List.cons_append, ← List.append_assoc]; exact W3⟩
              case measure => simp [intOf] <;> omega
      · have hd := congrArg List.length (digits_pos hj0)
        rw [List.length_append, List.length_singleton] at hd
        have HDD := Box.mk hd
        have hjp : (0 : Int) < (j : Int) := by omega
        clear hd
        go_wp2
        go_round
        case rel => exact ⟨i + 1, j / 256, by go_num, by go_num, Box.mk (by have := hj.out; omega), Box.mk (by have := hij.out; have := HDD.out; omega), by have := hij.out; have := HDD.out; omega⟩
        case measure => simp [intOf] <;> omega
end Go.Proofs.Ytcnkmfmdadmaaaa
