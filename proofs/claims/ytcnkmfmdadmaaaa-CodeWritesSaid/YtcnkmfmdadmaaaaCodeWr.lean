/- law02.CodeWrites walked. -/
import Derived.Test.YtcnkmfmdadmaaaaRow
namespace Go.Proofs.Ytcnkmfmdadmaaaa
open Go.RowKit
theorem thCells {w : World} {g : Nat} {t : TypeId} {x : Th} (h : Blk w g t (thC x).toArray) :
    w.cell? ⟨g, 0, none⟩ = some (.int .i64 x.k) ∧ w.cell? ⟨g, 1, none⟩ = some (.int .i64 x.n) ∧ w.cell? ⟨g, 2, none⟩ = some (.string x.s) ∧ w.rangeAt g 3 (labC x.lab) :=
  ⟨by rw [h.cell]; rfl, by rw [h.cell]; rfl, by rw [h.cell]; rfl, h.range 3 _ (fun j u hu => by
    show (thC x)[3 + j]? = _
    rw [Nat.add_comm]; exact hu)⟩
theorem after_write {w wr w2 w3 : World} {v : Value} {ws s' : WS} {Af : Option Addr} {cf : Nat} {ys : List Th} (hw : IsW wr w.heap.size v ws) (hv : ∀ g, v.ownBlock = some g → w.heap.size ≤ g)
    (hof : Own wr (w.heap.size + 1) 75 thC 35 (.slice Af ys.length cf) ys) (hb : Below w.heap.size w wr) (h2 : Below wr.heap.size wr w2) (h3 : WTo w2 w3 w.heap.size v s') :
    Below w.heap.size w w3 ∧ ¬ WF w.heap.size v wr.heap.size ∧ ∃ v3, IsW w3 w.heap.size v3 s' ∧ Mod (WF w.heap.size v) w2 w3 ∧ (∀ g, v3.ownBlock = some g → w.heap.size ≤ g) ∧ Own w3 (w.heap.size + 1) 75 thC 35 (.slice Af ys.length cf) ys := by
  have hb2 := hb.trans (h2.mono hb.size)
  refine ⟨hb2.trans (h3.below_ hb2.size (Nat.le_refl _) hv), ?_, ?_⟩
  · rintro (e | e)
    · have := hw.1.lt; omega
    · have := (hw.2.1.lt _ e).2; omega
  · obtain ⟨v3, hw3, hm3, hv3⟩ := h3
    refine ⟨v3, hw3, hm3, ?_, ?_⟩
    · intro g hg
      rcases hv3 g hg with h | h
      · exact hv g h
      · exact Nat.le_trans hb2.size h
    · refine (hof.below h2).mod hm3 (fun k hk hW => ?_)
      rcases hW with rfl | hW
      · have := (hof.lt _ hk).1; omega
      · exact hof.ne_ hw.2.1 (by decide) k hk hW
/-- How a round ends. -/
theorem WS.e_fail (s : WS) (x : Int) : (s.fail x).e = if s.e = 0 then x else s.e := by unfold WS.fail; split <;> rfl
set_option maxHeartbeats 1600000 in
set_option maxRecDepth 100000 in
theorem codeWrites_any (A : Option Addr) (cap : Nat) (l : List Th) (F : Nat → Prop) (w : World) (hs : SlA w F thC 35 A l) (hc : l.length ≤ cap) (hm : l.length ≤ maxLen) :
    Calls Try.prog 10 #[.slice A l.length cap] w fun e w' => e = .returned (.bool true) ∧ Below w.heap.size w w' := by
  have HM := Box.mk hm
  clear hm
  go_enter Try.func10, Try.ntmps10
  go_wp2_with fail
  have hw0 := IsW.new w
  have hb0 : Below w.heap.size w (w.alloc (.cells #[.slice none 0 0, .int .i64 0] 40)) := (Below.refl _ _).alloc (Nat.le_refl _) _
  have hsz0 : (w.alloc (.cells #[.slice none 0 0, .int .i64 0] 40)).heap.size = w.heap.size + 1 := by simp
  generalize w.alloc (.cells #[.slice none 0 0, .int .i64 0] 40) = wa at hw0 hb0 hsz0 ⊢
  refine (few02_any A cap l F wa (hs.below hb0) hc HM.out).mono ?_
  rintro e w1 ⟨vf, rfl, hof, hbf⟩
  have hw1 := hw0.below hbf
  have hb1 := hb0.trans (hbf.mono hb0.size)
  have HY := Box.mk (show (l.take 40).length ≤ 40 by rw [List.length_take]; omega)
  generalize l.take 40 = ys at hof HY
  obtain ⟨Af, cf, rfl, hc1, hc2, -⟩ := hof.sl thC_length
  clear hc2 hw0 hs hb0 hbf
  rw [hsz0] at hof
  clear hsz0 HM hc
  go_wp2_with fail
  go_loopw [4, 5, 14] (fun s e i wr => ∃ (k : Nat) (ws : WS) (v : Value), k ≤ ys.length ∧ i = .int .i64 k ∧ s = .string (bytesOf ws.bs) ∧ e = .int .i64 ws.e ∧ IsW wr w.heap.size v ws ∧ Box (ws.bs.length ≤ 200000) ∧
    (∀ g, v.ownBlock = some g → w.heap.size ≤ g) ∧ Own wr (w.heap.size + 1) 75 thC 35 (.slice Af ys.length cf) ys ∧ Below w.heap.size w wr) (fun _ _ i _ => ys.length - (intOf i).toNat)
  case atStart => exact ⟨0, ⟨[], 0⟩, .slice none 0 0, Nat.zero_le _, rfl, rfl, rfl, hw1, Box.mk (by simp), (by intro g hg; simp [Value.ownBlock] at hg), hof, hb1⟩
  case round =>
    clear hw1 hof hb1
    obtain ⟨k, ws, v, hk, rfl, rfl, rfl, hw, hlen, hv, hof, hb⟩ := hrel
    by_cases hlt : k < ys.length
    · obtain ⟨Af2, cf2, hvv, -, -, hsl⟩ := hof.sl thC_length
      injection hvv with e1 e2 e3
      subst e1; subst e3
      obtain ⟨bb, off, rfl, hF, hrg⟩ := hsl.range hlt
      have HI := Box.mk (show (Try.prog.info? 75).map (·.size) = some (thC ys[k]).length by rw [thC_length]; kernel_rfl)
      have HZ := Box.mk (thC_length ys[k])
      have H1 := Box.mk (thC_one ys[k])
      generalize hx : ys[k] = x at hrg HI HZ H1
      have HX := Box.mk hx
      clear hx hsl e2
      have hkc : (x.k == 1) = true ∨ ((x.k == 1) = false ∧ (x.k == 2) = false ∧ (x.k == 3) = false ∧ (x.k == 4) = false) ∨ ((x.k == 1) = false ∧ (x.k == 2) = true) ∨ ((x.k == 1) = false ∧ (x.k == 2) = false ∧ (x.k == 3) = true) ∨ ((x.k == 1) = false ∧ (x.k == 2) = false ∧ (x.k == 3) = false ∧ (x.k == 4) = true) := by
        simp only [beq_eq_false_iff_ne, beq_iff_eq]; omega
      have hk40 : (k : Int) + 1 ≤ 41 := by have := HY.out; omega
      rcases hkc with hk1 | hk1 | hk1 | hk1 | hk1
      · have hx1 : x.k = 1 := by simpa using hk1
        go_wp2_with (first
          | (refine wpList_load_mid (by rfl) 75 (.tmp 16) (by rfl) bb (off + k * 35) (by rfl) (thC x) _ hrg Try.underlying75 rfl HI.out ?_)
          | (refine wpList_store_new (by rfl) 75 (.tmp 7) (.tmp 17) (by rfl) wr.heap.size (thC x) (by rfl) (by rfl) (Blk.new wr 75 _) (by rw [HZ.out]; rfl) HI.out H1.out ((Below.refl wr.heap.size wr).alloc (Nat.le_refl _) _) (Nat.le_refl _) ?_; intro w2 hT h2; obtain ⟨f0, f1, f2, f3⟩ := thCells hT))
        have hwx := hw.below h2
        have hofx := hof.below h2
        have hbx := hb.trans (h2.mono hb.size)
        have hbase2 : w.heap.size ≤ w2.heap.size := hbx.size
        clear hofx
        refine (wnumber_any w.heap.size x.n x.hn v ws (by have := hlen.out; omega) w2 hwx).mono ?_
        rintro e w3 ⟨rfl, hW3⟩
        obtain ⟨hbx3, hfar, v3, hw3, hm3, hvx, hofx⟩ := after_write hw hv hof hb h2 hW3
        replace hbx := hbx3
        clear hbx3
        have g1 := hm3.cell_some f1 hfar
        have g2 := hm3.cell_some f2 hfar
        have g3 : w3.rangeAt wr.heap.size 3 (labC x.lab) := fun j u hu => hm3.cell_some (f3 j u hu) hfar
        clear f0 f1 f2 f3
        by_cases hneg : x.n < 0
        · rw [show ws.number x.n = ws.fail 1 by unfold WS.number; rw [if_pos hneg]] at hw3
          have HLx := Box.mk (show (ws.fail 1).bs.length = (bytesOf ws.bs).size by rw [WS.len_fail]; rfl)
          have HS := Box.mk (congrArg (fun l => Value.string (bytesOf l)) (WS.len_fail ws 1).symm)
          have hwx := hw3
          go_wp2_with fail
          all_goals first
            | (refine (awake02_any _).mono ?_; rintro e w9 ⟨rfl, h9⟩; go_wp2; go_ret; exact ⟨rfl, hbx.trans (h9.mono hbx.size)⟩)
            | (go_roundw; (case rel => exact ⟨k + 1, ws.fail 1, v3, by omega, by go_num, HS.out, by first | rfl | rw [WS.e_fail, if_pos (show ws.e = 0 by simpa using (show (ws.e == 0) = true by assumption))] | rw [WS.e_fail, if_neg (show ¬ ws.e = 0 by simpa using (show (ws.e == 0) = false by assumption))] | (show _ = Value.int IntKind.i64 ws.e; rw [show ws.e = 0 by simpa using (show (ws.e == 0) = true by assumption)]), hwx, Box.mk (by rw [HLx.out]; omega), hvx, hofx, hbx⟩); (case measure => simp [intOf] <;> omega))
        · obtain ⟨m, hm⟩ := Int.eq_ofNat_of_zero_le (Int.not_lt.1 hneg)
          rw [show ws.number x.n = ws.put (numBytes m) by unfold WS.number; rw [if_neg hneg, hm]; rfl] at hw3
          have hnl := numBytes_len m (by have := x.hn; omega)
          have HLx := Box.mk (show (ws.put (numBytes m)).bs.length = (bytesOf (ws.bs ++ numBytes m)).size from rfl)
          have hs1 : ws.bs.length ≤ 4000000 := by have := hlen.out; omega
          have hs2 : (numBytes m).length ≤ 4000000 := by omega
          have HS := Box.mk (show Value.string (bytesOf (ws.bs ++ numBytes m)) = Value.string (bytesOf (ws.put (numBytes m)).bs) from rfl)
          have hnn : (0 : Int) ≤ (m : Int) := by omega
          have HM := Box.mk (show m < 9223372036854775808 by have := x.hn; omega)
          rw [hm] at g1
          have HS1 := Box.mk hs1
          have HS2 := Box.mk hs2
          have HM3 := Box.mk hm3
          have HFAR := Box.mk hfar
          clear hnl hneg hm hs1 hs2 hm3 hfar
          go_wp2_with fail
          refine (refNumber_any m HM.out w3).mono ?_
          rintro e w4 ⟨rfl, h4⟩
          have hwx := hw3.below h4
          replace hofx := hofx.below h4
          replace hbx := hbx.trans (h4.mono hbx.size)
          go_wp2_with (refine wpList_strAdd (by rfl) 9 9 (.tmp 28) (.tmp 31) (by rfl) ws.bs (numBytes m) (by rfl) (by rfl) HS1.out HS2.out ?_)
          all_goals first
            | (refine (awake02_any _).mono ?_; rintro e w9 ⟨rfl, h9⟩; go_wp2; go_ret; exact ⟨rfl, hbx.trans (h9.mono hbx.size)⟩)
            | (go_roundw; (case rel => exact ⟨k + 1, ws.put (numBytes m), v3, by omega, by go_num, HS.out, by first | rfl | rw [WS.e_fail, if_pos (show ws.e = 0 by simpa using (show (ws.e == 0) = true by assumption))] | rw [WS.e_fail, if_neg (show ¬ ws.e = 0 by simpa using (show (ws.e == 0) = false by assumption))] | (show _ = Value.int IntKind.i64 ws.e; rw [show ws.e = 0 by simpa using (show (ws.e == 0) = true by assumption)]), hwx, Box.mk (by rw [HLx.out]; omega), hvx, hofx, hbx⟩); (case measure => simp [intOf] <;> omega))
      · obtain ⟨n1, n2, n3, n4⟩ := hk1
        go_wp2_with (first
          | (refine wpList_load_mid (by rfl) 75 (.tmp 16) (by rfl) bb (off + k * 35) (by rfl) (thC x) _ hrg Try.underlying75 rfl HI.out ?_)
          | (refine wpList_store_new (by rfl) 75 (.tmp 7) (.tmp 17) (by rfl) wr.heap.size (thC x) (by rfl) (by rfl) (Blk.new wr 75 _) (by rw [HZ.out]; rfl) HI.out H1.out ((Below.refl wr.heap.size wr).alloc (Nat.le_refl _) _) (Nat.le_refl _) ?_; intro w2 hT h2; obtain ⟨f0, f1, f2, f3⟩ := thCells hT))
        all_goals
          have hwx := hw.below h2
          have hofx := hof.below h2
          have hbx := hb.trans (h2.mono hb.size)
          have hvx := hv
          have HLx := Box.mk (show ws.bs.length = (bytesOf ws.bs).size from rfl)
          have HS := Box.mk (show Value.string (bytesOf ws.bs) = Value.string (bytesOf ws.bs) from rfl)
        all_goals first
          | (refine (awake02_any _).mono ?_; rintro e w9 ⟨rfl, h9⟩; go_wp2; go_ret; exact ⟨rfl, hbx.trans (h9.mono hbx.size)⟩)
          | (go_roundw; (case rel => exact ⟨k + 1, ws, v, by omega, by go_num, HS.out, by first | rfl | rw [WS.e_fail, if_pos (show ws.e = 0 by simpa using (show (ws.e == 0) = true by assumption))] | rw [WS.e_fail, if_neg (show ¬ ws.e = 0 by simpa using (show (ws.e == 0) = false by assumption))] | (show _ = Value.int IntKind.i64 ws.e; rw [show ws.e = 0 by simpa using (show (ws.e == 0) = true by assumption)]), hwx, Box.mk (by rw [HLx.out]; omega), hvx, hofx, hbx⟩); (case measure => simp [intOf] <;> omega))
      · obtain ⟨a1, a2⟩ := hk1
        go_wp2_with (first
          | (refine wpList_load_mid (by rfl) 75 (.tmp 16) (by rfl) bb (off + k * 35) (by rfl) (thC x) _ hrg Try.underlying75 rfl HI.out ?_)
          | (refine wpList_store_new (by rfl) 75 (.tmp 7) (.tmp 17) (by rfl) wr.heap.size (thC x) (by rfl) (by rfl) (Blk.new wr 75 _) (by rw [HZ.out]; rfl) HI.out H1.out ((Below.refl wr.heap.size wr).alloc (Nat.le_refl _) _) (Nat.le_refl _) ?_; intro w2 hT h2; obtain ⟨f0, f1, f2, f3⟩ := thCells hT))
        have hwx := hw.below h2
        have hofx := hof.below h2
        have hbx := hb.trans (h2.mono hb.size)
        have hbase2 : w.heap.size ≤ w2.heap.size := hbx.size
        clear hofx
        refine (wtext_any w.heap.size x.s v ws (by have := hlen.out; omega) w2 hwx).mono ?_
        rintro e w3 ⟨rfl, hW3⟩
        obtain ⟨hbx3, hfar, v3, hw3, hm3, hvx, hofx⟩ := after_write hw hv hof hb h2 hW3
        replace hbx := hbx3
        clear hbx3
        have g1 := hm3.cell_some f1 hfar
        have g2 := hm3.cell_some f2 hfar
        have g3 : w3.rangeAt wr.heap.size 3 (labC x.lab) := fun j u hu => hm3.cell_some (f3 j u hu) hfar
        clear f0 f1 f2 f3
        by_cases hbig : 65536 < x.s.size
        · rw [show ws.text x.s = ws.fail 2 by unfold WS.text; rw [if_pos hbig]] at hw3
          have HLx := Box.mk (show (ws.fail 2).bs.length = (bytesOf ws.bs).size by rw [WS.len_fail]; rfl)
          have HS := Box.mk (congrArg (fun l => Value.string (bytesOf l)) (WS.len_fail ws 2).symm)
          have hwx := hw3
          have hbig' : (65536 : Int) < (x.s.size : Int) := by omega
          clear hbig
          go_wp2_with fail
          all_goals first
            | (refine (awake02_any _).mono ?_; rintro e w9 ⟨rfl, h9⟩; go_wp2; go_ret; exact ⟨rfl, hbx.trans (h9.mono hbx.size)⟩)
            | (go_roundw; (case rel => exact ⟨k + 1, ws.fail 2, v3, by omega, by go_num, HS.out, by first | rfl | rw [WS.e_fail, if_pos (show ws.e = 0 by simpa using (show (ws.e == 0) = true by assumption))] | rw [WS.e_fail, if_neg (show ¬ ws.e = 0 by simpa using (show (ws.e == 0) = false by assumption))] | (show _ = Value.int IntKind.i64 ws.e; rw [show ws.e = 0 by simpa using (show (ws.e == 0) = true by assumption)]), hwx, Box.mk (by rw [HLx.out]; omega), hvx, hofx, hbx⟩); (case measure => simp [intOf] <;> omega))
        · have hte : ws.text x.s = ws.put (numBytes x.s.size ++ x.s.data.toList) := by
            unfold WS.text WS.number WS.put; rw [if_neg hbig, if_neg (by omega)]; simp
          rw [hte] at hw3
          have hnl := numBytes_len x.s.size (by omega)
          have HS2 := Box.mk (show (numBytes x.s.size ++ x.s.data.toList).length ≤ 4000000 by rw [List.length_append, ← size_eq]; omega)
          have HB := Box.mk (show x.s.size ≤ 8388608 by omega)
          have hbig' : (x.s.size : Int) ≤ 65536 := by omega
          clear hbig hte hnl
          have hs1 : ws.bs.length ≤ 4000000 := by have := hlen.out; omega
          have HS1 := Box.mk hs1
          have HS := Box.mk (show Value.string (bytesOf (ws.bs ++ (numBytes x.s.size ++ x.s.data.toList))) = Value.string (bytesOf (ws.put ((numBytes x.s.size ++ x.s.data.toList))).bs) from rfl)
          have HLx := Box.mk (show (ws.put ((numBytes x.s.size ++ x.s.data.toList))).bs.length = (bytesOf (ws.bs ++ (numBytes x.s.size ++ x.s.data.toList))).size from rfl)
          have HM3 := Box.mk hm3
          have HFAR := Box.mk hfar
          clear hs1 hm3 hfar
          go_wp2_with fail
          clear hbig'
          refine (refText_any x.s HB.out w3).mono ?_
          rintro e w4 ⟨rfl, h4⟩
          have hwx := hw3.below h4
          replace hofx := hofx.below h4
          replace hbx := hbx.trans (h4.mono hbx.size)
          go_wp2_with (refine wpList_strAdd (by rfl) 9 9 (.tmp 42) (.tmp 45) (by rfl) ws.bs ((numBytes x.s.size ++ x.s.data.toList)) (by rfl) (by rfl) HS1.out HS2.out ?_)
          all_goals first
            | (refine (awake02_any _).mono ?_; rintro e w9 ⟨rfl, h9⟩; go_wp2; go_ret; exact ⟨rfl, hbx.trans (h9.mono hbx.size)⟩)
            | (go_roundw; (case rel => exact ⟨k + 1, ws.put ((numBytes x.s.size ++ x.s.data.toList)), v3, by omega, by go_num, HS.out, by first | rfl | rw [WS.e_fail, if_pos (show ws.e = 0 by simpa using (show (ws.e == 0) = true by assumption))] | rw [WS.e_fail, if_neg (show ¬ ws.e = 0 by simpa using (show (ws.e == 0) = false by assumption))] | (show _ = Value.int IntKind.i64 ws.e; rw [show ws.e = 0 by simpa using (show (ws.e == 0) = true by assumption)]), hwx, Box.mk (by rw [HLx.out]; omega), hvx, hofx, hbx⟩); (case measure => simp [intOf] <;> omega))
      · obtain ⟨a1, a2, a3⟩ := hk1
        have HLI := Box.mk (show (Try.prog.info? 73).map (·.size) = some (labC x.lab).length by rw [labC_length]; kernel_rfl)
        go_wp2_with (first
          | (refine wpList_load_mid (by rfl) 75 (.tmp 16) (by rfl) bb (off + k * 35) (by rfl) (thC x) _ hrg Try.underlying75 rfl HI.out ?_)
          | (refine wpList_store_new (by rfl) 75 (.tmp 7) (.tmp 17) (by rfl) wr.heap.size (thC x) (by rfl) (by rfl) (Blk.new wr 75 _) (by rw [HZ.out]; rfl) HI.out H1.out ((Below.refl wr.heap.size wr).alloc (Nat.le_refl _) _) (Nat.le_refl _) ?_; intro w2 hT h2; obtain ⟨f0, f1, f2, f3⟩ := thCells hT)
          | (refine wpList_load_mid (by rfl) 73 (.tmp 49) (by rfl) wr.heap.size 3 (by rfl) (labC x.lab) _ f3 Try.underlying73 rfl HLI.out ?_))
        have hwx := hw.below h2
        have hofx := hof.below h2
        have hbx := hb.trans (h2.mono hb.size)
        have hbase2 : w.heap.size ≤ w2.heap.size := hbx.size
        clear hofx
        refine (wlabel_any w.heap.size x.lab v ws (by have := hlen.out; omega) w2 hwx).mono ?_
        rintro e w3 ⟨rfl, hW3⟩
        obtain ⟨hbx3, hfar, v3, hw3, hm3, hvx, hofx⟩ := after_write hw hv hof hb h2 hW3
        replace hbx := hbx3
        clear hbx3
        have g1 := hm3.cell_some f1 hfar
        have g2 := hm3.cell_some f2 hfar
        have g3 : w3.rangeAt wr.heap.size 3 (labC x.lab) := fun j u hu => hm3.cell_some (f3 j u hu) hfar
        clear f0 f1 f2 f3
        have HS2 := Box.mk (show x.lab.l.length ≤ 4000000 by rw [x.lab.h]; omega)
        have hs1 : ws.bs.length ≤ 4000000 := by have := hlen.out; omega
        have HS1 := Box.mk hs1
        have HS := Box.mk (show Value.string (bytesOf (ws.bs ++ x.lab.l)) = Value.string (bytesOf (ws.put (x.lab.l)).bs) from rfl)
        have HLx := Box.mk (show (ws.put (x.lab.l)).bs.length = (bytesOf (ws.bs ++ x.lab.l)).size from rfl)
        have HM3 := Box.mk hm3
        have HFAR := Box.mk hfar
        clear hs1 hm3 hfar
        go_wp2_with (refine wpList_load_mid (by rfl) 73 (.tmp 53) (by rfl) wr.heap.size 3 (by rfl) (labC x.lab) _ g3 Try.underlying73 rfl HLI.out ?_)
        refine (refLabel_any x.lab w3).mono ?_
        rintro e w4 ⟨rfl, h4⟩
        have hwx := hw3.below h4
        replace hofx := hofx.below h4
        replace hbx := hbx.trans (h4.mono hbx.size)
        go_wp2_with (refine wpList_strAdd (by rfl) 9 9 (.tmp 52) (.tmp 55) (by rfl) ws.bs (x.lab.l) (by rfl) (by rfl) HS1.out HS2.out ?_)
        all_goals first
          | (refine (awake02_any _).mono ?_; rintro e w9 ⟨rfl, h9⟩; go_wp2; go_ret; exact ⟨rfl, hbx.trans (h9.mono hbx.size)⟩)
          | (go_roundw; (case rel => exact ⟨k + 1, ws.put (x.lab.l), v3, by omega, by go_num, HS.out, by first | rfl | rw [WS.e_fail, if_pos (show ws.e = 0 by simpa using (show (ws.e == 0) = true by assumption))] | rw [WS.e_fail, if_neg (show ¬ ws.e = 0 by simpa using (show (ws.e == 0) = false by assumption))] | (show _ = Value.int IntKind.i64 ws.e; rw [show ws.e = 0 by simpa using (show (ws.e == 0) = true by assumption)]), hwx, Box.mk (by rw [HLx.out]; omega), hvx, hofx, hbx⟩); (case measure => simp [intOf] <;> omega))
      · obtain ⟨a1, a2, a3, a4⟩ := hk1
        obtain ⟨c, hc⟩ : ∃ c, decide (0 < x.n) = c := ⟨_, rfl⟩
        go_wp2_with (first
          | (refine wpList_load_mid (by rfl) 75 (.tmp 16) (by rfl) bb (off + k * 35) (by rfl) (thC x) _ hrg Try.underlying75 rfl HI.out ?_)
          | (refine wpList_store_new (by rfl) 75 (.tmp 7) (.tmp 17) (by rfl) wr.heap.size (thC x) (by rfl) (by rfl) (Blk.new wr 75 _) (by rw [HZ.out]; rfl) HI.out H1.out ((Below.refl wr.heap.size wr).alloc (Nat.le_refl _) _) (Nat.le_refl _) ?_; intro w2 hT h2; obtain ⟨f0, f1, f2, f3⟩ := thCells hT))
        have hwx := hw.below h2
        have hofx := hof.below h2
        have hbx := hb.trans (h2.mono hb.size)
        have hbase2 : w.heap.size ≤ w2.heap.size := hbx.size
        clear hofx
        refine (wflag_any w.heap.size c v ws (by have := hlen.out; omega) w2 hwx).mono ?_
        rintro e w3 ⟨rfl, hW3⟩
        obtain ⟨hbx3, hfar, v3, hw3, hm3, hvx, hofx⟩ := after_write hw hv hof hb h2 hW3
        replace hbx := hbx3
        clear hbx3
        have g1 := hm3.cell_some f1 hfar
        have g2 := hm3.cell_some f2 hfar
        have g3 : w3.rangeAt wr.heap.size 3 (labC x.lab) := fun j u hu => hm3.cell_some (f3 j u hu) hfar
        clear f0 f1 f2 f3
        have HS2 := Box.mk (show ([if c then 1 else 0] : List UInt8).length ≤ 4000000 by simp)
        have hs1 : ws.bs.length ≤ 4000000 := by have := hlen.out; omega
        have HS1 := Box.mk hs1
        have HS := Box.mk (show Value.string (bytesOf (ws.bs ++ [if c then 1 else 0])) = Value.string (bytesOf (ws.put ([if c then 1 else 0])).bs) from rfl)
        have HLx := Box.mk (show (ws.put ([if c then 1 else 0])).bs.length = (bytesOf (ws.bs ++ [if c then 1 else 0])).size from rfl)
        have HM3 := Box.mk hm3
        have HFAR := Box.mk hfar
        clear hs1 hm3 hfar
        go_wp2_with fail
        refine (refFlag_any c w3).mono ?_
        rintro e w4 ⟨rfl, h4⟩
        have hwx := hw3.below h4
        replace hofx := hofx.below h4
        replace hbx := hbx.trans (h4.mono hbx.size)
        go_wp2_with (refine wpList_strAdd (by rfl) 9 9 (.tmp 63) (.tmp 67) (by rfl) ws.bs ([if c then 1 else 0]) (by rfl) (by rfl) HS1.out HS2.out ?_)
        all_goals first
          | (refine (awake02_any _).mono ?_; rintro e w9 ⟨rfl, h9⟩; go_wp2; go_ret; exact ⟨rfl, hbx.trans (h9.mono hbx.size)⟩)
          | (go_roundw; (case rel => exact ⟨k + 1, ws.put ([if c then 1 else 0]), v3, by omega, by go_num, HS.out, by first | rfl | rw [WS.e_fail, if_pos (show ws.e = 0 by simpa using (show (ws.e == 0) = true by assumption))] | rw [WS.e_fail, if_neg (show ¬ ws.e = 0 by simpa using (show (ws.e == 0) = false by assumption))] | (show _ = Value.int IntKind.i64 ws.e; rw [show ws.e = 0 by simpa using (show (ws.e == 0) = true by assumption)]), hwx, Box.mk (by rw [HLx.out]; omega), hvx, hofx, hbx⟩); (case measure => simp [intOf] <;> omega))
    · go_wp2_with fail
      refine (wdone_any w.heap.size v ws wr hw).mono ?_
      rintro e w3 ⟨rfl, h3⟩
      have hb3 := hb.trans (h3.mono hb.size)
      clear hof hv
      have hcase : ((ws.e == 0) = false ∧ ¬ ws.e = 0) ∨ (ws.e = 0 ∧ 65536 < ws.bs.length) ∨ (ws.e = 0 ∧ ¬ 65536 < ws.bs.length) := by
        simp only [beq_eq_false_iff_ne]; omega
      rcases hcase with ⟨g1, g2⟩ | ⟨g1, g2⟩ | ⟨g1, g2⟩
      · rw [show ws.done = (⟨#[]⟩, ws.e) by unfold WS.done; rw [if_pos g2]]
        go_wp2_with fail
        refine (awake02_any w3).mono ?_
        rintro e w4 ⟨rfl, h4⟩
        go_wp2
        go_ret
        exact ⟨rfl, hb3.trans (h4.mono hb3.size)⟩
      · rw [show ws.done = (⟨#[]⟩, 2) by unfold WS.done; rw [if_neg (fun h => h g1), if_pos g2], g1]
        have hbig : (65536 : Int) < ((bytesOf ws.bs).size : Int) := by rw [bytesOf_size]; omega
        clear g1 g2
        go_wp2_with fail
        refine (awake02_any w3).mono ?_
        rintro e w4 ⟨rfl, h4⟩
        go_wp2
        go_ret
        exact ⟨rfl, hb3.trans (h4.mono hb3.size)⟩
      · rw [show ws.done = (bytesOf ws.bs, 0) by unfold WS.done; rw [if_neg (fun h => h g1), if_neg g2]; rfl, g1]
        have hbig : ((bytesOf ws.bs).size : Int) ≤ 65536 := by rw [bytesOf_size]; omega
        clear g1 g2
        go_wp2_with fail
        refine (awake02_any w3).mono ?_
        rintro e w4 ⟨rfl, h4⟩
        go_wp2
        go_ret
        exact ⟨rfl, hb3.trans (h4.mono hb3.size)⟩
end Go.Proofs.Ytcnkmfmdadmaaaa
