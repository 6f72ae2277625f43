/- Nodes go and come back. No program in sight. -/
import Derived.Test.YtpjfhllkckdejaaN2
import Derived.Test.YtpjfhllkckdejaaG12Z
set_option maxHeartbeats 4000000
namespace Go.Proofs.Ytpjfhllkckdejaa
open Go Go.RowKit
/-- A reader that is well, with this still to come. -/
structure RS.at_ (r : RS) (t : List UInt8) : Prop where
  e : r.e = 0
  rest : r.rest = t
theorem at_step {s : List UInt8} {p n : Nat} {e : Int} {L t : List UInt8} (h : (RS.mk s p e).rest = L ++ t) (hn : n = L.length) : (RS.mk s (p + n) 0).at_ t := ⟨rfl, by
  rw [RS.rest_step]
  have h : s.drop p = L ++ t := h
  show (s.drop p).drop n = t
  rw [h, hn, List.drop_append_of_le_length (Nat.le_refl _), List.drop_length, List.nil_append]⟩
theorem at_num {r : RS} {n : Nat} {t : List UInt8} (hn : n < 9223372036854775808) (h : r.at_ (numBytes n ++ t)) : r.number.1 = n ∧ r.number.2.at_ t := by
  rw [RS.number_reads r h.e n hn t h.rest]
  obtain ⟨s, p, e⟩ := r
  exact ⟨rfl, at_step h.rest rfl⟩
theorem at_lab {r : RS} {l t : List UInt8} (hl : l.length = 32) (h : r.at_ (l ++ t)) : r.label.1 = l ∧ r.label.2.at_ t := by
  rw [RS.label_reads r h.e l hl t h.rest]
  obtain ⟨s, p, e⟩ := r
  exact ⟨rfl, at_step h.rest hl.symm⟩
theorem at_flag {r : RS} {c : Bool} {t : List UInt8} (h : r.at_ ((if c then 1 else 0) :: t)) : r.flag.1 = c ∧ r.flag.2.at_ t := by
  rw [RS.flag_reads r h.e c t h.rest]
  obtain ⟨s, p, e⟩ := r
  exact ⟨rfl, at_step (L := [if c then 1 else 0]) h.rest rfl⟩
theorem at_open {s : List UInt8} (h : s.length ≤ 65536) : (RS.open s).at_ s := by
  unfold RS.open
  rw [if_neg (by omega)]
  exact ⟨rfl, by unfold RS.rest; rw [List.drop_zero]⟩
theorem at_done {r : RS} (h : r.at_ []) : r.done = 0 := by
  unfold RS.done
  have h2 : r.s.length - r.p = 0 := by rw [← RS.rest_len, h.rest]; rfl
  rw [if_neg (by omega)]
  exact h.e
theorem put_num {s : WS} {n : Int} (h : 0 ≤ n) : s.number n = s.put (numBytes n.toNat) := by unfold WS.number; rw [if_neg (by omega)]
/-- An item's bytes. -/
def itmBy (x : Itm) : List UInt8 := ((numBytes x.n.toNat ++ x.l) ++ x.s) ++ numBytes x.t.toNat
def lefBy (x : Lef) : List UInt8 := (x.l ++ x.v) ++ numBytes x.t.toNat
theorem WS.itm_put {s : WS} {x : Itm} (hn : 0 ≤ x.n) (ht : 0 ≤ x.t) : s.itm x = s.put (itmBy x) := by
  unfold WS.itm
  rw [put_num hn, put_num ht]
  unfold WS.put itmBy
  simp only [List.append_assoc]
theorem WS.lef_put {s : WS} {x : Lef} (ht : 0 ≤ x.t) : s.lef x = s.put (lefBy x) := by
  unfold WS.lef
  rw [put_num ht]
  unfold WS.put lefBy
  simp only [List.append_assoc]
theorem itmBy_len {x : Itm} (hx : x.ok) (hn : x.n < 9223372036854775808) (ht : x.t < 9223372036854775808) (h0 : 0 ≤ x.n) (h1 : 0 ≤ x.t) : (itmBy x).length ≤ 82 := by
  have := WS.len_itm ⟨[], 0⟩ x hx hn ht
  rw [WS.itm_put h0 h1, WS.len_put] at this
  have e : (WS.mk [] 0).bs.length = 0 := rfl
  omega
theorem lefBy_len {x : Lef} (hx : x.ok) (ht : x.t < 9223372036854775808) (h1 : 0 ≤ x.t) : (lefBy x).length ≤ 73 := by
  have := WS.len_lef ⟨[], 0⟩ x hx ht
  rw [WS.lef_put h1, WS.len_put] at this
  have e : (WS.mk [] 0).bs.length = 0 := rfl
  omega
theorem at_itm {r : RS} {x : Itm} {t : List UInt8} (hx : x.ok) (hn : 0 ≤ x.n ∧ x.n < 9223372036854775808) (ht : 0 ≤ x.t ∧ x.t < 9223372036854775808) (h : r.at_ (itmBy x ++ t)) : r.itm.1 = x ∧ r.itm.2.at_ t := by
  unfold itmBy at h
  rw [List.append_assoc, List.append_assoc, List.append_assoc] at h
  obtain ⟨a1, a2⟩ := at_num (by omega) h
  obtain ⟨b1, b2⟩ := at_lab hx.1 a2
  obtain ⟨c1, c2⟩ := at_lab hx.2 b2
  obtain ⟨d1, d2⟩ := at_num (by omega) c2
  refine ⟨?_, d2⟩
  obtain ⟨n, l, s, tt⟩ := x
  show Itm.mk _ _ _ _ = _
  rw [a1, b1, c1, d1]
  dsimp only at hn ht ⊢
  rw [Int.toNat_of_nonneg hn.1, Int.toNat_of_nonneg ht.1]
theorem at_lef {r : RS} {x : Lef} {t : List UInt8} (hx : x.ok) (ht : 0 ≤ x.t ∧ x.t < 9223372036854775808) (h : r.at_ (lefBy x ++ t)) : r.lef.1 = x ∧ r.lef.2.at_ t := by
  unfold lefBy at h
  rw [List.append_assoc, List.append_assoc] at h
  obtain ⟨b1, b2⟩ := at_lab hx.1 h
  obtain ⟨c1, c2⟩ := at_lab hx.2 b2
  obtain ⟨d1, d2⟩ := at_num (by omega) c2
  refine ⟨?_, d2⟩
  obtain ⟨l, v, tt⟩ := x
  show Lef.mk _ _ _ = _
  rw [b1, c1, d1]
  dsimp only at ht ⊢
  rw [Int.toNat_of_nonneg ht.1]
theorem chkLf_t {x : Lef} (h : chkLf x = 0) : 0 ≤ x.t ∧ x.t ≤ 1073741824 := by unfold chkLf at h; split at h <;> omega
theorem lf_by {x : Lef} (hx : x.ok) (h : chkLf x = 0) : lfBy x = (0 :: lefBy x, 0) := by
  have ht := chkLf_t h
  have hl := lefBy_len hx (by omega) ht.1
  unfold lfBy lfW
  rw [if_neg (fun hh => hh h), WS.lef_put ht.1]
  have e : (w0.put [0]).put (lefBy x) = ⟨0 :: lefBy x, 0⟩ := rfl
  rw [e]
  unfold WS.done
  rw [if_neg (fun hh => hh rfl), if_neg (by rw [List.length_cons]; omega)]
theorem lf_back {x : Lef} (hx : x.ok) (h : chkLf x = 0) : nodRd (lfBy x).1 = (.lf x, 0) := by
  have ht := chkLf_t h
  rw [lf_by hx h]
  have hl := lefBy_len hx (by omega) ht.1
  have a0 := at_open (s := 0 :: lefBy x) (by rw [List.length_cons]; omega)
  have hq : (0 :: lefBy x : List UInt8) = (if false = true then 1 else 0) :: (lefBy x ++ []) := by rw [List.append_nil]; rfl
  generalize hs : (0 :: lefBy x : List UInt8) = s at a0 hq
  have a0 : (RS.open s).at_ ((if false = true then 1 else 0) :: (lefBy x ++ [])) := by rw [← hq]; exact a0
  obtain ⟨b1, b2⟩ := at_flag a0
  obtain ⟨c1, c2⟩ := at_lef hx ⟨ht.1, by omega⟩ b2
  have hR : nodR s = (.lf x, (RS.open s).flag.2.lef.2) := by
    unfold nodR
    dsimp only
    rw [if_neg (show ¬ (RS.open s).flag.1 = true by rw [b1]; decide), c1]
  unfold nodRd
  rw [hR]
  dsimp only
  rw [if_neg (fun hh => hh (at_done c2)), if_neg (fun hh => hh h)]
theorem in_by {x y : Itm} (hx : x.ok) (hy : y.ok) (h : chkN x y = 0) : inBy x y = (1 :: (itmBy x ++ itmBy y), 0) ∧ nodRd (inBy x y).1 = (.inn x y, 0) := by
  have hg : goodI x = true ∧ goodI y = true := by
    unfold chkN at h
    by_cases hg : goodI x = true ∧ goodI y = true
    · exact hg
    · rw [if_neg hg] at h; cases h
  have bnd : ∀ z : Itm, goodI z = true → 0 ≤ z.n ∧ z.n ≤ 256 ∧ 0 ≤ z.t ∧ z.t ≤ 1073741824 := fun z gz => by
    unfold goodI goodP at gz
    simp only [Bool.and_eq_true, decide_eq_true_eq] at gz
    exact ⟨gz.1.1, gz.1.2.1, gz.2.1, gz.2.2⟩
  obtain ⟨x1, x2, x3, x4⟩ := bnd x hg.1
  obtain ⟨y1, y2, y3, y4⟩ := bnd y hg.2
  have lx := itmBy_len hx (by omega) (by omega) x1 x3
  have ly := itmBy_len hy (by omega) (by omega) y1 y3
  have e1 : inBy x y = (1 :: (itmBy x ++ itmBy y), 0) := by
    unfold inBy inW
    rw [if_neg (fun hh => hh h), WS.itm_put x1 x3, WS.itm_put y1 y3]
    have e : ((w0.put [1]).put (itmBy x)).put (itmBy y) = ⟨1 :: (itmBy x ++ itmBy y), 0⟩ := rfl
    rw [e]
    unfold WS.done
    rw [if_neg (fun hh => hh rfl), if_neg (by rw [List.length_cons, List.length_append]; omega)]
  refine ⟨e1, ?_⟩
  rw [e1]
  have a0 := at_open (s := 1 :: (itmBy x ++ itmBy y)) (by rw [List.length_cons, List.length_append]; omega)
  have hq : (1 :: (itmBy x ++ itmBy y) : List UInt8) = (if true = true then 1 else 0) :: (itmBy x ++ (itmBy y ++ [])) := by rw [List.append_nil]; rfl
  generalize hs : (1 :: (itmBy x ++ itmBy y) : List UInt8) = s at a0 hq
  have a0 : (RS.open s).at_ ((if true = true then 1 else 0) :: (itmBy x ++ (itmBy y ++ []))) := by rw [← hq]; exact a0
  obtain ⟨b1, b2⟩ := at_flag a0
  obtain ⟨c1, c2⟩ := at_itm hx ⟨x1, by omega⟩ ⟨x3, by omega⟩ b2
  obtain ⟨d1, d2⟩ := at_itm hy ⟨y1, by omega⟩ ⟨y3, by omega⟩ c2
  have hR : nodR s = (.inn x y, (RS.open s).flag.2.itm.2.itm.2) := by
    unfold nodR
    dsimp only
    rw [if_pos b1, c1, d1]
  unfold nodRd
  rw [hR]
  dsimp only
  rw [if_neg (fun hh => hh (at_done d2)), if_neg (fun hh => hh h)]
end Go.Proofs.Ytpjfhllkckdejaa
set_option maxHeartbeats 8000000
set_option maxRecDepth 100000
namespace Go.Proofs.Ytpjfhllkckdejaa
open Go Go.RowKit
theorem itmA_cells {w : World} {F : Nat → Prop} {x : Itm} {v : Value} (h : repV w F x.A v) : x.ok ∧ v = .agg (itmC_ x).toArray := by
  obtain ⟨cs, hc, he⟩ := h
  simp only [Itm.A, pfxA, labA, repC, repL] at hc
  obtain ⟨c0, cr, rfl, ⟨c7, c8, rfl, rfl, c1, c2, rfl, ⟨h1, h2⟩, rfl⟩, c3, c4, rfl, ⟨h3, h4⟩, c5, c6, rfl, rfl, rfl⟩ := hc
  have e1 := bytes_cells x.l c1 h2
  have e2 := bytes_cells x.s c3 h4
  subst e1
  subst e2
  refine ⟨⟨by simpa using h1, by simpa using h3⟩, ?_⟩
  rw [he]
  unfold itmC_
  simp only [List.append_nil, List.append_assoc, List.cons_append, List.nil_append]
  rfl
theorem itmA_eq0 (x y : Itm) (hx : x.ok) (hy : y.ok) (w : World) : (Op.equalIn 10000 36 (.agg (itmC_ x).toArray) (.agg (itmC_ y).toArray)).run Try.prog w = .ok (eqI x y) w := by
  have hS : Try.prog.underlying 36 = some (.struct (Try.prog.fieldsOf 36)) := by kernel_rfl
  have hh : Try.prog.stoodInHeld 36 = false := by kernel_rfl
  have hi : Try.prog.underlying 3 = some (.int .i64) := by kernel_rfl
  have hk : Try.prog.plainKey 3 = true := by kernel_rfl
  have hu8 : Try.prog.underlying 5 = some (.int .u8) := by kernel_rfl
  have hk8 : Try.prog.plainKey 5 = true := by kernel_rfl
  have hl : Try.prog.underlying 24 = some (.array 32 5) := by kernel_rfl
  have hsz := (tget_ok TtOk (show tget Tt 24 = some _ from rfl)).sizeRun w
  have hag : (isAgg 24).run Try.prog w = .ok true w := by
    unfold isAgg; simp only [Sem.run_bind, run_underlying hl, Result.andThen_ok, Sem.run_pure]
  have pP : ∀ (z : Itm), z.ok → (part 34 (itmC_ z).toArray 0).run Try.prog w = .ok (.agg (Value.int .i64 z.n :: z.l.map cellB).toArray) w := fun z hz => by
    have hszp := (tget_ok TtOk (show tget Tt 34 = some _ from rfl)).sizeRun w
    have hagp : (isAgg 34).run Try.prog w = .ok true w := by
      have hSp : Try.prog.underlying 34 = some (.struct (Try.prog.fieldsOf 34)) := by kernel_rfl
      unfold isAgg; simp only [Sem.run_bind, run_underlying hSp, Result.andThen_ok, Sem.run_pure]
    have hx : ((itmC_ z).toArray.extract 0 (0 + 33)) = (Value.int .i64 z.n :: z.l.map cellB).toArray := by
      rw [List.extract_toArray]
      congr 1
      unfold itmC_ List.extract
      rw [List.drop_zero, show 0 + 33 - 0 = 32 + 1 from rfl, List.take_succ_cons, List.take_append_of_le_length (by rw [List.length_map, hz.1]; decide), List.take_of_length_le (by rw [List.length_map, hz.1]; decide)]
    unfold part
    simp only [Sem.run_bind, hagp, Result.andThen_ok, if_true, hszp, Sem.run_pure]
    exact congrArg (fun q => Result.ok (Value.agg q) w) hx
  have pE : ∀ (n m : Int) (a b : List UInt8), a.length = 32 → b.length = 32 → (Op.equalIn (9998 + 1) 34 (.agg (Value.int .i64 n :: a.map cellB).toArray) (.agg (Value.int .i64 m :: b.map cellB).toArray)).run Try.prog w = .ok (n == m && a == b) w := fun n m a b ha hb => by
    have hSp : Try.prog.underlying 34 = some (.struct (Try.prog.fieldsOf 34)) := by kernel_rfl
    have hhp : Try.prog.stoodInHeld 34 = false := by kernel_rfl
    have p1 : ∀ (z : Int) (l : List UInt8), (part 3 (Value.int .i64 z :: l.map cellB).toArray 0).run Try.prog w = .ok (.int .i64 z) w := fun z l => run_part_plain w hk rfl
    have p2 : ∀ (z : Int) (l : List UInt8), l.length = 32 → (part 24 (Value.int .i64 z :: l.map cellB).toArray 1).run Try.prog w = .ok (.agg (l.map cellB).toArray) w := fun z l hl2 => by
      have hx : ((Value.int .i64 z :: l.map cellB).toArray.extract 1 (1 + 32)) = (l.map cellB).toArray := by
        rw [List.extract_toArray]
        congr 1
        show ((l.map cellB).take 32) = _
        rw [List.take_of_length_le (by rw [List.length_map]; omega)]
      unfold part
      simp only [Sem.run_bind, hag, Result.andThen_ok, if_true, hsz, Sem.run_pure]
      exact congrArg (fun q => Result.ok (Value.agg q) w) hx
    have p3 := run_equalIn_int (P := Try.prog) w 9997 3 .i64 .i64 n m hi
    have p4 : (Op.equalIn (9997 + 1) 24 (.agg (a.map cellB).toArray) (.agg (b.map cellB).toArray)).run Try.prog w = .ok (a == b) w := by
      obtain ⟨ie, hie, hies, _⟩ := (tget_ok TtOk (show tget Tt 5 = some _ from rfl)).inf
      have hco : Try.prog.cellsOf 5 = 1 := by unfold Program.cellsOf; rw [hie]; exact hies
      have h1 := run_equalIn_array (P := Try.prog) w 9997 (a.map cellB).toArray (b.map cellB).toArray hl hie
      have h2 := eqItems_bytes (P := Try.prog) (w := w) hu8 hk8 9996 a b (List.range 32) (fun i hi => by have := List.mem_range.1 hi; omega)
      rw [all_range_eq a b 32 ha hb] at h2
      rw [hco] at h1
      rw [h1]
      exact h2
    rw [run_equalIn_struct (P := Try.prog) w 9998 _ _ _ hSp hhp]
    simp only [Program.fieldsOf, Try.underlying34]
    simp only [Op.eqFields]
    rw [if_pos (by decide)]
    simp only [Sem.run_bind, p1, Result.andThen_ok]
    rw [p3]
    generalize (n == m) = q
    cases q
    · simp only [Result.andThen_ok, Bool.not_false, if_true, Sem.run_pure, Bool.false_and]
    · simp only [Result.andThen_ok, Bool.not_true, Bool.false_eq_true, if_false]
      rw [if_pos (by decide)]
      rw [Sem.run_bind, p2 n a ha, Result.andThen_ok, Sem.run_bind, p2 m b hb, Result.andThen_ok, Sem.run_bind, p4, Result.andThen_ok]
      generalize (a == b) = r
      cases r
      · rfl
      · rfl
  have pB : ∀ (z : Itm), z.ok → (part 24 (itmC_ z).toArray 33).run Try.prog w = .ok (.agg (z.s.map cellB).toArray) w := fun z hz => by
    have hx : ((itmC_ z).toArray.extract 33 (33 + 32)) = (z.s.map cellB).toArray := by
      rw [List.extract_toArray]
      congr 1
      unfold itmC_ List.extract
      rw [List.drop_succ_cons, List.drop_append_of_le_length (by rw [List.length_map, hz.1]; decide), List.drop_of_length_le (by rw [List.length_map, hz.1]; decide), List.nil_append, List.take_append_of_le_length (by rw [List.length_map, hz.2]; decide), List.take_of_length_le (by rw [List.length_map, hz.2]; decide)]
    unfold part
    simp only [Sem.run_bind, hag, Result.andThen_ok, if_true, hsz, Sem.run_pure]
    exact congrArg (fun q => Result.ok (Value.agg q) w) hx
  have pC : ∀ (z : Itm), z.ok → (part 3 (itmC_ z).toArray 65).run Try.prog w = .ok (.int .i64 z.t) w := fun z hz => run_part_plain w hk (by
    unfold itmC_
    rw [List.getElem?_toArray, List.getElem?_cons_succ, List.getElem?_append_right (by rw [List.length_map, hz.1]; decide), List.getElem?_append_right (by rw [List.length_map, List.length_map, hz.1, hz.2]; decide), List.length_map, List.length_map, hz.1, hz.2]; rfl)
  have p3 := fun a b : Int => run_equalIn_int (P := Try.prog) w 9998 3 .i64 .i64 a b hi
  have p4 : ∀ a b : List UInt8, a.length = 32 → b.length = 32 → (Op.equalIn (9998 + 1) 24 (.agg (a.map cellB).toArray) (.agg (b.map cellB).toArray)).run Try.prog w = .ok (a == b) w := fun a b ha hb => by
    obtain ⟨ie, hie, hies, _⟩ := (tget_ok TtOk (show tget Tt 5 = some _ from rfl)).inf
    have hco : Try.prog.cellsOf 5 = 1 := by unfold Program.cellsOf; rw [hie]; exact hies
    have h1 := run_equalIn_array (P := Try.prog) w 9998 (a.map cellB).toArray (b.map cellB).toArray hl hie
    have h2 := eqItems_bytes (P := Try.prog) (w := w) hu8 hk8 9997 a b (List.range 32) (fun i hi => by have := List.mem_range.1 hi; omega)
    rw [all_range_eq a b 32 ha hb] at h2
    rw [hco] at h1
    rw [h1]
    exact h2
  rw [run_equalIn_struct (P := Try.prog) w 9999 _ _ _ hS hh]
  unfold eqI
  simp only [Program.fieldsOf, Try.underlying36]
  simp only [Op.eqFields]
  rw [if_pos (by decide)]
  rw [Sem.run_bind, pP x hx, Result.andThen_ok, Sem.run_bind, pP y hy, Result.andThen_ok, Sem.run_bind, pE _ _ _ _ hx.1 hy.1, Result.andThen_ok, ← Bool.and_assoc]
  generalize (x.n == y.n && x.l == y.l) = q
  cases q
  · simp only [Bool.not_false, if_true, Sem.run_pure, Bool.false_and]
    try rfl
  · simp only [Bool.not_true, Bool.false_eq_true, if_false]
    rw [if_pos (by decide)]
    rw [Sem.run_bind, pB x hx, Result.andThen_ok, Sem.run_bind, pB y hy, Result.andThen_ok, Sem.run_bind, p4 _ _ hx.2 hy.2, Result.andThen_ok]
    generalize (x.s == y.s) = r
    cases r
    · simp only [Bool.not_false, if_true, Sem.run_pure, Bool.false_and]
      try rfl
    · simp only [Bool.not_true, Bool.false_eq_true, if_false]
      rw [if_pos (by decide)]
      rw [Sem.run_bind, pC x hx, Result.andThen_ok, Sem.run_bind, pC y hy, Result.andThen_ok, Sem.run_bind, p3, Result.andThen_ok]
      generalize (x.t == y.t) = z
      cases z <;> rfl
theorem itmA_neq (x y : Itm) (hx : x.ok) (hy : y.ok) (w : World) : (binOp .neq 36 (.agg (itmC_ x).toArray) (.agg (itmC_ y).toArray)).run Try.prog w = .ok (.bool (!(eqI x y))) w := by
  rw [run_neq_struct, itmA_eq0 x y hx hy]; rfl
section
variable {m : OM} {C : Ctx} {ops : Array Oper} {l : List Oper} {K : St → Prop} {n : Nat} {sl : List (Nat × AV)} {hp : List (Nat × HO)} {d : Nat} {ty : Nat} {pos : String} {aft : Array Edge} {gd : Option (Nat × Bool)}
theorem o_neItmA (hw : gval ops ⟨n, sl, hp⟩ gd = gwant gd) {u : Nat} {x y : Operand} {p q : Itm} (hx : ev ⟨n, sl, hp⟩ x = p.A) (hy : ev ⟨n, sl, hp⟩ y = q.A) (hd : Nat.blt d n = true)
    (h : Ops m Try.prog C ops l ⟨n, (d, .b (!(eqI p q))) :: sl, hp⟩ K) : Ops m Try.prog C ops (⟨some d, .binOp .neq 36 x y u, ty, pos, aft, gd⟩ :: l) ⟨n, sl, hp⟩ K := by
  refine Ops.by (d := some d) hw none okc_none hd rfl (fun ac w hs => ?_) h
  have Ex := ev_rep hs x
  have Ey := ev_rep hs y
  rw [hx] at Ex
  rw [hy] at Ey
  obtain ⟨l1, Ex⟩ := itmA_cells Ex
  obtain ⟨l2, Ey⟩ := itmA_cells Ey
  refine ⟨_, repV_b.2 rfl, fun w' _ => ?_⟩
  have hgd := run_eqGuard_agg (P := Try.prog) w' .neq 36 x y (itmC_ p).toArray (itmC_ q).toArray (by kernel_rfl)
  simp only [execOp, Ex, Ey, Sem.run_bind, hgd, itmA_neq p q l1 l2, Result.andThen_ok, Sem.run_pure]
end
end Go.Proofs.Ytpjfhllkckdejaa
