/- Readers: errors and lengths; the reading of files; level.Read by rules. -/
import Derived.Test.YtnmnhnlebkebfaaLB1
import Derived.Test.YtnmnhnlebkebfaaS3
import Derived.Test.YtnmnhnlebkebfaaKR3
set_option maxHeartbeats 8000000
set_option maxRecDepth 100000
namespace Go.Proofs.Ytnmnhnlebkebfaa
open Go Go.RowKit
theorem take_e3 {r : RS} (h : r.e ≠ 3) (n : Nat) : (r.take n).2.e ≠ 3 := by
  unfold RS.take; split
  · exact h
  · split
    · show (5 : Int) ≠ 3; decide
    · show (0 : Int) ≠ 3; decide
theorem fail_e3 {r : RS} (h : r.e ≠ 3) (x : Int) (hx : x ≠ 3) : (r.fail x).e ≠ 3 := by
  unfold RS.fail; split
  · exact hx
  · exact h
theorem number_e3 {r : RS} (h : r.e ≠ 3) : r.number.2.e ≠ 3 := by
  unfold RS.number; split
  · exact take_e3 h _
  · split
    · exact fail_e3 (take_e3 h _) 4 (by decide)
    · split
      · exact fail_e3 (take_e3 (take_e3 h _) _) 4 (by decide)
      · exact take_e3 (take_e3 h _) _
theorem text_e3 {r : RS} (h : r.e ≠ 3) : r.text.2.e ≠ 3 := by
  unfold RS.text
  refine take_e3 ?_ _
  unfold RS.big; split
  · exact fail_e3 (number_e3 h) 2 (by decide)
  · exact number_e3 h
theorem flag_e3 {r : RS} (h : r.e ≠ 3) : r.flag.2.e ≠ 3 := by
  unfold RS.flag; split
  · exact take_e3 h _
  · exact fail_e3 (take_e3 h _) 4 (by decide)
theorem open_e3 (s : List UInt8) : (RS.open s).e ≠ 3 := by
  unfold RS.open; show (if _ then (2 : Int) else 0) ≠ 3; split <;> decide
theorem done_iff {r : RS} (h : r.e ≠ 3) {d : Int} (hd : r.done = d) : (d ≠ 0 ∧ d ≠ 3) ↔ r.e ≠ 0 := by
  subst hd
  unfold RS.done
  split
  · rename_i h1; exact ⟨fun h2 => absurd rfl h2.2, fun h2 => absurd h1.1 h2⟩
  · exact ⟨fun h2 => h2.1, fun h2 => ⟨h2, h⟩⟩
theorem number_e0 {r : RS} (h : r.number.1 ≠ 0) : r.number.2.e = 0 := by
  have ht : ∀ (q : RS) (n : Nat), (q.take n).1 ≠ [] → (q.take n).2.e = 0 := fun q n hq => by
    unfold RS.take at hq ⊢
    split
    · rename_i h1; rw [if_pos h1] at hq; exact absurd rfl hq
    · rename_i h1
      rw [if_neg h1] at hq
      split
      · rename_i h2; rw [if_pos h2] at hq; exact absurd rfl hq
      · rfl
  unfold RS.number at h ⊢
  split
  · rename_i h1; rw [if_pos h1] at h; exact absurd rfl h
  · rename_i h1
    rw [if_neg h1] at h
    split
    · rename_i h2; rw [if_pos h2] at h; exact absurd rfl h
    · rename_i h2
      rw [if_neg h2] at h
      split
      · rename_i h3; rw [if_pos h3] at h; exact absurd rfl h
      · rename_i h3
        rw [if_neg h3] at h
        refine ht _ _ (fun h4 => h ?_)
        show be _ = 0
        rw [h4]; rfl
theorem text_len (r : RS) : r.text.1.length ≤ 65536 := by
  unfold RS.text RS.big
  split
  · rename_i h
    unfold RS.take RS.fail
    rw [if_pos h.1, if_pos (show (2 : Int) ≠ 0 by decide)]; exact Nat.zero_le _
  · rename_i h
    unfold RS.take
    split
    · exact Nat.zero_le _
    · split
      · exact Nat.zero_le _
      · rename_i h1 h2
        rw [List.length_take]
        have : ¬ 65536 < r.number.1 := fun h3 => h ⟨by omega, h3⟩
        omega
theorem sopen_len (s : List UInt8) : (sopen s).1.length ≤ s.length := by
  by_cases h : s.length < 8
  · rw [sopen_short h]; exact Nat.zero_le _
  · obtain ⟨c0, c1, c2, c3, c4, c5, c6, c7, r, rfl⟩ := eight h
    show (if _ then _ else if _ then _ else if _ then _ else _ : List UInt8 × Nat × Int).1.length ≤ _
    split
    · exact Nat.zero_le _
    · split
      · exact Nat.zero_le _
      · split
        · show (r.take _).length ≤ r.length + 8
          rw [List.length_take]; omega
        · exact Nat.zero_le _

/-- A file's reading: what was read, the reader behind it. -/
def rdF (r : RS) : Fl × RS :=
  (⟨(r.number.1 : Nat), (r.number.2.number.1 : Nat), (r.number.2.number.2.number.1 : Nat), r.number.2.number.2.number.2.text.1, r.number.2.number.2.number.2.text.2.text.1⟩, r.number.2.number.2.number.2.text.2.text.2)
def lrl : Nat → RS → List Fl → RS × List Fl
  | 0, r, l => (r, l)
  | k + 1, r, l => if (rdF r).2.e ≠ 0 then ((rdF r).2, l) else lrl k (rdF r).2 (l ++ [(rdF r).1])
def zS : Stt := ⟨0, 0, []⟩
def lread (s : List UInt8) : Stt × Int :=
  if (sopen s).2.2 ≠ 0 then (zS, (sopen s).2.2) else if (sopen s).2.1 ≠ s.length then (zS, 3) else
  let q := RS.open (sopen s).1
  let b := q.number.2.number.2.below 1001
  let R := lrl b.1 b.2 []
  if R.1.done ≠ 0 then (zS, R.1.done) else
  let t : Stt := ⟨(q.number.1 : Nat), (q.number.2.number.1 : Nat), R.2⟩
  if lcheck t ≠ 0 then (zS, lcheck t) else (t, 0)
theorem cle_zS {fr : Fr} : CLe fr (.agg [.i .i64 0, .i .i64 0, .nil]) (eSt zS) := CLe.agg (.cons (CLe.refl _) (.cons (CLe.refl _) (.cons CLe.nilsl .nil)))
theorem rdF_e3 {r : RS} (h : r.e ≠ 3) : (rdF r).2.e ≠ 3 := text_e3 (text_e3 (number_e3 (number_e3 (number_e3 h))))
theorem lread_spec (s : List UInt8) (hs : s.length ≤ 1000000000) : Spec Try.prog 31 [.s s] [] (fun v os => v = .tup [eSt (lread s).1, .i .i64 (lread s).2] ∧ os = []) := by
  refine spec_of TtOk [] Try.func31 rfl Try.ntmps31 (by kernel_rfl) rfl rfl (fun C => ?_) rfl
  have hso := sopen_spec s hs
  have hsl : (sopen s).1.length ≤ 1000000000 := Nat.le_trans (sopen_len s) hs
  have hbr : lread s = if (sopen s).2.2 ≠ 0 then (zS, (sopen s).2.2) else if (sopen s).2.1 ≠ s.length then (zS, 3) else
      if (lrl ((RS.open (sopen s).1).number.2.number.2.below 1001).1 ((RS.open (sopen s).1).number.2.number.2.below 1001).2 []).1.done ≠ 0 then (zS, (lrl ((RS.open (sopen s).1).number.2.number.2.below 1001).1 ((RS.open (sopen s).1).number.2.number.2.below 1001).2 []).1.done) else
      if lcheck ⟨((RS.open (sopen s).1).number.1 : Nat), ((RS.open (sopen s).1).number.2.number.1 : Nat), (lrl ((RS.open (sopen s).1).number.2.number.2.below 1001).1 ((RS.open (sopen s).1).number.2.number.2.below 1001).2 []).2⟩ ≠ 0 then
        (zS, lcheck ⟨((RS.open (sopen s).1).number.1 : Nat), ((RS.open (sopen s).1).number.2.number.1 : Nat), (lrl ((RS.open (sopen s).1).number.2.number.2.below 1001).1 ((RS.open (sopen s).1).number.2.number.2.below 1001).2 []).2⟩) else
        (⟨((RS.open (sopen s).1).number.1 : Nat), ((RS.open (sopen s).1).number.2.number.1 : Nat), (lrl ((RS.open (sopen s).1).number.2.number.2.below 1001).1 ((RS.open (sopen s).1).number.2.number.2.below 1001).2 []).2⟩, 0) := rfl
  generalize lread s = out at hbr ⊢
  generalize sopen s = o at hso hbr hsl
  obtain ⟨t, sz, e⟩ := o
  dsimp only at hso hbr hsl
  by_cases he : e ≠ 0
  · rw [if_pos he] at hbr; subst hbr
    repeat' (first
      | refine Awp.seq ?_
      | refine Awp.block ?_
      | refine Awp.region ?_
      | (refine Ops.nil ?_; show Awp _ _ _ _ _)
      | (refine Ops.nil ?_; show Exists _)
      | (refine Ops.nil ?_; show endK _ _ _ _ _)
      | (refine Awp.skip ?_; show Awp _ _ _ _ _)
      | (refine Awp.skip ?_; show endK _ _ _ _ _)
      | (refine Awp.skip ?_; show Exists _)
      | (refine Awp.exit ?_; show Awp _ _ _ _ _)
      | (refine Awp.exit ?_; show Exists _)
      | (refine Awp.exit ?_; show endK _ _ _ _ _)
      | (refine Awp.ret ?_; show endK _ _ _ _ _)
      | refine o_offT rfl rfl rfl (by first | exact .inl rfl | exact .inr rfl) ?_
      | refine o_offU rfl rfl rfl (by first | exact .inl rfl | exact .inr rfl) ?_
      | refine o_offF rfl rfl rfl (by first | exact .inl rfl | exact .inr rfl) ?_
      | (refine o_add rfl rfl rfl rfl ?_ ?_; omega)
      | refine o_len rfl TtOk rfl rfl rfl (fun _ => ?_)
      | refine o_lenOwn rfl TtOk rfl rfl rfl rfl (fun _ => ?_)
      | (refine o_calm rfl TtOk rfl rfl rfl ?_ (fun _ => ?_); first | exact True.intro | exact ⟨rfl, rfl, rfl, rfl⟩ | exact ⟨rfl, True.intro⟩ | exact ⟨rfl, rfl⟩ | exact ⟨rfl, rfl, rfl⟩ | exact rfl | exact ⟨fun h0 => by cases h0, rfl⟩ | exact (fun h0 => by cases h0) | exact ⟨rfl, by omega⟩ | exact ⟨Nat.succ_ne_zero _, rfl⟩ | omega)
      | refine o_alloc (d := 2) rfl TtOk rfl rfl rfl (fun b2 => ?_)
      | refine o_alloc (d := 8) rfl TtOk rfl rfl rfl (fun b8 => ?_)
      | refine o_alloc (d := 9) rfl TtOk rfl rfl rfl (fun b9 => ?_)
      | refine o_store TtOk rfl rfl rfl rfl rfl rfl rfl ⟨rfl, rfl⟩ rfl rfl rfl rfl rfl ?_
      | (refine o_calm rfl TtOk rfl rfl rfl ?_ (fun _ => ?_); (show List.length _ + List.length _ ≤ 9223372036854775807; (try simp only [List.length_append, List.length_cons, List.length_nil]); omega))
      | refine o_build TtOk rfl rfl rfl rfl rfl rfl (by repeat' (first | exact True.intro | exact rfl | refine ⟨?_, ?_⟩)) ?_
      | refine o_buildArr0 TtOk rfl rfl rfl rfl ?_
      | refine o_buildSlice TtOk rfl rfl rfl rfl rfl rfl rfl rfl rfl rfl rfl (by repeat' (first | exact True.intro | exact rfl | refine ⟨?_, ?_⟩)) (fun _ => ?_)
      | (refine o_append TtOk rfl rfl rfl rfl rfl rfl rfl rfl rfl (by first | exact True.intro | exact rfl) rfl rfl (fun _ => rfl) ?_ ?_ (fun _ => ?_); (simp only [List.length_map, List.length_cons, List.length_nil, List.length_append, List.length_take, List.length_drop]; omega); (simp only [List.length_map, List.length_cons, List.length_nil, List.length_append, List.length_take, List.length_drop]; omega))
      | (refine o_appendStr TtOk rfl rfl rfl rfl rfl rfl rfl rfl rfl (fun _ => rfl) ?_ (fun _ => ?_); (simp only [List.length_map, List.length_cons, List.length_nil, List.length_append, List.length_take, List.length_drop]; omega))
      | (fail_if_success (refine o_isLit rfl (by first | exact .inl rfl | exact .inr rfl) ?_)); (refine o_splitP rfl rfl (fun hc => ?_) (fun hc => ?_) <;> try (exfalso; omega))
      | (fail_if_success (refine o_isLit rfl (by first | exact .inl rfl | exact .inr rfl) ?_)); (refine o_splitI rfl rfl (fun hc => ?_) (fun hc => ?_) <;> try (exfalso; omega))
      | (fail_if_success (refine o_isLit rfl (by first | exact .inl rfl | exact .inr rfl) ?_)); (refine o_splitN rfl rfl (fun hc => ?_) (fun hc => ?_) <;> try (exfalso; omega))
      | (fail_if_success (refine o_isLit rfl (by first | exact .inl rfl | exact .inr rfl) ?_)); (refine o_split rfl rfl (fun hc => ?_) (fun hc => ?_))
      | refine a_condT rfl ?_
      | refine a_condF rfl ?_
      | (refine a_condP rfl (fun hc => ?_) (fun hc => ?_)) <;> (try (exfalso; omega))
      | (refine a_condI rfl (fun hc => ?_) (fun hc => ?_)) <;> (try (exfalso; omega))
      | (refine a_condN rfl (fun hc => ?_) (fun hc => ?_)) <;> (try (exfalso; omega))
      | (refine Awp.cond rfl (fun hc => ?_) (fun hc => ?_))
      | (refine o_call0 rfl (hso) ⟨SLe.of_eq rfl, True.intro⟩ rfl ?_; rintro _ _ ⟨rfl, rfl⟩; refine ⟨rfl, ?_⟩))
    refine end_all [] [] (.tup [eSt zS, .i .i64 e]) rfl ?_ ?_ (rle_tup2 cle_zS (CLe.of_eq rfl) rfl rfl) .nil ⟨rfl, rfl⟩ _ (.inl rfl)
    all_goals first | exact ⟨trivial, trivial⟩ | trivial | exact ⟨trivial, trivial, trivial⟩ | (repeat' (first | exact True.intro | exact rfl | refine ⟨?_, ?_⟩))
  rw [if_neg he] at hbr
  by_cases hsz : sz ≠ s.length
  · rw [if_pos hsz] at hbr; subst hbr
    repeat' (first
      | refine Awp.seq ?_
      | refine Awp.block ?_
      | refine Awp.region ?_
      | (refine Ops.nil ?_; show Awp _ _ _ _ _)
      | (refine Ops.nil ?_; show Exists _)
      | (refine Ops.nil ?_; show endK _ _ _ _ _)
      | (refine Awp.skip ?_; show Awp _ _ _ _ _)
      | (refine Awp.skip ?_; show endK _ _ _ _ _)
      | (refine Awp.skip ?_; show Exists _)
      | (refine Awp.exit ?_; show Awp _ _ _ _ _)
      | (refine Awp.exit ?_; show Exists _)
      | (refine Awp.exit ?_; show endK _ _ _ _ _)
      | (refine Awp.ret ?_; show endK _ _ _ _ _)
      | refine o_offT rfl rfl rfl (by first | exact .inl rfl | exact .inr rfl) ?_
      | refine o_offU rfl rfl rfl (by first | exact .inl rfl | exact .inr rfl) ?_
      | refine o_offF rfl rfl rfl (by first | exact .inl rfl | exact .inr rfl) ?_
      | (refine o_add rfl rfl rfl rfl ?_ ?_; omega)
      | refine o_len rfl TtOk rfl rfl rfl (fun _ => ?_)
      | refine o_lenOwn rfl TtOk rfl rfl rfl rfl (fun _ => ?_)
      | (refine o_calm rfl TtOk rfl rfl rfl ?_ (fun _ => ?_); first | exact True.intro | exact ⟨rfl, rfl, rfl, rfl⟩ | exact ⟨rfl, True.intro⟩ | exact ⟨rfl, rfl⟩ | exact ⟨rfl, rfl, rfl⟩ | exact rfl | exact ⟨fun h0 => by cases h0, rfl⟩ | exact (fun h0 => by cases h0) | exact ⟨rfl, by omega⟩ | exact ⟨Nat.succ_ne_zero _, rfl⟩ | omega)
      | refine o_alloc (d := 2) rfl TtOk rfl rfl rfl (fun b2 => ?_)
      | refine o_alloc (d := 8) rfl TtOk rfl rfl rfl (fun b8 => ?_)
      | refine o_alloc (d := 9) rfl TtOk rfl rfl rfl (fun b9 => ?_)
      | refine o_store TtOk rfl rfl rfl rfl rfl rfl rfl ⟨rfl, rfl⟩ rfl rfl rfl rfl rfl ?_
      | (refine o_calm rfl TtOk rfl rfl rfl ?_ (fun _ => ?_); (show List.length _ + List.length _ ≤ 9223372036854775807; (try simp only [List.length_append, List.length_cons, List.length_nil]); omega))
      | refine o_build TtOk rfl rfl rfl rfl rfl rfl (by repeat' (first | exact True.intro | exact rfl | refine ⟨?_, ?_⟩)) ?_
      | refine o_buildArr0 TtOk rfl rfl rfl rfl ?_
      | refine o_buildSlice TtOk rfl rfl rfl rfl rfl rfl rfl rfl rfl rfl rfl (by repeat' (first | exact True.intro | exact rfl | refine ⟨?_, ?_⟩)) (fun _ => ?_)
      | (refine o_append TtOk rfl rfl rfl rfl rfl rfl rfl rfl rfl (by first | exact True.intro | exact rfl) rfl rfl (fun _ => rfl) ?_ ?_ (fun _ => ?_); (simp only [List.length_map, List.length_cons, List.length_nil, List.length_append, List.length_take, List.length_drop]; omega); (simp only [List.length_map, List.length_cons, List.length_nil, List.length_append, List.length_take, List.length_drop]; omega))
      | (refine o_appendStr TtOk rfl rfl rfl rfl rfl rfl rfl rfl rfl (fun _ => rfl) ?_ (fun _ => ?_); (simp only [List.length_map, List.length_cons, List.length_nil, List.length_append, List.length_take, List.length_drop]; omega))
      | (fail_if_success (refine o_isLit rfl (by first | exact .inl rfl | exact .inr rfl) ?_)); (refine o_splitP rfl rfl (fun hc => ?_) (fun hc => ?_) <;> try (exfalso; omega))
      | (fail_if_success (refine o_isLit rfl (by first | exact .inl rfl | exact .inr rfl) ?_)); (refine o_splitI rfl rfl (fun hc => ?_) (fun hc => ?_) <;> try (exfalso; omega))
      | (fail_if_success (refine o_isLit rfl (by first | exact .inl rfl | exact .inr rfl) ?_)); (refine o_splitN rfl rfl (fun hc => ?_) (fun hc => ?_) <;> try (exfalso; omega))
      | (fail_if_success (refine o_isLit rfl (by first | exact .inl rfl | exact .inr rfl) ?_)); (refine o_split rfl rfl (fun hc => ?_) (fun hc => ?_))
      | refine a_condT rfl ?_
      | refine a_condF rfl ?_
      | (refine a_condP rfl (fun hc => ?_) (fun hc => ?_)) <;> (try (exfalso; omega))
      | (refine a_condI rfl (fun hc => ?_) (fun hc => ?_)) <;> (try (exfalso; omega))
      | (refine a_condN rfl (fun hc => ?_) (fun hc => ?_)) <;> (try (exfalso; omega))
      | (refine Awp.cond rfl (fun hc => ?_) (fun hc => ?_))
      | (refine o_call0 rfl (hso) ⟨SLe.of_eq rfl, True.intro⟩ rfl ?_; rintro _ _ ⟨rfl, rfl⟩; refine ⟨rfl, ?_⟩))
    refine end_all [] [] (.tup [eSt zS, .i .i64 3]) rfl ?_ ?_ (rle_tup2 cle_zS (CLe.of_eq rfl) rfl rfl) .nil ⟨rfl, rfl⟩ _ (.inl rfl)
    all_goals first | exact ⟨trivial, trivial⟩ | trivial | exact ⟨trivial, trivial, trivial⟩ | (repeat' (first | exact True.intro | exact rfl | refine ⟨?_, ?_⟩))
  rw [if_neg hsz] at hbr
  have hop := ropen_spec t
  have hok0 := RS.ok_open (s := t) (by omega)
  have he0 := open_e3 t
  generalize RS.open t = q at hop hok0 he0 hbr
  have hN1 := fun b => rnumber_spec b q hok0
  have hok1 := RS.ok_number hok0
  have he1 := number_e3 he0
  generalize q.number.1 = nx at hN1 hbr
  generalize q.number.2 = q1 at hN1 hok1 he1 hbr
  have hN2 := fun b => rnumber_spec b q1 hok1
  have hok2 := RS.ok_number hok1
  have he2 := number_e3 he1
  generalize q1.number.1 = lg at hN2 hbr
  generalize q1.number.2 = q2 at hN2 hok2 he2 hbr
  have hB := fun b => rbelow_spec b 1001 q2 hok2
  have hbw : (q2.below 1001).1 ≤ 1000 := by
    unfold RS.below; split
    · exact Nat.zero_le _
    · rename_i h; have h : ¬ (1001 : Int) ≤ (q2.number.1 : Int) := h; omega
  have hokb : (q2.below 1001).2.ok := by
    unfold RS.below; split
    · exact RS.ok_fail (RS.ok_number hok2) _
    · exact RS.ok_number hok2
  have heb : (q2.below 1001).2.e ≠ 3 := by
    unfold RS.below; split
    · exact fail_e3 (number_e3 he2) 2 (by decide)
    · exact number_e3 he2
  generalize (q2.below 1001).1 = c at hbw hbr hB
  generalize (q2.below 1001).2 = r0 at hokb heb hbr hB
  obtain ⟨R, hR⟩ : ∃ R, lrl c r0 [] = R := ⟨_, rfl⟩
  rw [hR] at hbr
  repeat' (first
    | refine Awp.seq ?_
    | refine Awp.block ?_
    | refine Awp.region ?_
    | (refine Ops.nil ?_; show Awp _ _ _ _ _)
    | (refine Ops.nil ?_; show Exists _)
    | (refine Ops.nil ?_; show endK _ _ _ _ _)
    | (refine Awp.skip ?_; show Awp _ _ _ _ _)
    | (refine Awp.skip ?_; show endK _ _ _ _ _)
    | (refine Awp.skip ?_; show Exists _)
    | (refine Awp.exit ?_; show Awp _ _ _ _ _)
    | (refine Awp.exit ?_; show Exists _)
    | (refine Awp.exit ?_; show endK _ _ _ _ _)
    | (refine Awp.ret ?_; show endK _ _ _ _ _)
    | refine o_offT rfl rfl rfl (by first | exact .inl rfl | exact .inr rfl) ?_
    | refine o_offU rfl rfl rfl (by first | exact .inl rfl | exact .inr rfl) ?_
    | refine o_offF rfl rfl rfl (by first | exact .inl rfl | exact .inr rfl) ?_
    | (refine o_add rfl rfl rfl rfl ?_ ?_; omega)
    | refine o_len rfl TtOk rfl rfl rfl (fun _ => ?_)
    | refine o_lenOwn rfl TtOk rfl rfl rfl rfl (fun _ => ?_)
    | (refine o_calm rfl TtOk rfl rfl rfl ?_ (fun _ => ?_); first | exact True.intro | exact ⟨rfl, rfl, rfl, rfl⟩ | exact ⟨rfl, True.intro⟩ | exact ⟨rfl, rfl⟩ | exact ⟨rfl, rfl, rfl⟩ | exact rfl | exact ⟨fun h0 => by cases h0, rfl⟩ | exact (fun h0 => by cases h0) | exact ⟨rfl, by omega⟩ | exact ⟨Nat.succ_ne_zero _, rfl⟩ | omega)
    | refine o_alloc (d := 2) rfl TtOk rfl rfl rfl (fun b2 => ?_)
    | refine o_alloc (d := 8) rfl TtOk rfl rfl rfl (fun b8 => ?_)
    | refine o_alloc (d := 9) rfl TtOk rfl rfl rfl (fun b9 => ?_)
    | refine o_store TtOk rfl rfl rfl rfl rfl rfl rfl ⟨rfl, rfl⟩ rfl rfl rfl rfl rfl ?_
    | (refine o_calm rfl TtOk rfl rfl rfl ?_ (fun _ => ?_); (show List.length _ + List.length _ ≤ 9223372036854775807; (try simp only [List.length_append, List.length_cons, List.length_nil]); omega))
    | refine o_build TtOk rfl rfl rfl rfl rfl rfl (by repeat' (first | exact True.intro | exact rfl | refine ⟨?_, ?_⟩)) ?_
    | refine o_buildArr0 TtOk rfl rfl rfl rfl ?_
    | refine o_buildSlice TtOk rfl rfl rfl rfl rfl rfl rfl rfl rfl rfl rfl (by repeat' (first | exact True.intro | exact rfl | refine ⟨?_, ?_⟩)) (fun _ => ?_)
    | (refine o_append TtOk rfl rfl rfl rfl rfl rfl rfl rfl rfl (by first | exact True.intro | exact rfl) rfl rfl (fun _ => rfl) ?_ ?_ (fun _ => ?_); (simp only [List.length_map, List.length_cons, List.length_nil, List.length_append, List.length_take, List.length_drop]; omega); (simp only [List.length_map, List.length_cons, List.length_nil, List.length_append, List.length_take, List.length_drop]; omega))
    | (refine o_appendStr TtOk rfl rfl rfl rfl rfl rfl rfl rfl rfl (fun _ => rfl) ?_ (fun _ => ?_); (simp only [List.length_map, List.length_cons, List.length_nil, List.length_append, List.length_take, List.length_drop]; omega))
    | (fail_if_success (refine o_isLit rfl (by first | exact .inl rfl | exact .inr rfl) ?_)); (refine o_splitP rfl rfl (fun hc => ?_) (fun hc => ?_) <;> try (exfalso; omega))
    | (fail_if_success (refine o_isLit rfl (by first | exact .inl rfl | exact .inr rfl) ?_)); (refine o_splitI rfl rfl (fun hc => ?_) (fun hc => ?_) <;> try (exfalso; omega))
    | (fail_if_success (refine o_isLit rfl (by first | exact .inl rfl | exact .inr rfl) ?_)); (refine o_splitN rfl rfl (fun hc => ?_) (fun hc => ?_) <;> try (exfalso; omega))
    | (fail_if_success (refine o_isLit rfl (by first | exact .inl rfl | exact .inr rfl) ?_)); (refine o_split rfl rfl (fun hc => ?_) (fun hc => ?_))
    | refine a_condT rfl ?_
    | refine a_condF rfl ?_
    | (refine a_condP rfl (fun hc => ?_) (fun hc => ?_)) <;> (try (exfalso; omega))
    | (refine a_condI rfl (fun hc => ?_) (fun hc => ?_)) <;> (try (exfalso; omega))
    | (refine a_condN rfl (fun hc => ?_) (fun hc => ?_)) <;> (try (exfalso; omega))
    | (refine Awp.cond rfl (fun hc => ?_) (fun hc => ?_))
    | (refine o_callN rfl hop ⟨SLe.of_eq rfl, True.intro⟩ rfl (fun bN => ?_))
    | (refine o_call0 rfl (hso) ⟨SLe.of_eq rfl, True.intro⟩ rfl ?_; rintro _ _ ⟨rfl, rfl⟩; refine ⟨rfl, ?_⟩)
    | (refine o_callP rfl rfl rfl rfl (hN1 _) ⟨sle_ptr, True.intro⟩ (HOLe.refl _) rfl rfl ?_; rintro _ _ ⟨rfl, rfl⟩; refine ⟨_, rfl, _, rfl, ?_⟩)
    | (refine o_callP rfl rfl rfl rfl (hN2 _) ⟨sle_ptr, True.intro⟩ (HOLe.refl _) rfl rfl ?_; rintro _ _ ⟨rfl, rfl⟩; refine ⟨_, rfl, _, rfl, ?_⟩)
    | (refine o_callP rfl rfl rfl rfl (hB _) ⟨sle_ptr, SLe.of_eq rfl, True.intro⟩ (HOLe.refl _) rfl rfl ?_; rintro _ _ ⟨rfl, rfl⟩; refine ⟨_, rfl, _, rfl, ?_⟩))
  refine Awp.loop (fun q : Nat × RS × List Fl × Value => ⟨80, [(37, .i .i64 q.1), (36, .i .i64 c), (8, .ptr 8 b8 [] 0), (7, .ptr 29 bN [] 0), (2, .ptr 2 b2 [] 0)], [(8, .var b8 (.agg [.i .i64 nx, .i .i64 lg, .own 64 q.2.2.2])), (64, .row q.2.2.2 35 5 (q.2.2.1.map eF)), (29, .var bN (rdA q.2.1)), (2, .var b2 (.agg [.i .i64 0, .i .i64 0, .nil]))]⟩) (fun q => q.1 ≤ c ∧ lrl (c - q.1) q.2.1 q.2.2.1 = R ∧ q.2.1.ok ∧ q.2.1.e ≠ 3 ∧ q.2.2.1.length ≤ q.1) (fun q => c - q.1) [] (0, r0, [], .slice none 0 0) ⟨Nat.zero_le _, hR, hokb, heb, Nat.le_refl _⟩ ?_ ?_
  · exact ⟨rfl, ⟨sle_i rfl, sle_i rfl, sle_ptr, sle_ptr, sle_ptr, True.intro⟩, HLe.cons 8 rfl (HOLe.var (CLe.agg (.cons (CLe.refl _) (.cons (CLe.refl _) (.cons CLe.nilown .nil))))) (.none (HLe.cons 29 rfl (HOLe.refl _) (HLe.cons 2 rfl (HOLe.refl _) .nil)))⟩
  clear hN1 hN2 hB hop hso
  rintro ⟨i, r, l, v⟩ ⟨hic, hbl, hrok, hre, hln⟩
  dsimp only at hic hbl hrok hre hln ⊢
  by_cases hlt : i < c
  · have hst : lrl (c - i) r l = if r.number.2.number.2.number.2.text.2.text.2.e ≠ 0 then (r.number.2.number.2.number.2.text.2.text.2, l)
        else lrl (c - (i + 1)) r.number.2.number.2.number.2.text.2.text.2 (l ++ [⟨(r.number.1 : Nat), (r.number.2.number.1 : Nat), (r.number.2.number.2.number.1 : Nat), r.number.2.number.2.number.2.text.1, r.number.2.number.2.number.2.text.2.text.1⟩]) := by
      rw [show c - i = (c - (i + 1)) + 1 by omega]; rfl
    rw [hbl] at hst
    have hA := rnumber_spec bN r hrok
    have ok1 := RS.ok_number hrok
    have e1 := number_e3 hre
    generalize r.number.1 = a1 at hA hst
    generalize r.number.2 = r1 at hA ok1 e1 hst
    have hB := rnumber_spec bN r1 ok1
    have ok2 := RS.ok_number ok1
    have e2 := number_e3 e1
    generalize r1.number.1 = a2 at hB hst
    generalize r1.number.2 = r2 at hB ok2 e2 hst
    have hC := rnumber_spec bN r2 ok2
    have ok3 := RS.ok_number ok2
    have e3 := number_e3 e2
    generalize r2.number.1 = a3 at hC hst
    generalize r2.number.2 = r3 at hC ok3 e3 hst
    have hD := rtext_spec bN r3 ok3
    have ok4 := RS.ok_text ok3
    have e4 := text_e3 e3
    generalize r3.text.1 = t1 at hD hst
    generalize r3.text.2 = r4 at hD ok4 e4 hst
    have hE := rtext_spec bN r4 ok4
    have ok5 := RS.ok_text ok4
    have e5 := text_e3 e4
    generalize r4.text.1 = t2 at hE hst
    generalize r4.text.2 = r5 at hE ok5 e5 hst
    have hF := rdone_spec bN r5
    generalize hd : r5.done = d at hF
    have hdi := done_iff e5 hd
    by_cases hr5 : r5.e ≠ 0
    · have hdd := hdi.2 hr5
      rw [if_pos hr5] at hst
      subst hst
      have hbr : out = if r5.done ≠ 0 then (zS, r5.done) else if lcheck { next := nx, log := lg, fs := l } ≠ 0 then (zS, lcheck { next := nx, log := lg, fs := l }) else ({ next := nx, log := lg, fs := l }, 0) := hbr
      rw [hd, if_pos hdd.1] at hbr
      subst hbr
      obtain ⟨hd1, hd2⟩ := hdd
      repeat' (first
        | refine Awp.seq ?_
        | refine Awp.block ?_
        | refine Awp.region ?_
        | (refine Ops.nil ?_; show Awp _ _ _ _ _)
        | (refine Ops.nil ?_; show Exists _)
        | (refine Ops.nil ?_; show endK _ _ _ _ _)
        | (refine Awp.skip ?_; show Awp _ _ _ _ _)
        | (refine Awp.skip ?_; show endK _ _ _ _ _)
        | (refine Awp.skip ?_; show Exists _)
        | (refine Awp.exit ?_; show Awp _ _ _ _ _)
        | (refine Awp.exit ?_; show Exists _)
        | (refine Awp.exit ?_; show endK _ _ _ _ _)
        | (refine Awp.ret ?_; show endK _ _ _ _ _)
        | refine o_offT rfl rfl rfl (by first | exact .inl rfl | exact .inr rfl) ?_
        | refine o_offU rfl rfl rfl (by first | exact .inl rfl | exact .inr rfl) ?_
        | refine o_offF rfl rfl rfl (by first | exact .inl rfl | exact .inr rfl) ?_
        | (refine o_add rfl rfl rfl rfl ?_ ?_; omega)
        | refine o_len rfl TtOk rfl rfl rfl (fun _ => ?_)
        | refine o_lenOwn rfl TtOk rfl rfl rfl rfl (fun _ => ?_)
        | (refine o_calm rfl TtOk rfl rfl rfl ?_ (fun _ => ?_); first | exact True.intro | exact ⟨rfl, rfl, rfl, rfl⟩ | exact ⟨rfl, True.intro⟩ | exact ⟨rfl, rfl⟩ | exact ⟨rfl, rfl, rfl⟩ | exact rfl | exact ⟨fun h0 => by cases h0, rfl⟩ | exact (fun h0 => by cases h0) | exact ⟨rfl, by omega⟩ | exact ⟨Nat.succ_ne_zero _, rfl⟩ | omega)
        | refine o_alloc (d := 2) rfl TtOk rfl rfl rfl (fun b2 => ?_)
        | refine o_alloc (d := 8) rfl TtOk rfl rfl rfl (fun b8 => ?_)
        | refine o_alloc (d := 9) rfl TtOk rfl rfl rfl (fun b9 => ?_)
        | refine o_store TtOk rfl rfl rfl rfl rfl rfl rfl ⟨rfl, rfl⟩ rfl rfl rfl rfl rfl ?_
        | (refine o_calm rfl TtOk rfl rfl rfl ?_ (fun _ => ?_); (show List.length _ + List.length _ ≤ 9223372036854775807; (try simp only [List.length_append, List.length_cons, List.length_nil]); omega))
        | refine o_build TtOk rfl rfl rfl rfl rfl rfl (by repeat' (first | exact True.intro | exact rfl | refine ⟨?_, ?_⟩)) ?_
        | refine o_buildArr0 TtOk rfl rfl rfl rfl ?_
        | refine o_buildSlice TtOk rfl rfl rfl rfl rfl rfl rfl rfl rfl rfl rfl (by repeat' (first | exact True.intro | exact rfl | refine ⟨?_, ?_⟩)) (fun _ => ?_)
        | (refine o_append TtOk rfl rfl rfl rfl rfl rfl rfl rfl rfl (by first | exact True.intro | exact rfl) rfl rfl (fun _ => rfl) ?_ ?_ (fun _ => ?_); (simp only [List.length_map, List.length_cons, List.length_nil, List.length_append, List.length_take, List.length_drop]; omega); (simp only [List.length_map, List.length_cons, List.length_nil, List.length_append, List.length_take, List.length_drop]; omega))
        | (refine o_appendStr TtOk rfl rfl rfl rfl rfl rfl rfl rfl rfl (fun _ => rfl) ?_ (fun _ => ?_); (simp only [List.length_map, List.length_cons, List.length_nil, List.length_append, List.length_take, List.length_drop]; omega))
        | (fail_if_success (refine o_isLit rfl (by first | exact .inl rfl | exact .inr rfl) ?_)); (refine o_splitP rfl rfl (fun hc => ?_) (fun hc => ?_) <;> try (exfalso; omega))
        | (fail_if_success (refine o_isLit rfl (by first | exact .inl rfl | exact .inr rfl) ?_)); (refine o_splitI rfl rfl (fun hc => ?_) (fun hc => ?_) <;> try (exfalso; omega))
        | (fail_if_success (refine o_isLit rfl (by first | exact .inl rfl | exact .inr rfl) ?_)); (refine o_splitN rfl rfl (fun hc => ?_) (fun hc => ?_) <;> try (exfalso; omega))
        | (fail_if_success (refine o_isLit rfl (by first | exact .inl rfl | exact .inr rfl) ?_)); (refine o_split rfl rfl (fun hc => ?_) (fun hc => ?_))
        | refine a_condT rfl ?_
        | refine a_condF rfl ?_
        | (refine a_condP rfl (fun hc => ?_) (fun hc => ?_)) <;> (try (exfalso; omega))
        | (refine a_condI rfl (fun hc => ?_) (fun hc => ?_)) <;> (try (exfalso; omega))
        | (refine a_condN rfl (fun hc => ?_) (fun hc => ?_)) <;> (try (exfalso; omega))
        | (refine Awp.cond rfl (fun hc => ?_) (fun hc => ?_))
        | (refine o_callP rfl rfl rfl rfl (hA) ⟨sle_ptr, True.intro⟩ (HOLe.refl _) rfl rfl ?_; rintro _ _ ⟨rfl, rfl⟩; refine ⟨_, rfl, _, rfl, ?_⟩)
        | (refine o_callP rfl rfl rfl rfl (hB) ⟨sle_ptr, True.intro⟩ (HOLe.refl _) rfl rfl ?_; rintro _ _ ⟨rfl, rfl⟩; refine ⟨_, rfl, _, rfl, ?_⟩)
        | (refine o_callP rfl rfl rfl rfl (hC) ⟨sle_ptr, True.intro⟩ (HOLe.refl _) rfl rfl ?_; rintro _ _ ⟨rfl, rfl⟩; refine ⟨_, rfl, _, rfl, ?_⟩)
        | (refine o_callP rfl rfl rfl rfl (hD) ⟨sle_ptr, True.intro⟩ (HOLe.refl _) rfl rfl ?_; rintro _ _ ⟨rfl, rfl⟩; refine ⟨_, rfl, _, rfl, ?_⟩)
        | (refine o_callP rfl rfl rfl rfl (hE) ⟨sle_ptr, True.intro⟩ (HOLe.refl _) rfl rfl ?_; rintro _ _ ⟨rfl, rfl⟩; refine ⟨_, rfl, _, rfl, ?_⟩)
        | (refine o_callP rfl rfl rfl rfl (hF) ⟨sle_ptr, True.intro⟩ (HOLe.refl _) rfl rfl ?_; rintro _ _ ⟨rfl, rfl⟩; refine ⟨_, rfl, _, rfl, ?_⟩))
      refine end_all [] [] (.tup [eSt zS, .i .i64 d]) rfl ?_ ?_ (rle_tup2 cle_zS (CLe.of_eq rfl) rfl rfl) .nil ⟨rfl, rfl⟩ _ (.inl rfl)
      all_goals first | exact ⟨trivial, trivial⟩ | trivial | exact ⟨trivial, trivial, trivial⟩ | (repeat' (first | exact True.intro | exact rfl | refine ⟨?_, ?_⟩))
    · have hdd : ¬ (d ≠ 0 ∧ d ≠ 3) := fun h => hr5 (hdi.1 h)
      rw [if_neg hr5] at hst
      repeat' (first
        | refine Awp.seq ?_
        | refine Awp.block ?_
        | refine Awp.region ?_
        | (refine Ops.nil ?_; show Awp _ _ _ _ _)
        | (refine Ops.nil ?_; show Exists _)
        | (refine Ops.nil ?_; show endK _ _ _ _ _)
        | (refine Awp.skip ?_; show Awp _ _ _ _ _)
        | (refine Awp.skip ?_; show endK _ _ _ _ _)
        | (refine Awp.skip ?_; show Exists _)
        | (refine Awp.exit ?_; show Awp _ _ _ _ _)
        | (refine Awp.exit ?_; show Exists _)
        | (refine Awp.exit ?_; show endK _ _ _ _ _)
        | (refine Awp.ret ?_; show endK _ _ _ _ _)
        | refine o_offT rfl rfl rfl (by first | exact .inl rfl | exact .inr rfl) ?_
        | refine o_offU rfl rfl rfl (by first | exact .inl rfl | exact .inr rfl) ?_
        | refine o_offF rfl rfl rfl (by first | exact .inl rfl | exact .inr rfl) ?_
        | (refine o_add rfl rfl rfl rfl ?_ ?_; omega)
        | refine o_len rfl TtOk rfl rfl rfl (fun _ => ?_)
        | refine o_lenOwn rfl TtOk rfl rfl rfl rfl (fun _ => ?_)
        | (refine o_calm rfl TtOk rfl rfl rfl ?_ (fun _ => ?_); first | exact True.intro | exact ⟨rfl, rfl, rfl, rfl⟩ | exact ⟨rfl, True.intro⟩ | exact ⟨rfl, rfl⟩ | exact ⟨rfl, rfl, rfl⟩ | exact rfl | exact ⟨fun h0 => by cases h0, rfl⟩ | exact (fun h0 => by cases h0) | exact ⟨rfl, by omega⟩ | exact ⟨Nat.succ_ne_zero _, rfl⟩ | omega)
        | refine o_alloc (d := 2) rfl TtOk rfl rfl rfl (fun b2 => ?_)
        | refine o_alloc (d := 8) rfl TtOk rfl rfl rfl (fun b8 => ?_)
        | refine o_alloc (d := 9) rfl TtOk rfl rfl rfl (fun b9 => ?_)
        | refine o_store TtOk rfl rfl rfl rfl rfl rfl rfl ⟨rfl, rfl⟩ rfl rfl rfl rfl rfl ?_
        | (refine o_calm rfl TtOk rfl rfl rfl ?_ (fun _ => ?_); (show List.length _ + List.length _ ≤ 9223372036854775807; (try simp only [List.length_append, List.length_cons, List.length_nil]); omega))
        | refine o_build TtOk rfl rfl rfl rfl rfl rfl (by repeat' (first | exact True.intro | exact rfl | refine ⟨?_, ?_⟩)) ?_
        | refine o_buildArr0 TtOk rfl rfl rfl rfl ?_
        | refine o_buildSlice TtOk rfl rfl rfl rfl rfl rfl rfl rfl rfl rfl rfl (by repeat' (first | exact True.intro | exact rfl | refine ⟨?_, ?_⟩)) (fun _ => ?_)
        | (refine o_append TtOk rfl rfl rfl rfl rfl rfl rfl rfl rfl (by first | exact True.intro | exact rfl) rfl rfl (fun _ => rfl) ?_ ?_ (fun _ => ?_); (simp only [List.length_map, List.length_cons, List.length_nil, List.length_append, List.length_take, List.length_drop]; omega); (simp only [List.length_map, List.length_cons, List.length_nil, List.length_append, List.length_take, List.length_drop]; omega))
        | (refine o_appendStr TtOk rfl rfl rfl rfl rfl rfl rfl rfl rfl (fun _ => rfl) ?_ (fun _ => ?_); (simp only [List.length_map, List.length_cons, List.length_nil, List.length_append, List.length_take, List.length_drop]; omega))
        | (fail_if_success (refine o_isLit rfl (by first | exact .inl rfl | exact .inr rfl) ?_)); (refine o_splitP rfl rfl (fun hc => ?_) (fun hc => ?_) <;> try (exfalso; omega))
        | (fail_if_success (refine o_isLit rfl (by first | exact .inl rfl | exact .inr rfl) ?_)); (refine o_splitI rfl rfl (fun hc => ?_) (fun hc => ?_) <;> try (exfalso; omega))
        | (fail_if_success (refine o_isLit rfl (by first | exact .inl rfl | exact .inr rfl) ?_)); (refine o_splitN rfl rfl (fun hc => ?_) (fun hc => ?_) <;> try (exfalso; omega))
        | (fail_if_success (refine o_isLit rfl (by first | exact .inl rfl | exact .inr rfl) ?_)); (refine o_split rfl rfl (fun hc => ?_) (fun hc => ?_))
        | refine a_condT rfl ?_
        | refine a_condF rfl ?_
        | (refine a_condP rfl (fun hc => ?_) (fun hc => ?_)) <;> (try (exfalso; omega))
        | (refine a_condI rfl (fun hc => ?_) (fun hc => ?_)) <;> (try (exfalso; omega))
        | (refine a_condN rfl (fun hc => ?_) (fun hc => ?_)) <;> (try (exfalso; omega))
        | (refine Awp.cond rfl (fun hc => ?_) (fun hc => ?_))
        | (refine o_callP rfl rfl rfl rfl (hA) ⟨sle_ptr, True.intro⟩ (HOLe.refl _) rfl rfl ?_; rintro _ _ ⟨rfl, rfl⟩; refine ⟨_, rfl, _, rfl, ?_⟩)
        | (refine o_callP rfl rfl rfl rfl (hB) ⟨sle_ptr, True.intro⟩ (HOLe.refl _) rfl rfl ?_; rintro _ _ ⟨rfl, rfl⟩; refine ⟨_, rfl, _, rfl, ?_⟩)
        | (refine o_callP rfl rfl rfl rfl (hC) ⟨sle_ptr, True.intro⟩ (HOLe.refl _) rfl rfl ?_; rintro _ _ ⟨rfl, rfl⟩; refine ⟨_, rfl, _, rfl, ?_⟩)
        | (refine o_callP rfl rfl rfl rfl (hD) ⟨sle_ptr, True.intro⟩ (HOLe.refl _) rfl rfl ?_; rintro _ _ ⟨rfl, rfl⟩; refine ⟨_, rfl, _, rfl, ?_⟩)
        | (refine o_callP rfl rfl rfl rfl (hE) ⟨sle_ptr, True.intro⟩ (HOLe.refl _) rfl rfl ?_; rintro _ _ ⟨rfl, rfl⟩; refine ⟨_, rfl, _, rfl, ?_⟩)
        | (refine o_callP rfl rfl rfl rfl (hF) ⟨sle_ptr, True.intro⟩ (HOLe.refl _) rfl rfl ?_; rintro _ _ ⟨rfl, rfl⟩; refine ⟨_, rfl, _, rfl, ?_⟩))
      all_goals refine ⟨(i + 1, r5, l ++ [⟨a1, a2, a3, t1, t2⟩], _), [], ⟨hlt, hst.symm, ok5, e5, by rw [List.length_append]; exact Nat.succ_le_succ hln⟩, by show c - (i + 1) < c - i; omega, rfl, ⟨sle_i rfl, sle_i rfl, sle_ptr, sle_ptr, sle_ptr, True.intro⟩, HLe.cons 8 rfl (HOLe.refl _) (HLe.cons 64 rfl (HOLe.row ?_) (HLe.cons 29 rfl (HOLe.refl _) (HLe.cons 2 rfl (HOLe.refl _) .nil)))⟩
      all_goals (rw [List.map_append]; rfl)
  have hil : i = c := by omega
  subst hil
  have hR2 : (r, l) = R := by rw [← hbl, Nat.sub_self]; rfl
  subst hR2
  refine Awp.weaken [64] (S' := ⟨80, [(37, .i .i64 i), (36, .i .i64 i), (8, .ptr 8 b8 [] 0), (7, .ptr 29 bN [] 0), (2, .ptr 2 b2 [] 0)], [(8, .var b8 (eSt ⟨nx, lg, l⟩)), (29, .var bN (rdA r)), (2, .var b2 (.agg [.i .i64 0, .i .i64 0, .nil]))]⟩) ⟨rfl, ⟨sle_i rfl, sle_i rfl, sle_ptr, sle_ptr, sle_ptr, True.intro⟩, HLe.cons 8 rfl (HOLe.var (CLe.agg (.cons (CLe.refl _) (.cons (CLe.refl _) (.cons (CLe.fz (.head _)) .nil))))) (HLe.cons 29 rfl (HOLe.refl _) (HLe.cons 2 rfl (HOLe.refl _) .nil))⟩ ?_
  have hF := rdone_spec bN r
  dsimp only at hbr
  generalize r.done = d at hF hbr
  have hck := lcheck_spec ⟨nx, lg, l⟩
  generalize lcheck ⟨nx, lg, l⟩ = ck at hck hbr
  by_cases hd : d ≠ 0
  · rw [if_pos hd] at hbr
    subst hbr
    repeat' (first
      | refine Awp.seq ?_
      | refine Awp.block ?_
      | refine Awp.region ?_
      | (refine Ops.nil ?_; show Awp _ _ _ _ _)
      | (refine Ops.nil ?_; show Exists _)
      | (refine Ops.nil ?_; show endK _ _ _ _ _)
      | (refine Awp.skip ?_; show Awp _ _ _ _ _)
      | (refine Awp.skip ?_; show endK _ _ _ _ _)
      | (refine Awp.skip ?_; show Exists _)
      | (refine Awp.exit ?_; show Awp _ _ _ _ _)
      | (refine Awp.exit ?_; show Exists _)
      | (refine Awp.exit ?_; show endK _ _ _ _ _)
      | (refine Awp.ret ?_; show endK _ _ _ _ _)
      | refine o_offT rfl rfl rfl (by first | exact .inl rfl | exact .inr rfl) ?_
      | refine o_offU rfl rfl rfl (by first | exact .inl rfl | exact .inr rfl) ?_
      | refine o_offF rfl rfl rfl (by first | exact .inl rfl | exact .inr rfl) ?_
      | (refine o_add rfl rfl rfl rfl ?_ ?_; omega)
      | refine o_len rfl TtOk rfl rfl rfl (fun _ => ?_)
      | refine o_lenOwn rfl TtOk rfl rfl rfl rfl (fun _ => ?_)
      | (refine o_calm rfl TtOk rfl rfl rfl ?_ (fun _ => ?_); first | exact True.intro | exact ⟨rfl, rfl, rfl, rfl⟩ | exact ⟨rfl, True.intro⟩ | exact ⟨rfl, rfl⟩ | exact ⟨rfl, rfl, rfl⟩ | exact rfl | exact ⟨fun h0 => by cases h0, rfl⟩ | exact (fun h0 => by cases h0) | exact ⟨rfl, by omega⟩ | exact ⟨Nat.succ_ne_zero _, rfl⟩ | omega)
      | refine o_alloc (d := 2) rfl TtOk rfl rfl rfl (fun b2 => ?_)
      | refine o_alloc (d := 8) rfl TtOk rfl rfl rfl (fun b8 => ?_)
      | refine o_alloc (d := 9) rfl TtOk rfl rfl rfl (fun b9 => ?_)
      | refine o_store TtOk rfl rfl rfl rfl rfl rfl rfl ⟨rfl, rfl⟩ rfl rfl rfl rfl rfl ?_
      | (refine o_calm rfl TtOk rfl rfl rfl ?_ (fun _ => ?_); (show List.length _ + List.length _ ≤ 9223372036854775807; (try simp only [List.length_append, List.length_cons, List.length_nil]); omega))
      | refine o_build TtOk rfl rfl rfl rfl rfl rfl (by repeat' (first | exact True.intro | exact rfl | refine ⟨?_, ?_⟩)) ?_
      | refine o_buildArr0 TtOk rfl rfl rfl rfl ?_
      | refine o_buildSlice TtOk rfl rfl rfl rfl rfl rfl rfl rfl rfl rfl rfl (by repeat' (first | exact True.intro | exact rfl | refine ⟨?_, ?_⟩)) (fun _ => ?_)
      | (refine o_append TtOk rfl rfl rfl rfl rfl rfl rfl rfl rfl (by first | exact True.intro | exact rfl) rfl rfl (fun _ => rfl) ?_ ?_ (fun _ => ?_); (simp only [List.length_map, List.length_cons, List.length_nil, List.length_append, List.length_take, List.length_drop]; omega); (simp only [List.length_map, List.length_cons, List.length_nil, List.length_append, List.length_take, List.length_drop]; omega))
      | (refine o_appendStr TtOk rfl rfl rfl rfl rfl rfl rfl rfl rfl (fun _ => rfl) ?_ (fun _ => ?_); (simp only [List.length_map, List.length_cons, List.length_nil, List.length_append, List.length_take, List.length_drop]; omega))
      | (fail_if_success (refine o_isLit rfl (by first | exact .inl rfl | exact .inr rfl) ?_)); (refine o_splitP rfl rfl (fun hc => ?_) (fun hc => ?_) <;> try (exfalso; omega))
      | (fail_if_success (refine o_isLit rfl (by first | exact .inl rfl | exact .inr rfl) ?_)); (refine o_splitI rfl rfl (fun hc => ?_) (fun hc => ?_) <;> try (exfalso; omega))
      | (fail_if_success (refine o_isLit rfl (by first | exact .inl rfl | exact .inr rfl) ?_)); (refine o_splitN rfl rfl (fun hc => ?_) (fun hc => ?_) <;> try (exfalso; omega))
      | (fail_if_success (refine o_isLit rfl (by first | exact .inl rfl | exact .inr rfl) ?_)); (refine o_split rfl rfl (fun hc => ?_) (fun hc => ?_))
      | refine a_condT rfl ?_
      | refine a_condF rfl ?_
      | (refine a_condP rfl (fun hc => ?_) (fun hc => ?_)) <;> (try (exfalso; omega))
      | (refine a_condI rfl (fun hc => ?_) (fun hc => ?_)) <;> (try (exfalso; omega))
      | (refine a_condN rfl (fun hc => ?_) (fun hc => ?_)) <;> (try (exfalso; omega))
      | (refine Awp.cond rfl (fun hc => ?_) (fun hc => ?_))
      | (refine o_call0 rfl (hck) ⟨SLe.of_eq rfl, True.intro⟩ rfl ?_; rintro _ _ ⟨rfl, rfl⟩; refine ⟨rfl, ?_⟩)
      | (refine o_callP rfl rfl rfl rfl (hF) ⟨sle_ptr, True.intro⟩ (HOLe.refl _) rfl rfl ?_; rintro _ _ ⟨rfl, rfl⟩; refine ⟨_, rfl, _, rfl, ?_⟩))
    refine end_all [] [] (.tup [eSt zS, .i .i64 d]) rfl ?_ ?_ (rle_tup2 cle_zS (CLe.of_eq rfl) rfl rfl) .nil ⟨rfl, rfl⟩ _ (.inl rfl)
    all_goals first | exact ⟨trivial, trivial⟩ | trivial | exact ⟨trivial, trivial, trivial⟩ | (repeat' (first | exact True.intro | exact rfl | refine ⟨?_, ?_⟩))
  rw [if_neg hd] at hbr
  by_cases hk : ck ≠ 0
  · rw [if_pos hk] at hbr
    subst hbr
    repeat' (first
      | refine Awp.seq ?_
      | refine Awp.block ?_
      | refine Awp.region ?_
      | (refine Ops.nil ?_; show Awp _ _ _ _ _)
      | (refine Ops.nil ?_; show Exists _)
      | (refine Ops.nil ?_; show endK _ _ _ _ _)
      | (refine Awp.skip ?_; show Awp _ _ _ _ _)
      | (refine Awp.skip ?_; show endK _ _ _ _ _)
      | (refine Awp.skip ?_; show Exists _)
      | (refine Awp.exit ?_; show Awp _ _ _ _ _)
      | (refine Awp.exit ?_; show Exists _)
      | (refine Awp.exit ?_; show endK _ _ _ _ _)
      | (refine Awp.ret ?_; show endK _ _ _ _ _)
      | refine o_offT rfl rfl rfl (by first | exact .inl rfl | exact .inr rfl) ?_
      | refine o_offU rfl rfl rfl (by first | exact .inl rfl | exact .inr rfl) ?_
      | refine o_offF rfl rfl rfl (by first | exact .inl rfl | exact .inr rfl) ?_
      | (refine o_add rfl rfl rfl rfl ?_ ?_; omega)
      | refine o_len rfl TtOk rfl rfl rfl (fun _ => ?_)
      | refine o_lenOwn rfl TtOk rfl rfl rfl rfl (fun _ => ?_)
      | (refine o_calm rfl TtOk rfl rfl rfl ?_ (fun _ => ?_); first | exact True.intro | exact ⟨rfl, rfl, rfl, rfl⟩ | exact ⟨rfl, True.intro⟩ | exact ⟨rfl, rfl⟩ | exact ⟨rfl, rfl, rfl⟩ | exact rfl | exact ⟨fun h0 => by cases h0, rfl⟩ | exact (fun h0 => by cases h0) | exact ⟨rfl, by omega⟩ | exact ⟨Nat.succ_ne_zero _, rfl⟩ | omega)
      | refine o_alloc (d := 2) rfl TtOk rfl rfl rfl (fun b2 => ?_)
      | refine o_alloc (d := 8) rfl TtOk rfl rfl rfl (fun b8 => ?_)
      | refine o_alloc (d := 9) rfl TtOk rfl rfl rfl (fun b9 => ?_)
      | refine o_store TtOk rfl rfl rfl rfl rfl rfl rfl ⟨rfl, rfl⟩ rfl rfl rfl rfl rfl ?_
      | (refine o_calm rfl TtOk rfl rfl rfl ?_ (fun _ => ?_); (show List.length _ + List.length _ ≤ 9223372036854775807; (try simp only [List.length_append, List.length_cons, List.length_nil]); omega))
      | refine o_build TtOk rfl rfl rfl rfl rfl rfl (by repeat' (first | exact True.intro | exact rfl | refine ⟨?_, ?_⟩)) ?_
      | refine o_buildArr0 TtOk rfl rfl rfl rfl ?_
      | refine o_buildSlice TtOk rfl rfl rfl rfl rfl rfl rfl rfl rfl rfl rfl (by repeat' (first | exact True.intro | exact rfl | refine ⟨?_, ?_⟩)) (fun _ => ?_)
      | (refine o_append TtOk rfl rfl rfl rfl rfl rfl rfl rfl rfl (by first | exact True.intro | exact rfl) rfl rfl (fun _ => rfl) ?_ ?_ (fun _ => ?_); (simp only [List.length_map, List.length_cons, List.length_nil, List.length_append, List.length_take, List.length_drop]; omega); (simp only [List.length_map, List.length_cons, List.length_nil, List.length_append, List.length_take, List.length_drop]; omega))
      | (refine o_appendStr TtOk rfl rfl rfl rfl rfl rfl rfl rfl rfl (fun _ => rfl) ?_ (fun _ => ?_); (simp only [List.length_map, List.length_cons, List.length_nil, List.length_append, List.length_take, List.length_drop]; omega))
      | (fail_if_success (refine o_isLit rfl (by first | exact .inl rfl | exact .inr rfl) ?_)); (refine o_splitP rfl rfl (fun hc => ?_) (fun hc => ?_) <;> try (exfalso; omega))
      | (fail_if_success (refine o_isLit rfl (by first | exact .inl rfl | exact .inr rfl) ?_)); (refine o_splitI rfl rfl (fun hc => ?_) (fun hc => ?_) <;> try (exfalso; omega))
      | (fail_if_success (refine o_isLit rfl (by first | exact .inl rfl | exact .inr rfl) ?_)); (refine o_splitN rfl rfl (fun hc => ?_) (fun hc => ?_) <;> try (exfalso; omega))
      | (fail_if_success (refine o_isLit rfl (by first | exact .inl rfl | exact .inr rfl) ?_)); (refine o_split rfl rfl (fun hc => ?_) (fun hc => ?_))
      | refine a_condT rfl ?_
      | refine a_condF rfl ?_
      | (refine a_condP rfl (fun hc => ?_) (fun hc => ?_)) <;> (try (exfalso; omega))
      | (refine a_condI rfl (fun hc => ?_) (fun hc => ?_)) <;> (try (exfalso; omega))
      | (refine a_condN rfl (fun hc => ?_) (fun hc => ?_)) <;> (try (exfalso; omega))
      | (refine Awp.cond rfl (fun hc => ?_) (fun hc => ?_))
      | (refine o_call0 rfl (hck) ⟨SLe.of_eq rfl, True.intro⟩ rfl ?_; rintro _ _ ⟨rfl, rfl⟩; refine ⟨rfl, ?_⟩)
      | (refine o_callP rfl rfl rfl rfl (hF) ⟨sle_ptr, True.intro⟩ (HOLe.refl _) rfl rfl ?_; rintro _ _ ⟨rfl, rfl⟩; refine ⟨_, rfl, _, rfl, ?_⟩))
    refine end_all [] [] (.tup [eSt zS, .i .i64 ck]) rfl ?_ ?_ (rle_tup2 cle_zS (CLe.of_eq rfl) rfl rfl) .nil ⟨rfl, rfl⟩ _ (.inl rfl)
    all_goals first | exact ⟨trivial, trivial⟩ | trivial | exact ⟨trivial, trivial, trivial⟩ | (repeat' (first | exact True.intro | exact rfl | refine ⟨?_, ?_⟩))
  rw [if_neg hk] at hbr
  subst hbr
  repeat' (first
    | refine Awp.seq ?_
    | refine Awp.block ?_
    | refine Awp.region ?_
    | (refine Ops.nil ?_; show Awp _ _ _ _ _)
    | (refine Ops.nil ?_; show Exists _)
    | (refine Ops.nil ?_; show endK _ _ _ _ _)
    | (refine Awp.skip ?_; show Awp _ _ _ _ _)
    | (refine Awp.skip ?_; show endK _ _ _ _ _)
    | (refine Awp.skip ?_; show Exists _)
    | (refine Awp.exit ?_; show Awp _ _ _ _ _)
    | (refine Awp.exit ?_; show Exists _)
    | (refine Awp.exit ?_; show endK _ _ _ _ _)
    | (refine Awp.ret ?_; show endK _ _ _ _ _)
    | refine o_offT rfl rfl rfl (by first | exact .inl rfl | exact .inr rfl) ?_
    | refine o_offU rfl rfl rfl (by first | exact .inl rfl | exact .inr rfl) ?_
    | refine o_offF rfl rfl rfl (by first | exact .inl rfl | exact .inr rfl) ?_
    | (refine o_add rfl rfl rfl rfl ?_ ?_; omega)
    | refine o_len rfl TtOk rfl rfl rfl (fun _ => ?_)
    | refine o_lenOwn rfl TtOk rfl rfl rfl rfl (fun _ => ?_)
    | (refine o_calm rfl TtOk rfl rfl rfl ?_ (fun _ => ?_); first | exact True.intro | exact ⟨rfl, rfl, rfl, rfl⟩ | exact ⟨rfl, True.intro⟩ | exact ⟨rfl, rfl⟩ | exact ⟨rfl, rfl, rfl⟩ | exact rfl | exact ⟨fun h0 => by cases h0, rfl⟩ | exact (fun h0 => by cases h0) | exact ⟨rfl, by omega⟩ | exact ⟨Nat.succ_ne_zero _, rfl⟩ | omega)
    | refine o_alloc (d := 2) rfl TtOk rfl rfl rfl (fun b2 => ?_)
    | refine o_alloc (d := 8) rfl TtOk rfl rfl rfl (fun b8 => ?_)
    | refine o_alloc (d := 9) rfl TtOk rfl rfl rfl (fun b9 => ?_)
    | refine o_store TtOk rfl rfl rfl rfl rfl rfl rfl ⟨rfl, rfl⟩ rfl rfl rfl rfl rfl ?_
    | (refine o_calm rfl TtOk rfl rfl rfl ?_ (fun _ => ?_); (show List.length _ + List.length _ ≤ 9223372036854775807; (try simp only [List.length_append, List.length_cons, List.length_nil]); omega))
    | refine o_build TtOk rfl rfl rfl rfl rfl rfl (by repeat' (first | exact True.intro | exact rfl | refine ⟨?_, ?_⟩)) ?_
    | refine o_buildArr0 TtOk rfl rfl rfl rfl ?_
    | refine o_buildSlice TtOk rfl rfl rfl rfl rfl rfl rfl rfl rfl rfl rfl (by repeat' (first | exact True.intro | exact rfl | refine ⟨?_, ?_⟩)) (fun _ => ?_)
    | (refine o_append TtOk rfl rfl rfl rfl rfl rfl rfl rfl rfl (by first | exact True.intro | exact rfl) rfl rfl (fun _ => rfl) ?_ ?_ (fun _ => ?_); (simp only [List.length_map, List.length_cons, List.length_nil, List.length_append, List.length_take, List.length_drop]; omega); (simp only [List.length_map, List.length_cons, List.length_nil, List.length_append, List.length_take, List.length_drop]; omega))
    | (refine o_appendStr TtOk rfl rfl rfl rfl rfl rfl rfl rfl rfl (fun _ => rfl) ?_ (fun _ => ?_); (simp only [List.length_map, List.length_cons, List.length_nil, List.length_append, List.length_take, List.length_drop]; omega))
    | (fail_if_success (refine o_isLit rfl (by first | exact .inl rfl | exact .inr rfl) ?_)); (refine o_splitP rfl rfl (fun hc => ?_) (fun hc => ?_) <;> try (exfalso; omega))
    | (fail_if_success (refine o_isLit rfl (by first | exact .inl rfl | exact .inr rfl) ?_)); (refine o_splitI rfl rfl (fun hc => ?_) (fun hc => ?_) <;> try (exfalso; omega))
    | (fail_if_success (refine o_isLit rfl (by first | exact .inl rfl | exact .inr rfl) ?_)); (refine o_splitN rfl rfl (fun hc => ?_) (fun hc => ?_) <;> try (exfalso; omega))
    | (fail_if_success (refine o_isLit rfl (by first | exact .inl rfl | exact .inr rfl) ?_)); (refine o_split rfl rfl (fun hc => ?_) (fun hc => ?_))
    | refine a_condT rfl ?_
    | refine a_condF rfl ?_
    | (refine a_condP rfl (fun hc => ?_) (fun hc => ?_)) <;> (try (exfalso; omega))
    | (refine a_condI rfl (fun hc => ?_) (fun hc => ?_)) <;> (try (exfalso; omega))
    | (refine a_condN rfl (fun hc => ?_) (fun hc => ?_)) <;> (try (exfalso; omega))
    | (refine Awp.cond rfl (fun hc => ?_) (fun hc => ?_))
    | (refine o_call0 rfl (hck) ⟨SLe.of_eq rfl, True.intro⟩ rfl ?_; rintro _ _ ⟨rfl, rfl⟩; refine ⟨rfl, ?_⟩)
    | (refine o_callP rfl rfl rfl rfl (hF) ⟨sle_ptr, True.intro⟩ (HOLe.refl _) rfl rfl ?_; rintro _ _ ⟨rfl, rfl⟩; refine ⟨_, rfl, _, rfl, ?_⟩))
  refine end_all [] [] (.tup [eSt ⟨nx, lg, l⟩, .i .i64 0]) rfl ?_ ?_ (rle_tup2 (CLe.of_eq rfl) (CLe.of_eq rfl) rfl rfl) .nil ⟨rfl, rfl⟩ _ (.inl rfl)
  all_goals first | exact ⟨trivial, trivial⟩ | trivial | exact ⟨trivial, trivial, trivial⟩ | (repeat' (first | exact True.intro | exact rfl | refine ⟨?_, ?_⟩))
end Go.Proofs.Ytnmnhnlebkebfaa
