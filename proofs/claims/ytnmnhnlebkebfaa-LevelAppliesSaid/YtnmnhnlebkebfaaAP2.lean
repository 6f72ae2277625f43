/- ref11.Apply by rules. -/
import Derived.Test.YtnmnhnlebkebfaaAP1
set_option maxHeartbeats 16000000
set_option maxRecDepth 100000
namespace Go.Proofs.Ytnmnhnlebkebfaa
open Go Go.RowKit
theorem ltC_ahead (x y : Fl) : ltC ordF x y = aheadF x y := by
  unfold ltC
  cases h : aheadF x y with
  | true => exact decide_eq_true ((ordF_ahead x y).2 h)
  | false => exact decide_eq_false (fun n => by rw [(ordF_ahead x y).1 n] at h; cases h)
theorem hasN_contains (l : List Fl) (n : Int) : (l.map Fl.num).contains n = hasN l n := by
  unfold hasN
  induction l with
  | nil => rfl
  | cons x l ih =>
    rw [List.map_cons, List.contains_cons, ih, List.any_cons]
    congr 1
    by_cases h : n = x.num
    · rw [h]
    · rw [beq_eq_false_iff_ne.2 h, beq_eq_false_iff_ne.2 (Ne.symm h)]
theorem insS_snoc {α : Type} {lt : α → α → Bool} {x g : α} : ∀ (l : List α), (∃ y ∈ l, lt x y = true) → insS lt x (l ++ [g]) = insS lt x l ++ [g]
  | [], ⟨y, hy, _⟩ => by cases hy
  | z :: r, h => by
    show insS lt x (z :: (r ++ [g])) = _
    unfold insS
    by_cases hz : lt x z = true
    · rw [if_pos hz, if_pos hz]; rfl
    · rw [if_neg hz, if_neg hz, insS_snoc r (by
        obtain ⟨y, hy, hl⟩ := h
        rcases List.mem_cons.1 hy with rfl | hy
        · exact absurd hl hz
        · exact ⟨y, hy, hl⟩)]; rfl
/-- What is built while a file is put among others. -/
def Bld (x : Fl) (L : List Fl) (j : Nat) (done : Bool) (out : List Fl) : Prop :=
  (done = false ∧ out = L.take j ∧ ∀ y ∈ L.take j, aheadF x y = false) ∨ (done = true ∧ out = insS (ltC ordF) x (L.take j) ∧ ∃ y ∈ L.take j, aheadF x y = true)
theorem Bld.go1 {x : Fl} {L : List Fl} {j : Nat} {out : List Fl} (h : j < L.length) (b : Bld x L j false out) (hc : aheadF x L[j] = true) : Bld x L (j + 1) true (out ++ [x] ++ [L[j]]) := by
  rcases b with ⟨_, h2, h3⟩ | ⟨h1, _⟩
  · refine .inr ⟨rfl, ?_, L[j], by rw [List.take_succ_eq_append_getElem h]; exact List.mem_append.2 (.inr (List.mem_singleton.2 rfl)), hc⟩
    rw [List.take_succ_eq_append_getElem h, insS_at (lt := ltC ordF) (L.take j) [L[j]] (fun s hs => by rw [ltC_ahead]; exact h3 s hs) (fun s hs => by rw [List.mem_singleton.1 hs, ltC_ahead]; exact hc), h2]
    simp only [List.append_assoc, List.cons_append, List.nil_append]
  · cases h1
theorem Bld.go2 {x : Fl} {L : List Fl} {j : Nat} {out : List Fl} (h : j < L.length) (b : Bld x L j false out) (hc : aheadF x L[j] = false) : Bld x L (j + 1) false (out ++ [L[j]]) := by
  rcases b with ⟨_, h2, h3⟩ | ⟨h1, _⟩
  · refine .inl ⟨rfl, by rw [h2, List.take_succ_eq_append_getElem h], fun y hy => ?_⟩
    rw [List.take_succ_eq_append_getElem h] at hy
    rcases List.mem_append.1 hy with hy | hy
    · exact h3 y hy
    · rw [List.mem_singleton.1 hy]; exact hc
  · cases h1
theorem Bld.go3 {x : Fl} {L : List Fl} {j : Nat} {out : List Fl} (h : j < L.length) (b : Bld x L j true out) : Bld x L (j + 1) true (out ++ [L[j]]) := by
  rcases b with ⟨h1, _⟩ | ⟨_, h2, y, hy, h3⟩
  · cases h1
  · refine .inr ⟨rfl, ?_, y, by rw [List.take_succ_eq_append_getElem h]; exact List.mem_append.2 (.inl hy), h3⟩
    rw [List.take_succ_eq_append_getElem h, insS_snoc _ ⟨y, hy, by rw [ltC_ahead]; exact h3⟩, h2]
theorem Bld.fin {x : Fl} {L : List Fl} {out : List Fl} {done : Bool} (b : Bld x L L.length done out) : insS (ltC ordF) x L = if done = true then out else out ++ [x] := by
  rcases b with ⟨h1, h2, h3⟩ | ⟨h1, h2, _⟩
  · rw [List.take_length] at h2 h3
    have := insS_at (lt := ltC ordF) (x := x) L [] (fun s hs => by rw [ltC_ahead]; exact h3 s hs) (fun s hs => by cases hs)
    rw [List.append_nil] at this
    rw [h1, if_neg (by decide), this, h2]
  · rw [List.take_length] at h2
    rw [h1, if_pos rfl, h2]
theorem Bld.len {x : Fl} {L : List Fl} {j : Nat} {out : List Fl} {done : Bool} (b : Bld x L j done out) : out.length ≤ L.length + 1 := by
  rcases b with ⟨_, h2, _⟩ | ⟨_, h2, _⟩
  · rw [h2, List.length_take]; omega
  · have h : ∀ (x : Fl) (a : List Fl), (insS (ltC ordF) x a).length = a.length + 1 := fun x a => by
      induction a with
      | nil => rfl
      | cons y r ih => unfold insS; split <;> simp [ih]
    rw [h2, h, List.length_take]; omega
theorem rapply_spec (s : Stt) (gone : List Int) (fresh : List Fl) (log : Int) (hl : s.fs.length ≤ 1000) (hg : gone.length ≤ 1000) (hf : fresh.length ≤ 1000) :
    Spec Try.prog 22 [eSt s, .sl 1 (gone.map (AV.i .i64)), .sl 5 (fresh.map eF), .i .i64 log] [] (fun v os => v = .tup [eSt (applyF s gone fresh log).1, .i .i64 (applyF s gone fresh log).2] ∧ os = []) := by
  refine spec_of TtOk [] Try.func22 rfl Try.ntmps22 (by kernel_rfl) rfl rfl (fun C => ?_) rfl
  have hck := rcheck11_spec s
  have hap : applyF s gone fresh log = if lcheck s ≠ 0 then (zS, lcheck s) else if ¬ (∀ n ∈ gone, hasN s.fs n = true) then (zS, 7) else if ∃ f ∈ fresh, badN f then (zS, 1)
    else if lcheck (outF s gone fresh log) ≠ 0 then (zS, lcheck (outF s gone fresh log)) else (outF s gone fresh log, 0) := rfl
  generalize applyF s gone fresh log = r at hap ⊢
  unfold eSt at *
  by_cases h0 : lcheck s ≠ 0
  · rw [if_pos h0] at hap
    generalize lcheck s = c at hck hap h0
    subst hap
    repeat' (first
      | refine Awp.seq ?_
      | refine Awp.block ?_
      | refine Awp.region ?_
      | (refine Ops.nil ?_; show Awp _ _ _ _ _)
      | (refine Ops.nil ?_; show Exists _)
      | (refine Ops.nil ?_; show endK _ _ _ _ _)
      | (refine Awp.skip ?_; show Awp _ _ _ _ _)
      | (refine Awp.skip ?_; show endK _ _ _ _ _)
      | (refine Awp.skip ?_; show Exists _)
      | (refine Awp.exit ?_; show Awp _ _ _ _ _)
      | (refine Awp.exit ?_; show Exists _)
      | (refine Awp.exit ?_; show endK _ _ _ _ _)
      | (refine Awp.ret ?_; show endK _ _ _ _ _)
      | refine o_offT rfl rfl rfl (by first | exact .inl rfl | exact .inr rfl) ?_
      | refine o_offU rfl rfl rfl (by first | exact .inl rfl | exact .inr rfl) ?_
      | refine o_offF rfl rfl rfl (by first | exact .inl rfl | exact .inr rfl) ?_
      | (refine o_add rfl rfl rfl rfl ?_ ?_; omega)
      | refine o_len rfl TtOk rfl rfl rfl (fun _ => ?_)
      | refine o_lenOwn rfl TtOk rfl rfl rfl rfl (fun _ => ?_)
      | (refine o_calm rfl TtOk rfl rfl rfl ?_ (fun _ => ?_); first | exact True.intro | exact ⟨rfl, rfl, rfl, rfl⟩ | exact ⟨rfl, True.intro⟩ | exact ⟨rfl, rfl⟩ | exact ⟨rfl, rfl, rfl⟩ | exact rfl | exact ⟨fun h0 => by cases h0, rfl⟩ | exact (fun h0 => by cases h0) | exact ⟨rfl, by omega⟩ | exact ⟨Nat.succ_ne_zero _, rfl⟩ | omega)
      | refine o_alloc (d := 8) rfl TtOk rfl rfl rfl (fun b8 => ?_)
      | refine o_alloc (d := 13) rfl TtOk rfl rfl rfl (fun b13 => ?_)
      | refine o_alloc (d := 16) rfl TtOk rfl rfl rfl (fun b16 => ?_)
      | refine o_alloc (d := 19) rfl TtOk rfl rfl rfl (fun b19 => ?_)
      | refine o_alloc (d := 21) rfl TtOk rfl rfl rfl (fun b21 => ?_)
      | refine o_alloc (d := 23) rfl TtOk rfl rfl rfl (fun b23 => ?_)
      | refine o_alloc (d := 27) rfl TtOk rfl rfl rfl (fun b27 => ?_)
      | refine o_box (d := 4) rfl rfl rfl rfl (fun b4 => ?_)
      | refine o_store TtOk rfl rfl rfl rfl rfl rfl rfl ⟨rfl, rfl⟩ rfl rfl rfl rfl rfl ?_
      | (refine o_index rfl TtOk rfl rfl rfl rfl rfl rfl ?_ (getq_nat ?_) ?_; omega; omega)
      | (refine o_indexOwn TtOk rfl rfl rfl rfl rfl rfl rfl rfl _ rfl ?_ (fun bO hbO => ?_); (simp only [List.length_map]; omega))
      | (refine o_loadRow TtOk rfl rfl rfl rfl rfl (by assumption) (getq_map (List.getElem?_eq_getElem ?_)) rfl rfl (by first | exact Nat.add_zero _ | rfl) ⟨rfl, rfl⟩ ?_; omega)
      | (refine o_calm rfl TtOk rfl rfl rfl ?_ (fun _ => ?_); (show List.length _ + List.length _ ≤ 9223372036854775807; (try simp only [List.length_append, List.length_cons, List.length_nil]); omega))
      | (refine o_storeRow TtOk rfl rfl rfl rfl rfl rfl (by assumption) (getq_map (List.getElem?_eq_getElem ?_)) rfl rfl (by first | exact Nat.add_zero _ | rfl) ⟨rfl, rfl⟩ rfl rfl ?_; omega)
      | refine o_build TtOk rfl rfl rfl rfl rfl rfl (by repeat' (first | exact True.intro | exact rfl | refine ⟨?_, ?_⟩)) ?_
      | refine o_buildArr0 TtOk rfl rfl rfl rfl ?_
      | refine o_buildSlice TtOk rfl rfl rfl rfl rfl rfl rfl rfl rfl rfl rfl (by repeat' (first | exact True.intro | exact rfl | refine ⟨?_, ?_⟩)) (fun _ => ?_)
      | (refine o_append TtOk rfl rfl rfl rfl rfl rfl rfl rfl rfl (by first | exact True.intro | exact rfl) rfl rfl (fun _ => rfl) ?_ ?_ (fun _ => ?_); (simp only [List.length_map, List.length_cons, List.length_nil, List.length_append, List.length_take, List.length_drop]; omega); (simp only [List.length_map, List.length_cons, List.length_nil, List.length_append, List.length_take, List.length_drop]; omega))
      | (refine o_appendStr TtOk rfl rfl rfl rfl rfl rfl rfl rfl rfl (fun _ => rfl) ?_ (fun _ => ?_); (simp only [List.length_map, List.length_cons, List.length_nil, List.length_append, List.length_take, List.length_drop]; omega))
      | (fail_if_success (refine o_isLit rfl (by first | exact .inl rfl | exact .inr rfl) ?_)); (refine o_splitP rfl rfl (fun hc => ?_) (fun hc => ?_) <;> try (exfalso; omega))
      | (fail_if_success (refine o_isLit rfl (by first | exact .inl rfl | exact .inr rfl) ?_)); (refine o_splitI rfl rfl (fun hc => ?_) (fun hc => ?_) <;> try (exfalso; omega))
      | (fail_if_success (refine o_isLit rfl (by first | exact .inl rfl | exact .inr rfl) ?_)); (refine o_splitN rfl rfl (fun hc => ?_) (fun hc => ?_) <;> try (exfalso; omega))
      | (fail_if_success (refine o_isLit rfl (by first | exact .inl rfl | exact .inr rfl) ?_)); (refine o_split rfl rfl (fun hc => ?_) (fun hc => ?_))
      | refine a_condT rfl ?_
      | refine a_condF rfl ?_
      | (refine a_condP rfl (fun hc => ?_) (fun hc => ?_)) <;> (try (exfalso; omega))
      | (refine a_condI rfl (fun hc => ?_) (fun hc => ?_)) <;> (try (exfalso; omega))
      | (refine a_condN rfl (fun hc => ?_) (fun hc => ?_)) <;> (try (exfalso; omega))
      | (refine Awp.cond rfl (fun hc => ?_) (fun hc => ?_))
      | (refine o_call0 rfl (hck) ⟨SLe.of_eq rfl, True.intro⟩ rfl ?_; rintro _ _ ⟨rfl, rfl⟩; refine ⟨rfl, ?_⟩))
    refine end_all [] [] (.tup [eSt zS, .i .i64 c]) rfl ?_ ?_ (rle_tup2 cle_zS (CLe.of_eq rfl) rfl rfl) .nil ⟨rfl, rfl⟩ _ (.inl rfl)
    all_goals first | exact ⟨trivial, trivial⟩ | trivial | exact ⟨trivial, trivial, trivial⟩ | (repeat' (first | exact True.intro | exact rfl | refine ⟨?_, ?_⟩))
  rw [if_neg h0] at hap
  have h0 : lcheck s = 0 := Classical.byContradiction h0
  rw [h0] at hck
  repeat' (first
    | refine Awp.seq ?_
    | refine Awp.block ?_
    | refine Awp.region ?_
    | (refine Ops.nil ?_; show Awp _ _ _ _ _)
    | (refine Ops.nil ?_; show Exists _)
    | (refine Ops.nil ?_; show endK _ _ _ _ _)
    | (refine Awp.skip ?_; show Awp _ _ _ _ _)
    | (refine Awp.skip ?_; show endK _ _ _ _ _)
    | (refine Awp.skip ?_; show Exists _)
    | (refine Awp.exit ?_; show Awp _ _ _ _ _)
    | (refine Awp.exit ?_; show Exists _)
    | (refine Awp.exit ?_; show endK _ _ _ _ _)
    | (refine Awp.ret ?_; show endK _ _ _ _ _)
    | refine o_offT rfl rfl rfl (by first | exact .inl rfl | exact .inr rfl) ?_
    | refine o_offU rfl rfl rfl (by first | exact .inl rfl | exact .inr rfl) ?_
    | refine o_offF rfl rfl rfl (by first | exact .inl rfl | exact .inr rfl) ?_
    | (refine o_add rfl rfl rfl rfl ?_ ?_; omega)
    | refine o_len rfl TtOk rfl rfl rfl (fun _ => ?_)
    | refine o_lenOwn rfl TtOk rfl rfl rfl rfl (fun _ => ?_)
    | (refine o_calm rfl TtOk rfl rfl rfl ?_ (fun _ => ?_); first | exact True.intro | exact ⟨rfl, rfl, rfl, rfl⟩ | exact ⟨rfl, True.intro⟩ | exact ⟨rfl, rfl⟩ | exact ⟨rfl, rfl, rfl⟩ | exact rfl | exact ⟨fun h0 => by cases h0, rfl⟩ | exact (fun h0 => by cases h0) | exact ⟨rfl, by omega⟩ | exact ⟨Nat.succ_ne_zero _, rfl⟩ | omega)
    | refine o_alloc (d := 8) rfl TtOk rfl rfl rfl (fun b8 => ?_)
    | refine o_alloc (d := 13) rfl TtOk rfl rfl rfl (fun b13 => ?_)
    | refine o_alloc (d := 16) rfl TtOk rfl rfl rfl (fun b16 => ?_)
    | refine o_alloc (d := 19) rfl TtOk rfl rfl rfl (fun b19 => ?_)
    | refine o_alloc (d := 21) rfl TtOk rfl rfl rfl (fun b21 => ?_)
    | refine o_alloc (d := 23) rfl TtOk rfl rfl rfl (fun b23 => ?_)
    | refine o_alloc (d := 27) rfl TtOk rfl rfl rfl (fun b27 => ?_)
    | refine o_box (d := 4) rfl rfl rfl rfl (fun b4 => ?_)
    | refine o_store TtOk rfl rfl rfl rfl rfl rfl rfl ⟨rfl, rfl⟩ rfl rfl rfl rfl rfl ?_
    | (refine o_index rfl TtOk rfl rfl rfl rfl rfl rfl ?_ (getq_nat ?_) ?_; omega; omega)
    | (refine o_indexOwn TtOk rfl rfl rfl rfl rfl rfl rfl rfl _ rfl ?_ (fun bO hbO => ?_); (simp only [List.length_map]; omega))
    | (refine o_loadRow TtOk rfl rfl rfl rfl rfl (by assumption) (getq_map (List.getElem?_eq_getElem ?_)) rfl rfl (by first | exact Nat.add_zero _ | rfl) ⟨rfl, rfl⟩ ?_; omega)
    | (refine o_calm rfl TtOk rfl rfl rfl ?_ (fun _ => ?_); (show List.length _ + List.length _ ≤ 9223372036854775807; (try simp only [List.length_append, List.length_cons, List.length_nil]); omega))
    | (refine o_storeRow TtOk rfl rfl rfl rfl rfl rfl (by assumption) (getq_map (List.getElem?_eq_getElem ?_)) rfl rfl (by first | exact Nat.add_zero _ | rfl) ⟨rfl, rfl⟩ rfl rfl ?_; omega)
    | refine o_build TtOk rfl rfl rfl rfl rfl rfl (by repeat' (first | exact True.intro | exact rfl | refine ⟨?_, ?_⟩)) ?_
    | refine o_buildArr0 TtOk rfl rfl rfl rfl ?_
    | refine o_buildSlice TtOk rfl rfl rfl rfl rfl rfl rfl rfl rfl rfl rfl (by repeat' (first | exact True.intro | exact rfl | refine ⟨?_, ?_⟩)) (fun _ => ?_)
    | (refine o_append TtOk rfl rfl rfl rfl rfl rfl rfl rfl rfl (by first | exact True.intro | exact rfl) rfl rfl (fun _ => rfl) ?_ ?_ (fun _ => ?_); (simp only [List.length_map, List.length_cons, List.length_nil, List.length_append, List.length_take, List.length_drop]; omega); (simp only [List.length_map, List.length_cons, List.length_nil, List.length_append, List.length_take, List.length_drop]; omega))
    | (refine o_appendStr TtOk rfl rfl rfl rfl rfl rfl rfl rfl rfl (fun _ => rfl) ?_ (fun _ => ?_); (simp only [List.length_map, List.length_cons, List.length_nil, List.length_append, List.length_take, List.length_drop]; omega))
    | (fail_if_success (refine o_isLit rfl (by first | exact .inl rfl | exact .inr rfl) ?_)); (refine o_splitP rfl rfl (fun hc => ?_) (fun hc => ?_) <;> try (exfalso; omega))
    | (fail_if_success (refine o_isLit rfl (by first | exact .inl rfl | exact .inr rfl) ?_)); (refine o_splitI rfl rfl (fun hc => ?_) (fun hc => ?_) <;> try (exfalso; omega))
    | (fail_if_success (refine o_isLit rfl (by first | exact .inl rfl | exact .inr rfl) ?_)); (refine o_splitN rfl rfl (fun hc => ?_) (fun hc => ?_) <;> try (exfalso; omega))
    | (fail_if_success (refine o_isLit rfl (by first | exact .inl rfl | exact .inr rfl) ?_)); (refine o_split rfl rfl (fun hc => ?_) (fun hc => ?_))
    | refine a_condT rfl ?_
    | refine a_condF rfl ?_
    | (refine a_condP rfl (fun hc => ?_) (fun hc => ?_)) <;> (try (exfalso; omega))
    | (refine a_condI rfl (fun hc => ?_) (fun hc => ?_)) <;> (try (exfalso; omega))
    | (refine a_condN rfl (fun hc => ?_) (fun hc => ?_)) <;> (try (exfalso; omega))
    | (refine Awp.cond rfl (fun hc => ?_) (fun hc => ?_))
    | (refine o_call0 rfl (hck) ⟨SLe.of_eq rfl, True.intro⟩ rfl ?_; rintro _ _ ⟨rfl, rfl⟩; refine ⟨rfl, ?_⟩))
  rename_i v35 _ _ _ _ _
  refine Awp.loop (fun q : Nat × Value => ⟨156, [(39, .i .i64 q.1), (38, .i .i64 s.fs.length), (37, .sl 5 (s.fs.map eF)), (11, .own 35 q.2), (8, .ptr 8 b8 [] 0), (4, .ptr 4 b4 [] 0), (1, .sl 1 (gone.map (AV.i .i64))), (2, .sl 5 (fresh.map eF)), (3, .i .i64 log)], [(35, .row q.2 3 1 (((s.fs.take q.1).map Fl.num).map (AV.i .i64))), (8, .var b8 (.agg [.i .i64 0, .i .i64 0, .nil])), (4, .var b4 (.agg [.i .i64 s.next, .i .i64 s.log, .sl 5 (s.fs.map eF)]))]⟩) (fun q => q.1 ≤ s.fs.length) (fun q => s.fs.length - q.1) [] (0, v35) (Nat.zero_le _) ?_ ?_
  · exact ⟨rfl, ⟨sle_i rfl, sle_i rfl, sle_sl rfl, sle_own, sle_ptr, sle_ptr, sle_sl rfl, sle_sl rfl, sle_i rfl, True.intro⟩, HLe.cons 35 rfl (HOLe.refl _) (HLe.cons 8 rfl (HOLe.refl _) (HLe.cons 4 rfl (HOLe.refl _) .nil))⟩
  rintro ⟨i, v⟩ hi
  dsimp only at hi ⊢
  by_cases hlt : i < s.fs.length
  · have hst := numsF_step s.fs i hlt
    have hfl : ((s.fs.take i).map Fl.num).length = i := by rw [List.length_map, List.length_take]; omega
    generalize (s.fs.take i).map Fl.num = out at hst hfl ⊢
    repeat' (first
      | refine Awp.seq ?_
      | refine Awp.block ?_
      | refine Awp.region ?_
      | (refine Ops.nil ?_; show Awp _ _ _ _ _)
      | (refine Ops.nil ?_; show Exists _)
      | (refine Ops.nil ?_; show endK _ _ _ _ _)
      | (refine Awp.skip ?_; show Awp _ _ _ _ _)
      | (refine Awp.skip ?_; show endK _ _ _ _ _)
      | (refine Awp.skip ?_; show Exists _)
      | (refine Awp.exit ?_; show Awp _ _ _ _ _)
      | (refine Awp.exit ?_; show Exists _)
      | (refine Awp.exit ?_; show endK _ _ _ _ _)
      | (refine Awp.ret ?_; show endK _ _ _ _ _)
      | refine o_offT rfl rfl rfl (by first | exact .inl rfl | exact .inr rfl) ?_
      | refine o_offU rfl rfl rfl (by first | exact .inl rfl | exact .inr rfl) ?_
      | refine o_offF rfl rfl rfl (by first | exact .inl rfl | exact .inr rfl) ?_
      | (refine o_add rfl rfl rfl rfl ?_ ?_; omega)
      | refine o_len rfl TtOk rfl rfl rfl (fun _ => ?_)
      | refine o_lenOwn rfl TtOk rfl rfl rfl rfl (fun _ => ?_)
      | (refine o_calm rfl TtOk rfl rfl rfl ?_ (fun _ => ?_); first | exact True.intro | exact ⟨rfl, rfl, rfl, rfl⟩ | exact ⟨rfl, True.intro⟩ | exact ⟨rfl, rfl⟩ | exact ⟨rfl, rfl, rfl⟩ | exact rfl | exact ⟨fun h0 => by cases h0, rfl⟩ | exact (fun h0 => by cases h0) | exact ⟨rfl, by omega⟩ | exact ⟨Nat.succ_ne_zero _, rfl⟩ | omega)
      | refine o_alloc (d := 8) rfl TtOk rfl rfl rfl (fun b8 => ?_)
      | refine o_alloc (d := 13) rfl TtOk rfl rfl rfl (fun b13 => ?_)
      | refine o_alloc (d := 16) rfl TtOk rfl rfl rfl (fun b16 => ?_)
      | refine o_alloc (d := 19) rfl TtOk rfl rfl rfl (fun b19 => ?_)
      | refine o_alloc (d := 21) rfl TtOk rfl rfl rfl (fun b21 => ?_)
      | refine o_alloc (d := 23) rfl TtOk rfl rfl rfl (fun b23 => ?_)
      | refine o_alloc (d := 27) rfl TtOk rfl rfl rfl (fun b27 => ?_)
      | refine o_box (d := 4) rfl rfl rfl rfl (fun b4 => ?_)
      | refine o_store TtOk rfl rfl rfl rfl rfl rfl rfl ⟨rfl, rfl⟩ rfl rfl rfl rfl rfl ?_
      | (refine o_index rfl TtOk rfl rfl rfl rfl rfl rfl ?_ (getq_nat ?_) ?_; omega; omega)
      | (refine o_indexOwn TtOk rfl rfl rfl rfl rfl rfl rfl rfl _ rfl ?_ (fun bO hbO => ?_); (simp only [List.length_map]; omega))
      | (refine o_loadRow TtOk rfl rfl rfl rfl rfl (by assumption) (getq_map (List.getElem?_eq_getElem ?_)) rfl rfl (by first | exact Nat.add_zero _ | rfl) ⟨rfl, rfl⟩ ?_; omega)
      | (refine o_calm rfl TtOk rfl rfl rfl ?_ (fun _ => ?_); (show List.length _ + List.length _ ≤ 9223372036854775807; (try simp only [List.length_append, List.length_cons, List.length_nil]); omega))
      | (refine o_storeRow TtOk rfl rfl rfl rfl rfl rfl (by assumption) (getq_map (List.getElem?_eq_getElem ?_)) rfl rfl (by first | exact Nat.add_zero _ | rfl) ⟨rfl, rfl⟩ rfl rfl ?_; omega)
      | refine o_build TtOk rfl rfl rfl rfl rfl rfl (by repeat' (first | exact True.intro | exact rfl | refine ⟨?_, ?_⟩)) ?_
      | refine o_buildArr0 TtOk rfl rfl rfl rfl ?_
      | refine o_buildSlice TtOk rfl rfl rfl rfl rfl rfl rfl rfl rfl rfl rfl (by repeat' (first | exact True.intro | exact rfl | refine ⟨?_, ?_⟩)) (fun _ => ?_)
      | (refine o_append TtOk rfl rfl rfl rfl rfl rfl rfl rfl rfl (by first | exact True.intro | exact rfl) rfl rfl (fun _ => rfl) ?_ ?_ (fun _ => ?_); (simp only [List.length_map, List.length_cons, List.length_nil, List.length_append, List.length_take, List.length_drop]; omega); (simp only [List.length_map, List.length_cons, List.length_nil, List.length_append, List.length_take, List.length_drop]; omega))
      | (refine o_appendStr TtOk rfl rfl rfl rfl rfl rfl rfl rfl rfl (fun _ => rfl) ?_ (fun _ => ?_); (simp only [List.length_map, List.length_cons, List.length_nil, List.length_append, List.length_take, List.length_drop]; omega))
      | (fail_if_success (refine o_isLit rfl (by first | exact .inl rfl | exact .inr rfl) ?_)); (refine o_splitP rfl rfl (fun hc => ?_) (fun hc => ?_) <;> try (exfalso; omega))
      | (fail_if_success (refine o_isLit rfl (by first | exact .inl rfl | exact .inr rfl) ?_)); (refine o_splitI rfl rfl (fun hc => ?_) (fun hc => ?_) <;> try (exfalso; omega))
      | (fail_if_success (refine o_isLit rfl (by first | exact .inl rfl | exact .inr rfl) ?_)); (refine o_splitN rfl rfl (fun hc => ?_) (fun hc => ?_) <;> try (exfalso; omega))
      | (fail_if_success (refine o_isLit rfl (by first | exact .inl rfl | exact .inr rfl) ?_)); (refine o_split rfl rfl (fun hc => ?_) (fun hc => ?_))
      | refine a_condT rfl ?_
      | refine a_condF rfl ?_
      | (refine a_condP rfl (fun hc => ?_) (fun hc => ?_)) <;> (try (exfalso; omega))
      | (refine a_condI rfl (fun hc => ?_) (fun hc => ?_)) <;> (try (exfalso; omega))
      | (refine a_condN rfl (fun hc => ?_) (fun hc => ?_)) <;> (try (exfalso; omega))
      | (refine Awp.cond rfl (fun hc => ?_) (fun hc => ?_)))
    refine ⟨(i + 1, _), [], by show i + 1 ≤ s.fs.length; omega, by show s.fs.length - (i + 1) < s.fs.length - i; omega, rfl, ⟨sle_i rfl, sle_i rfl, sle_sl rfl, sle_own, sle_ptr, sle_ptr, sle_sl rfl, sle_sl rfl, sle_i rfl, True.intro⟩, HLe.cons 35 rfl (HOLe.row ?_) (HLe.cons 8 rfl (HOLe.refl _) (HLe.cons 4 rfl (HOLe.refl _) .nil))⟩
    rw [hst, List.map_append]; rfl
  have hil : i = s.fs.length := by omega
  subst hil
  rw [List.take_length]
  have hnl : (s.fs.map Fl.num).length ≤ 1000 := by rw [List.length_map]; exact hl
  have hnc := fun n => hasN_contains s.fs n
  generalize s.fs.map Fl.num = nums at hnl hnc ⊢
  repeat' (first
    | refine Awp.seq ?_
    | refine Awp.block ?_
    | refine Awp.region ?_
    | (refine Ops.nil ?_; show Awp _ _ _ _ _)
    | (refine Ops.nil ?_; show Exists _)
    | (refine Ops.nil ?_; show endK _ _ _ _ _)
    | (refine Awp.skip ?_; show Awp _ _ _ _ _)
    | (refine Awp.skip ?_; show endK _ _ _ _ _)
    | (refine Awp.skip ?_; show Exists _)
    | (refine Awp.exit ?_; show Awp _ _ _ _ _)
    | (refine Awp.exit ?_; show Exists _)
    | (refine Awp.exit ?_; show endK _ _ _ _ _)
    | (refine Awp.ret ?_; show endK _ _ _ _ _)
    | refine o_offT rfl rfl rfl (by first | exact .inl rfl | exact .inr rfl) ?_
    | refine o_offU rfl rfl rfl (by first | exact .inl rfl | exact .inr rfl) ?_
    | refine o_offF rfl rfl rfl (by first | exact .inl rfl | exact .inr rfl) ?_
    | (refine o_add rfl rfl rfl rfl ?_ ?_; omega)
    | refine o_len rfl TtOk rfl rfl rfl (fun _ => ?_)
    | refine o_lenOwn rfl TtOk rfl rfl rfl rfl (fun _ => ?_)
    | (refine o_calm rfl TtOk rfl rfl rfl ?_ (fun _ => ?_); first | exact True.intro | exact ⟨rfl, rfl, rfl, rfl⟩ | exact ⟨rfl, True.intro⟩ | exact ⟨rfl, rfl⟩ | exact ⟨rfl, rfl, rfl⟩ | exact rfl | exact ⟨fun h0 => by cases h0, rfl⟩ | exact (fun h0 => by cases h0) | exact ⟨rfl, by omega⟩ | exact ⟨Nat.succ_ne_zero _, rfl⟩ | omega)
    | refine o_alloc (d := 8) rfl TtOk rfl rfl rfl (fun b8 => ?_)
    | refine o_alloc (d := 13) rfl TtOk rfl rfl rfl (fun b13 => ?_)
    | refine o_alloc (d := 16) rfl TtOk rfl rfl rfl (fun b16 => ?_)
    | refine o_alloc (d := 19) rfl TtOk rfl rfl rfl (fun b19 => ?_)
    | refine o_alloc (d := 21) rfl TtOk rfl rfl rfl (fun b21 => ?_)
    | refine o_alloc (d := 23) rfl TtOk rfl rfl rfl (fun b23 => ?_)
    | refine o_alloc (d := 27) rfl TtOk rfl rfl rfl (fun b27 => ?_)
    | refine o_box (d := 4) rfl rfl rfl rfl (fun b4 => ?_)
    | refine o_store TtOk rfl rfl rfl rfl rfl rfl rfl ⟨rfl, rfl⟩ rfl rfl rfl rfl rfl ?_
    | (refine o_index rfl TtOk rfl rfl rfl rfl rfl rfl ?_ (getq_nat ?_) ?_; omega; omega)
    | (refine o_indexOwn TtOk rfl rfl rfl rfl rfl rfl rfl rfl _ rfl ?_ (fun bO hbO => ?_); (simp only [List.length_map]; omega))
    | (refine o_loadRow TtOk rfl rfl rfl rfl rfl (by assumption) (getq_map (List.getElem?_eq_getElem ?_)) rfl rfl (by first | exact Nat.add_zero _ | rfl) ⟨rfl, rfl⟩ ?_; omega)
    | (refine o_calm rfl TtOk rfl rfl rfl ?_ (fun _ => ?_); (show List.length _ + List.length _ ≤ 9223372036854775807; (try simp only [List.length_append, List.length_cons, List.length_nil]); omega))
    | (refine o_storeRow TtOk rfl rfl rfl rfl rfl rfl (by assumption) (getq_map (List.getElem?_eq_getElem ?_)) rfl rfl (by first | exact Nat.add_zero _ | rfl) ⟨rfl, rfl⟩ rfl rfl ?_; omega)
    | refine o_build TtOk rfl rfl rfl rfl rfl rfl (by repeat' (first | exact True.intro | exact rfl | refine ⟨?_, ?_⟩)) ?_
    | refine o_buildArr0 TtOk rfl rfl rfl rfl ?_
    | refine o_buildSlice TtOk rfl rfl rfl rfl rfl rfl rfl rfl rfl rfl rfl (by repeat' (first | exact True.intro | exact rfl | refine ⟨?_, ?_⟩)) (fun _ => ?_)
    | (refine o_append TtOk rfl rfl rfl rfl rfl rfl rfl rfl rfl (by first | exact True.intro | exact rfl) rfl rfl (fun _ => rfl) ?_ ?_ (fun _ => ?_); (simp only [List.length_map, List.length_cons, List.length_nil, List.length_append, List.length_take, List.length_drop]; omega); (simp only [List.length_map, List.length_cons, List.length_nil, List.length_append, List.length_take, List.length_drop]; omega))
    | (refine o_appendStr TtOk rfl rfl rfl rfl rfl rfl rfl rfl rfl (fun _ => rfl) ?_ (fun _ => ?_); (simp only [List.length_map, List.length_cons, List.length_nil, List.length_append, List.length_take, List.length_drop]; omega))
    | (fail_if_success (refine o_isLit rfl (by first | exact .inl rfl | exact .inr rfl) ?_)); (refine o_splitP rfl rfl (fun hc => ?_) (fun hc => ?_) <;> try (exfalso; omega))
    | (fail_if_success (refine o_isLit rfl (by first | exact .inl rfl | exact .inr rfl) ?_)); (refine o_splitI rfl rfl (fun hc => ?_) (fun hc => ?_) <;> try (exfalso; omega))
    | (fail_if_success (refine o_isLit rfl (by first | exact .inl rfl | exact .inr rfl) ?_)); (refine o_splitN rfl rfl (fun hc => ?_) (fun hc => ?_) <;> try (exfalso; omega))
    | (fail_if_success (refine o_isLit rfl (by first | exact .inl rfl | exact .inr rfl) ?_)); (refine o_split rfl rfl (fun hc => ?_) (fun hc => ?_))
    | refine a_condT rfl ?_
    | refine a_condF rfl ?_
    | (refine a_condP rfl (fun hc => ?_) (fun hc => ?_)) <;> (try (exfalso; omega))
    | (refine a_condI rfl (fun hc => ?_) (fun hc => ?_)) <;> (try (exfalso; omega))
    | (refine a_condN rfl (fun hc => ?_) (fun hc => ?_)) <;> (try (exfalso; omega))
    | (refine Awp.cond rfl (fun hc => ?_) (fun hc => ?_)))
  refine Awp.loop (fun q : Nat => ⟨156, [(51, .i .i64 q), (50, .i .i64 gone.length), (49, .sl 1 (gone.map (AV.i .i64))), (11, .sl 1 (nums.map (AV.i .i64))), (8, .ptr 8 b8 [] 0), (4, .ptr 4 b4 [] 0), (1, .sl 1 (gone.map (AV.i .i64))), (2, .sl 5 (fresh.map eF)), (3, .i .i64 log)], [(8, .var b8 (.agg [.i .i64 0, .i .i64 0, .nil])), (4, .var b4 (.agg [.i .i64 s.next, .i .i64 s.log, .sl 5 (s.fs.map eF)]))]⟩) (fun q => q ≤ gone.length ∧ ∀ i (h : i < gone.length), i < q → hasN s.fs gone[i] = true) (fun q => gone.length - q) [35] 0 ⟨Nat.zero_le _, fun _ _ h => absurd h (Nat.not_lt_zero _)⟩ ?_ ?_
  · exact ⟨rfl, ⟨sle_i rfl, sle_i rfl, sle_sl rfl, SLe.of_cle (CLe.fz (.head _)) rfl, sle_ptr, sle_ptr, sle_sl rfl, sle_sl rfl, sle_i rfl, True.intro⟩, HLe.cons 8 rfl (HOLe.refl _) (HLe.cons 4 rfl (HOLe.refl _) .nil)⟩
  rintro k ⟨hk, hall⟩
  by_cases hlt : k < gone.length
  · have hct := in_spec nums gone[k] (by omega)
    have hh := hnc gone[k]
    generalize nums.contains gone[k] = an at hct hh
    cases an with
    | true =>
      repeat' (first
        | refine Awp.seq ?_
        | refine Awp.block ?_
        | refine Awp.region ?_
        | (refine Ops.nil ?_; show Awp _ _ _ _ _)
        | (refine Ops.nil ?_; show Exists _)
        | (refine Ops.nil ?_; show endK _ _ _ _ _)
        | (refine Awp.skip ?_; show Awp _ _ _ _ _)
        | (refine Awp.skip ?_; show endK _ _ _ _ _)
        | (refine Awp.skip ?_; show Exists _)
        | (refine Awp.exit ?_; show Awp _ _ _ _ _)
        | (refine Awp.exit ?_; show Exists _)
        | (refine Awp.exit ?_; show endK _ _ _ _ _)
        | (refine Awp.ret ?_; show endK _ _ _ _ _)
        | refine o_offT rfl rfl rfl (by first | exact .inl rfl | exact .inr rfl) ?_
        | refine o_offU rfl rfl rfl (by first | exact .inl rfl | exact .inr rfl) ?_
        | refine o_offF rfl rfl rfl (by first | exact .inl rfl | exact .inr rfl) ?_
        | (refine o_add rfl rfl rfl rfl ?_ ?_; omega)
        | refine o_len rfl TtOk rfl rfl rfl (fun _ => ?_)
        | refine o_lenOwn rfl TtOk rfl rfl rfl rfl (fun _ => ?_)
        | (refine o_calm rfl TtOk rfl rfl rfl ?_ (fun _ => ?_); first | exact True.intro | exact ⟨rfl, rfl, rfl, rfl⟩ | exact ⟨rfl, True.intro⟩ | exact ⟨rfl, rfl⟩ | exact ⟨rfl, rfl, rfl⟩ | exact rfl | exact ⟨fun h0 => by cases h0, rfl⟩ | exact (fun h0 => by cases h0) | exact ⟨rfl, by omega⟩ | exact ⟨Nat.succ_ne_zero _, rfl⟩ | omega)
        | refine o_alloc (d := 8) rfl TtOk rfl rfl rfl (fun b8 => ?_)
        | refine o_alloc (d := 13) rfl TtOk rfl rfl rfl (fun b13 => ?_)
        | refine o_alloc (d := 16) rfl TtOk rfl rfl rfl (fun b16 => ?_)
        | refine o_alloc (d := 19) rfl TtOk rfl rfl rfl (fun b19 => ?_)
        | refine o_alloc (d := 21) rfl TtOk rfl rfl rfl (fun b21 => ?_)
        | refine o_alloc (d := 23) rfl TtOk rfl rfl rfl (fun b23 => ?_)
        | refine o_alloc (d := 27) rfl TtOk rfl rfl rfl (fun b27 => ?_)
        | refine o_box (d := 4) rfl rfl rfl rfl (fun b4 => ?_)
        | refine o_store TtOk rfl rfl rfl rfl rfl rfl rfl ⟨rfl, rfl⟩ rfl rfl rfl rfl rfl ?_
        | (refine o_index rfl TtOk rfl rfl rfl rfl rfl rfl ?_ (getq_nat ?_) ?_; omega; omega)
        | (refine o_indexOwn TtOk rfl rfl rfl rfl rfl rfl rfl rfl _ rfl ?_ (fun bO hbO => ?_); (simp only [List.length_map]; omega))
        | (refine o_loadRow TtOk rfl rfl rfl rfl rfl (by assumption) (getq_map (List.getElem?_eq_getElem ?_)) rfl rfl (by first | exact Nat.add_zero _ | rfl) ⟨rfl, rfl⟩ ?_; omega)
        | (refine o_calm rfl TtOk rfl rfl rfl ?_ (fun _ => ?_); (show List.length _ + List.length _ ≤ 9223372036854775807; (try simp only [List.length_append, List.length_cons, List.length_nil]); omega))
        | (refine o_storeRow TtOk rfl rfl rfl rfl rfl rfl (by assumption) (getq_map (List.getElem?_eq_getElem ?_)) rfl rfl (by first | exact Nat.add_zero _ | rfl) ⟨rfl, rfl⟩ rfl rfl ?_; omega)
        | refine o_build TtOk rfl rfl rfl rfl rfl rfl (by repeat' (first | exact True.intro | exact rfl | refine ⟨?_, ?_⟩)) ?_
        | refine o_buildArr0 TtOk rfl rfl rfl rfl ?_
        | refine o_buildSlice TtOk rfl rfl rfl rfl rfl rfl rfl rfl rfl rfl rfl (by repeat' (first | exact True.intro | exact rfl | refine ⟨?_, ?_⟩)) (fun _ => ?_)
        | (refine o_append TtOk rfl rfl rfl rfl rfl rfl rfl rfl rfl (by first | exact True.intro | exact rfl) rfl rfl (fun _ => rfl) ?_ ?_ (fun _ => ?_); (simp only [List.length_map, List.length_cons, List.length_nil, List.length_append, List.length_take, List.length_drop]; omega); (simp only [List.length_map, List.length_cons, List.length_nil, List.length_append, List.length_take, List.length_drop]; omega))
        | (refine o_appendStr TtOk rfl rfl rfl rfl rfl rfl rfl rfl rfl (fun _ => rfl) ?_ (fun _ => ?_); (simp only [List.length_map, List.length_cons, List.length_nil, List.length_append, List.length_take, List.length_drop]; omega))
        | (fail_if_success (refine o_isLit rfl (by first | exact .inl rfl | exact .inr rfl) ?_)); (refine o_splitP rfl rfl (fun hc => ?_) (fun hc => ?_) <;> try (exfalso; omega))
        | (fail_if_success (refine o_isLit rfl (by first | exact .inl rfl | exact .inr rfl) ?_)); (refine o_splitI rfl rfl (fun hc => ?_) (fun hc => ?_) <;> try (exfalso; omega))
        | (fail_if_success (refine o_isLit rfl (by first | exact .inl rfl | exact .inr rfl) ?_)); (refine o_splitN rfl rfl (fun hc => ?_) (fun hc => ?_) <;> try (exfalso; omega))
        | (fail_if_success (refine o_isLit rfl (by first | exact .inl rfl | exact .inr rfl) ?_)); (refine o_split rfl rfl (fun hc => ?_) (fun hc => ?_))
        | refine a_condT rfl ?_
        | refine a_condF rfl ?_
        | (refine a_condP rfl (fun hc => ?_) (fun hc => ?_)) <;> (try (exfalso; omega))
        | (refine a_condI rfl (fun hc => ?_) (fun hc => ?_)) <;> (try (exfalso; omega))
        | (refine a_condN rfl (fun hc => ?_) (fun hc => ?_)) <;> (try (exfalso; omega))
        | (refine Awp.cond rfl (fun hc => ?_) (fun hc => ?_))
        | (refine o_call0 rfl (hct) ⟨SLe.of_eq rfl, SLe.of_eq rfl, True.intro⟩ rfl ?_; rintro _ _ ⟨rfl, rfl⟩; refine ⟨rfl, ?_⟩))
      exact ⟨k + 1, [], ⟨hlt, fun i h hi => by
        rcases Nat.lt_succ_iff_lt_or_eq.1 hi with h2 | h2
        · exact hall i h h2
        · subst h2; exact hh.symm⟩, by show gone.length - (k + 1) < gone.length - k; omega, rfl, ⟨sle_i rfl, sle_i rfl, sle_sl rfl, sle_sl rfl, sle_ptr, sle_ptr, sle_sl rfl, sle_sl rfl, sle_i rfl, True.intro⟩, HLe.cons 8 rfl (HOLe.refl _) (HLe.cons 4 rfl (HOLe.refl _) .nil)⟩
    | false =>
      have hn : ¬ (∀ n ∈ gone, hasN s.fs n = true) := fun h => by
        have := h gone[k] (List.getElem_mem hlt)
        rw [← hh] at this; cases this
      rw [if_pos hn] at hap
      subst hap
      repeat' (first
        | refine Awp.seq ?_
        | refine Awp.block ?_
        | refine Awp.region ?_
        | (refine Ops.nil ?_; show Awp _ _ _ _ _)
        | (refine Ops.nil ?_; show Exists _)
        | (refine Ops.nil ?_; show endK _ _ _ _ _)
        | (refine Awp.skip ?_; show Awp _ _ _ _ _)
        | (refine Awp.skip ?_; show endK _ _ _ _ _)
        | (refine Awp.skip ?_; show Exists _)
        | (refine Awp.exit ?_; show Awp _ _ _ _ _)
        | (refine Awp.exit ?_; show Exists _)
        | (refine Awp.exit ?_; show endK _ _ _ _ _)
        | (refine Awp.ret ?_; show endK _ _ _ _ _)
        | refine o_offT rfl rfl rfl (by first | exact .inl rfl | exact .inr rfl) ?_
        | refine o_offU rfl rfl rfl (by first | exact .inl rfl | exact .inr rfl) ?_
        | refine o_offF rfl rfl rfl (by first | exact .inl rfl | exact .inr rfl) ?_
        | (refine o_add rfl rfl rfl rfl ?_ ?_; omega)
        | refine o_len rfl TtOk rfl rfl rfl (fun _ => ?_)
        | refine o_lenOwn rfl TtOk rfl rfl rfl rfl (fun _ => ?_)
        | (refine o_calm rfl TtOk rfl rfl rfl ?_ (fun _ => ?_); first | exact True.intro | exact ⟨rfl, rfl, rfl, rfl⟩ | exact ⟨rfl, True.intro⟩ | exact ⟨rfl, rfl⟩ | exact ⟨rfl, rfl, rfl⟩ | exact rfl | exact ⟨fun h0 => by cases h0, rfl⟩ | exact (fun h0 => by cases h0) | exact ⟨rfl, by omega⟩ | exact ⟨Nat.succ_ne_zero _, rfl⟩ | omega)
        | refine o_alloc (d := 8) rfl TtOk rfl rfl rfl (fun b8 => ?_)
        | refine o_alloc (d := 13) rfl TtOk rfl rfl rfl (fun b13 => ?_)
        | refine o_alloc (d := 16) rfl TtOk rfl rfl rfl (fun b16 => ?_)
        | refine o_alloc (d := 19) rfl TtOk rfl rfl rfl (fun b19 => ?_)
        | refine o_alloc (d := 21) rfl TtOk rfl rfl rfl (fun b21 => ?_)
        | refine o_alloc (d := 23) rfl TtOk rfl rfl rfl (fun b23 => ?_)
        | refine o_alloc (d := 27) rfl TtOk rfl rfl rfl (fun b27 => ?_)
        | refine o_box (d := 4) rfl rfl rfl rfl (fun b4 => ?_)
        | refine o_store TtOk rfl rfl rfl rfl rfl rfl rfl ⟨rfl, rfl⟩ rfl rfl rfl rfl rfl ?_
        | (refine o_index rfl TtOk rfl rfl rfl rfl rfl rfl ?_ (getq_nat ?_) ?_; omega; omega)
        | (refine o_indexOwn TtOk rfl rfl rfl rfl rfl rfl rfl rfl _ rfl ?_ (fun bO hbO => ?_); (simp only [List.length_map]; omega))
        | (refine o_loadRow TtOk rfl rfl rfl rfl rfl (by assumption) (getq_map (List.getElem?_eq_getElem ?_)) rfl rfl (by first | exact Nat.add_zero _ | rfl) ⟨rfl, rfl⟩ ?_; omega)
        | (refine o_calm rfl TtOk rfl rfl rfl ?_ (fun _ => ?_); (show List.length _ + List.length _ ≤ 9223372036854775807; (try simp only [List.length_append, List.length_cons, List.length_nil]); omega))
        | (refine o_storeRow TtOk rfl rfl rfl rfl rfl rfl (by assumption) (getq_map (List.getElem?_eq_getElem ?_)) rfl rfl (by first | exact Nat.add_zero _ | rfl) ⟨rfl, rfl⟩ rfl rfl ?_; omega)
        | refine o_build TtOk rfl rfl rfl rfl rfl rfl (by repeat' (first | exact True.intro | exact rfl | refine ⟨?_, ?_⟩)) ?_
        | refine o_buildArr0 TtOk rfl rfl rfl rfl ?_
        | refine o_buildSlice TtOk rfl rfl rfl rfl rfl rfl rfl rfl rfl rfl rfl (by repeat' (first | exact True.intro | exact rfl | refine ⟨?_, ?_⟩)) (fun _ => ?_)
        | (refine o_append TtOk rfl rfl rfl rfl rfl rfl rfl rfl rfl (by first | exact True.intro | exact rfl) rfl rfl (fun _ => rfl) ?_ ?_ (fun _ => ?_); (simp only [List.length_map, List.length_cons, List.length_nil, List.length_append, List.length_take, List.length_drop]; omega); (simp only [List.length_map, List.length_cons, List.length_nil, List.length_append, List.length_take, List.length_drop]; omega))
        | (refine o_appendStr TtOk rfl rfl rfl rfl rfl rfl rfl rfl rfl (fun _ => rfl) ?_ (fun _ => ?_); (simp only [List.length_map, List.length_cons, List.length_nil, List.length_append, List.length_take, List.length_drop]; omega))
        | (fail_if_success (refine o_isLit rfl (by first | exact .inl rfl | exact .inr rfl) ?_)); (refine o_splitP rfl rfl (fun hc => ?_) (fun hc => ?_) <;> try (exfalso; omega))
        | (fail_if_success (refine o_isLit rfl (by first | exact .inl rfl | exact .inr rfl) ?_)); (refine o_splitI rfl rfl (fun hc => ?_) (fun hc => ?_) <;> try (exfalso; omega))
        | (fail_if_success (refine o_isLit rfl (by first | exact .inl rfl | exact .inr rfl) ?_)); (refine o_splitN rfl rfl (fun hc => ?_) (fun hc => ?_) <;> try (exfalso; omega))
        | (fail_if_success (refine o_isLit rfl (by first | exact .inl rfl | exact .inr rfl) ?_)); (refine o_split rfl rfl (fun hc => ?_) (fun hc => ?_))
        | refine a_condT rfl ?_
        | refine a_condF rfl ?_
        | (refine a_condP rfl (fun hc => ?_) (fun hc => ?_)) <;> (try (exfalso; omega))
        | (refine a_condI rfl (fun hc => ?_) (fun hc => ?_)) <;> (try (exfalso; omega))
        | (refine a_condN rfl (fun hc => ?_) (fun hc => ?_)) <;> (try (exfalso; omega))
        | (refine Awp.cond rfl (fun hc => ?_) (fun hc => ?_))
        | (refine o_call0 rfl (hct) ⟨SLe.of_eq rfl, SLe.of_eq rfl, True.intro⟩ rfl ?_; rintro _ _ ⟨rfl, rfl⟩; refine ⟨rfl, ?_⟩))
      refine end_all [] [] (.tup [eSt zS, .i .i64 7]) rfl ?_ ?_ (rle_tup2 cle_zS (CLe.of_eq rfl) rfl rfl) .nil ⟨rfl, rfl⟩ _ (.inl rfl)
      all_goals first | exact ⟨trivial, trivial⟩ | trivial | exact ⟨trivial, trivial, trivial⟩ | (repeat' (first | exact True.intro | exact rfl | refine ⟨?_, ?_⟩))
  have hall2 : ∀ n ∈ gone, hasN s.fs n = true := fun n hn => by
    obtain ⟨i, hi, rfl⟩ := List.getElem_of_mem hn
    exact hall i hi (by omega)
  rw [if_neg (fun h => h hall2)] at hap
  clear hall hnc
  repeat' (first
    | refine Awp.seq ?_
    | refine Awp.block ?_
    | refine Awp.region ?_
    | (refine Ops.nil ?_; show Awp _ _ _ _ _)
    | (refine Ops.nil ?_; show Exists _)
    | (refine Ops.nil ?_; show endK _ _ _ _ _)
    | (refine Awp.skip ?_; show Awp _ _ _ _ _)
    | (refine Awp.skip ?_; show endK _ _ _ _ _)
    | (refine Awp.skip ?_; show Exists _)
    | (refine Awp.exit ?_; show Awp _ _ _ _ _)
    | (refine Awp.exit ?_; show Exists _)
    | (refine Awp.exit ?_; show endK _ _ _ _ _)
    | (refine Awp.ret ?_; show endK _ _ _ _ _)
    | refine o_offT rfl rfl rfl (by first | exact .inl rfl | exact .inr rfl) ?_
    | refine o_offU rfl rfl rfl (by first | exact .inl rfl | exact .inr rfl) ?_
    | refine o_offF rfl rfl rfl (by first | exact .inl rfl | exact .inr rfl) ?_
    | (refine o_add rfl rfl rfl rfl ?_ ?_; omega)
    | refine o_len rfl TtOk rfl rfl rfl (fun _ => ?_)
    | refine o_lenOwn rfl TtOk rfl rfl rfl rfl (fun _ => ?_)
    | (refine o_calm rfl TtOk rfl rfl rfl ?_ (fun _ => ?_); first | exact True.intro | exact ⟨rfl, rfl, rfl, rfl⟩ | exact ⟨rfl, True.intro⟩ | exact ⟨rfl, rfl⟩ | exact ⟨rfl, rfl, rfl⟩ | exact rfl | exact ⟨fun h0 => by cases h0, rfl⟩ | exact (fun h0 => by cases h0) | exact ⟨rfl, by omega⟩ | exact ⟨Nat.succ_ne_zero _, rfl⟩ | omega)
    | refine o_alloc (d := 8) rfl TtOk rfl rfl rfl (fun b8 => ?_)
    | refine o_alloc (d := 13) rfl TtOk rfl rfl rfl (fun b13 => ?_)
    | refine o_alloc (d := 16) rfl TtOk rfl rfl rfl (fun b16 => ?_)
    | refine o_alloc (d := 19) rfl TtOk rfl rfl rfl (fun b19 => ?_)
    | refine o_alloc (d := 21) rfl TtOk rfl rfl rfl (fun b21 => ?_)
    | refine o_alloc (d := 23) rfl TtOk rfl rfl rfl (fun b23 => ?_)
    | refine o_alloc (d := 27) rfl TtOk rfl rfl rfl (fun b27 => ?_)
    | refine o_box (d := 4) rfl rfl rfl rfl (fun b4 => ?_)
    | refine o_store TtOk rfl rfl rfl rfl rfl rfl rfl ⟨rfl, rfl⟩ rfl rfl rfl rfl rfl ?_
    | (refine o_index rfl TtOk rfl rfl rfl rfl rfl rfl ?_ (getq_nat ?_) ?_; omega; omega)
    | (refine o_indexOwn TtOk rfl rfl rfl rfl rfl rfl rfl rfl _ rfl ?_ (fun bO hbO => ?_); (simp only [List.length_map]; omega))
    | (refine o_loadRow TtOk rfl rfl rfl rfl rfl (by assumption) (getq_map (List.getElem?_eq_getElem ?_)) rfl rfl (by first | exact Nat.add_zero _ | rfl) ⟨rfl, rfl⟩ ?_; omega)
    | (refine o_calm rfl TtOk rfl rfl rfl ?_ (fun _ => ?_); (show List.length _ + List.length _ ≤ 9223372036854775807; (try simp only [List.length_append, List.length_cons, List.length_nil]); omega))
    | (refine o_storeRow TtOk rfl rfl rfl rfl rfl rfl (by assumption) (getq_map (List.getElem?_eq_getElem ?_)) rfl rfl (by first | exact Nat.add_zero _ | rfl) ⟨rfl, rfl⟩ rfl rfl ?_; omega)
    | refine o_build TtOk rfl rfl rfl rfl rfl rfl (by repeat' (first | exact True.intro | exact rfl | refine ⟨?_, ?_⟩)) ?_
    | refine o_buildArr0 TtOk rfl rfl rfl rfl ?_
    | refine o_buildSlice TtOk rfl rfl rfl rfl rfl rfl rfl rfl rfl rfl rfl (by repeat' (first | exact True.intro | exact rfl | refine ⟨?_, ?_⟩)) (fun _ => ?_)
    | (refine o_append TtOk rfl rfl rfl rfl rfl rfl rfl rfl rfl (by first | exact True.intro | exact rfl) rfl rfl (fun _ => rfl) ?_ ?_ (fun _ => ?_); (simp only [List.length_map, List.length_cons, List.length_nil, List.length_append, List.length_take, List.length_drop]; omega); (simp only [List.length_map, List.length_cons, List.length_nil, List.length_append, List.length_take, List.length_drop]; omega))
    | (refine o_appendStr TtOk rfl rfl rfl rfl rfl rfl rfl rfl rfl (fun _ => rfl) ?_ (fun _ => ?_); (simp only [List.length_map, List.length_cons, List.length_nil, List.length_append, List.length_take, List.length_drop]; omega))
    | (fail_if_success (refine o_isLit rfl (by first | exact .inl rfl | exact .inr rfl) ?_)); (refine o_splitP rfl rfl (fun hc => ?_) (fun hc => ?_) <;> try (exfalso; omega))
    | (fail_if_success (refine o_isLit rfl (by first | exact .inl rfl | exact .inr rfl) ?_)); (refine o_splitI rfl rfl (fun hc => ?_) (fun hc => ?_) <;> try (exfalso; omega))
    | (fail_if_success (refine o_isLit rfl (by first | exact .inl rfl | exact .inr rfl) ?_)); (refine o_splitN rfl rfl (fun hc => ?_) (fun hc => ?_) <;> try (exfalso; omega))
    | (fail_if_success (refine o_isLit rfl (by first | exact .inl rfl | exact .inr rfl) ?_)); (refine o_split rfl rfl (fun hc => ?_) (fun hc => ?_))
    | refine a_condT rfl ?_
    | refine a_condF rfl ?_
    | (refine a_condP rfl (fun hc => ?_) (fun hc => ?_)) <;> (try (exfalso; omega))
    | (refine a_condI rfl (fun hc => ?_) (fun hc => ?_)) <;> (try (exfalso; omega))
    | (refine a_condN rfl (fun hc => ?_) (fun hc => ?_)) <;> (try (exfalso; omega))
    | (refine Awp.cond rfl (fun hc => ?_) (fun hc => ?_)))
  rename_i v65 _ _ _ _ _
  refine Awp.loop (fun q : Nat × Value => ⟨156, [(69, .i .i64 q.1), (68, .i .i64 s.fs.length), (67, .sl 5 (s.fs.map eF)), (17, .own 65 q.2), (16, .ptr 16 b16 [] 0), (8, .ptr 8 b8 [] 0), (1, .sl 1 (gone.map (AV.i .i64))), (2, .sl 5 (fresh.map eF))], [(65, .row q.2 79 5 ((keptF (s.fs.take q.1) gone).map eF)), (16, .var b16 (.agg [.i .i64 s.next, .i .i64 log, .nil])), (8, .var b8 (.agg [.i .i64 0, .i .i64 0, .nil]))]⟩) (fun q => q.1 ≤ s.fs.length) (fun q => s.fs.length - q.1) [] (0, v65) (Nat.zero_le _) ?_ ?_
  · exact ⟨rfl, ⟨sle_i rfl, sle_i rfl, sle_sl rfl, sle_own, sle_ptr, sle_ptr, sle_sl rfl, sle_sl rfl, True.intro⟩, HLe.cons 65 rfl (HOLe.refl _) (HLe.cons 16 rfl (HOLe.refl _) (HLe.cons 8 rfl (HOLe.refl _) .nil))⟩
  rintro ⟨i, v2⟩ hi
  dsimp only at hi ⊢
  by_cases hlt : i < s.fs.length
  · have hst := keptF_step s.fs gone i hlt
    have hfl := keptF_len (s.fs.take i) gone
    rw [List.length_take] at hfl
    have hcn := in_spec gone s.fs[i].num (by omega)
    generalize keptF (s.fs.take i) gone = out at hst hfl ⊢
    generalize gone.contains s.fs[i].num = cb at hst hcn
    cases cb with
    | true =>
      rw [if_pos rfl] at hst
      repeat' (first
        | refine Awp.seq ?_
        | refine Awp.block ?_
        | refine Awp.region ?_
        | (refine Ops.nil ?_; show Awp _ _ _ _ _)
        | (refine Ops.nil ?_; show Exists _)
        | (refine Ops.nil ?_; show endK _ _ _ _ _)
        | (refine Awp.skip ?_; show Awp _ _ _ _ _)
        | (refine Awp.skip ?_; show endK _ _ _ _ _)
        | (refine Awp.skip ?_; show Exists _)
        | (refine Awp.exit ?_; show Awp _ _ _ _ _)
        | (refine Awp.exit ?_; show Exists _)
        | (refine Awp.exit ?_; show endK _ _ _ _ _)
        | (refine Awp.ret ?_; show endK _ _ _ _ _)
        | refine o_offT rfl rfl rfl (by first | exact .inl rfl | exact .inr rfl) ?_
        | refine o_offU rfl rfl rfl (by first | exact .inl rfl | exact .inr rfl) ?_
        | refine o_offF rfl rfl rfl (by first | exact .inl rfl | exact .inr rfl) ?_
        | (refine o_add rfl rfl rfl rfl ?_ ?_; omega)
        | refine o_len rfl TtOk rfl rfl rfl (fun _ => ?_)
        | refine o_lenOwn rfl TtOk rfl rfl rfl rfl (fun _ => ?_)
        | (refine o_calm rfl TtOk rfl rfl rfl ?_ (fun _ => ?_); first | exact True.intro | exact ⟨rfl, rfl, rfl, rfl⟩ | exact ⟨rfl, True.intro⟩ | exact ⟨rfl, rfl⟩ | exact ⟨rfl, rfl, rfl⟩ | exact rfl | exact ⟨fun h0 => by cases h0, rfl⟩ | exact (fun h0 => by cases h0) | exact ⟨rfl, by omega⟩ | exact ⟨Nat.succ_ne_zero _, rfl⟩ | omega)
        | refine o_alloc (d := 8) rfl TtOk rfl rfl rfl (fun b8 => ?_)
        | refine o_alloc (d := 13) rfl TtOk rfl rfl rfl (fun b13 => ?_)
        | refine o_alloc (d := 16) rfl TtOk rfl rfl rfl (fun b16 => ?_)
        | refine o_alloc (d := 19) rfl TtOk rfl rfl rfl (fun b19 => ?_)
        | refine o_alloc (d := 21) rfl TtOk rfl rfl rfl (fun b21 => ?_)
        | refine o_alloc (d := 23) rfl TtOk rfl rfl rfl (fun b23 => ?_)
        | refine o_alloc (d := 27) rfl TtOk rfl rfl rfl (fun b27 => ?_)
        | refine o_box (d := 4) rfl rfl rfl rfl (fun b4 => ?_)
        | refine o_store TtOk rfl rfl rfl rfl rfl rfl rfl ⟨rfl, rfl⟩ rfl rfl rfl rfl rfl ?_
        | (refine o_index rfl TtOk rfl rfl rfl rfl rfl rfl ?_ (getq_nat ?_) ?_; omega; omega)
        | (refine o_indexOwn TtOk rfl rfl rfl rfl rfl rfl rfl rfl _ rfl ?_ (fun bO hbO => ?_); (simp only [List.length_map]; omega))
        | (refine o_loadRow TtOk rfl rfl rfl rfl rfl (by assumption) (getq_map (List.getElem?_eq_getElem ?_)) rfl rfl (by first | exact Nat.add_zero _ | rfl) ⟨rfl, rfl⟩ ?_; omega)
        | (refine o_calm rfl TtOk rfl rfl rfl ?_ (fun _ => ?_); (show List.length _ + List.length _ ≤ 9223372036854775807; (try simp only [List.length_append, List.length_cons, List.length_nil]); omega))
        | (refine o_storeRow TtOk rfl rfl rfl rfl rfl rfl (by assumption) (getq_map (List.getElem?_eq_getElem ?_)) rfl rfl (by first | exact Nat.add_zero _ | rfl) ⟨rfl, rfl⟩ rfl rfl ?_; omega)
        | refine o_build TtOk rfl rfl rfl rfl rfl rfl (by repeat' (first | exact True.intro | exact rfl | refine ⟨?_, ?_⟩)) ?_
        | refine o_buildArr0 TtOk rfl rfl rfl rfl ?_
        | refine o_buildSlice TtOk rfl rfl rfl rfl rfl rfl rfl rfl rfl rfl rfl (by repeat' (first | exact True.intro | exact rfl | refine ⟨?_, ?_⟩)) (fun _ => ?_)
        | (refine o_append TtOk rfl rfl rfl rfl rfl rfl rfl rfl rfl (by first | exact True.intro | exact rfl) rfl rfl (fun _ => rfl) ?_ ?_ (fun _ => ?_); (simp only [List.length_map, List.length_cons, List.length_nil, List.length_append, List.length_take, List.length_drop]; omega); (simp only [List.length_map, List.length_cons, List.length_nil, List.length_append, List.length_take, List.length_drop]; omega))
        | (refine o_appendStr TtOk rfl rfl rfl rfl rfl rfl rfl rfl rfl (fun _ => rfl) ?_ (fun _ => ?_); (simp only [List.length_map, List.length_cons, List.length_nil, List.length_append, List.length_take, List.length_drop]; omega))
        | (fail_if_success (refine o_isLit rfl (by first | exact .inl rfl | exact .inr rfl) ?_)); (refine o_splitP rfl rfl (fun hc => ?_) (fun hc => ?_) <;> try (exfalso; omega))
        | (fail_if_success (refine o_isLit rfl (by first | exact .inl rfl | exact .inr rfl) ?_)); (refine o_splitI rfl rfl (fun hc => ?_) (fun hc => ?_) <;> try (exfalso; omega))
        | (fail_if_success (refine o_isLit rfl (by first | exact .inl rfl | exact .inr rfl) ?_)); (refine o_splitN rfl rfl (fun hc => ?_) (fun hc => ?_) <;> try (exfalso; omega))
        | (fail_if_success (refine o_isLit rfl (by first | exact .inl rfl | exact .inr rfl) ?_)); (refine o_split rfl rfl (fun hc => ?_) (fun hc => ?_))
        | refine a_condT rfl ?_
        | refine a_condF rfl ?_
        | (refine a_condP rfl (fun hc => ?_) (fun hc => ?_)) <;> (try (exfalso; omega))
        | (refine a_condI rfl (fun hc => ?_) (fun hc => ?_)) <;> (try (exfalso; omega))
        | (refine a_condN rfl (fun hc => ?_) (fun hc => ?_)) <;> (try (exfalso; omega))
        | (refine Awp.cond rfl (fun hc => ?_) (fun hc => ?_))
        | (refine o_call0 rfl (hcn) ⟨SLe.of_eq rfl, SLe.of_eq rfl, True.intro⟩ rfl ?_; rintro _ _ ⟨rfl, rfl⟩; refine ⟨rfl, ?_⟩))
      refine ⟨(i + 1, _), [], by show i + 1 ≤ s.fs.length; omega, by show s.fs.length - (i + 1) < s.fs.length - i; omega, rfl, ⟨sle_i rfl, sle_i rfl, sle_sl rfl, sle_own, sle_ptr, sle_ptr, sle_sl rfl, sle_sl rfl, True.intro⟩, HLe.cons 65 rfl (HOLe.row ?_) (HLe.cons 16 rfl (HOLe.refl _) (HLe.cons 8 rfl (HOLe.refl _) .nil))⟩
      rw [hst]
    | false =>
      rw [if_neg (by decide)] at hst
      repeat' (first
        | refine Awp.seq ?_
        | refine Awp.block ?_
        | refine Awp.region ?_
        | (refine Ops.nil ?_; show Awp _ _ _ _ _)
        | (refine Ops.nil ?_; show Exists _)
        | (refine Ops.nil ?_; show endK _ _ _ _ _)
        | (refine Awp.skip ?_; show Awp _ _ _ _ _)
        | (refine Awp.skip ?_; show endK _ _ _ _ _)
        | (refine Awp.skip ?_; show Exists _)
        | (refine Awp.exit ?_; show Awp _ _ _ _ _)
        | (refine Awp.exit ?_; show Exists _)
        | (refine Awp.exit ?_; show endK _ _ _ _ _)
        | (refine Awp.ret ?_; show endK _ _ _ _ _)
        | refine o_offT rfl rfl rfl (by first | exact .inl rfl | exact .inr rfl) ?_
        | refine o_offU rfl rfl rfl (by first | exact .inl rfl | exact .inr rfl) ?_
        | refine o_offF rfl rfl rfl (by first | exact .inl rfl | exact .inr rfl) ?_
        | (refine o_add rfl rfl rfl rfl ?_ ?_; omega)
        | refine o_len rfl TtOk rfl rfl rfl (fun _ => ?_)
        | refine o_lenOwn rfl TtOk rfl rfl rfl rfl (fun _ => ?_)
        | (refine o_calm rfl TtOk rfl rfl rfl ?_ (fun _ => ?_); first | exact True.intro | exact ⟨rfl, rfl, rfl, rfl⟩ | exact ⟨rfl, True.intro⟩ | exact ⟨rfl, rfl⟩ | exact ⟨rfl, rfl, rfl⟩ | exact rfl | exact ⟨fun h0 => by cases h0, rfl⟩ | exact (fun h0 => by cases h0) | exact ⟨rfl, by omega⟩ | exact ⟨Nat.succ_ne_zero _, rfl⟩ | omega)
        | refine o_alloc (d := 8) rfl TtOk rfl rfl rfl (fun b8 => ?_)
        | refine o_alloc (d := 13) rfl TtOk rfl rfl rfl (fun b13 => ?_)
        | refine o_alloc (d := 16) rfl TtOk rfl rfl rfl (fun b16 => ?_)
        | refine o_alloc (d := 19) rfl TtOk rfl rfl rfl (fun b19 => ?_)
        | refine o_alloc (d := 21) rfl TtOk rfl rfl rfl (fun b21 => ?_)
        | refine o_alloc (d := 23) rfl TtOk rfl rfl rfl (fun b23 => ?_)
        | refine o_alloc (d := 27) rfl TtOk rfl rfl rfl (fun b27 => ?_)
        | refine o_box (d := 4) rfl rfl rfl rfl (fun b4 => ?_)
        | refine o_store TtOk rfl rfl rfl rfl rfl rfl rfl ⟨rfl, rfl⟩ rfl rfl rfl rfl rfl ?_
        | (refine o_index rfl TtOk rfl rfl rfl rfl rfl rfl ?_ (getq_nat ?_) ?_; omega; omega)
        | (refine o_indexOwn TtOk rfl rfl rfl rfl rfl rfl rfl rfl _ rfl ?_ (fun bO hbO => ?_); (simp only [List.length_map]; omega))
        | (refine o_loadRow TtOk rfl rfl rfl rfl rfl (by assumption) (getq_map (List.getElem?_eq_getElem ?_)) rfl rfl (by first | exact Nat.add_zero _ | rfl) ⟨rfl, rfl⟩ ?_; omega)
        | (refine o_calm rfl TtOk rfl rfl rfl ?_ (fun _ => ?_); (show List.length _ + List.length _ ≤ 9223372036854775807; (try simp only [List.length_append, List.length_cons, List.length_nil]); omega))
        | (refine o_storeRow TtOk rfl rfl rfl rfl rfl rfl (by assumption) (getq_map (List.getElem?_eq_getElem ?_)) rfl rfl (by first | exact Nat.add_zero _ | rfl) ⟨rfl, rfl⟩ rfl rfl ?_; omega)
        | refine o_build TtOk rfl rfl rfl rfl rfl rfl (by repeat' (first | exact True.intro | exact rfl | refine ⟨?_, ?_⟩)) ?_
        | refine o_buildArr0 TtOk rfl rfl rfl rfl ?_
        | refine o_buildSlice TtOk rfl rfl rfl rfl rfl rfl rfl rfl rfl rfl rfl (by repeat' (first | exact True.intro | exact rfl | refine ⟨?_, ?_⟩)) (fun _ => ?_)
        | (refine o_append TtOk rfl rfl rfl rfl rfl rfl rfl rfl rfl (by first | exact True.intro | exact rfl) rfl rfl (fun _ => rfl) ?_ ?_ (fun _ => ?_); (simp only [List.length_map, List.length_cons, List.length_nil, List.length_append, List.length_take, List.length_drop]; omega); (simp only [List.length_map, List.length_cons, List.length_nil, List.length_append, List.length_take, List.length_drop]; omega))
        | (refine o_appendStr TtOk rfl rfl rfl rfl rfl rfl rfl rfl rfl (fun _ => rfl) ?_ (fun _ => ?_); (simp only [List.length_map, List.length_cons, List.length_nil, List.length_append, List.length_take, List.length_drop]; omega))
        | (fail_if_success (refine o_isLit rfl (by first | exact .inl rfl | exact .inr rfl) ?_)); (refine o_splitP rfl rfl (fun hc => ?_) (fun hc => ?_) <;> try (exfalso; omega))
        | (fail_if_success (refine o_isLit rfl (by first | exact .inl rfl | exact .inr rfl) ?_)); (refine o_splitI rfl rfl (fun hc => ?_) (fun hc => ?_) <;> try (exfalso; omega))
        | (fail_if_success (refine o_isLit rfl (by first | exact .inl rfl | exact .inr rfl) ?_)); (refine o_splitN rfl rfl (fun hc => ?_) (fun hc => ?_) <;> try (exfalso; omega))
        | (fail_if_success (refine o_isLit rfl (by first | exact .inl rfl | exact .inr rfl) ?_)); (refine o_split rfl rfl (fun hc => ?_) (fun hc => ?_))
        | refine a_condT rfl ?_
        | refine a_condF rfl ?_
        | (refine a_condP rfl (fun hc => ?_) (fun hc => ?_)) <;> (try (exfalso; omega))
        | (refine a_condI rfl (fun hc => ?_) (fun hc => ?_)) <;> (try (exfalso; omega))
        | (refine a_condN rfl (fun hc => ?_) (fun hc => ?_)) <;> (try (exfalso; omega))
        | (refine Awp.cond rfl (fun hc => ?_) (fun hc => ?_))
        | (refine o_call0 rfl (hcn) ⟨SLe.of_eq rfl, SLe.of_eq rfl, True.intro⟩ rfl ?_; rintro _ _ ⟨rfl, rfl⟩; refine ⟨rfl, ?_⟩))
      refine ⟨(i + 1, _), [], by show i + 1 ≤ s.fs.length; omega, by show s.fs.length - (i + 1) < s.fs.length - i; omega, rfl, ⟨sle_i rfl, sle_i rfl, sle_sl rfl, sle_own, sle_ptr, sle_ptr, sle_sl rfl, sle_sl rfl, True.intro⟩, HLe.cons 65 rfl (HOLe.row ?_) (HLe.cons 16 rfl (HOLe.refl _) (HLe.cons 8 rfl (HOLe.refl _) .nil))⟩
      rw [hst, List.map_append]; rfl
  have hil : i = s.fs.length := by omega
  subst hil
  rw [List.take_length]
  have hkl := keptF_len s.fs gone
  have hou : outF s gone fresh log = ⟨nextF s.next fresh, log, sortS (ltC ordF) (keptF s.fs gone ++ fresh)⟩ := rfl
  generalize outF s gone fresh log = ou at hap hou
  generalize keptF s.fs gone = kept at hkl hou ⊢
  repeat' (first
    | refine Awp.seq ?_
    | refine Awp.block ?_
    | refine Awp.region ?_
    | (refine Ops.nil ?_; show Awp _ _ _ _ _)
    | (refine Ops.nil ?_; show Exists _)
    | (refine Ops.nil ?_; show endK _ _ _ _ _)
    | (refine Awp.skip ?_; show Awp _ _ _ _ _)
    | (refine Awp.skip ?_; show endK _ _ _ _ _)
    | (refine Awp.skip ?_; show Exists _)
    | (refine Awp.exit ?_; show Awp _ _ _ _ _)
    | (refine Awp.exit ?_; show Exists _)
    | (refine Awp.exit ?_; show endK _ _ _ _ _)
    | (refine Awp.ret ?_; show endK _ _ _ _ _)
    | refine o_offT rfl rfl rfl (by first | exact .inl rfl | exact .inr rfl) ?_
    | refine o_offU rfl rfl rfl (by first | exact .inl rfl | exact .inr rfl) ?_
    | refine o_offF rfl rfl rfl (by first | exact .inl rfl | exact .inr rfl) ?_
    | (refine o_add rfl rfl rfl rfl ?_ ?_; omega)
    | refine o_len rfl TtOk rfl rfl rfl (fun _ => ?_)
    | refine o_lenOwn rfl TtOk rfl rfl rfl rfl (fun _ => ?_)
    | (refine o_calm rfl TtOk rfl rfl rfl ?_ (fun _ => ?_); first | exact True.intro | exact ⟨rfl, rfl, rfl, rfl⟩ | exact ⟨rfl, True.intro⟩ | exact ⟨rfl, rfl⟩ | exact ⟨rfl, rfl, rfl⟩ | exact rfl | exact ⟨fun h0 => by cases h0, rfl⟩ | exact (fun h0 => by cases h0) | exact ⟨rfl, by omega⟩ | exact ⟨Nat.succ_ne_zero _, rfl⟩ | omega)
    | refine o_alloc (d := 8) rfl TtOk rfl rfl rfl (fun b8 => ?_)
    | refine o_alloc (d := 13) rfl TtOk rfl rfl rfl (fun b13 => ?_)
    | refine o_alloc (d := 16) rfl TtOk rfl rfl rfl (fun b16 => ?_)
    | refine o_alloc (d := 19) rfl TtOk rfl rfl rfl (fun b19 => ?_)
    | refine o_alloc (d := 21) rfl TtOk rfl rfl rfl (fun b21 => ?_)
    | refine o_alloc (d := 23) rfl TtOk rfl rfl rfl (fun b23 => ?_)
    | refine o_alloc (d := 27) rfl TtOk rfl rfl rfl (fun b27 => ?_)
    | refine o_box (d := 4) rfl rfl rfl rfl (fun b4 => ?_)
    | refine o_store TtOk rfl rfl rfl rfl rfl rfl rfl ⟨rfl, rfl⟩ rfl rfl rfl rfl rfl ?_
    | (refine o_index rfl TtOk rfl rfl rfl rfl rfl rfl ?_ (getq_nat ?_) ?_; omega; omega)
    | (refine o_indexOwn TtOk rfl rfl rfl rfl rfl rfl rfl rfl _ rfl ?_ (fun bO hbO => ?_); (simp only [List.length_map]; omega))
    | (refine o_loadRow TtOk rfl rfl rfl rfl rfl (by assumption) (getq_map (List.getElem?_eq_getElem ?_)) rfl rfl (by first | exact Nat.add_zero _ | rfl) ⟨rfl, rfl⟩ ?_; omega)
    | (refine o_calm rfl TtOk rfl rfl rfl ?_ (fun _ => ?_); (show List.length _ + List.length _ ≤ 9223372036854775807; (try simp only [List.length_append, List.length_cons, List.length_nil]); omega))
    | (refine o_storeRow TtOk rfl rfl rfl rfl rfl rfl (by assumption) (getq_map (List.getElem?_eq_getElem ?_)) rfl rfl (by first | exact Nat.add_zero _ | rfl) ⟨rfl, rfl⟩ rfl rfl ?_; omega)
    | refine o_build TtOk rfl rfl rfl rfl rfl rfl (by repeat' (first | exact True.intro | exact rfl | refine ⟨?_, ?_⟩)) ?_
    | refine o_buildArr0 TtOk rfl rfl rfl rfl ?_
    | refine o_buildSlice TtOk rfl rfl rfl rfl rfl rfl rfl rfl rfl rfl rfl (by repeat' (first | exact True.intro | exact rfl | refine ⟨?_, ?_⟩)) (fun _ => ?_)
    | (refine o_append TtOk rfl rfl rfl rfl rfl rfl rfl rfl rfl (by first | exact True.intro | exact rfl) rfl rfl (fun _ => rfl) ?_ ?_ (fun _ => ?_); (simp only [List.length_map, List.length_cons, List.length_nil, List.length_append, List.length_take, List.length_drop]; omega); (simp only [List.length_map, List.length_cons, List.length_nil, List.length_append, List.length_take, List.length_drop]; omega))
    | (refine o_appendStr TtOk rfl rfl rfl rfl rfl rfl rfl rfl rfl (fun _ => rfl) ?_ (fun _ => ?_); (simp only [List.length_map, List.length_cons, List.length_nil, List.length_append, List.length_take, List.length_drop]; omega))
    | (fail_if_success (refine o_isLit rfl (by first | exact .inl rfl | exact .inr rfl) ?_)); (refine o_splitP rfl rfl (fun hc => ?_) (fun hc => ?_) <;> try (exfalso; omega))
    | (fail_if_success (refine o_isLit rfl (by first | exact .inl rfl | exact .inr rfl) ?_)); (refine o_splitI rfl rfl (fun hc => ?_) (fun hc => ?_) <;> try (exfalso; omega))
    | (fail_if_success (refine o_isLit rfl (by first | exact .inl rfl | exact .inr rfl) ?_)); (refine o_splitN rfl rfl (fun hc => ?_) (fun hc => ?_) <;> try (exfalso; omega))
    | (fail_if_success (refine o_isLit rfl (by first | exact .inl rfl | exact .inr rfl) ?_)); (refine o_split rfl rfl (fun hc => ?_) (fun hc => ?_))
    | refine a_condT rfl ?_
    | refine a_condF rfl ?_
    | (refine a_condP rfl (fun hc => ?_) (fun hc => ?_)) <;> (try (exfalso; omega))
    | (refine a_condI rfl (fun hc => ?_) (fun hc => ?_)) <;> (try (exfalso; omega))
    | (refine a_condN rfl (fun hc => ?_) (fun hc => ?_)) <;> (try (exfalso; omega))
    | (refine Awp.cond rfl (fun hc => ?_) (fun hc => ?_)))
  refine Awp.loop (fun q : Nat × Value => ⟨156, [(85, .i .i64 q.1), (84, .i .i64 fresh.length), (83, .sl 5 (fresh.map eF)), (17, .own 65 q.2), (16, .ptr 16 b16 [] 0), (8, .ptr 8 b8 [] 0)], [(65, .row q.2 79 5 ((kept ++ fresh.take q.1).map eF)), (16, .var b16 (.agg [.i .i64 (nextF s.next (fresh.take q.1)), .i .i64 log, .nil])), (8, .var b8 (.agg [.i .i64 0, .i .i64 0, .nil]))]⟩) (fun q => q.1 ≤ fresh.length ∧ ∀ i (h : i < fresh.length), i < q.1 → ¬ badN fresh[i]) (fun q => fresh.length - q.1) [] (0, v2) ⟨Nat.zero_le _, fun _ _ h => absurd h (Nat.not_lt_zero _)⟩ ?_ ?_
  · refine ⟨rfl, ⟨sle_i rfl, sle_i rfl, sle_sl rfl, sle_own, sle_ptr, sle_ptr, True.intro⟩, HLe.cons 65 rfl (HOLe.row ?_) (HLe.cons 16 rfl (HOLe.refl _) (HLe.cons 8 rfl (HOLe.refl _) .nil))⟩
    rw [List.take_zero, List.append_nil]
  rintro ⟨j, w⟩ ⟨hj, hnb⟩
  dsimp only at hj hnb ⊢
  by_cases hlt : j < fresh.length
  · by_cases hb : badN fresh[j]
    · have hex : ∃ f ∈ fresh, badN f := ⟨_, List.getElem_mem hlt, hb⟩
      rw [if_pos hex] at hap
      subst hap
      unfold badN at hb
      repeat' (first
        | refine Awp.seq ?_
        | refine Awp.block ?_
        | refine Awp.region ?_
        | (refine Ops.nil ?_; show Awp _ _ _ _ _)
        | (refine Ops.nil ?_; show Exists _)
        | (refine Ops.nil ?_; show endK _ _ _ _ _)
        | (refine Awp.skip ?_; show Awp _ _ _ _ _)
        | (refine Awp.skip ?_; show endK _ _ _ _ _)
        | (refine Awp.skip ?_; show Exists _)
        | (refine Awp.exit ?_; show Awp _ _ _ _ _)
        | (refine Awp.exit ?_; show Exists _)
        | (refine Awp.exit ?_; show endK _ _ _ _ _)
        | (refine Awp.ret ?_; show endK _ _ _ _ _)
        | refine o_offT rfl rfl rfl (by first | exact .inl rfl | exact .inr rfl) ?_
        | refine o_offU rfl rfl rfl (by first | exact .inl rfl | exact .inr rfl) ?_
        | refine o_offF rfl rfl rfl (by first | exact .inl rfl | exact .inr rfl) ?_
        | (refine o_add rfl rfl rfl rfl ?_ ?_; omega)
        | refine o_len rfl TtOk rfl rfl rfl (fun _ => ?_)
        | refine o_lenOwn rfl TtOk rfl rfl rfl rfl (fun _ => ?_)
        | (refine o_calm rfl TtOk rfl rfl rfl ?_ (fun _ => ?_); first | exact True.intro | exact ⟨rfl, rfl, rfl, rfl⟩ | exact ⟨rfl, True.intro⟩ | exact ⟨rfl, rfl⟩ | exact ⟨rfl, rfl, rfl⟩ | exact rfl | exact ⟨fun h0 => by cases h0, rfl⟩ | exact (fun h0 => by cases h0) | exact ⟨rfl, by omega⟩ | exact ⟨Nat.succ_ne_zero _, rfl⟩ | omega)
        | refine o_alloc (d := 8) rfl TtOk rfl rfl rfl (fun b8 => ?_)
        | refine o_alloc (d := 13) rfl TtOk rfl rfl rfl (fun b13 => ?_)
        | refine o_alloc (d := 16) rfl TtOk rfl rfl rfl (fun b16 => ?_)
        | refine o_alloc (d := 19) rfl TtOk rfl rfl rfl (fun b19 => ?_)
        | refine o_alloc (d := 21) rfl TtOk rfl rfl rfl (fun b21 => ?_)
        | refine o_alloc (d := 23) rfl TtOk rfl rfl rfl (fun b23 => ?_)
        | refine o_alloc (d := 27) rfl TtOk rfl rfl rfl (fun b27 => ?_)
        | refine o_box (d := 4) rfl rfl rfl rfl (fun b4 => ?_)
        | refine o_store TtOk rfl rfl rfl rfl rfl rfl rfl ⟨rfl, rfl⟩ rfl rfl rfl rfl rfl ?_
        | (refine o_index rfl TtOk rfl rfl rfl rfl rfl rfl ?_ (getq_nat ?_) ?_; omega; omega)
        | (refine o_indexOwn TtOk rfl rfl rfl rfl rfl rfl rfl rfl _ rfl ?_ (fun bO hbO => ?_); (simp only [List.length_map]; omega))
        | (refine o_loadRow TtOk rfl rfl rfl rfl rfl (by assumption) (getq_map (List.getElem?_eq_getElem ?_)) rfl rfl (by first | exact Nat.add_zero _ | rfl) ⟨rfl, rfl⟩ ?_; omega)
        | (refine o_calm rfl TtOk rfl rfl rfl ?_ (fun _ => ?_); (show List.length _ + List.length _ ≤ 9223372036854775807; (try simp only [List.length_append, List.length_cons, List.length_nil]); omega))
        | (refine o_storeRow TtOk rfl rfl rfl rfl rfl rfl (by assumption) (getq_map (List.getElem?_eq_getElem ?_)) rfl rfl (by first | exact Nat.add_zero _ | rfl) ⟨rfl, rfl⟩ rfl rfl ?_; omega)
        | refine o_build TtOk rfl rfl rfl rfl rfl rfl (by repeat' (first | exact True.intro | exact rfl | refine ⟨?_, ?_⟩)) ?_
        | refine o_buildArr0 TtOk rfl rfl rfl rfl ?_
        | refine o_buildSlice TtOk rfl rfl rfl rfl rfl rfl rfl rfl rfl rfl rfl (by repeat' (first | exact True.intro | exact rfl | refine ⟨?_, ?_⟩)) (fun _ => ?_)
        | (refine o_append TtOk rfl rfl rfl rfl rfl rfl rfl rfl rfl (by first | exact True.intro | exact rfl) rfl rfl (fun _ => rfl) ?_ ?_ (fun _ => ?_); (simp only [List.length_map, List.length_cons, List.length_nil, List.length_append, List.length_take, List.length_drop]; omega); (simp only [List.length_map, List.length_cons, List.length_nil, List.length_append, List.length_take, List.length_drop]; omega))
        | (refine o_appendStr TtOk rfl rfl rfl rfl rfl rfl rfl rfl rfl (fun _ => rfl) ?_ (fun _ => ?_); (simp only [List.length_map, List.length_cons, List.length_nil, List.length_append, List.length_take, List.length_drop]; omega))
        | (fail_if_success (refine o_isLit rfl (by first | exact .inl rfl | exact .inr rfl) ?_)); (refine o_splitP rfl rfl (fun hc => ?_) (fun hc => ?_) <;> try (exfalso; omega))
        | (fail_if_success (refine o_isLit rfl (by first | exact .inl rfl | exact .inr rfl) ?_)); (refine o_splitI rfl rfl (fun hc => ?_) (fun hc => ?_) <;> try (exfalso; omega))
        | (fail_if_success (refine o_isLit rfl (by first | exact .inl rfl | exact .inr rfl) ?_)); (refine o_splitN rfl rfl (fun hc => ?_) (fun hc => ?_) <;> try (exfalso; omega))
        | (fail_if_success (refine o_isLit rfl (by first | exact .inl rfl | exact .inr rfl) ?_)); (refine o_split rfl rfl (fun hc => ?_) (fun hc => ?_))
        | refine a_condT rfl ?_
        | refine a_condF rfl ?_
        | (refine a_condP rfl (fun hc => ?_) (fun hc => ?_)) <;> (try (exfalso; omega))
        | (refine a_condI rfl (fun hc => ?_) (fun hc => ?_)) <;> (try (exfalso; omega))
        | (refine a_condN rfl (fun hc => ?_) (fun hc => ?_)) <;> (try (exfalso; omega))
        | (refine Awp.cond rfl (fun hc => ?_) (fun hc => ?_)))
      all_goals refine end_all [] [] (.tup [eSt zS, .i .i64 1]) rfl ?_ ?_ (rle_tup2 cle_zS (CLe.of_eq rfl) rfl rfl) .nil ⟨rfl, rfl⟩ _ (.inl rfl)
      all_goals first | exact ⟨trivial, trivial⟩ | trivial | exact ⟨trivial, trivial, trivial⟩ | (repeat' (first | exact True.intro | exact rfl | refine ⟨?_, ?_⟩))
    · have hnx := nextF_step s.next fresh j hlt
      have hfl : (kept ++ fresh.take j).length ≤ 2000 := by rw [List.length_append, List.length_take]; omega
      have hap2 : kept ++ fresh.take (j + 1) = (kept ++ fresh.take j) ++ [fresh[j]] := by rw [List.take_succ_eq_append_getElem hlt, List.append_assoc]
      have hb' := hb
      unfold badN at hb'
      generalize nextF s.next (fresh.take j) = nx at hnx ⊢
      generalize kept ++ fresh.take j = out at hfl hap2 ⊢
      repeat' (first
        | refine Awp.seq ?_
        | refine Awp.block ?_
        | refine Awp.region ?_
        | (refine Ops.nil ?_; show Awp _ _ _ _ _)
        | (refine Ops.nil ?_; show Exists _)
        | (refine Ops.nil ?_; show endK _ _ _ _ _)
        | (refine Awp.skip ?_; show Awp _ _ _ _ _)
        | (refine Awp.skip ?_; show endK _ _ _ _ _)
        | (refine Awp.skip ?_; show Exists _)
        | (refine Awp.exit ?_; show Awp _ _ _ _ _)
        | (refine Awp.exit ?_; show Exists _)
        | (refine Awp.exit ?_; show endK _ _ _ _ _)
        | (refine Awp.ret ?_; show endK _ _ _ _ _)
        | refine o_offT rfl rfl rfl (by first | exact .inl rfl | exact .inr rfl) ?_
        | refine o_offU rfl rfl rfl (by first | exact .inl rfl | exact .inr rfl) ?_
        | refine o_offF rfl rfl rfl (by first | exact .inl rfl | exact .inr rfl) ?_
        | (refine o_add rfl rfl rfl rfl ?_ ?_; omega)
        | refine o_len rfl TtOk rfl rfl rfl (fun _ => ?_)
        | refine o_lenOwn rfl TtOk rfl rfl rfl rfl (fun _ => ?_)
        | (refine o_calm rfl TtOk rfl rfl rfl ?_ (fun _ => ?_); first | exact True.intro | exact ⟨rfl, rfl, rfl, rfl⟩ | exact ⟨rfl, True.intro⟩ | exact ⟨rfl, rfl⟩ | exact ⟨rfl, rfl, rfl⟩ | exact rfl | exact ⟨fun h0 => by cases h0, rfl⟩ | exact (fun h0 => by cases h0) | exact ⟨rfl, by omega⟩ | exact ⟨Nat.succ_ne_zero _, rfl⟩ | omega)
        | refine o_alloc (d := 8) rfl TtOk rfl rfl rfl (fun b8 => ?_)
        | refine o_alloc (d := 13) rfl TtOk rfl rfl rfl (fun b13 => ?_)
        | refine o_alloc (d := 16) rfl TtOk rfl rfl rfl (fun b16 => ?_)
        | refine o_alloc (d := 19) rfl TtOk rfl rfl rfl (fun b19 => ?_)
        | refine o_alloc (d := 21) rfl TtOk rfl rfl rfl (fun b21 => ?_)
        | refine o_alloc (d := 23) rfl TtOk rfl rfl rfl (fun b23 => ?_)
        | refine o_alloc (d := 27) rfl TtOk rfl rfl rfl (fun b27 => ?_)
        | refine o_box (d := 4) rfl rfl rfl rfl (fun b4 => ?_)
        | refine o_store TtOk rfl rfl rfl rfl rfl rfl rfl ⟨rfl, rfl⟩ rfl rfl rfl rfl rfl ?_
        | (refine o_index rfl TtOk rfl rfl rfl rfl rfl rfl ?_ (getq_nat ?_) ?_; omega; omega)
        | (refine o_indexOwn TtOk rfl rfl rfl rfl rfl rfl rfl rfl _ rfl ?_ (fun bO hbO => ?_); (simp only [List.length_map]; omega))
        | (refine o_loadRow TtOk rfl rfl rfl rfl rfl (by assumption) (getq_map (List.getElem?_eq_getElem ?_)) rfl rfl (by first | exact Nat.add_zero _ | rfl) ⟨rfl, rfl⟩ ?_; omega)
        | (refine o_calm rfl TtOk rfl rfl rfl ?_ (fun _ => ?_); (show List.length _ + List.length _ ≤ 9223372036854775807; (try simp only [List.length_append, List.length_cons, List.length_nil]); omega))
        | (refine o_storeRow TtOk rfl rfl rfl rfl rfl rfl (by assumption) (getq_map (List.getElem?_eq_getElem ?_)) rfl rfl (by first | exact Nat.add_zero _ | rfl) ⟨rfl, rfl⟩ rfl rfl ?_; omega)
        | refine o_build TtOk rfl rfl rfl rfl rfl rfl (by repeat' (first | exact True.intro | exact rfl | refine ⟨?_, ?_⟩)) ?_
        | refine o_buildArr0 TtOk rfl rfl rfl rfl ?_
        | refine o_buildSlice TtOk rfl rfl rfl rfl rfl rfl rfl rfl rfl rfl rfl (by repeat' (first | exact True.intro | exact rfl | refine ⟨?_, ?_⟩)) (fun _ => ?_)
        | (refine o_append TtOk rfl rfl rfl rfl rfl rfl rfl rfl rfl (by first | exact True.intro | exact rfl) rfl rfl (fun _ => rfl) ?_ ?_ (fun _ => ?_); (simp only [List.length_map, List.length_cons, List.length_nil, List.length_append, List.length_take, List.length_drop]; omega); (simp only [List.length_map, List.length_cons, List.length_nil, List.length_append, List.length_take, List.length_drop]; omega))
        | (refine o_appendStr TtOk rfl rfl rfl rfl rfl rfl rfl rfl rfl (fun _ => rfl) ?_ (fun _ => ?_); (simp only [List.length_map, List.length_cons, List.length_nil, List.length_append, List.length_take, List.length_drop]; omega))
        | (fail_if_success (refine o_isLit rfl (by first | exact .inl rfl | exact .inr rfl) ?_)); (refine o_splitP rfl rfl (fun hc => ?_) (fun hc => ?_) <;> try (exfalso; omega))
        | (fail_if_success (refine o_isLit rfl (by first | exact .inl rfl | exact .inr rfl) ?_)); (refine o_splitI rfl rfl (fun hc => ?_) (fun hc => ?_) <;> try (exfalso; omega))
        | (fail_if_success (refine o_isLit rfl (by first | exact .inl rfl | exact .inr rfl) ?_)); (refine o_splitN rfl rfl (fun hc => ?_) (fun hc => ?_) <;> try (exfalso; omega))
        | (fail_if_success (refine o_isLit rfl (by first | exact .inl rfl | exact .inr rfl) ?_)); (refine o_split rfl rfl (fun hc => ?_) (fun hc => ?_))
        | refine a_condT rfl ?_
        | refine a_condF rfl ?_
        | (refine a_condP rfl (fun hc => ?_) (fun hc => ?_)) <;> (try (exfalso; omega))
        | (refine a_condI rfl (fun hc => ?_) (fun hc => ?_)) <;> (try (exfalso; omega))
        | (refine a_condN rfl (fun hc => ?_) (fun hc => ?_)) <;> (try (exfalso; omega))
        | (refine Awp.cond rfl (fun hc => ?_) (fun hc => ?_)))
      all_goals refine ⟨(j + 1, _), [], ⟨hlt, fun i h hi => by
        rcases Nat.lt_succ_iff_lt_or_eq.1 hi with h2 | h2
        · exact hnb i h h2
        · subst h2; exact hb⟩, by show fresh.length - (j + 1) < fresh.length - j; omega, rfl, ⟨sle_i rfl, sle_i rfl, sle_sl rfl, sle_own, sle_ptr, sle_ptr, True.intro⟩, HLe.cons 65 rfl (HOLe.row ?_) (HLe.cons 16 rfl (HOLe.var (CLe.of_eq ?_)) (HLe.cons 8 rfl (HOLe.refl _) .nil))⟩
      · rw [hap2, List.map_append]; rfl
      · rw [hnx]
  have hjl : j = fresh.length := by omega
  subst hjl
  rw [List.take_length]
  have hnex : ¬ ∃ f ∈ fresh, badN f := fun ⟨f, hf, hb⟩ => by
    obtain ⟨i, hi, rfl⟩ := List.getElem_of_mem hf
    exact hnb i hi hi hb
  rw [if_neg hnex] at hap
  have hLl : (kept ++ fresh).length ≤ 2000 := by rw [List.length_append]; omega
  generalize nextF s.next fresh = nx at hou ⊢
  generalize kept ++ fresh = L at hou hLl ⊢
  clear hnb hnex
  repeat' (first
    | refine Awp.seq ?_
    | refine Awp.block ?_
    | refine Awp.region ?_
    | (refine Ops.nil ?_; show Awp _ _ _ _ _)
    | (refine Ops.nil ?_; show Exists _)
    | (refine Ops.nil ?_; show endK _ _ _ _ _)
    | (refine Awp.skip ?_; show Awp _ _ _ _ _)
    | (refine Awp.skip ?_; show endK _ _ _ _ _)
    | (refine Awp.skip ?_; show Exists _)
    | (refine Awp.exit ?_; show Awp _ _ _ _ _)
    | (refine Awp.exit ?_; show Exists _)
    | (refine Awp.exit ?_; show endK _ _ _ _ _)
    | (refine Awp.ret ?_; show endK _ _ _ _ _)
    | refine o_offT rfl rfl rfl (by first | exact .inl rfl | exact .inr rfl) ?_
    | refine o_offU rfl rfl rfl (by first | exact .inl rfl | exact .inr rfl) ?_
    | refine o_offF rfl rfl rfl (by first | exact .inl rfl | exact .inr rfl) ?_
    | (refine o_add rfl rfl rfl rfl ?_ ?_; omega)
    | refine o_len rfl TtOk rfl rfl rfl (fun _ => ?_)
    | refine o_lenOwn rfl TtOk rfl rfl rfl rfl (fun _ => ?_)
    | (refine o_calm rfl TtOk rfl rfl rfl ?_ (fun _ => ?_); first | exact True.intro | exact ⟨rfl, rfl, rfl, rfl⟩ | exact ⟨rfl, True.intro⟩ | exact ⟨rfl, rfl⟩ | exact ⟨rfl, rfl, rfl⟩ | exact rfl | exact ⟨fun h0 => by cases h0, rfl⟩ | exact (fun h0 => by cases h0) | exact ⟨rfl, by omega⟩ | exact ⟨Nat.succ_ne_zero _, rfl⟩ | omega)
    | refine o_alloc (d := 8) rfl TtOk rfl rfl rfl (fun b8 => ?_)
    | refine o_alloc (d := 13) rfl TtOk rfl rfl rfl (fun b13 => ?_)
    | refine o_alloc (d := 16) rfl TtOk rfl rfl rfl (fun b16 => ?_)
    | refine o_alloc (d := 19) rfl TtOk rfl rfl rfl (fun b19 => ?_)
    | refine o_alloc (d := 21) rfl TtOk rfl rfl rfl (fun b21 => ?_)
    | refine o_alloc (d := 23) rfl TtOk rfl rfl rfl (fun b23 => ?_)
    | refine o_alloc (d := 27) rfl TtOk rfl rfl rfl (fun b27 => ?_)
    | refine o_box (d := 4) rfl rfl rfl rfl (fun b4 => ?_)
    | refine o_store TtOk rfl rfl rfl rfl rfl rfl rfl ⟨rfl, rfl⟩ rfl rfl rfl rfl rfl ?_
    | (refine o_index rfl TtOk rfl rfl rfl rfl rfl rfl ?_ (getq_nat ?_) ?_; omega; omega)
    | (refine o_indexOwn TtOk rfl rfl rfl rfl rfl rfl rfl rfl _ rfl ?_ (fun bO hbO => ?_); (simp only [List.length_map]; omega))
    | (refine o_loadRow TtOk rfl rfl rfl rfl rfl (by assumption) (getq_map (List.getElem?_eq_getElem ?_)) rfl rfl (by first | exact Nat.add_zero _ | rfl) ⟨rfl, rfl⟩ ?_; omega)
    | (refine o_calm rfl TtOk rfl rfl rfl ?_ (fun _ => ?_); (show List.length _ + List.length _ ≤ 9223372036854775807; (try simp only [List.length_append, List.length_cons, List.length_nil]); omega))
    | (refine o_storeRow TtOk rfl rfl rfl rfl rfl rfl (by assumption) (getq_map (List.getElem?_eq_getElem ?_)) rfl rfl (by first | exact Nat.add_zero _ | rfl) ⟨rfl, rfl⟩ rfl rfl ?_; omega)
    | refine o_build TtOk rfl rfl rfl rfl rfl rfl (by repeat' (first | exact True.intro | exact rfl | refine ⟨?_, ?_⟩)) ?_
    | refine o_buildArr0 TtOk rfl rfl rfl rfl ?_
    | refine o_buildSlice TtOk rfl rfl rfl rfl rfl rfl rfl rfl rfl rfl rfl (by repeat' (first | exact True.intro | exact rfl | refine ⟨?_, ?_⟩)) (fun _ => ?_)
    | (refine o_append TtOk rfl rfl rfl rfl rfl rfl rfl rfl rfl (by first | exact True.intro | exact rfl) rfl rfl (fun _ => rfl) ?_ ?_ (fun _ => ?_); (simp only [List.length_map, List.length_cons, List.length_nil, List.length_append, List.length_take, List.length_drop]; omega); (simp only [List.length_map, List.length_cons, List.length_nil, List.length_append, List.length_take, List.length_drop]; omega))
    | (refine o_appendStr TtOk rfl rfl rfl rfl rfl rfl rfl rfl rfl (fun _ => rfl) ?_ (fun _ => ?_); (simp only [List.length_map, List.length_cons, List.length_nil, List.length_append, List.length_take, List.length_drop]; omega))
    | (fail_if_success (refine o_isLit rfl (by first | exact .inl rfl | exact .inr rfl) ?_)); (refine o_splitP rfl rfl (fun hc => ?_) (fun hc => ?_) <;> try (exfalso; omega))
    | (fail_if_success (refine o_isLit rfl (by first | exact .inl rfl | exact .inr rfl) ?_)); (refine o_splitI rfl rfl (fun hc => ?_) (fun hc => ?_) <;> try (exfalso; omega))
    | (fail_if_success (refine o_isLit rfl (by first | exact .inl rfl | exact .inr rfl) ?_)); (refine o_splitN rfl rfl (fun hc => ?_) (fun hc => ?_) <;> try (exfalso; omega))
    | (fail_if_success (refine o_isLit rfl (by first | exact .inl rfl | exact .inr rfl) ?_)); (refine o_split rfl rfl (fun hc => ?_) (fun hc => ?_))
    | refine a_condT rfl ?_
    | refine a_condF rfl ?_
    | (refine a_condP rfl (fun hc => ?_) (fun hc => ?_)) <;> (try (exfalso; omega))
    | (refine a_condI rfl (fun hc => ?_) (fun hc => ?_)) <;> (try (exfalso; omega))
    | (refine a_condN rfl (fun hc => ?_) (fun hc => ?_)) <;> (try (exfalso; omega))
    | (refine Awp.cond rfl (fun hc => ?_) (fun hc => ?_)))
  refine Awp.loop (fun q : Nat => ⟨156, [(112, .i .i64 q), (111, .i .i64 L.length), (110, .sl 5 (L.map eF)), (16, .ptr 16 b16 [] 0), (8, .ptr 8 b8 [] 0)], [(16, .var b16 (.agg [.i .i64 nx, .i .i64 log, .sl 5 ((sortS (ltC ordF) (L.take q)).map eF)])), (8, .var b8 (.agg [.i .i64 0, .i .i64 0, .nil]))]⟩) (fun q => q ≤ L.length) (fun q => L.length - q) [65] 0 (Nat.zero_le _) ?_ ?_
  · exact ⟨rfl, ⟨sle_i rfl, sle_i rfl, SLe.of_cle (CLe.fz (.head _)) rfl, sle_ptr, sle_ptr, True.intro⟩, HLe.cons 16 rfl (HOLe.var (CLe.agg (.cons (CLe.refl _) (.cons (CLe.refl _) (.cons CLe.nilsl .nil))))) (HLe.cons 8 rfl (HOLe.refl _) .nil)⟩
  intro k hk
  by_cases hlt : k < L.length
  · have hsu := sortS_succ (lt := ltC ordF) L k hlt
    have hsl := sortS_len wo_order (L.take k)
    rw [List.length_take] at hsl
    generalize sortS (ltC ordF) (L.take k) = M at hsu hsl ⊢
    repeat' (first
      | refine Awp.seq ?_
      | refine Awp.block ?_
      | refine Awp.region ?_
      | (refine Ops.nil ?_; show Awp _ _ _ _ _)
      | (refine Ops.nil ?_; show Exists _)
      | (refine Ops.nil ?_; show endK _ _ _ _ _)
      | (refine Awp.skip ?_; show Awp _ _ _ _ _)
      | (refine Awp.skip ?_; show endK _ _ _ _ _)
      | (refine Awp.skip ?_; show Exists _)
      | (refine Awp.exit ?_; show Awp _ _ _ _ _)
      | (refine Awp.exit ?_; show Exists _)
      | (refine Awp.exit ?_; show endK _ _ _ _ _)
      | (refine Awp.ret ?_; show endK _ _ _ _ _)
      | refine o_offT rfl rfl rfl (by first | exact .inl rfl | exact .inr rfl) ?_
      | refine o_offU rfl rfl rfl (by first | exact .inl rfl | exact .inr rfl) ?_
      | refine o_offF rfl rfl rfl (by first | exact .inl rfl | exact .inr rfl) ?_
      | (refine o_add rfl rfl rfl rfl ?_ ?_; omega)
      | refine o_len rfl TtOk rfl rfl rfl (fun _ => ?_)
      | refine o_lenOwn rfl TtOk rfl rfl rfl rfl (fun _ => ?_)
      | (refine o_calm rfl TtOk rfl rfl rfl ?_ (fun _ => ?_); first | exact True.intro | exact ⟨rfl, rfl, rfl, rfl⟩ | exact ⟨rfl, True.intro⟩ | exact ⟨rfl, rfl⟩ | exact ⟨rfl, rfl, rfl⟩ | exact rfl | exact ⟨fun h0 => by cases h0, rfl⟩ | exact (fun h0 => by cases h0) | exact ⟨rfl, by omega⟩ | exact ⟨Nat.succ_ne_zero _, rfl⟩ | omega)
      | refine o_alloc (d := 8) rfl TtOk rfl rfl rfl (fun b8 => ?_)
      | refine o_alloc (d := 13) rfl TtOk rfl rfl rfl (fun b13 => ?_)
      | refine o_alloc (d := 16) rfl TtOk rfl rfl rfl (fun b16 => ?_)
      | refine o_alloc (d := 19) rfl TtOk rfl rfl rfl (fun b19 => ?_)
      | refine o_alloc (d := 21) rfl TtOk rfl rfl rfl (fun b21 => ?_)
      | refine o_alloc (d := 23) rfl TtOk rfl rfl rfl (fun b23 => ?_)
      | refine o_alloc (d := 27) rfl TtOk rfl rfl rfl (fun b27 => ?_)
      | refine o_box (d := 4) rfl rfl rfl rfl (fun b4 => ?_)
      | refine o_store TtOk rfl rfl rfl rfl rfl rfl rfl ⟨rfl, rfl⟩ rfl rfl rfl rfl rfl ?_
      | (refine o_index rfl TtOk rfl rfl rfl rfl rfl rfl ?_ (getq_nat ?_) ?_; omega; omega)
      | (refine o_indexOwn TtOk rfl rfl rfl rfl rfl rfl rfl rfl _ rfl ?_ (fun bO hbO => ?_); (simp only [List.length_map]; omega))
      | (refine o_loadRow TtOk rfl rfl rfl rfl rfl (by assumption) (getq_map (List.getElem?_eq_getElem ?_)) rfl rfl (by first | exact Nat.add_zero _ | rfl) ⟨rfl, rfl⟩ ?_; omega)
      | (refine o_calm rfl TtOk rfl rfl rfl ?_ (fun _ => ?_); (show List.length _ + List.length _ ≤ 9223372036854775807; (try simp only [List.length_append, List.length_cons, List.length_nil]); omega))
      | (refine o_storeRow TtOk rfl rfl rfl rfl rfl rfl (by assumption) (getq_map (List.getElem?_eq_getElem ?_)) rfl rfl (by first | exact Nat.add_zero _ | rfl) ⟨rfl, rfl⟩ rfl rfl ?_; omega)
      | refine o_build TtOk rfl rfl rfl rfl rfl rfl (by repeat' (first | exact True.intro | exact rfl | refine ⟨?_, ?_⟩)) ?_
      | refine o_buildArr0 TtOk rfl rfl rfl rfl ?_
      | refine o_buildSlice TtOk rfl rfl rfl rfl rfl rfl rfl rfl rfl rfl rfl (by repeat' (first | exact True.intro | exact rfl | refine ⟨?_, ?_⟩)) (fun _ => ?_)
      | (refine o_append TtOk rfl rfl rfl rfl rfl rfl rfl rfl rfl (by first | exact True.intro | exact rfl) rfl rfl (fun _ => rfl) ?_ ?_ (fun _ => ?_); (simp only [List.length_map, List.length_cons, List.length_nil, List.length_append, List.length_take, List.length_drop]; omega); (simp only [List.length_map, List.length_cons, List.length_nil, List.length_append, List.length_take, List.length_drop]; omega))
      | (refine o_appendStr TtOk rfl rfl rfl rfl rfl rfl rfl rfl rfl (fun _ => rfl) ?_ (fun _ => ?_); (simp only [List.length_map, List.length_cons, List.length_nil, List.length_append, List.length_take, List.length_drop]; omega))
      | (fail_if_success (refine o_isLit rfl (by first | exact .inl rfl | exact .inr rfl) ?_)); (refine o_splitP rfl rfl (fun hc => ?_) (fun hc => ?_) <;> try (exfalso; omega))
      | (fail_if_success (refine o_isLit rfl (by first | exact .inl rfl | exact .inr rfl) ?_)); (refine o_splitI rfl rfl (fun hc => ?_) (fun hc => ?_) <;> try (exfalso; omega))
      | (fail_if_success (refine o_isLit rfl (by first | exact .inl rfl | exact .inr rfl) ?_)); (refine o_splitN rfl rfl (fun hc => ?_) (fun hc => ?_) <;> try (exfalso; omega))
      | (fail_if_success (refine o_isLit rfl (by first | exact .inl rfl | exact .inr rfl) ?_)); (refine o_split rfl rfl (fun hc => ?_) (fun hc => ?_))
      | refine a_condT rfl ?_
      | refine a_condF rfl ?_
      | (refine a_condP rfl (fun hc => ?_) (fun hc => ?_)) <;> (try (exfalso; omega))
      | (refine a_condI rfl (fun hc => ?_) (fun hc => ?_)) <;> (try (exfalso; omega))
      | (refine a_condN rfl (fun hc => ?_) (fun hc => ?_)) <;> (try (exfalso; omega))
      | (refine Awp.cond rfl (fun hc => ?_) (fun hc => ?_)))
    rename_i v116 _ _ _ _ _ _
    refine Awp.loop (fun q : Nat × Bool × List Fl × Value => ⟨156, [(120, .i .i64 q.1), (119, .i .i64 M.length), (118, .sl 5 (M.map eF)), (25, .b q.2.1), (24, .own 116 q.2.2.2), (23, .ptr 23 b23 [] 0), (16, .ptr 16 b16 [] 0), (8, .ptr 8 b8 [] 0), (112, .i .i64 k), (111, .i .i64 L.length), (110, .sl 5 (L.map eF))], [(116, .row q.2.2.2 79 5 (q.2.2.1.map eF)), (23, .var b23 (eF L[k])), (16, .var b16 (.agg [.i .i64 nx, .i .i64 log, .sl 5 (M.map eF)])), (8, .var b8 (.agg [.i .i64 0, .i .i64 0, .nil]))]⟩) (fun q => q.1 ≤ M.length ∧ Bld L[k] M q.1 q.2.1 q.2.2.1) (fun q => M.length - q.1) [] (0, false, [], v116) ⟨Nat.zero_le _, .inl ⟨rfl, rfl, fun y hy => by cases hy⟩⟩ ?_ ?_
    · exact ⟨rfl, ⟨sle_i rfl, sle_i rfl, sle_sl rfl, SLe.of_eq rfl, sle_own, sle_ptr, sle_ptr, sle_ptr, sle_i rfl, sle_i rfl, sle_sl rfl, True.intro⟩, HLe.cons 116 rfl (HOLe.refl _) (HLe.cons 23 rfl (HOLe.refl _) (HLe.cons 16 rfl (HOLe.refl _) (HLe.cons 8 rfl (HOLe.refl _) .nil)))⟩
    rintro ⟨j, done, out, w2⟩ ⟨hj, hbd⟩
    dsimp only at hj hbd ⊢
    have hol := hbd.len
    by_cases hjl : j < M.length
    · cases done with
      | true =>
        have hn := hbd.go3 hjl
        repeat' (first
          | refine Awp.seq ?_
          | refine Awp.block ?_
          | refine Awp.region ?_
          | (refine Ops.nil ?_; show Awp _ _ _ _ _)
          | (refine Ops.nil ?_; show Exists _)
          | (refine Ops.nil ?_; show endK _ _ _ _ _)
          | (refine Awp.skip ?_; show Awp _ _ _ _ _)
          | (refine Awp.skip ?_; show endK _ _ _ _ _)
          | (refine Awp.skip ?_; show Exists _)
          | (refine Awp.exit ?_; show Awp _ _ _ _ _)
          | (refine Awp.exit ?_; show Exists _)
          | (refine Awp.exit ?_; show endK _ _ _ _ _)
          | (refine Awp.ret ?_; show endK _ _ _ _ _)
          | refine o_offT rfl rfl rfl (by first | exact .inl rfl | exact .inr rfl) ?_
          | refine o_offU rfl rfl rfl (by first | exact .inl rfl | exact .inr rfl) ?_
          | refine o_offF rfl rfl rfl (by first | exact .inl rfl | exact .inr rfl) ?_
          | (refine o_add rfl rfl rfl rfl ?_ ?_; omega)
          | refine o_len rfl TtOk rfl rfl rfl (fun _ => ?_)
          | refine o_lenOwn rfl TtOk rfl rfl rfl rfl (fun _ => ?_)
          | (refine o_calm rfl TtOk rfl rfl rfl ?_ (fun _ => ?_); first | exact True.intro | exact ⟨rfl, rfl, rfl, rfl⟩ | exact ⟨rfl, True.intro⟩ | exact ⟨rfl, rfl⟩ | exact ⟨rfl, rfl, rfl⟩ | exact rfl | exact ⟨fun h0 => by cases h0, rfl⟩ | exact (fun h0 => by cases h0) | exact ⟨rfl, by omega⟩ | exact ⟨Nat.succ_ne_zero _, rfl⟩ | omega)
          | refine o_alloc (d := 8) rfl TtOk rfl rfl rfl (fun b8 => ?_)
          | refine o_alloc (d := 13) rfl TtOk rfl rfl rfl (fun b13 => ?_)
          | refine o_alloc (d := 16) rfl TtOk rfl rfl rfl (fun b16 => ?_)
          | refine o_alloc (d := 19) rfl TtOk rfl rfl rfl (fun b19 => ?_)
          | refine o_alloc (d := 21) rfl TtOk rfl rfl rfl (fun b21 => ?_)
          | refine o_alloc (d := 23) rfl TtOk rfl rfl rfl (fun b23 => ?_)
          | refine o_alloc (d := 27) rfl TtOk rfl rfl rfl (fun b27 => ?_)
          | refine o_box (d := 4) rfl rfl rfl rfl (fun b4 => ?_)
          | refine o_store TtOk rfl rfl rfl rfl rfl rfl rfl ⟨rfl, rfl⟩ rfl rfl rfl rfl rfl ?_
          | (refine o_index rfl TtOk rfl rfl rfl rfl rfl rfl ?_ (getq_nat ?_) ?_; omega; omega)
          | (refine o_indexOwn TtOk rfl rfl rfl rfl rfl rfl rfl rfl _ rfl ?_ (fun bO hbO => ?_); (simp only [List.length_map]; omega))
          | (refine o_loadRow TtOk rfl rfl rfl rfl rfl (by assumption) (getq_map (List.getElem?_eq_getElem ?_)) rfl rfl (by first | exact Nat.add_zero _ | rfl) ⟨rfl, rfl⟩ ?_; omega)
          | (refine o_calm rfl TtOk rfl rfl rfl ?_ (fun _ => ?_); (show List.length _ + List.length _ ≤ 9223372036854775807; (try simp only [List.length_append, List.length_cons, List.length_nil]); omega))
          | (refine o_storeRow TtOk rfl rfl rfl rfl rfl rfl (by assumption) (getq_map (List.getElem?_eq_getElem ?_)) rfl rfl (by first | exact Nat.add_zero _ | rfl) ⟨rfl, rfl⟩ rfl rfl ?_; omega)
          | refine o_build TtOk rfl rfl rfl rfl rfl rfl (by repeat' (first | exact True.intro | exact rfl | refine ⟨?_, ?_⟩)) ?_
          | refine o_buildArr0 TtOk rfl rfl rfl rfl ?_
          | refine o_buildSlice TtOk rfl rfl rfl rfl rfl rfl rfl rfl rfl rfl rfl (by repeat' (first | exact True.intro | exact rfl | refine ⟨?_, ?_⟩)) (fun _ => ?_)
          | (refine o_append TtOk rfl rfl rfl rfl rfl rfl rfl rfl rfl (by first | exact True.intro | exact rfl) rfl rfl (fun _ => rfl) ?_ ?_ (fun _ => ?_); (simp only [List.length_map, List.length_cons, List.length_nil, List.length_append, List.length_take, List.length_drop]; omega); (simp only [List.length_map, List.length_cons, List.length_nil, List.length_append, List.length_take, List.length_drop]; omega))
          | (refine o_appendStr TtOk rfl rfl rfl rfl rfl rfl rfl rfl rfl (fun _ => rfl) ?_ (fun _ => ?_); (simp only [List.length_map, List.length_cons, List.length_nil, List.length_append, List.length_take, List.length_drop]; omega))
          | (fail_if_success (refine o_isLit rfl (by first | exact .inl rfl | exact .inr rfl) ?_)); (refine o_splitP rfl rfl (fun hc => ?_) (fun hc => ?_) <;> try (exfalso; omega))
          | (fail_if_success (refine o_isLit rfl (by first | exact .inl rfl | exact .inr rfl) ?_)); (refine o_splitI rfl rfl (fun hc => ?_) (fun hc => ?_) <;> try (exfalso; omega))
          | (fail_if_success (refine o_isLit rfl (by first | exact .inl rfl | exact .inr rfl) ?_)); (refine o_splitN rfl rfl (fun hc => ?_) (fun hc => ?_) <;> try (exfalso; omega))
          | (fail_if_success (refine o_isLit rfl (by first | exact .inl rfl | exact .inr rfl) ?_)); (refine o_split rfl rfl (fun hc => ?_) (fun hc => ?_))
          | refine a_condT rfl ?_
          | refine a_condF rfl ?_
          | (refine a_condP rfl (fun hc => ?_) (fun hc => ?_)) <;> (try (exfalso; omega))
          | (refine a_condI rfl (fun hc => ?_) (fun hc => ?_)) <;> (try (exfalso; omega))
          | (refine a_condN rfl (fun hc => ?_) (fun hc => ?_)) <;> (try (exfalso; omega))
          | (refine Awp.cond rfl (fun hc => ?_) (fun hc => ?_)))
        refine ⟨(j + 1, true, out ++ [M[j]], _), [], ⟨hjl, hn⟩, by show M.length - (j + 1) < M.length - j; omega, rfl, ⟨sle_i rfl, sle_i rfl, sle_sl rfl, SLe.of_eq rfl, sle_own, sle_ptr, sle_ptr, sle_ptr, sle_i rfl, sle_i rfl, sle_sl rfl, True.intro⟩, HLe.cons 116 rfl (HOLe.row ?_) (HLe.cons 23 rfl (HOLe.refl _) (HLe.cons 16 rfl (HOLe.refl _) (HLe.cons 8 rfl (HOLe.refl _) .nil)))⟩
        rw [List.map_append]; rfl
      | false =>
        have hah := rahead_spec L[k] M[j]
        cases hv : aheadF L[k] M[j] with
        | true =>
          have hn := hbd.go1 hjl hv
          rw [hv] at hah
          repeat' (first
            | refine Awp.seq ?_
            | refine Awp.block ?_
            | refine Awp.region ?_
            | (refine Ops.nil ?_; show Awp _ _ _ _ _)
            | (refine Ops.nil ?_; show Exists _)
            | (refine Ops.nil ?_; show endK _ _ _ _ _)
            | (refine Awp.skip ?_; show Awp _ _ _ _ _)
            | (refine Awp.skip ?_; show endK _ _ _ _ _)
            | (refine Awp.skip ?_; show Exists _)
            | (refine Awp.exit ?_; show Awp _ _ _ _ _)
            | (refine Awp.exit ?_; show Exists _)
            | (refine Awp.exit ?_; show endK _ _ _ _ _)
            | (refine Awp.ret ?_; show endK _ _ _ _ _)
            | refine o_offT rfl rfl rfl (by first | exact .inl rfl | exact .inr rfl) ?_
            | refine o_offU rfl rfl rfl (by first | exact .inl rfl | exact .inr rfl) ?_
            | refine o_offF rfl rfl rfl (by first | exact .inl rfl | exact .inr rfl) ?_
            | (refine o_add rfl rfl rfl rfl ?_ ?_; omega)
            | refine o_len rfl TtOk rfl rfl rfl (fun _ => ?_)
            | refine o_lenOwn rfl TtOk rfl rfl rfl rfl (fun _ => ?_)
            | (refine o_calm rfl TtOk rfl rfl rfl ?_ (fun _ => ?_); first | exact True.intro | exact ⟨rfl, rfl, rfl, rfl⟩ | exact ⟨rfl, True.intro⟩ | exact ⟨rfl, rfl⟩ | exact ⟨rfl, rfl, rfl⟩ | exact rfl | exact ⟨fun h0 => by cases h0, rfl⟩ | exact (fun h0 => by cases h0) | exact ⟨rfl, by omega⟩ | exact ⟨Nat.succ_ne_zero _, rfl⟩ | omega)
            | refine o_alloc (d := 8) rfl TtOk rfl rfl rfl (fun b8 => ?_)
            | refine o_alloc (d := 13) rfl TtOk rfl rfl rfl (fun b13 => ?_)
            | refine o_alloc (d := 16) rfl TtOk rfl rfl rfl (fun b16 => ?_)
            | refine o_alloc (d := 19) rfl TtOk rfl rfl rfl (fun b19 => ?_)
            | refine o_alloc (d := 21) rfl TtOk rfl rfl rfl (fun b21 => ?_)
            | refine o_alloc (d := 23) rfl TtOk rfl rfl rfl (fun b23 => ?_)
            | refine o_alloc (d := 27) rfl TtOk rfl rfl rfl (fun b27 => ?_)
            | refine o_box (d := 4) rfl rfl rfl rfl (fun b4 => ?_)
            | refine o_store TtOk rfl rfl rfl rfl rfl rfl rfl ⟨rfl, rfl⟩ rfl rfl rfl rfl rfl ?_
            | (refine o_index rfl TtOk rfl rfl rfl rfl rfl rfl ?_ (getq_nat ?_) ?_; omega; omega)
            | (refine o_indexOwn TtOk rfl rfl rfl rfl rfl rfl rfl rfl _ rfl ?_ (fun bO hbO => ?_); (simp only [List.length_map]; omega))
            | (refine o_loadRow TtOk rfl rfl rfl rfl rfl (by assumption) (getq_map (List.getElem?_eq_getElem ?_)) rfl rfl (by first | exact Nat.add_zero _ | rfl) ⟨rfl, rfl⟩ ?_; omega)
            | (refine o_calm rfl TtOk rfl rfl rfl ?_ (fun _ => ?_); (show List.length _ + List.length _ ≤ 9223372036854775807; (try simp only [List.length_append, List.length_cons, List.length_nil]); omega))
            | (refine o_storeRow TtOk rfl rfl rfl rfl rfl rfl (by assumption) (getq_map (List.getElem?_eq_getElem ?_)) rfl rfl (by first | exact Nat.add_zero _ | rfl) ⟨rfl, rfl⟩ rfl rfl ?_; omega)
            | refine o_build TtOk rfl rfl rfl rfl rfl rfl (by repeat' (first | exact True.intro | exact rfl | refine ⟨?_, ?_⟩)) ?_
            | refine o_buildArr0 TtOk rfl rfl rfl rfl ?_
            | refine o_buildSlice TtOk rfl rfl rfl rfl rfl rfl rfl rfl rfl rfl rfl (by repeat' (first | exact True.intro | exact rfl | refine ⟨?_, ?_⟩)) (fun _ => ?_)
            | (refine o_append TtOk rfl rfl rfl rfl rfl rfl rfl rfl rfl (by first | exact True.intro | exact rfl) rfl rfl (fun _ => rfl) ?_ ?_ (fun _ => ?_); (simp only [List.length_map, List.length_cons, List.length_nil, List.length_append, List.length_take, List.length_drop]; omega); (simp only [List.length_map, List.length_cons, List.length_nil, List.length_append, List.length_take, List.length_drop]; omega))
            | (refine o_appendStr TtOk rfl rfl rfl rfl rfl rfl rfl rfl rfl (fun _ => rfl) ?_ (fun _ => ?_); (simp only [List.length_map, List.length_cons, List.length_nil, List.length_append, List.length_take, List.length_drop]; omega))
            | (fail_if_success (refine o_isLit rfl (by first | exact .inl rfl | exact .inr rfl) ?_)); (refine o_splitP rfl rfl (fun hc => ?_) (fun hc => ?_) <;> try (exfalso; omega))
            | (fail_if_success (refine o_isLit rfl (by first | exact .inl rfl | exact .inr rfl) ?_)); (refine o_splitI rfl rfl (fun hc => ?_) (fun hc => ?_) <;> try (exfalso; omega))
            | (fail_if_success (refine o_isLit rfl (by first | exact .inl rfl | exact .inr rfl) ?_)); (refine o_splitN rfl rfl (fun hc => ?_) (fun hc => ?_) <;> try (exfalso; omega))
            | (fail_if_success (refine o_isLit rfl (by first | exact .inl rfl | exact .inr rfl) ?_)); (refine o_split rfl rfl (fun hc => ?_) (fun hc => ?_))
            | refine a_condT rfl ?_
            | refine a_condF rfl ?_
            | (refine a_condP rfl (fun hc => ?_) (fun hc => ?_)) <;> (try (exfalso; omega))
            | (refine a_condI rfl (fun hc => ?_) (fun hc => ?_)) <;> (try (exfalso; omega))
            | (refine a_condN rfl (fun hc => ?_) (fun hc => ?_)) <;> (try (exfalso; omega))
            | (refine Awp.cond rfl (fun hc => ?_) (fun hc => ?_))
            | (refine o_call0 rfl (hah) ⟨SLe.of_eq rfl, SLe.of_eq rfl, True.intro⟩ rfl ?_; rintro _ _ ⟨rfl, rfl⟩; refine ⟨rfl, ?_⟩))
          refine ⟨(j + 1, true, out ++ [L[k]] ++ [M[j]], _), [], ⟨hjl, hn⟩, by show M.length - (j + 1) < M.length - j; omega, rfl, ⟨sle_i rfl, sle_i rfl, sle_sl rfl, SLe.of_eq rfl, sle_own, sle_ptr, sle_ptr, sle_ptr, sle_i rfl, sle_i rfl, sle_sl rfl, True.intro⟩, HLe.cons 116 rfl (HOLe.row ?_) (HLe.cons 23 rfl (HOLe.refl _) (HLe.cons 16 rfl (HOLe.refl _) (HLe.cons 8 rfl (HOLe.refl _) .nil)))⟩
          rw [List.map_append, List.map_append]; rfl
        | false =>
          have hn := hbd.go2 hjl hv
          rw [hv] at hah
          repeat' (first
            | refine Awp.seq ?_
            | refine Awp.block ?_
            | refine Awp.region ?_
            | (refine Ops.nil ?_; show Awp _ _ _ _ _)
            | (refine Ops.nil ?_; show Exists _)
            | (refine Ops.nil ?_; show endK _ _ _ _ _)
            | (refine Awp.skip ?_; show Awp _ _ _ _ _)
            | (refine Awp.skip ?_; show endK _ _ _ _ _)
            | (refine Awp.skip ?_; show Exists _)
            | (refine Awp.exit ?_; show Awp _ _ _ _ _)
            | (refine Awp.exit ?_; show Exists _)
            | (refine Awp.exit ?_; show endK _ _ _ _ _)
            | (refine Awp.ret ?_; show endK _ _ _ _ _)
            | refine o_offT rfl rfl rfl (by first | exact .inl rfl | exact .inr rfl) ?_
            | refine o_offU rfl rfl rfl (by first | exact .inl rfl | exact .inr rfl) ?_
            | refine o_offF rfl rfl rfl (by first | exact .inl rfl | exact .inr rfl) ?_
            | (refine o_add rfl rfl rfl rfl ?_ ?_; omega)
            | refine o_len rfl TtOk rfl rfl rfl (fun _ => ?_)
            | refine o_lenOwn rfl TtOk rfl rfl rfl rfl (fun _ => ?_)
            | (refine o_calm rfl TtOk rfl rfl rfl ?_ (fun _ => ?_); first | exact True.intro | exact ⟨rfl, rfl, rfl, rfl⟩ | exact ⟨rfl, True.intro⟩ | exact ⟨rfl, rfl⟩ | exact ⟨rfl, rfl, rfl⟩ | exact rfl | exact ⟨fun h0 => by cases h0, rfl⟩ | exact (fun h0 => by cases h0) | exact ⟨rfl, by omega⟩ | exact ⟨Nat.succ_ne_zero _, rfl⟩ | omega)
            | refine o_alloc (d := 8) rfl TtOk rfl rfl rfl (fun b8 => ?_)
            | refine o_alloc (d := 13) rfl TtOk rfl rfl rfl (fun b13 => ?_)
            | refine o_alloc (d := 16) rfl TtOk rfl rfl rfl (fun b16 => ?_)
            | refine o_alloc (d := 19) rfl TtOk rfl rfl rfl (fun b19 => ?_)
            | refine o_alloc (d := 21) rfl TtOk rfl rfl rfl (fun b21 => ?_)
            | refine o_alloc (d := 23) rfl TtOk rfl rfl rfl (fun b23 => ?_)
            | refine o_alloc (d := 27) rfl TtOk rfl rfl rfl (fun b27 => ?_)
            | refine o_box (d := 4) rfl rfl rfl rfl (fun b4 => ?_)
            | refine o_store TtOk rfl rfl rfl rfl rfl rfl rfl ⟨rfl, rfl⟩ rfl rfl rfl rfl rfl ?_
            | (refine o_index rfl TtOk rfl rfl rfl rfl rfl rfl ?_ (getq_nat ?_) ?_; omega; omega)
            | (refine o_indexOwn TtOk rfl rfl rfl rfl rfl rfl rfl rfl _ rfl ?_ (fun bO hbO => ?_); (simp only [List.length_map]; omega))
            | (refine o_loadRow TtOk rfl rfl rfl rfl rfl (by assumption) (getq_map (List.getElem?_eq_getElem ?_)) rfl rfl (by first | exact Nat.add_zero _ | rfl) ⟨rfl, rfl⟩ ?_; omega)
            | (refine o_calm rfl TtOk rfl rfl rfl ?_ (fun _ => ?_); (show List.length _ + List.length _ ≤ 9223372036854775807; (try simp only [List.length_append, List.length_cons, List.length_nil]); omega))
            | (refine o_storeRow TtOk rfl rfl rfl rfl rfl rfl (by assumption) (getq_map (List.getElem?_eq_getElem ?_)) rfl rfl (by first | exact Nat.add_zero _ | rfl) ⟨rfl, rfl⟩ rfl rfl ?_; omega)
            | refine o_build TtOk rfl rfl rfl rfl rfl rfl (by repeat' (first | exact True.intro | exact rfl | refine ⟨?_, ?_⟩)) ?_
            | refine o_buildArr0 TtOk rfl rfl rfl rfl ?_
            | refine o_buildSlice TtOk rfl rfl rfl rfl rfl rfl rfl rfl rfl rfl rfl (by repeat' (first | exact True.intro | exact rfl | refine ⟨?_, ?_⟩)) (fun _ => ?_)
            | (refine o_append TtOk rfl rfl rfl rfl rfl rfl rfl rfl rfl (by first | exact True.intro | exact rfl) rfl rfl (fun _ => rfl) ?_ ?_ (fun _ => ?_); (simp only [List.length_map, List.length_cons, List.length_nil, List.length_append, List.length_take, List.length_drop]; omega); (simp only [List.length_map, List.length_cons, List.length_nil, List.length_append, List.length_take, List.length_drop]; omega))
            | (refine o_appendStr TtOk rfl rfl rfl rfl rfl rfl rfl rfl rfl (fun _ => rfl) ?_ (fun _ => ?_); (simp only [List.length_map, List.length_cons, List.length_nil, List.length_append, List.length_take, List.length_drop]; omega))
            | (fail_if_success (refine o_isLit rfl (by first | exact .inl rfl | exact .inr rfl) ?_)); (refine o_splitP rfl rfl (fun hc => ?_) (fun hc => ?_) <;> try (exfalso; omega))
            | (fail_if_success (refine o_isLit rfl (by first | exact .inl rfl | exact .inr rfl) ?_)); (refine o_splitI rfl rfl (fun hc => ?_) (fun hc => ?_) <;> try (exfalso; omega))
            | (fail_if_success (refine o_isLit rfl (by first | exact .inl rfl | exact .inr rfl) ?_)); (refine o_splitN rfl rfl (fun hc => ?_) (fun hc => ?_) <;> try (exfalso; omega))
            | (fail_if_success (refine o_isLit rfl (by first | exact .inl rfl | exact .inr rfl) ?_)); (refine o_split rfl rfl (fun hc => ?_) (fun hc => ?_))
            | refine a_condT rfl ?_
            | refine a_condF rfl ?_
            | (refine a_condP rfl (fun hc => ?_) (fun hc => ?_)) <;> (try (exfalso; omega))
            | (refine a_condI rfl (fun hc => ?_) (fun hc => ?_)) <;> (try (exfalso; omega))
            | (refine a_condN rfl (fun hc => ?_) (fun hc => ?_)) <;> (try (exfalso; omega))
            | (refine Awp.cond rfl (fun hc => ?_) (fun hc => ?_))
            | (refine o_call0 rfl (hah) ⟨SLe.of_eq rfl, SLe.of_eq rfl, True.intro⟩ rfl ?_; rintro _ _ ⟨rfl, rfl⟩; refine ⟨rfl, ?_⟩))
          refine ⟨(j + 1, false, out ++ [M[j]], _), [], ⟨hjl, hn⟩, by show M.length - (j + 1) < M.length - j; omega, rfl, ⟨sle_i rfl, sle_i rfl, sle_sl rfl, SLe.of_eq rfl, sle_own, sle_ptr, sle_ptr, sle_ptr, sle_i rfl, sle_i rfl, sle_sl rfl, True.intro⟩, HLe.cons 116 rfl (HOLe.row ?_) (HLe.cons 23 rfl (HOLe.refl _) (HLe.cons 16 rfl (HOLe.refl _) (HLe.cons 8 rfl (HOLe.refl _) .nil)))⟩
          rw [List.map_append]; rfl
    have hjm : j = M.length := by omega
    subst hjm
    have hfin := hbd.fin
    cases done with
    | true =>
      rw [if_pos rfl] at hfin
      repeat' (first
        | refine Awp.seq ?_
        | refine Awp.block ?_
        | refine Awp.region ?_
        | (refine Ops.nil ?_; show Awp _ _ _ _ _)
        | (refine Ops.nil ?_; show Exists _)
        | (refine Ops.nil ?_; show endK _ _ _ _ _)
        | (refine Awp.skip ?_; show Awp _ _ _ _ _)
        | (refine Awp.skip ?_; show endK _ _ _ _ _)
        | (refine Awp.skip ?_; show Exists _)
        | (refine Awp.exit ?_; show Awp _ _ _ _ _)
        | (refine Awp.exit ?_; show Exists _)
        | (refine Awp.exit ?_; show endK _ _ _ _ _)
        | (refine Awp.ret ?_; show endK _ _ _ _ _)
        | refine o_offT rfl rfl rfl (by first | exact .inl rfl | exact .inr rfl) ?_
        | refine o_offU rfl rfl rfl (by first | exact .inl rfl | exact .inr rfl) ?_
        | refine o_offF rfl rfl rfl (by first | exact .inl rfl | exact .inr rfl) ?_
        | (refine o_add rfl rfl rfl rfl ?_ ?_; omega)
        | refine o_len rfl TtOk rfl rfl rfl (fun _ => ?_)
        | refine o_lenOwn rfl TtOk rfl rfl rfl rfl (fun _ => ?_)
        | (refine o_calm rfl TtOk rfl rfl rfl ?_ (fun _ => ?_); first | exact True.intro | exact ⟨rfl, rfl, rfl, rfl⟩ | exact ⟨rfl, True.intro⟩ | exact ⟨rfl, rfl⟩ | exact ⟨rfl, rfl, rfl⟩ | exact rfl | exact ⟨fun h0 => by cases h0, rfl⟩ | exact (fun h0 => by cases h0) | exact ⟨rfl, by omega⟩ | exact ⟨Nat.succ_ne_zero _, rfl⟩ | omega)
        | refine o_alloc (d := 8) rfl TtOk rfl rfl rfl (fun b8 => ?_)
        | refine o_alloc (d := 13) rfl TtOk rfl rfl rfl (fun b13 => ?_)
        | refine o_alloc (d := 16) rfl TtOk rfl rfl rfl (fun b16 => ?_)
        | refine o_alloc (d := 19) rfl TtOk rfl rfl rfl (fun b19 => ?_)
        | refine o_alloc (d := 21) rfl TtOk rfl rfl rfl (fun b21 => ?_)
        | refine o_alloc (d := 23) rfl TtOk rfl rfl rfl (fun b23 => ?_)
        | refine o_alloc (d := 27) rfl TtOk rfl rfl rfl (fun b27 => ?_)
        | refine o_box (d := 4) rfl rfl rfl rfl (fun b4 => ?_)
        | refine o_store TtOk rfl rfl rfl rfl rfl rfl rfl ⟨rfl, rfl⟩ rfl rfl rfl rfl rfl ?_
        | (refine o_index rfl TtOk rfl rfl rfl rfl rfl rfl ?_ (getq_nat ?_) ?_; omega; omega)
        | (refine o_indexOwn TtOk rfl rfl rfl rfl rfl rfl rfl rfl _ rfl ?_ (fun bO hbO => ?_); (simp only [List.length_map]; omega))
        | (refine o_loadRow TtOk rfl rfl rfl rfl rfl (by assumption) (getq_map (List.getElem?_eq_getElem ?_)) rfl rfl (by first | exact Nat.add_zero _ | rfl) ⟨rfl, rfl⟩ ?_; omega)
        | (refine o_calm rfl TtOk rfl rfl rfl ?_ (fun _ => ?_); (show List.length _ + List.length _ ≤ 9223372036854775807; (try simp only [List.length_append, List.length_cons, List.length_nil]); omega))
        | (refine o_storeRow TtOk rfl rfl rfl rfl rfl rfl (by assumption) (getq_map (List.getElem?_eq_getElem ?_)) rfl rfl (by first | exact Nat.add_zero _ | rfl) ⟨rfl, rfl⟩ rfl rfl ?_; omega)
        | refine o_build TtOk rfl rfl rfl rfl rfl rfl (by repeat' (first | exact True.intro | exact rfl | refine ⟨?_, ?_⟩)) ?_
        | refine o_buildArr0 TtOk rfl rfl rfl rfl ?_
        | refine o_buildSlice TtOk rfl rfl rfl rfl rfl rfl rfl rfl rfl rfl rfl (by repeat' (first | exact True.intro | exact rfl | refine ⟨?_, ?_⟩)) (fun _ => ?_)
        | (refine o_append TtOk rfl rfl rfl rfl rfl rfl rfl rfl rfl (by first | exact True.intro | exact rfl) rfl rfl (fun _ => rfl) ?_ ?_ (fun _ => ?_); (simp only [List.length_map, List.length_cons, List.length_nil, List.length_append, List.length_take, List.length_drop]; omega); (simp only [List.length_map, List.length_cons, List.length_nil, List.length_append, List.length_take, List.length_drop]; omega))
        | (refine o_appendStr TtOk rfl rfl rfl rfl rfl rfl rfl rfl rfl (fun _ => rfl) ?_ (fun _ => ?_); (simp only [List.length_map, List.length_cons, List.length_nil, List.length_append, List.length_take, List.length_drop]; omega))
        | (fail_if_success (refine o_isLit rfl (by first | exact .inl rfl | exact .inr rfl) ?_)); (refine o_splitP rfl rfl (fun hc => ?_) (fun hc => ?_) <;> try (exfalso; omega))
        | (fail_if_success (refine o_isLit rfl (by first | exact .inl rfl | exact .inr rfl) ?_)); (refine o_splitI rfl rfl (fun hc => ?_) (fun hc => ?_) <;> try (exfalso; omega))
        | (fail_if_success (refine o_isLit rfl (by first | exact .inl rfl | exact .inr rfl) ?_)); (refine o_splitN rfl rfl (fun hc => ?_) (fun hc => ?_) <;> try (exfalso; omega))
        | (fail_if_success (refine o_isLit rfl (by first | exact .inl rfl | exact .inr rfl) ?_)); (refine o_split rfl rfl (fun hc => ?_) (fun hc => ?_))
        | refine a_condT rfl ?_
        | refine a_condF rfl ?_
        | (refine a_condP rfl (fun hc => ?_) (fun hc => ?_)) <;> (try (exfalso; omega))
        | (refine a_condI rfl (fun hc => ?_) (fun hc => ?_)) <;> (try (exfalso; omega))
        | (refine a_condN rfl (fun hc => ?_) (fun hc => ?_)) <;> (try (exfalso; omega))
        | (refine Awp.cond rfl (fun hc => ?_) (fun hc => ?_)))
      refine ⟨k + 1, [116], hlt, by show L.length - (k + 1) < L.length - k; omega, rfl, ⟨sle_i rfl, sle_i rfl, sle_sl rfl, sle_ptr, sle_ptr, True.intro⟩, HLe.cons 16 rfl (HOLe.var (CLe.agg (.cons (CLe.refl _) (.cons (CLe.refl _) (.cons (CLe.fz ?_) .nil))))) (HLe.cons 8 rfl (HOLe.refl _) .nil)⟩
      rw [hsu, hfin]; exact .head _
    | false =>
      rw [if_neg (by decide)] at hfin
      repeat' (first
        | refine Awp.seq ?_
        | refine Awp.block ?_
        | refine Awp.region ?_
        | (refine Ops.nil ?_; show Awp _ _ _ _ _)
        | (refine Ops.nil ?_; show Exists _)
        | (refine Ops.nil ?_; show endK _ _ _ _ _)
        | (refine Awp.skip ?_; show Awp _ _ _ _ _)
        | (refine Awp.skip ?_; show endK _ _ _ _ _)
        | (refine Awp.skip ?_; show Exists _)
        | (refine Awp.exit ?_; show Awp _ _ _ _ _)
        | (refine Awp.exit ?_; show Exists _)
        | (refine Awp.exit ?_; show endK _ _ _ _ _)
        | (refine Awp.ret ?_; show endK _ _ _ _ _)
        | refine o_offT rfl rfl rfl (by first | exact .inl rfl | exact .inr rfl) ?_
        | refine o_offU rfl rfl rfl (by first | exact .inl rfl | exact .inr rfl) ?_
        | refine o_offF rfl rfl rfl (by first | exact .inl rfl | exact .inr rfl) ?_
        | (refine o_add rfl rfl rfl rfl ?_ ?_; omega)
        | refine o_len rfl TtOk rfl rfl rfl (fun _ => ?_)
        | refine o_lenOwn rfl TtOk rfl rfl rfl rfl (fun _ => ?_)
        | (refine o_calm rfl TtOk rfl rfl rfl ?_ (fun _ => ?_); first | exact True.intro | exact ⟨rfl, rfl, rfl, rfl⟩ | exact ⟨rfl, True.intro⟩ | exact ⟨rfl, rfl⟩ | exact ⟨rfl, rfl, rfl⟩ | exact rfl | exact ⟨fun h0 => by cases h0, rfl⟩ | exact (fun h0 => by cases h0) | exact ⟨rfl, by omega⟩ | exact ⟨Nat.succ_ne_zero _, rfl⟩ | omega)
        | refine o_alloc (d := 8) rfl TtOk rfl rfl rfl (fun b8 => ?_)
        | refine o_alloc (d := 13) rfl TtOk rfl rfl rfl (fun b13 => ?_)
        | refine o_alloc (d := 16) rfl TtOk rfl rfl rfl (fun b16 => ?_)
        | refine o_alloc (d := 19) rfl TtOk rfl rfl rfl (fun b19 => ?_)
        | refine o_alloc (d := 21) rfl TtOk rfl rfl rfl (fun b21 => ?_)
        | refine o_alloc (d := 23) rfl TtOk rfl rfl rfl (fun b23 => ?_)
        | refine o_alloc (d := 27) rfl TtOk rfl rfl rfl (fun b27 => ?_)
        | refine o_box (d := 4) rfl rfl rfl rfl (fun b4 => ?_)
        | refine o_store TtOk rfl rfl rfl rfl rfl rfl rfl ⟨rfl, rfl⟩ rfl rfl rfl rfl rfl ?_
        | (refine o_index rfl TtOk rfl rfl rfl rfl rfl rfl ?_ (getq_nat ?_) ?_; omega; omega)
        | (refine o_indexOwn TtOk rfl rfl rfl rfl rfl rfl rfl rfl _ rfl ?_ (fun bO hbO => ?_); (simp only [List.length_map]; omega))
        | (refine o_loadRow TtOk rfl rfl rfl rfl rfl (by assumption) (getq_map (List.getElem?_eq_getElem ?_)) rfl rfl (by first | exact Nat.add_zero _ | rfl) ⟨rfl, rfl⟩ ?_; omega)
        | (refine o_calm rfl TtOk rfl rfl rfl ?_ (fun _ => ?_); (show List.length _ + List.length _ ≤ 9223372036854775807; (try simp only [List.length_append, List.length_cons, List.length_nil]); omega))
        | (refine o_storeRow TtOk rfl rfl rfl rfl rfl rfl (by assumption) (getq_map (List.getElem?_eq_getElem ?_)) rfl rfl (by first | exact Nat.add_zero _ | rfl) ⟨rfl, rfl⟩ rfl rfl ?_; omega)
        | refine o_build TtOk rfl rfl rfl rfl rfl rfl (by repeat' (first | exact True.intro | exact rfl | refine ⟨?_, ?_⟩)) ?_
        | refine o_buildArr0 TtOk rfl rfl rfl rfl ?_
        | refine o_buildSlice TtOk rfl rfl rfl rfl rfl rfl rfl rfl rfl rfl rfl (by repeat' (first | exact True.intro | exact rfl | refine ⟨?_, ?_⟩)) (fun _ => ?_)
        | (refine o_append TtOk rfl rfl rfl rfl rfl rfl rfl rfl rfl (by first | exact True.intro | exact rfl) rfl rfl (fun _ => rfl) ?_ ?_ (fun _ => ?_); (simp only [List.length_map, List.length_cons, List.length_nil, List.length_append, List.length_take, List.length_drop]; omega); (simp only [List.length_map, List.length_cons, List.length_nil, List.length_append, List.length_take, List.length_drop]; omega))
        | (refine o_appendStr TtOk rfl rfl rfl rfl rfl rfl rfl rfl rfl (fun _ => rfl) ?_ (fun _ => ?_); (simp only [List.length_map, List.length_cons, List.length_nil, List.length_append, List.length_take, List.length_drop]; omega))
        | (fail_if_success (refine o_isLit rfl (by first | exact .inl rfl | exact .inr rfl) ?_)); (refine o_splitP rfl rfl (fun hc => ?_) (fun hc => ?_) <;> try (exfalso; omega))
        | (fail_if_success (refine o_isLit rfl (by first | exact .inl rfl | exact .inr rfl) ?_)); (refine o_splitI rfl rfl (fun hc => ?_) (fun hc => ?_) <;> try (exfalso; omega))
        | (fail_if_success (refine o_isLit rfl (by first | exact .inl rfl | exact .inr rfl) ?_)); (refine o_splitN rfl rfl (fun hc => ?_) (fun hc => ?_) <;> try (exfalso; omega))
        | (fail_if_success (refine o_isLit rfl (by first | exact .inl rfl | exact .inr rfl) ?_)); (refine o_split rfl rfl (fun hc => ?_) (fun hc => ?_))
        | refine a_condT rfl ?_
        | refine a_condF rfl ?_
        | (refine a_condP rfl (fun hc => ?_) (fun hc => ?_)) <;> (try (exfalso; omega))
        | (refine a_condI rfl (fun hc => ?_) (fun hc => ?_)) <;> (try (exfalso; omega))
        | (refine a_condN rfl (fun hc => ?_) (fun hc => ?_)) <;> (try (exfalso; omega))
        | (refine Awp.cond rfl (fun hc => ?_) (fun hc => ?_)))
      refine ⟨k + 1, [116], hlt, by show L.length - (k + 1) < L.length - k; omega, rfl, ⟨sle_i rfl, sle_i rfl, sle_sl rfl, sle_ptr, sle_ptr, True.intro⟩, HLe.cons 16 rfl (HOLe.var (CLe.agg (.cons (CLe.refl _) (.cons (CLe.refl _) (.cons (CLe.fz ?_) .nil))))) (HLe.cons 8 rfl (HOLe.refl _) .nil)⟩
      rw [hsu, hfin, List.map_append]; exact .head _
  have hkl2 : k = L.length := by omega
  subst hkl2
  rw [List.take_length]
  generalize sortS (ltC ordF) L = S at hou ⊢
  subst hou
  have hck2 : Spec Try.prog 27 [.agg [.i .i64 nx, .i .i64 log, .sl 5 (S.map eF)]] [] (fun v os => v = .i .i64 (lcheck ⟨nx, log, S⟩) ∧ os = []) := rcheck11_spec ⟨nx, log, S⟩
  generalize lcheck ⟨nx, log, S⟩ = c at hck2 hap
  by_cases hc0 : c ≠ 0
  · rw [if_pos hc0] at hap
    subst hap
    repeat' (first
      | refine Awp.seq ?_
      | refine Awp.block ?_
      | refine Awp.region ?_
      | (refine Ops.nil ?_; show Awp _ _ _ _ _)
      | (refine Ops.nil ?_; show Exists _)
      | (refine Ops.nil ?_; show endK _ _ _ _ _)
      | (refine Awp.skip ?_; show Awp _ _ _ _ _)
      | (refine Awp.skip ?_; show endK _ _ _ _ _)
      | (refine Awp.skip ?_; show Exists _)
      | (refine Awp.exit ?_; show Awp _ _ _ _ _)
      | (refine Awp.exit ?_; show Exists _)
      | (refine Awp.exit ?_; show endK _ _ _ _ _)
      | (refine Awp.ret ?_; show endK _ _ _ _ _)
      | refine o_offT rfl rfl rfl (by first | exact .inl rfl | exact .inr rfl) ?_
      | refine o_offU rfl rfl rfl (by first | exact .inl rfl | exact .inr rfl) ?_
      | refine o_offF rfl rfl rfl (by first | exact .inl rfl | exact .inr rfl) ?_
      | (refine o_add rfl rfl rfl rfl ?_ ?_; omega)
      | refine o_len rfl TtOk rfl rfl rfl (fun _ => ?_)
      | refine o_lenOwn rfl TtOk rfl rfl rfl rfl (fun _ => ?_)
      | (refine o_calm rfl TtOk rfl rfl rfl ?_ (fun _ => ?_); first | exact True.intro | exact ⟨rfl, rfl, rfl, rfl⟩ | exact ⟨rfl, True.intro⟩ | exact ⟨rfl, rfl⟩ | exact ⟨rfl, rfl, rfl⟩ | exact rfl | exact ⟨fun h0 => by cases h0, rfl⟩ | exact (fun h0 => by cases h0) | exact ⟨rfl, by omega⟩ | exact ⟨Nat.succ_ne_zero _, rfl⟩ | omega)
      | refine o_alloc (d := 8) rfl TtOk rfl rfl rfl (fun b8 => ?_)
      | refine o_alloc (d := 13) rfl TtOk rfl rfl rfl (fun b13 => ?_)
      | refine o_alloc (d := 16) rfl TtOk rfl rfl rfl (fun b16 => ?_)
      | refine o_alloc (d := 19) rfl TtOk rfl rfl rfl (fun b19 => ?_)
      | refine o_alloc (d := 21) rfl TtOk rfl rfl rfl (fun b21 => ?_)
      | refine o_alloc (d := 23) rfl TtOk rfl rfl rfl (fun b23 => ?_)
      | refine o_alloc (d := 27) rfl TtOk rfl rfl rfl (fun b27 => ?_)
      | refine o_box (d := 4) rfl rfl rfl rfl (fun b4 => ?_)
      | refine o_store TtOk rfl rfl rfl rfl rfl rfl rfl ⟨rfl, rfl⟩ rfl rfl rfl rfl rfl ?_
      | (refine o_index rfl TtOk rfl rfl rfl rfl rfl rfl ?_ (getq_nat ?_) ?_; omega; omega)
      | (refine o_indexOwn TtOk rfl rfl rfl rfl rfl rfl rfl rfl _ rfl ?_ (fun bO hbO => ?_); (simp only [List.length_map]; omega))
      | (refine o_loadRow TtOk rfl rfl rfl rfl rfl (by assumption) (getq_map (List.getElem?_eq_getElem ?_)) rfl rfl (by first | exact Nat.add_zero _ | rfl) ⟨rfl, rfl⟩ ?_; omega)
      | (refine o_calm rfl TtOk rfl rfl rfl ?_ (fun _ => ?_); (show List.length _ + List.length _ ≤ 9223372036854775807; (try simp only [List.length_append, List.length_cons, List.length_nil]); omega))
      | (refine o_storeRow TtOk rfl rfl rfl rfl rfl rfl (by assumption) (getq_map (List.getElem?_eq_getElem ?_)) rfl rfl (by first | exact Nat.add_zero _ | rfl) ⟨rfl, rfl⟩ rfl rfl ?_; omega)
      | refine o_build TtOk rfl rfl rfl rfl rfl rfl (by repeat' (first | exact True.intro | exact rfl | refine ⟨?_, ?_⟩)) ?_
      | refine o_buildArr0 TtOk rfl rfl rfl rfl ?_
      | refine o_buildSlice TtOk rfl rfl rfl rfl rfl rfl rfl rfl rfl rfl rfl (by repeat' (first | exact True.intro | exact rfl | refine ⟨?_, ?_⟩)) (fun _ => ?_)
      | (refine o_append TtOk rfl rfl rfl rfl rfl rfl rfl rfl rfl (by first | exact True.intro | exact rfl) rfl rfl (fun _ => rfl) ?_ ?_ (fun _ => ?_); (simp only [List.length_map, List.length_cons, List.length_nil, List.length_append, List.length_take, List.length_drop]; omega); (simp only [List.length_map, List.length_cons, List.length_nil, List.length_append, List.length_take, List.length_drop]; omega))
      | (refine o_appendStr TtOk rfl rfl rfl rfl rfl rfl rfl rfl rfl (fun _ => rfl) ?_ (fun _ => ?_); (simp only [List.length_map, List.length_cons, List.length_nil, List.length_append, List.length_take, List.length_drop]; omega))
      | (fail_if_success (refine o_isLit rfl (by first | exact .inl rfl | exact .inr rfl) ?_)); (refine o_splitP rfl rfl (fun hc => ?_) (fun hc => ?_) <;> try (exfalso; omega))
      | (fail_if_success (refine o_isLit rfl (by first | exact .inl rfl | exact .inr rfl) ?_)); (refine o_splitI rfl rfl (fun hc => ?_) (fun hc => ?_) <;> try (exfalso; omega))
      | (fail_if_success (refine o_isLit rfl (by first | exact .inl rfl | exact .inr rfl) ?_)); (refine o_splitN rfl rfl (fun hc => ?_) (fun hc => ?_) <;> try (exfalso; omega))
      | (fail_if_success (refine o_isLit rfl (by first | exact .inl rfl | exact .inr rfl) ?_)); (refine o_split rfl rfl (fun hc => ?_) (fun hc => ?_))
      | refine a_condT rfl ?_
      | refine a_condF rfl ?_
      | (refine a_condP rfl (fun hc => ?_) (fun hc => ?_)) <;> (try (exfalso; omega))
      | (refine a_condI rfl (fun hc => ?_) (fun hc => ?_)) <;> (try (exfalso; omega))
      | (refine a_condN rfl (fun hc => ?_) (fun hc => ?_)) <;> (try (exfalso; omega))
      | (refine Awp.cond rfl (fun hc => ?_) (fun hc => ?_))
      | (refine o_call0 rfl (hck2) ⟨SLe.of_eq rfl, True.intro⟩ rfl ?_; rintro _ _ ⟨rfl, rfl⟩; refine ⟨rfl, ?_⟩))
    all_goals refine end_all [] [] (.tup [eSt zS, .i .i64 c]) rfl ?_ ?_ (rle_tup2 cle_zS (CLe.of_eq rfl) rfl rfl) .nil ⟨rfl, rfl⟩ _ (.inl rfl)
    all_goals first | exact ⟨trivial, trivial⟩ | trivial | exact ⟨trivial, trivial, trivial⟩ | (repeat' (first | exact True.intro | exact rfl | refine ⟨?_, ?_⟩))
  · rw [if_neg hc0] at hap
    subst hap
    repeat' (first
      | refine Awp.seq ?_
      | refine Awp.block ?_
      | refine Awp.region ?_
      | (refine Ops.nil ?_; show Awp _ _ _ _ _)
      | (refine Ops.nil ?_; show Exists _)
      | (refine Ops.nil ?_; show endK _ _ _ _ _)
      | (refine Awp.skip ?_; show Awp _ _ _ _ _)
      | (refine Awp.skip ?_; show endK _ _ _ _ _)
      | (refine Awp.skip ?_; show Exists _)
      | (refine Awp.exit ?_; show Awp _ _ _ _ _)
      | (refine Awp.exit ?_; show Exists _)
      | (refine Awp.exit ?_; show endK _ _ _ _ _)
      | (refine Awp.ret ?_; show endK _ _ _ _ _)
      | refine o_offT rfl rfl rfl (by first | exact .inl rfl | exact .inr rfl) ?_
      | refine o_offU rfl rfl rfl (by first | exact .inl rfl | exact .inr rfl) ?_
      | refine o_offF rfl rfl rfl (by first | exact .inl rfl | exact .inr rfl) ?_
      | (refine o_add rfl rfl rfl rfl ?_ ?_; omega)
      | refine o_len rfl TtOk rfl rfl rfl (fun _ => ?_)
      | refine o_lenOwn rfl TtOk rfl rfl rfl rfl (fun _ => ?_)
      | (refine o_calm rfl TtOk rfl rfl rfl ?_ (fun _ => ?_); first | exact True.intro | exact ⟨rfl, rfl, rfl, rfl⟩ | exact ⟨rfl, True.intro⟩ | exact ⟨rfl, rfl⟩ | exact ⟨rfl, rfl, rfl⟩ | exact rfl | exact ⟨fun h0 => by cases h0, rfl⟩ | exact (fun h0 => by cases h0) | exact ⟨rfl, by omega⟩ | exact ⟨Nat.succ_ne_zero _, rfl⟩ | omega)
      | refine o_alloc (d := 8) rfl TtOk rfl rfl rfl (fun b8 => ?_)
      | refine o_alloc (d := 13) rfl TtOk rfl rfl rfl (fun b13 => ?_)
      | refine o_alloc (d := 16) rfl TtOk rfl rfl rfl (fun b16 => ?_)
      | refine o_alloc (d := 19) rfl TtOk rfl rfl rfl (fun b19 => ?_)
      | refine o_alloc (d := 21) rfl TtOk rfl rfl rfl (fun b21 => ?_)
      | refine o_alloc (d := 23) rfl TtOk rfl rfl rfl (fun b23 => ?_)
      | refine o_alloc (d := 27) rfl TtOk rfl rfl rfl (fun b27 => ?_)
      | refine o_box (d := 4) rfl rfl rfl rfl (fun b4 => ?_)
      | refine o_store TtOk rfl rfl rfl rfl rfl rfl rfl ⟨rfl, rfl⟩ rfl rfl rfl rfl rfl ?_
      | (refine o_index rfl TtOk rfl rfl rfl rfl rfl rfl ?_ (getq_nat ?_) ?_; omega; omega)
      | (refine o_indexOwn TtOk rfl rfl rfl rfl rfl rfl rfl rfl _ rfl ?_ (fun bO hbO => ?_); (simp only [List.length_map]; omega))
      | (refine o_loadRow TtOk rfl rfl rfl rfl rfl (by assumption) (getq_map (List.getElem?_eq_getElem ?_)) rfl rfl (by first | exact Nat.add_zero _ | rfl) ⟨rfl, rfl⟩ ?_; omega)
      | (refine o_calm rfl TtOk rfl rfl rfl ?_ (fun _ => ?_); (show List.length _ + List.length _ ≤ 9223372036854775807; (try simp only [List.length_append, List.length_cons, List.length_nil]); omega))
      | (refine o_storeRow TtOk rfl rfl rfl rfl rfl rfl (by assumption) (getq_map (List.getElem?_eq_getElem ?_)) rfl rfl (by first | exact Nat.add_zero _ | rfl) ⟨rfl, rfl⟩ rfl rfl ?_; omega)
      | refine o_build TtOk rfl rfl rfl rfl rfl rfl (by repeat' (first | exact True.intro | exact rfl | refine ⟨?_, ?_⟩)) ?_
      | refine o_buildArr0 TtOk rfl rfl rfl rfl ?_
      | refine o_buildSlice TtOk rfl rfl rfl rfl rfl rfl rfl rfl rfl rfl rfl (by repeat' (first | exact True.intro | exact rfl | refine ⟨?_, ?_⟩)) (fun _ => ?_)
      | (refine o_append TtOk rfl rfl rfl rfl rfl rfl rfl rfl rfl (by first | exact True.intro | exact rfl) rfl rfl (fun _ => rfl) ?_ ?_ (fun _ => ?_); (simp only [List.length_map, List.length_cons, List.length_nil, List.length_append, List.length_take, List.length_drop]; omega); (simp only [List.length_map, List.length_cons, List.length_nil, List.length_append, List.length_take, List.length_drop]; omega))
      | (refine o_appendStr TtOk rfl rfl rfl rfl rfl rfl rfl rfl rfl (fun _ => rfl) ?_ (fun _ => ?_); (simp only [List.length_map, List.length_cons, List.length_nil, List.length_append, List.length_take, List.length_drop]; omega))
      | (fail_if_success (refine o_isLit rfl (by first | exact .inl rfl | exact .inr rfl) ?_)); (refine o_splitP rfl rfl (fun hc => ?_) (fun hc => ?_) <;> try (exfalso; omega))
      | (fail_if_success (refine o_isLit rfl (by first | exact .inl rfl | exact .inr rfl) ?_)); (refine o_splitI rfl rfl (fun hc => ?_) (fun hc => ?_) <;> try (exfalso; omega))
      | (fail_if_success (refine o_isLit rfl (by first | exact .inl rfl | exact .inr rfl) ?_)); (refine o_splitN rfl rfl (fun hc => ?_) (fun hc => ?_) <;> try (exfalso; omega))
      | (fail_if_success (refine o_isLit rfl (by first | exact .inl rfl | exact .inr rfl) ?_)); (refine o_split rfl rfl (fun hc => ?_) (fun hc => ?_))
      | refine a_condT rfl ?_
      | refine a_condF rfl ?_
      | (refine a_condP rfl (fun hc => ?_) (fun hc => ?_)) <;> (try (exfalso; omega))
      | (refine a_condI rfl (fun hc => ?_) (fun hc => ?_)) <;> (try (exfalso; omega))
      | (refine a_condN rfl (fun hc => ?_) (fun hc => ?_)) <;> (try (exfalso; omega))
      | (refine Awp.cond rfl (fun hc => ?_) (fun hc => ?_))
      | (refine o_call0 rfl (hck2) ⟨SLe.of_eq rfl, True.intro⟩ rfl ?_; rintro _ _ ⟨rfl, rfl⟩; refine ⟨rfl, ?_⟩))
    refine end_all [] [] (.tup [eSt ⟨nx, log, S⟩, .i .i64 0]) rfl ?_ ?_ (rle_tup2 (CLe.of_eq rfl) (CLe.of_eq rfl) rfl rfl) .nil ⟨rfl, rfl⟩ _ (.inl rfl)
    all_goals first | exact ⟨trivial, trivial⟩ | trivial | exact ⟨trivial, trivial, trivial⟩ | (repeat' (first | exact True.intro | exact rfl | refine ⟨?_, ?_⟩))
end Go.Proofs.Ytnmnhnlebkebfaa
