/- level.Apply by rules. -/
import Derived.Test.YtnmnhnlebkebfaaSO7
import Derived.Test.YtnmnhnlebkebfaaL7
import Derived.Test.YtnmnhnlebkebfaaL3
set_option maxHeartbeats 16000000
set_option maxRecDepth 100000
namespace Go.Proofs.Ytnmnhnlebkebfaa
open Go Go.RowKit
theorem wo_order : WO (ltC ordF) := by
  have key : ∀ x y, ltC ordF x y = aheadF x y := fun x y => by
    unfold ltC
    cases h : aheadF x y with
    | true => exact decide_eq_true ((ordF_ahead x y).2 h)
    | false => exact decide_eq_false (fun n => by rw [(ordF_ahead x y).1 n] at h; cases h)
  have e : ltC ordF = aheadF := funext fun x => funext fun y => key x y
  rw [e]
  have lv : ∀ x y : Fl, x.lev ≠ y.lev → aheadF x y = decide (x.lev < y.lev) := fun x y h => by unfold aheadF; rw [if_pos h]
  have l0 : ∀ x y : Fl, x.lev = y.lev → x.lev = 0 → aheadF x y = decide (y.num < x.num) := fun x y h h0 => by unfold aheadF; rw [if_neg (fun n => n h), if_pos h0]
  have ls : ∀ x y : Fl, x.lev = y.lev → x.lev ≠ 0 → aheadF x y = Op.bytesLess x.first y.first := fun x y h h0 => by unfold aheadF; rw [if_neg (fun n => n h), if_neg h0]
  refine ⟨fun x => ?_, fun x y h => ?_, fun x y z h k => ?_, fun x y z h k => ?_⟩
  · by_cases h0 : x.lev = 0
    · rw [l0 x x rfl h0]; simp
    · rw [ls x x rfl h0, less_irr]
  · by_cases hl : x.lev = y.lev
    · by_cases h0 : x.lev = 0
      · rw [l0 x y hl h0] at h
        rw [l0 y x hl.symm (hl ▸ h0)]
        have := of_decide_eq_true h
        exact decide_eq_false (by omega)
      · rw [ls x y hl h0] at h
        rw [ls y x hl.symm (hl ▸ h0)]
        exact less_asymm h
    · rw [lv x y hl] at h
      rw [lv y x (Ne.symm hl)]
      have := of_decide_eq_true h
      exact decide_eq_false (by omega)
  · by_cases hl : x.lev = y.lev <;> by_cases hk : y.lev = z.lev
    · by_cases h0 : x.lev = 0
      · rw [l0 x y hl h0] at h
        rw [l0 y z hk (hl ▸ h0)] at k
        rw [l0 x z (hl.trans hk) h0]
        have := of_decide_eq_true h
        have := of_decide_eq_true k
        exact decide_eq_true (by omega)
      · rw [ls x y hl h0] at h
        rw [ls y z hk (hl ▸ h0)] at k
        rw [ls x z (hl.trans hk) h0]
        exact less_trans h k
    · rw [lv y z hk] at k
      have := of_decide_eq_true k
      rw [lv x z (by omega)]
      exact decide_eq_true (by omega)
    · rw [lv x y hl] at h
      have := of_decide_eq_true h
      rw [lv x z (by omega)]
      exact decide_eq_true (by omega)
    · rw [lv x y hl] at h
      rw [lv y z hk] at k
      have := of_decide_eq_true h
      have := of_decide_eq_true k
      rw [lv x z (by omega)]
      exact decide_eq_true (by omega)
  · by_cases hl : x.lev = y.lev <;> by_cases hk : y.lev = z.lev
    · by_cases h0 : x.lev = 0
      · rw [l0 x y hl h0] at h
        rw [l0 y z hk (hl ▸ h0)] at k
        rw [l0 x z (hl.trans hk) h0]
        have := of_decide_eq_false h
        have := of_decide_eq_false k
        exact decide_eq_false (by omega)
      · rw [ls x y hl h0] at h
        rw [ls y z hk (hl ▸ h0)] at k
        rw [ls x z (hl.trans hk) h0]
        cases hx : Op.bytesLess x.first z.first with
        | false => rfl
        | true => rw [less_ge hx k] at h; cases h
    · rw [lv y z hk] at k
      have := of_decide_eq_false k
      rw [lv x z (by omega)]
      exact decide_eq_false (by omega)
    · rw [lv x y hl] at h
      have := of_decide_eq_false h
      rw [lv x z (by omega)]
      exact decide_eq_false (by omega)
    · rw [lv x y hl] at h
      rw [lv y z hk] at k
      have := of_decide_eq_false h
      have := of_decide_eq_false k
      rw [lv x z (by omega)]
      exact decide_eq_false (by omega)
def keptF (l : List Fl) (gone : List Int) : List Fl := l.filter (fun f => !gone.contains f.num)
def hasN (l : List Fl) (n : Int) : Bool := l.any (fun f => f.num == n)
def badN (f : Fl) : Prop := f.num < 0 ∨ 1073741824 ≤ f.num
instance (f : Fl) : Decidable (badN f) := by unfold badN; infer_instance
def nextF (n : Int) (l : List Fl) : Int := l.foldl (fun a f => if f.num + 1 > a then f.num + 1 else a) n
def zS : Stt := ⟨0, 0, []⟩
theorem cle_zS {fr : Fr} : CLe fr (.agg [.i .i64 0, .i .i64 0, .nil]) (eSt zS) := CLe.agg (.cons (CLe.refl _) (.cons (CLe.refl _) (.cons CLe.nilsl .nil)))
def outF (s : Stt) (gone : List Int) (fresh : List Fl) (log : Int) : Stt := ⟨nextF s.next fresh, log, sortS (ltC ordF) (keptF s.fs gone ++ fresh)⟩
def applyF (s : Stt) (gone : List Int) (fresh : List Fl) (log : Int) : Stt × Int :=
  if lcheck s ≠ 0 then (zS, lcheck s) else if ¬ (∀ n ∈ gone, hasN s.fs n = true) then (zS, 7) else if ∃ f ∈ fresh, badN f then (zS, 1)
  else if lcheck (outF s gone fresh log) ≠ 0 then (zS, lcheck (outF s gone fresh log)) else (outF s gone fresh log, 0)
theorem keptF_step (l : List Fl) (gone : List Int) (i : Nat) (h : i < l.length) : keptF (l.take (i + 1)) gone = if gone.contains l[i].num = true then keptF (l.take i) gone else keptF (l.take i) gone ++ [l[i]] := by
  unfold keptF
  rw [List.take_succ_eq_append_getElem h, List.filter_append, List.filter_cons, List.filter_nil]
  cases hc : gone.contains l[i].num with
  | true => rw [if_neg (by decide), if_pos rfl, List.append_nil]
  | false => rw [if_pos (by decide), if_neg (by decide)]
theorem keptF_len (l : List Fl) (gone : List Int) : (keptF l gone).length ≤ l.length := List.length_filter_le _ _
theorem nextF_step (n : Int) (l : List Fl) (i : Nat) (h : i < l.length) : nextF n (l.take (i + 1)) = if l[i].num + 1 > nextF n (l.take i) then l[i].num + 1 else nextF n (l.take i) := by
  unfold nextF; rw [List.take_succ_eq_append_getElem h, List.foldl_append]; rfl
theorem apply1_spec (x : Fl) (n : Int) : Spec Try.prog 50 [eF x, .cp (.i .i64 n)] [] (fun v os => v = .b (x.num == n) ∧ os = []) := by
  refine spec_of TtOk [] Try.func50 rfl Try.ntmps50 (by kernel_rfl) rfl rfl (fun C => ?_) rfl
  unfold eF
  repeat' (first
    | refine Awp.seq ?_
    | refine Awp.region ?_
    | (refine Ops.nil ?_; show Awp _ _ _ _ _)
    | (refine Ops.nil ?_; show Exists _)
    | (refine Ops.nil ?_; show endK _ _ _ _ _)
    | (refine Awp.ret ?_; show endK _ _ _ _ _)
    | (refine o_calm rfl TtOk rfl rfl rfl ?_ (fun _ => ?_); first | exact True.intro | exact ⟨rfl, rfl, rfl, rfl⟩ | exact ⟨rfl, True.intro⟩ | exact ⟨rfl, rfl⟩ | exact ⟨rfl, rfl, rfl⟩ | exact rfl | exact ⟨fun h0 => by cases h0, rfl⟩ | exact (fun h0 => by cases h0) | exact ⟨rfl, by omega⟩ | exact ⟨Nat.succ_ne_zero _, rfl⟩ | omega)
    | refine o_box rfl rfl rfl rfl (fun _ => ?_)
    | refine o_eqNil TtOk rfl rfl rfl rfl rfl ?_
    | refine o_eqArr8 TtOk rfl rfl rfl rfl rfl rfl (by kernel_rfl) ?_)
  exact end_tmp rfl rfl rfl [] [] (CLe.of_eq rfl) .nil ⟨rfl, rfl⟩ _ (.inl rfl)
theorem apply_spec (s : Stt) (gone : List Int) (fresh : List Fl) (log : Int) (hl : s.fs.length ≤ 1000) (hg : gone.length ≤ 1000) (hf : fresh.length ≤ 1000) :
    Spec Try.prog 21 [eSt s, .sl 1 (gone.map (AV.i .i64)), .sl 5 (fresh.map eF), .i .i64 log] [] (fun v os => v = .tup [eSt (applyF s gone fresh log).1, .i .i64 (applyF s gone fresh log).2] ∧ os = []) := by
  refine spec_of TtOk [] Try.func21 rfl Try.ntmps21 (by kernel_rfl) rfl rfl (fun C => ?_) rfl
  have hck := lcheck_spec s
  have hap : applyF s gone fresh log = if lcheck s ≠ 0 then (zS, lcheck s) else if ¬ (∀ n ∈ gone, hasN s.fs n = true) then (zS, 7) else if ∃ f ∈ fresh, badN f then (zS, 1)
    else if lcheck (outF s gone fresh log) ≠ 0 then (zS, lcheck (outF s gone fresh log)) else (outF s gone fresh log, 0) := rfl
  generalize applyF s gone fresh log = r at hap ⊢
  unfold eSt at *
  by_cases h0 : lcheck s ≠ 0
  · rw [if_pos h0] at hap
    generalize lcheck s = c at hck hap h0
    subst hap
    repeat' (first
      | refine Awp.seq ?_
      | refine Awp.block ?_
      | refine Awp.region ?_
      | (refine Ops.nil ?_; show Awp _ _ _ _ _)
      | (refine Ops.nil ?_; show Exists _)
      | (refine Ops.nil ?_; show endK _ _ _ _ _)
      | (refine Awp.skip ?_; show Awp _ _ _ _ _)
      | (refine Awp.skip ?_; show endK _ _ _ _ _)
      | (refine Awp.skip ?_; show Exists _)
      | (refine Awp.exit ?_; show Awp _ _ _ _ _)
      | (refine Awp.exit ?_; show Exists _)
      | (refine Awp.exit ?_; show endK _ _ _ _ _)
      | (refine Awp.ret ?_; show endK _ _ _ _ _)
      | refine o_offT rfl rfl rfl (by first | exact .inl rfl | exact .inr rfl) ?_
      | refine o_offU rfl rfl rfl (by first | exact .inl rfl | exact .inr rfl) ?_
      | refine o_offF rfl rfl rfl (by first | exact .inl rfl | exact .inr rfl) ?_
      | (refine o_add rfl rfl rfl rfl ?_ ?_; omega)
      | refine o_len rfl TtOk rfl rfl rfl (fun _ => ?_)
      | refine o_lenOwn rfl TtOk rfl rfl rfl rfl (fun _ => ?_)
      | (refine o_calm rfl TtOk rfl rfl rfl ?_ (fun _ => ?_); first | exact True.intro | exact ⟨rfl, rfl, rfl, rfl⟩ | exact ⟨rfl, True.intro⟩ | exact ⟨rfl, rfl⟩ | exact ⟨rfl, rfl, rfl⟩ | exact rfl | exact ⟨fun h0 => by cases h0, rfl⟩ | exact (fun h0 => by cases h0) | exact ⟨rfl, by omega⟩ | exact ⟨Nat.succ_ne_zero _, rfl⟩ | omega)
      | refine o_alloc (d := 8) rfl TtOk rfl rfl rfl (fun b8 => ?_)
      | refine o_alloc (d := 11) rfl TtOk rfl rfl rfl (fun b11 => ?_)
      | refine o_alloc (d := 13) rfl TtOk rfl rfl rfl (fun b13 => ?_)
      | refine o_alloc (d := 15) rfl TtOk rfl rfl rfl (fun b15 => ?_)
      | refine o_alloc (d := 17) rfl TtOk rfl rfl rfl (fun b17 => ?_)
      | refine o_box (d := 4) rfl rfl rfl rfl (fun b4 => ?_)
      | refine o_store TtOk rfl rfl rfl rfl rfl rfl rfl ⟨rfl, rfl⟩ rfl rfl rfl rfl rfl ?_
      | (refine o_index rfl TtOk rfl rfl rfl rfl rfl rfl ?_ (getq_nat ?_) ?_; omega; omega)
      | (refine o_indexOwn TtOk rfl rfl rfl rfl rfl rfl rfl rfl _ rfl ?_ (fun bO hbO => ?_); (simp only [List.length_map]; omega))
      | (refine o_loadRow TtOk rfl rfl rfl rfl rfl (by assumption) (getq_map (List.getElem?_eq_getElem ?_)) rfl rfl (by first | exact Nat.add_zero _ | rfl) ⟨rfl, rfl⟩ ?_; omega)
      | (refine o_calm rfl TtOk rfl rfl rfl ?_ (fun _ => ?_); (show List.length _ + List.length _ ≤ 9223372036854775807; (try simp only [List.length_append, List.length_cons, List.length_nil]); omega))
      | (refine o_storeRow TtOk rfl rfl rfl rfl rfl rfl (by assumption) (getq_map (List.getElem?_eq_getElem ?_)) rfl rfl (by first | exact Nat.add_zero _ | rfl) ⟨rfl, rfl⟩ rfl rfl ?_; omega)
      | refine o_build TtOk rfl rfl rfl rfl rfl rfl (by repeat' (first | exact True.intro | exact rfl | refine ⟨?_, ?_⟩)) ?_
      | refine o_buildArr0 TtOk rfl rfl rfl rfl ?_
      | refine o_buildSlice TtOk rfl rfl rfl rfl rfl rfl rfl rfl rfl rfl rfl (by repeat' (first | exact True.intro | exact rfl | refine ⟨?_, ?_⟩)) (fun _ => ?_)
      | (refine o_append TtOk rfl rfl rfl rfl rfl rfl rfl rfl rfl (by first | exact True.intro | exact rfl) rfl rfl (fun _ => rfl) ?_ ?_ (fun _ => ?_); (simp only [List.length_map, List.length_cons, List.length_nil, List.length_append, List.length_take, List.length_drop]; omega); (simp only [List.length_map, List.length_cons, List.length_nil, List.length_append, List.length_take, List.length_drop]; omega))
      | (refine o_appendStr TtOk rfl rfl rfl rfl rfl rfl rfl rfl rfl (fun _ => rfl) ?_ (fun _ => ?_); (simp only [List.length_map, List.length_cons, List.length_nil, List.length_append, List.length_take, List.length_drop]; omega))
      | (fail_if_success (refine o_isLit rfl (by first | exact .inl rfl | exact .inr rfl) ?_)); (refine o_splitP rfl rfl (fun hc => ?_) (fun hc => ?_) <;> try (exfalso; omega))
      | (fail_if_success (refine o_isLit rfl (by first | exact .inl rfl | exact .inr rfl) ?_)); (refine o_splitI rfl rfl (fun hc => ?_) (fun hc => ?_) <;> try (exfalso; omega))
      | (fail_if_success (refine o_isLit rfl (by first | exact .inl rfl | exact .inr rfl) ?_)); (refine o_splitN rfl rfl (fun hc => ?_) (fun hc => ?_) <;> try (exfalso; omega))
      | (fail_if_success (refine o_isLit rfl (by first | exact .inl rfl | exact .inr rfl) ?_)); (refine o_split rfl rfl (fun hc => ?_) (fun hc => ?_))
      | refine a_condT rfl ?_
      | refine a_condF rfl ?_
      | (refine a_condP rfl (fun hc => ?_) (fun hc => ?_)) <;> (try (exfalso; omega))
      | (refine a_condI rfl (fun hc => ?_) (fun hc => ?_)) <;> (try (exfalso; omega))
      | (refine a_condN rfl (fun hc => ?_) (fun hc => ?_)) <;> (try (exfalso; omega))
      | (refine Awp.cond rfl (fun hc => ?_) (fun hc => ?_))
      | (refine o_call0 rfl (hck) ⟨SLe.of_eq rfl, True.intro⟩ rfl ?_; rintro _ _ ⟨rfl, rfl⟩; refine ⟨rfl, ?_⟩))
    refine end_all [] [] (.tup [eSt zS, .i .i64 c]) rfl ?_ ?_ (rle_tup2 cle_zS (CLe.of_eq rfl) rfl rfl) .nil ⟨rfl, rfl⟩ _ (.inl rfl)
    all_goals first | exact ⟨trivial, trivial⟩ | trivial | exact ⟨trivial, trivial, trivial⟩ | (repeat' (first | exact True.intro | exact rfl | refine ⟨?_, ?_⟩))
  rw [if_neg h0] at hap
  have h0 : lcheck s = 0 := Classical.byContradiction h0
  rw [h0] at hck
  repeat' (first
    | refine Awp.seq ?_
    | refine Awp.block ?_
    | refine Awp.region ?_
    | (refine Ops.nil ?_; show Awp _ _ _ _ _)
    | (refine Ops.nil ?_; show Exists _)
    | (refine Ops.nil ?_; show endK _ _ _ _ _)
    | (refine Awp.skip ?_; show Awp _ _ _ _ _)
    | (refine Awp.skip ?_; show endK _ _ _ _ _)
    | (refine Awp.skip ?_; show Exists _)
    | (refine Awp.exit ?_; show Awp _ _ _ _ _)
    | (refine Awp.exit ?_; show Exists _)
    | (refine Awp.exit ?_; show endK _ _ _ _ _)
    | (refine Awp.ret ?_; show endK _ _ _ _ _)
    | refine o_offT rfl rfl rfl (by first | exact .inl rfl | exact .inr rfl) ?_
    | refine o_offU rfl rfl rfl (by first | exact .inl rfl | exact .inr rfl) ?_
    | refine o_offF rfl rfl rfl (by first | exact .inl rfl | exact .inr rfl) ?_
    | (refine o_add rfl rfl rfl rfl ?_ ?_; omega)
    | refine o_len rfl TtOk rfl rfl rfl (fun _ => ?_)
    | refine o_lenOwn rfl TtOk rfl rfl rfl rfl (fun _ => ?_)
    | (refine o_calm rfl TtOk rfl rfl rfl ?_ (fun _ => ?_); first | exact True.intro | exact ⟨rfl, rfl, rfl, rfl⟩ | exact ⟨rfl, True.intro⟩ | exact ⟨rfl, rfl⟩ | exact ⟨rfl, rfl, rfl⟩ | exact rfl | exact ⟨fun h0 => by cases h0, rfl⟩ | exact (fun h0 => by cases h0) | exact ⟨rfl, by omega⟩ | exact ⟨Nat.succ_ne_zero _, rfl⟩ | omega)
    | refine o_alloc (d := 8) rfl TtOk rfl rfl rfl (fun b8 => ?_)
    | refine o_alloc (d := 11) rfl TtOk rfl rfl rfl (fun b11 => ?_)
    | refine o_alloc (d := 13) rfl TtOk rfl rfl rfl (fun b13 => ?_)
    | refine o_alloc (d := 15) rfl TtOk rfl rfl rfl (fun b15 => ?_)
    | refine o_alloc (d := 17) rfl TtOk rfl rfl rfl (fun b17 => ?_)
    | refine o_box (d := 4) rfl rfl rfl rfl (fun b4 => ?_)
    | refine o_store TtOk rfl rfl rfl rfl rfl rfl rfl ⟨rfl, rfl⟩ rfl rfl rfl rfl rfl ?_
    | (refine o_index rfl TtOk rfl rfl rfl rfl rfl rfl ?_ (getq_nat ?_) ?_; omega; omega)
    | (refine o_indexOwn TtOk rfl rfl rfl rfl rfl rfl rfl rfl _ rfl ?_ (fun bO hbO => ?_); (simp only [List.length_map]; omega))
    | (refine o_loadRow TtOk rfl rfl rfl rfl rfl (by assumption) (getq_map (List.getElem?_eq_getElem ?_)) rfl rfl (by first | exact Nat.add_zero _ | rfl) ⟨rfl, rfl⟩ ?_; omega)
    | (refine o_calm rfl TtOk rfl rfl rfl ?_ (fun _ => ?_); (show List.length _ + List.length _ ≤ 9223372036854775807; (try simp only [List.length_append, List.length_cons, List.length_nil]); omega))
    | (refine o_storeRow TtOk rfl rfl rfl rfl rfl rfl (by assumption) (getq_map (List.getElem?_eq_getElem ?_)) rfl rfl (by first | exact Nat.add_zero _ | rfl) ⟨rfl, rfl⟩ rfl rfl ?_; omega)
    | refine o_build TtOk rfl rfl rfl rfl rfl rfl (by repeat' (first | exact True.intro | exact rfl | refine ⟨?_, ?_⟩)) ?_
    | refine o_buildArr0 TtOk rfl rfl rfl rfl ?_
    | refine o_buildSlice TtOk rfl rfl rfl rfl rfl rfl rfl rfl rfl rfl rfl (by repeat' (first | exact True.intro | exact rfl | refine ⟨?_, ?_⟩)) (fun _ => ?_)
    | (refine o_append TtOk rfl rfl rfl rfl rfl rfl rfl rfl rfl (by first | exact True.intro | exact rfl) rfl rfl (fun _ => rfl) ?_ ?_ (fun _ => ?_); (simp only [List.length_map, List.length_cons, List.length_nil, List.length_append, List.length_take, List.length_drop]; omega); (simp only [List.length_map, List.length_cons, List.length_nil, List.length_append, List.length_take, List.length_drop]; omega))
    | (refine o_appendStr TtOk rfl rfl rfl rfl rfl rfl rfl rfl rfl (fun _ => rfl) ?_ (fun _ => ?_); (simp only [List.length_map, List.length_cons, List.length_nil, List.length_append, List.length_take, List.length_drop]; omega))
    | (fail_if_success (refine o_isLit rfl (by first | exact .inl rfl | exact .inr rfl) ?_)); (refine o_splitP rfl rfl (fun hc => ?_) (fun hc => ?_) <;> try (exfalso; omega))
    | (fail_if_success (refine o_isLit rfl (by first | exact .inl rfl | exact .inr rfl) ?_)); (refine o_splitI rfl rfl (fun hc => ?_) (fun hc => ?_) <;> try (exfalso; omega))
    | (fail_if_success (refine o_isLit rfl (by first | exact .inl rfl | exact .inr rfl) ?_)); (refine o_splitN rfl rfl (fun hc => ?_) (fun hc => ?_) <;> try (exfalso; omega))
    | (fail_if_success (refine o_isLit rfl (by first | exact .inl rfl | exact .inr rfl) ?_)); (refine o_split rfl rfl (fun hc => ?_) (fun hc => ?_))
    | refine a_condT rfl ?_
    | refine a_condF rfl ?_
    | (refine a_condP rfl (fun hc => ?_) (fun hc => ?_)) <;> (try (exfalso; omega))
    | (refine a_condI rfl (fun hc => ?_) (fun hc => ?_)) <;> (try (exfalso; omega))
    | (refine a_condN rfl (fun hc => ?_) (fun hc => ?_)) <;> (try (exfalso; omega))
    | (refine Awp.cond rfl (fun hc => ?_) (fun hc => ?_))
    | (refine o_call0 rfl (hck) ⟨SLe.of_eq rfl, True.intro⟩ rfl ?_; rintro _ _ ⟨rfl, rfl⟩; refine ⟨rfl, ?_⟩))
  refine Awp.loop (fun q : Nat => ⟨100, [(31, .i .i64 q), (30, .i .i64 gone.length), (29, .sl 1 (gone.map (AV.i .i64))), (11, .ptr 11 b11 [] 0), (8, .ptr 8 b8 [] 0), (4, .ptr 4 b4 [] 0), (1, .sl 1 (gone.map (AV.i .i64))), (2, .sl 5 (fresh.map eF))], [(11, .var b11 (.agg [.i .i64 s.next, .i .i64 log, .nil])), (8, .var b8 (.agg [.i .i64 0, .i .i64 0, .nil])), (4, .var b4 (.agg [.i .i64 s.next, .i .i64 s.log, .sl 5 (s.fs.map eF)]))]⟩) (fun q => q ≤ gone.length ∧ ∀ i (h : i < gone.length), i < q → hasN s.fs gone[i] = true) (fun q => gone.length - q) [] 0 ⟨Nat.zero_le _, fun _ _ h => absurd h (Nat.not_lt_zero _)⟩ ?_ ?_
  · exact ⟨rfl, ⟨sle_i rfl, sle_i rfl, sle_sl rfl, sle_ptr, sle_ptr, sle_ptr, sle_sl rfl, sle_sl rfl, True.intro⟩, HLe.cons 11 rfl (HOLe.refl _) (HLe.cons 8 rfl (HOLe.refl _) (HLe.cons 4 rfl (HOLe.refl _) .nil))⟩
  rintro k ⟨hk, hall⟩
  by_cases hlt : k < gone.length
  · have hct := ctf_spec s.fs 50 [.cp (.i .i64 gone[k])] rfl (fun f => f.num == gone[k]) (fun x _ => apply1_spec x gone[k]) (by omega)
    have hh : hasN s.fs gone[k] = s.fs.any (fun f => f.num == gone[k]) := rfl
    generalize s.fs.any (fun f => f.num == gone[k]) = an at hct hh
    cases an with
    | true =>
      repeat' (first
        | refine Awp.seq ?_
        | refine Awp.block ?_
        | refine Awp.region ?_
        | (refine Ops.nil ?_; show Awp _ _ _ _ _)
        | (refine Ops.nil ?_; show Exists _)
        | (refine Ops.nil ?_; show endK _ _ _ _ _)
        | (refine Awp.skip ?_; show Awp _ _ _ _ _)
        | (refine Awp.skip ?_; show endK _ _ _ _ _)
        | (refine Awp.skip ?_; show Exists _)
        | (refine Awp.exit ?_; show Awp _ _ _ _ _)
        | (refine Awp.exit ?_; show Exists _)
        | (refine Awp.exit ?_; show endK _ _ _ _ _)
        | (refine Awp.ret ?_; show endK _ _ _ _ _)
        | refine o_offT rfl rfl rfl (by first | exact .inl rfl | exact .inr rfl) ?_
        | refine o_offU rfl rfl rfl (by first | exact .inl rfl | exact .inr rfl) ?_
        | refine o_offF rfl rfl rfl (by first | exact .inl rfl | exact .inr rfl) ?_
        | (refine o_add rfl rfl rfl rfl ?_ ?_; omega)
        | refine o_len rfl TtOk rfl rfl rfl (fun _ => ?_)
        | refine o_lenOwn rfl TtOk rfl rfl rfl rfl (fun _ => ?_)
        | (refine o_calm rfl TtOk rfl rfl rfl ?_ (fun _ => ?_); first | exact True.intro | exact ⟨rfl, rfl, rfl, rfl⟩ | exact ⟨rfl, True.intro⟩ | exact ⟨rfl, rfl⟩ | exact ⟨rfl, rfl, rfl⟩ | exact rfl | exact ⟨fun h0 => by cases h0, rfl⟩ | exact (fun h0 => by cases h0) | exact ⟨rfl, by omega⟩ | exact ⟨Nat.succ_ne_zero _, rfl⟩ | omega)
        | refine o_alloc (d := 8) rfl TtOk rfl rfl rfl (fun b8 => ?_)
        | refine o_alloc (d := 11) rfl TtOk rfl rfl rfl (fun b11 => ?_)
        | refine o_alloc (d := 13) rfl TtOk rfl rfl rfl (fun b13 => ?_)
        | refine o_alloc (d := 15) rfl TtOk rfl rfl rfl (fun b15 => ?_)
        | refine o_alloc (d := 17) rfl TtOk rfl rfl rfl (fun b17 => ?_)
        | refine o_box (d := 4) rfl rfl rfl rfl (fun b4 => ?_)
        | refine o_store TtOk rfl rfl rfl rfl rfl rfl rfl ⟨rfl, rfl⟩ rfl rfl rfl rfl rfl ?_
        | (refine o_index rfl TtOk rfl rfl rfl rfl rfl rfl ?_ (getq_nat ?_) ?_; omega; omega)
        | (refine o_indexOwn TtOk rfl rfl rfl rfl rfl rfl rfl rfl _ rfl ?_ (fun bO hbO => ?_); (simp only [List.length_map]; omega))
        | (refine o_loadRow TtOk rfl rfl rfl rfl rfl (by assumption) (getq_map (List.getElem?_eq_getElem ?_)) rfl rfl (by first | exact Nat.add_zero _ | rfl) ⟨rfl, rfl⟩ ?_; omega)
        | (refine o_calm rfl TtOk rfl rfl rfl ?_ (fun _ => ?_); (show List.length _ + List.length _ ≤ 9223372036854775807; (try simp only [List.length_append, List.length_cons, List.length_nil]); omega))
        | (refine o_storeRow TtOk rfl rfl rfl rfl rfl rfl (by assumption) (getq_map (List.getElem?_eq_getElem ?_)) rfl rfl (by first | exact Nat.add_zero _ | rfl) ⟨rfl, rfl⟩ rfl rfl ?_; omega)
        | refine o_build TtOk rfl rfl rfl rfl rfl rfl (by repeat' (first | exact True.intro | exact rfl | refine ⟨?_, ?_⟩)) ?_
        | refine o_buildArr0 TtOk rfl rfl rfl rfl ?_
        | refine o_buildSlice TtOk rfl rfl rfl rfl rfl rfl rfl rfl rfl rfl rfl (by repeat' (first | exact True.intro | exact rfl | refine ⟨?_, ?_⟩)) (fun _ => ?_)
        | (refine o_append TtOk rfl rfl rfl rfl rfl rfl rfl rfl rfl (by first | exact True.intro | exact rfl) rfl rfl (fun _ => rfl) ?_ ?_ (fun _ => ?_); (simp only [List.length_map, List.length_cons, List.length_nil, List.length_append, List.length_take, List.length_drop]; omega); (simp only [List.length_map, List.length_cons, List.length_nil, List.length_append, List.length_take, List.length_drop]; omega))
        | (refine o_appendStr TtOk rfl rfl rfl rfl rfl rfl rfl rfl rfl (fun _ => rfl) ?_ (fun _ => ?_); (simp only [List.length_map, List.length_cons, List.length_nil, List.length_append, List.length_take, List.length_drop]; omega))
        | (fail_if_success (refine o_isLit rfl (by first | exact .inl rfl | exact .inr rfl) ?_)); (refine o_splitP rfl rfl (fun hc => ?_) (fun hc => ?_) <;> try (exfalso; omega))
        | (fail_if_success (refine o_isLit rfl (by first | exact .inl rfl | exact .inr rfl) ?_)); (refine o_splitI rfl rfl (fun hc => ?_) (fun hc => ?_) <;> try (exfalso; omega))
        | (fail_if_success (refine o_isLit rfl (by first | exact .inl rfl | exact .inr rfl) ?_)); (refine o_splitN rfl rfl (fun hc => ?_) (fun hc => ?_) <;> try (exfalso; omega))
        | (fail_if_success (refine o_isLit rfl (by first | exact .inl rfl | exact .inr rfl) ?_)); (refine o_split rfl rfl (fun hc => ?_) (fun hc => ?_))
        | refine a_condT rfl ?_
        | refine a_condF rfl ?_
        | (refine a_condP rfl (fun hc => ?_) (fun hc => ?_)) <;> (try (exfalso; omega))
        | (refine a_condI rfl (fun hc => ?_) (fun hc => ?_)) <;> (try (exfalso; omega))
        | (refine a_condN rfl (fun hc => ?_) (fun hc => ?_)) <;> (try (exfalso; omega))
        | (refine Awp.cond rfl (fun hc => ?_) (fun hc => ?_))
        | (refine o_freezeV 13 13 rfl rfl rfl ?_; refine o_makeFunc1 rfl rfl rfl rfl rfl ?_)
        | (refine o_call0 rfl (hct) ⟨SLe.of_eq rfl, SLe.of_eq rfl, True.intro⟩ rfl ?_; rintro _ _ ⟨rfl, rfl⟩; refine ⟨rfl, ?_⟩))
      exact ⟨k + 1, [], ⟨hlt, fun i h hi => by
        rcases Nat.lt_succ_iff_lt_or_eq.1 hi with h2 | h2
        · exact hall i h h2
        · subst h2; exact hh⟩, by show gone.length - (k + 1) < gone.length - k; omega, rfl, ⟨sle_i rfl, sle_i rfl, sle_sl rfl, sle_ptr, sle_ptr, sle_ptr, sle_sl rfl, sle_sl rfl, True.intro⟩, HLe.cons 11 rfl (HOLe.refl _) (HLe.cons 8 rfl (HOLe.refl _) (HLe.cons 4 rfl (HOLe.refl _) .nil))⟩
    | false =>
      have hn : ¬ (∀ n ∈ gone, hasN s.fs n = true) := fun h => by
        have := h gone[k] (List.getElem_mem hlt)
        rw [hh] at this; cases this
      rw [if_pos hn] at hap
      subst hap
      repeat' (first
        | refine Awp.seq ?_
        | refine Awp.block ?_
        | refine Awp.region ?_
        | (refine Ops.nil ?_; show Awp _ _ _ _ _)
        | (refine Ops.nil ?_; show Exists _)
        | (refine Ops.nil ?_; show endK _ _ _ _ _)
        | (refine Awp.skip ?_; show Awp _ _ _ _ _)
        | (refine Awp.skip ?_; show endK _ _ _ _ _)
        | (refine Awp.skip ?_; show Exists _)
        | (refine Awp.exit ?_; show Awp _ _ _ _ _)
        | (refine Awp.exit ?_; show Exists _)
        | (refine Awp.exit ?_; show endK _ _ _ _ _)
        | (refine Awp.ret ?_; show endK _ _ _ _ _)
        | refine o_offT rfl rfl rfl (by first | exact .inl rfl | exact .inr rfl) ?_
        | refine o_offU rfl rfl rfl (by first | exact .inl rfl | exact .inr rfl) ?_
        | refine o_offF rfl rfl rfl (by first | exact .inl rfl | exact .inr rfl) ?_
        | (refine o_add rfl rfl rfl rfl ?_ ?_; omega)
        | refine o_len rfl TtOk rfl rfl rfl (fun _ => ?_)
        | refine o_lenOwn rfl TtOk rfl rfl rfl rfl (fun _ => ?_)
        | (refine o_calm rfl TtOk rfl rfl rfl ?_ (fun _ => ?_); first | exact True.intro | exact ⟨rfl, rfl, rfl, rfl⟩ | exact ⟨rfl, True.intro⟩ | exact ⟨rfl, rfl⟩ | exact ⟨rfl, rfl, rfl⟩ | exact rfl | exact ⟨fun h0 => by cases h0, rfl⟩ | exact (fun h0 => by cases h0) | exact ⟨rfl, by omega⟩ | exact ⟨Nat.succ_ne_zero _, rfl⟩ | omega)
        | refine o_alloc (d := 8) rfl TtOk rfl rfl rfl (fun b8 => ?_)
        | refine o_alloc (d := 11) rfl TtOk rfl rfl rfl (fun b11 => ?_)
        | refine o_alloc (d := 13) rfl TtOk rfl rfl rfl (fun b13 => ?_)
        | refine o_alloc (d := 15) rfl TtOk rfl rfl rfl (fun b15 => ?_)
        | refine o_alloc (d := 17) rfl TtOk rfl rfl rfl (fun b17 => ?_)
        | refine o_box (d := 4) rfl rfl rfl rfl (fun b4 => ?_)
        | refine o_store TtOk rfl rfl rfl rfl rfl rfl rfl ⟨rfl, rfl⟩ rfl rfl rfl rfl rfl ?_
        | (refine o_index rfl TtOk rfl rfl rfl rfl rfl rfl ?_ (getq_nat ?_) ?_; omega; omega)
        | (refine o_indexOwn TtOk rfl rfl rfl rfl rfl rfl rfl rfl _ rfl ?_ (fun bO hbO => ?_); (simp only [List.length_map]; omega))
        | (refine o_loadRow TtOk rfl rfl rfl rfl rfl (by assumption) (getq_map (List.getElem?_eq_getElem ?_)) rfl rfl (by first | exact Nat.add_zero _ | rfl) ⟨rfl, rfl⟩ ?_; omega)
        | (refine o_calm rfl TtOk rfl rfl rfl ?_ (fun _ => ?_); (show List.length _ + List.length _ ≤ 9223372036854775807; (try simp only [List.length_append, List.length_cons, List.length_nil]); omega))
        | (refine o_storeRow TtOk rfl rfl rfl rfl rfl rfl (by assumption) (getq_map (List.getElem?_eq_getElem ?_)) rfl rfl (by first | exact Nat.add_zero _ | rfl) ⟨rfl, rfl⟩ rfl rfl ?_; omega)
        | refine o_build TtOk rfl rfl rfl rfl rfl rfl (by repeat' (first | exact True.intro | exact rfl | refine ⟨?_, ?_⟩)) ?_
        | refine o_buildArr0 TtOk rfl rfl rfl rfl ?_
        | refine o_buildSlice TtOk rfl rfl rfl rfl rfl rfl rfl rfl rfl rfl rfl (by repeat' (first | exact True.intro | exact rfl | refine ⟨?_, ?_⟩)) (fun _ => ?_)
        | (refine o_append TtOk rfl rfl rfl rfl rfl rfl rfl rfl rfl (by first | exact True.intro | exact rfl) rfl rfl (fun _ => rfl) ?_ ?_ (fun _ => ?_); (simp only [List.length_map, List.length_cons, List.length_nil, List.length_append, List.length_take, List.length_drop]; omega); (simp only [List.length_map, List.length_cons, List.length_nil, List.length_append, List.length_take, List.length_drop]; omega))
        | (refine o_appendStr TtOk rfl rfl rfl rfl rfl rfl rfl rfl rfl (fun _ => rfl) ?_ (fun _ => ?_); (simp only [List.length_map, List.length_cons, List.length_nil, List.length_append, List.length_take, List.length_drop]; omega))
        | (fail_if_success (refine o_isLit rfl (by first | exact .inl rfl | exact .inr rfl) ?_)); (refine o_splitP rfl rfl (fun hc => ?_) (fun hc => ?_) <;> try (exfalso; omega))
        | (fail_if_success (refine o_isLit rfl (by first | exact .inl rfl | exact .inr rfl) ?_)); (refine o_splitI rfl rfl (fun hc => ?_) (fun hc => ?_) <;> try (exfalso; omega))
        | (fail_if_success (refine o_isLit rfl (by first | exact .inl rfl | exact .inr rfl) ?_)); (refine o_splitN rfl rfl (fun hc => ?_) (fun hc => ?_) <;> try (exfalso; omega))
        | (fail_if_success (refine o_isLit rfl (by first | exact .inl rfl | exact .inr rfl) ?_)); (refine o_split rfl rfl (fun hc => ?_) (fun hc => ?_))
        | refine a_condT rfl ?_
        | refine a_condF rfl ?_
        | (refine a_condP rfl (fun hc => ?_) (fun hc => ?_)) <;> (try (exfalso; omega))
        | (refine a_condI rfl (fun hc => ?_) (fun hc => ?_)) <;> (try (exfalso; omega))
        | (refine a_condN rfl (fun hc => ?_) (fun hc => ?_)) <;> (try (exfalso; omega))
        | (refine Awp.cond rfl (fun hc => ?_) (fun hc => ?_))
        | (refine o_freezeV 13 13 rfl rfl rfl ?_; refine o_makeFunc1 rfl rfl rfl rfl rfl ?_)
        | (refine o_call0 rfl (hct) ⟨SLe.of_eq rfl, SLe.of_eq rfl, True.intro⟩ rfl ?_; rintro _ _ ⟨rfl, rfl⟩; refine ⟨rfl, ?_⟩))
      refine end_all [] [] (.tup [eSt zS, .i .i64 7]) rfl ?_ ?_ (rle_tup2 cle_zS (CLe.of_eq rfl) rfl rfl) .nil ⟨rfl, rfl⟩ _ (.inl rfl)
      all_goals first | exact ⟨trivial, trivial⟩ | trivial | exact ⟨trivial, trivial, trivial⟩ | (repeat' (first | exact True.intro | exact rfl | refine ⟨?_, ?_⟩))
  have hall2 : ∀ n ∈ gone, hasN s.fs n = true := fun n hn => by
    obtain ⟨i, hi, rfl⟩ := List.getElem_of_mem hn
    exact hall i hi (by omega)
  rw [if_neg (fun h => h hall2)] at hap
  clear hall
  repeat' (first
    | refine Awp.seq ?_
    | refine Awp.block ?_
    | refine Awp.region ?_
    | (refine Ops.nil ?_; show Awp _ _ _ _ _)
    | (refine Ops.nil ?_; show Exists _)
    | (refine Ops.nil ?_; show endK _ _ _ _ _)
    | (refine Awp.skip ?_; show Awp _ _ _ _ _)
    | (refine Awp.skip ?_; show endK _ _ _ _ _)
    | (refine Awp.skip ?_; show Exists _)
    | (refine Awp.exit ?_; show Awp _ _ _ _ _)
    | (refine Awp.exit ?_; show Exists _)
    | (refine Awp.exit ?_; show endK _ _ _ _ _)
    | (refine Awp.ret ?_; show endK _ _ _ _ _)
    | refine o_offT rfl rfl rfl (by first | exact .inl rfl | exact .inr rfl) ?_
    | refine o_offU rfl rfl rfl (by first | exact .inl rfl | exact .inr rfl) ?_
    | refine o_offF rfl rfl rfl (by first | exact .inl rfl | exact .inr rfl) ?_
    | (refine o_add rfl rfl rfl rfl ?_ ?_; omega)
    | refine o_len rfl TtOk rfl rfl rfl (fun _ => ?_)
    | refine o_lenOwn rfl TtOk rfl rfl rfl rfl (fun _ => ?_)
    | (refine o_calm rfl TtOk rfl rfl rfl ?_ (fun _ => ?_); first | exact True.intro | exact ⟨rfl, rfl, rfl, rfl⟩ | exact ⟨rfl, True.intro⟩ | exact ⟨rfl, rfl⟩ | exact ⟨rfl, rfl, rfl⟩ | exact rfl | exact ⟨fun h0 => by cases h0, rfl⟩ | exact (fun h0 => by cases h0) | exact ⟨rfl, by omega⟩ | exact ⟨Nat.succ_ne_zero _, rfl⟩ | omega)
    | refine o_alloc (d := 8) rfl TtOk rfl rfl rfl (fun b8 => ?_)
    | refine o_alloc (d := 11) rfl TtOk rfl rfl rfl (fun b11 => ?_)
    | refine o_alloc (d := 13) rfl TtOk rfl rfl rfl (fun b13 => ?_)
    | refine o_alloc (d := 15) rfl TtOk rfl rfl rfl (fun b15 => ?_)
    | refine o_alloc (d := 17) rfl TtOk rfl rfl rfl (fun b17 => ?_)
    | refine o_box (d := 4) rfl rfl rfl rfl (fun b4 => ?_)
    | refine o_store TtOk rfl rfl rfl rfl rfl rfl rfl ⟨rfl, rfl⟩ rfl rfl rfl rfl rfl ?_
    | (refine o_index rfl TtOk rfl rfl rfl rfl rfl rfl ?_ (getq_nat ?_) ?_; omega; omega)
    | (refine o_indexOwn TtOk rfl rfl rfl rfl rfl rfl rfl rfl _ rfl ?_ (fun bO hbO => ?_); (simp only [List.length_map]; omega))
    | (refine o_loadRow TtOk rfl rfl rfl rfl rfl (by assumption) (getq_map (List.getElem?_eq_getElem ?_)) rfl rfl (by first | exact Nat.add_zero _ | rfl) ⟨rfl, rfl⟩ ?_; omega)
    | (refine o_calm rfl TtOk rfl rfl rfl ?_ (fun _ => ?_); (show List.length _ + List.length _ ≤ 9223372036854775807; (try simp only [List.length_append, List.length_cons, List.length_nil]); omega))
    | (refine o_storeRow TtOk rfl rfl rfl rfl rfl rfl (by assumption) (getq_map (List.getElem?_eq_getElem ?_)) rfl rfl (by first | exact Nat.add_zero _ | rfl) ⟨rfl, rfl⟩ rfl rfl ?_; omega)
    | refine o_build TtOk rfl rfl rfl rfl rfl rfl (by repeat' (first | exact True.intro | exact rfl | refine ⟨?_, ?_⟩)) ?_
    | refine o_buildArr0 TtOk rfl rfl rfl rfl ?_
    | refine o_buildSlice TtOk rfl rfl rfl rfl rfl rfl rfl rfl rfl rfl rfl (by repeat' (first | exact True.intro | exact rfl | refine ⟨?_, ?_⟩)) (fun _ => ?_)
    | (refine o_append TtOk rfl rfl rfl rfl rfl rfl rfl rfl rfl (by first | exact True.intro | exact rfl) rfl rfl (fun _ => rfl) ?_ ?_ (fun _ => ?_); (simp only [List.length_map, List.length_cons, List.length_nil, List.length_append, List.length_take, List.length_drop]; omega); (simp only [List.length_map, List.length_cons, List.length_nil, List.length_append, List.length_take, List.length_drop]; omega))
    | (refine o_appendStr TtOk rfl rfl rfl rfl rfl rfl rfl rfl rfl (fun _ => rfl) ?_ (fun _ => ?_); (simp only [List.length_map, List.length_cons, List.length_nil, List.length_append, List.length_take, List.length_drop]; omega))
    | (fail_if_success (refine o_isLit rfl (by first | exact .inl rfl | exact .inr rfl) ?_)); (refine o_splitP rfl rfl (fun hc => ?_) (fun hc => ?_) <;> try (exfalso; omega))
    | (fail_if_success (refine o_isLit rfl (by first | exact .inl rfl | exact .inr rfl) ?_)); (refine o_splitI rfl rfl (fun hc => ?_) (fun hc => ?_) <;> try (exfalso; omega))
    | (fail_if_success (refine o_isLit rfl (by first | exact .inl rfl | exact .inr rfl) ?_)); (refine o_splitN rfl rfl (fun hc => ?_) (fun hc => ?_) <;> try (exfalso; omega))
    | (fail_if_success (refine o_isLit rfl (by first | exact .inl rfl | exact .inr rfl) ?_)); (refine o_split rfl rfl (fun hc => ?_) (fun hc => ?_))
    | refine a_condT rfl ?_
    | refine a_condF rfl ?_
    | (refine a_condP rfl (fun hc => ?_) (fun hc => ?_)) <;> (try (exfalso; omega))
    | (refine a_condI rfl (fun hc => ?_) (fun hc => ?_)) <;> (try (exfalso; omega))
    | (refine a_condN rfl (fun hc => ?_) (fun hc => ?_)) <;> (try (exfalso; omega))
    | (refine Awp.cond rfl (fun hc => ?_) (fun hc => ?_)))
  refine Awp.loop (fun q : Nat × Value => ⟨100, [(45, .i .i64 q.1), (44, .i .i64 s.fs.length), (43, .sl 5 (s.fs.map eF)), (11, .ptr 11 b11 [] 0), (8, .ptr 8 b8 [] 0), (1, .sl 1 (gone.map (AV.i .i64))), (2, .sl 5 (fresh.map eF))], [(11, .var b11 (.agg [.i .i64 s.next, .i .i64 log, .own 58 q.2])), (58, .row q.2 35 5 ((keptF (s.fs.take q.1) gone).map eF)), (8, .var b8 (.agg [.i .i64 0, .i .i64 0, .nil]))]⟩) (fun q => q.1 ≤ s.fs.length) (fun q => s.fs.length - q.1) [] (0, .slice none 0 0) (Nat.zero_le _) ?_ ?_
  · exact ⟨rfl, ⟨sle_i rfl, sle_i rfl, sle_sl rfl, sle_ptr, sle_ptr, sle_sl rfl, sle_sl rfl, True.intro⟩, HLe.cons 11 rfl (HOLe.var (CLe.agg (.cons (CLe.refl _) (.cons (CLe.refl _) (.cons CLe.nilown .nil))))) (.none (HLe.cons 8 rfl (HOLe.refl _) .nil))⟩
  rintro ⟨i, v⟩ hi
  dsimp only at hi ⊢
  by_cases hlt : i < s.fs.length
  · have hst := keptF_step s.fs gone i hlt
    have hfl := keptF_len (s.fs.take i) gone
    rw [List.length_take] at hfl
    have hcn := contains_spec gone s.fs[i].num (by omega)
    generalize keptF (s.fs.take i) gone = out at hst hfl ⊢
    generalize gone.contains s.fs[i].num = cb at hst hcn
    cases cb with
    | true =>
      rw [if_pos rfl] at hst
      repeat' (first
        | refine Awp.seq ?_
        | refine Awp.block ?_
        | refine Awp.region ?_
        | (refine Ops.nil ?_; show Awp _ _ _ _ _)
        | (refine Ops.nil ?_; show Exists _)
        | (refine Ops.nil ?_; show endK _ _ _ _ _)
        | (refine Awp.skip ?_; show Awp _ _ _ _ _)
        | (refine Awp.skip ?_; show endK _ _ _ _ _)
        | (refine Awp.skip ?_; show Exists _)
        | (refine Awp.exit ?_; show Awp _ _ _ _ _)
        | (refine Awp.exit ?_; show Exists _)
        | (refine Awp.exit ?_; show endK _ _ _ _ _)
        | (refine Awp.ret ?_; show endK _ _ _ _ _)
        | refine o_offT rfl rfl rfl (by first | exact .inl rfl | exact .inr rfl) ?_
        | refine o_offU rfl rfl rfl (by first | exact .inl rfl | exact .inr rfl) ?_
        | refine o_offF rfl rfl rfl (by first | exact .inl rfl | exact .inr rfl) ?_
        | (refine o_add rfl rfl rfl rfl ?_ ?_; omega)
        | refine o_len rfl TtOk rfl rfl rfl (fun _ => ?_)
        | refine o_lenOwn rfl TtOk rfl rfl rfl rfl (fun _ => ?_)
        | (refine o_calm rfl TtOk rfl rfl rfl ?_ (fun _ => ?_); first | exact True.intro | exact ⟨rfl, rfl, rfl, rfl⟩ | exact ⟨rfl, True.intro⟩ | exact ⟨rfl, rfl⟩ | exact ⟨rfl, rfl, rfl⟩ | exact rfl | exact ⟨fun h0 => by cases h0, rfl⟩ | exact (fun h0 => by cases h0) | exact ⟨rfl, by omega⟩ | exact ⟨Nat.succ_ne_zero _, rfl⟩ | omega)
        | refine o_alloc (d := 8) rfl TtOk rfl rfl rfl (fun b8 => ?_)
        | refine o_alloc (d := 11) rfl TtOk rfl rfl rfl (fun b11 => ?_)
        | refine o_alloc (d := 13) rfl TtOk rfl rfl rfl (fun b13 => ?_)
        | refine o_alloc (d := 15) rfl TtOk rfl rfl rfl (fun b15 => ?_)
        | refine o_alloc (d := 17) rfl TtOk rfl rfl rfl (fun b17 => ?_)
        | refine o_box (d := 4) rfl rfl rfl rfl (fun b4 => ?_)
        | refine o_store TtOk rfl rfl rfl rfl rfl rfl rfl ⟨rfl, rfl⟩ rfl rfl rfl rfl rfl ?_
        | (refine o_index rfl TtOk rfl rfl rfl rfl rfl rfl ?_ (getq_nat ?_) ?_; omega; omega)
        | (refine o_indexOwn TtOk rfl rfl rfl rfl rfl rfl rfl rfl _ rfl ?_ (fun bO hbO => ?_); (simp only [List.length_map]; omega))
        | (refine o_loadRow TtOk rfl rfl rfl rfl rfl (by assumption) (getq_map (List.getElem?_eq_getElem ?_)) rfl rfl (by first | exact Nat.add_zero _ | rfl) ⟨rfl, rfl⟩ ?_; omega)
        | (refine o_calm rfl TtOk rfl rfl rfl ?_ (fun _ => ?_); (show List.length _ + List.length _ ≤ 9223372036854775807; (try simp only [List.length_append, List.length_cons, List.length_nil]); omega))
        | (refine o_storeRow TtOk rfl rfl rfl rfl rfl rfl (by assumption) (getq_map (List.getElem?_eq_getElem ?_)) rfl rfl (by first | exact Nat.add_zero _ | rfl) ⟨rfl, rfl⟩ rfl rfl ?_; omega)
        | refine o_build TtOk rfl rfl rfl rfl rfl rfl (by repeat' (first | exact True.intro | exact rfl | refine ⟨?_, ?_⟩)) ?_
        | refine o_buildArr0 TtOk rfl rfl rfl rfl ?_
        | refine o_buildSlice TtOk rfl rfl rfl rfl rfl rfl rfl rfl rfl rfl rfl (by repeat' (first | exact True.intro | exact rfl | refine ⟨?_, ?_⟩)) (fun _ => ?_)
        | (refine o_append TtOk rfl rfl rfl rfl rfl rfl rfl rfl rfl (by first | exact True.intro | exact rfl) rfl rfl (fun _ => rfl) ?_ ?_ (fun _ => ?_); (simp only [List.length_map, List.length_cons, List.length_nil, List.length_append, List.length_take, List.length_drop]; omega); (simp only [List.length_map, List.length_cons, List.length_nil, List.length_append, List.length_take, List.length_drop]; omega))
        | (refine o_appendStr TtOk rfl rfl rfl rfl rfl rfl rfl rfl rfl (fun _ => rfl) ?_ (fun _ => ?_); (simp only [List.length_map, List.length_cons, List.length_nil, List.length_append, List.length_take, List.length_drop]; omega))
        | (fail_if_success (refine o_isLit rfl (by first | exact .inl rfl | exact .inr rfl) ?_)); (refine o_splitP rfl rfl (fun hc => ?_) (fun hc => ?_) <;> try (exfalso; omega))
        | (fail_if_success (refine o_isLit rfl (by first | exact .inl rfl | exact .inr rfl) ?_)); (refine o_splitI rfl rfl (fun hc => ?_) (fun hc => ?_) <;> try (exfalso; omega))
        | (fail_if_success (refine o_isLit rfl (by first | exact .inl rfl | exact .inr rfl) ?_)); (refine o_splitN rfl rfl (fun hc => ?_) (fun hc => ?_) <;> try (exfalso; omega))
        | (fail_if_success (refine o_isLit rfl (by first | exact .inl rfl | exact .inr rfl) ?_)); (refine o_split rfl rfl (fun hc => ?_) (fun hc => ?_))
        | refine a_condT rfl ?_
        | refine a_condF rfl ?_
        | (refine a_condP rfl (fun hc => ?_) (fun hc => ?_)) <;> (try (exfalso; omega))
        | (refine a_condI rfl (fun hc => ?_) (fun hc => ?_)) <;> (try (exfalso; omega))
        | (refine a_condN rfl (fun hc => ?_) (fun hc => ?_)) <;> (try (exfalso; omega))
        | (refine Awp.cond rfl (fun hc => ?_) (fun hc => ?_))
        | (refine o_call0 rfl (hcn) ⟨SLe.of_eq rfl, SLe.of_eq rfl, True.intro⟩ rfl ?_; rintro _ _ ⟨rfl, rfl⟩; refine ⟨rfl, ?_⟩))
      refine ⟨(i + 1, _), [], by show i + 1 ≤ s.fs.length; omega, by show s.fs.length - (i + 1) < s.fs.length - i; omega, rfl, ⟨sle_i rfl, sle_i rfl, sle_sl rfl, sle_ptr, sle_ptr, sle_sl rfl, sle_sl rfl, True.intro⟩, HLe.cons 11 rfl (HOLe.refl _) (HLe.cons 58 rfl (HOLe.row ?_) (HLe.cons 8 rfl (HOLe.refl _) .nil))⟩
      rw [hst]
    | false =>
      rw [if_neg (by decide)] at hst
      repeat' (first
        | refine Awp.seq ?_
        | refine Awp.block ?_
        | refine Awp.region ?_
        | (refine Ops.nil ?_; show Awp _ _ _ _ _)
        | (refine Ops.nil ?_; show Exists _)
        | (refine Ops.nil ?_; show endK _ _ _ _ _)
        | (refine Awp.skip ?_; show Awp _ _ _ _ _)
        | (refine Awp.skip ?_; show endK _ _ _ _ _)
        | (refine Awp.skip ?_; show Exists _)
        | (refine Awp.exit ?_; show Awp _ _ _ _ _)
        | (refine Awp.exit ?_; show Exists _)
        | (refine Awp.exit ?_; show endK _ _ _ _ _)
        | (refine Awp.ret ?_; show endK _ _ _ _ _)
        | refine o_offT rfl rfl rfl (by first | exact .inl rfl | exact .inr rfl) ?_
        | refine o_offU rfl rfl rfl (by first | exact .inl rfl | exact .inr rfl) ?_
        | refine o_offF rfl rfl rfl (by first | exact .inl rfl | exact .inr rfl) ?_
        | (refine o_add rfl rfl rfl rfl ?_ ?_; omega)
        | refine o_len rfl TtOk rfl rfl rfl (fun _ => ?_)
        | refine o_lenOwn rfl TtOk rfl rfl rfl rfl (fun _ => ?_)
        | (refine o_calm rfl TtOk rfl rfl rfl ?_ (fun _ => ?_); first | exact True.intro | exact ⟨rfl, rfl, rfl, rfl⟩ | exact ⟨rfl, True.intro⟩ | exact ⟨rfl, rfl⟩ | exact ⟨rfl, rfl, rfl⟩ | exact rfl | exact ⟨fun h0 => by cases h0, rfl⟩ | exact (fun h0 => by cases h0) | exact ⟨rfl, by omega⟩ | exact ⟨Nat.succ_ne_zero _, rfl⟩ | omega)
        | refine o_alloc (d := 8) rfl TtOk rfl rfl rfl (fun b8 => ?_)
        | refine o_alloc (d := 11) rfl TtOk rfl rfl rfl (fun b11 => ?_)
        | refine o_alloc (d := 13) rfl TtOk rfl rfl rfl (fun b13 => ?_)
        | refine o_alloc (d := 15) rfl TtOk rfl rfl rfl (fun b15 => ?_)
        | refine o_alloc (d := 17) rfl TtOk rfl rfl rfl (fun b17 => ?_)
        | refine o_box (d := 4) rfl rfl rfl rfl (fun b4 => ?_)
        | refine o_store TtOk rfl rfl rfl rfl rfl rfl rfl ⟨rfl, rfl⟩ rfl rfl rfl rfl rfl ?_
        | (refine o_index rfl TtOk rfl rfl rfl rfl rfl rfl ?_ (getq_nat ?_) ?_; omega; omega)
        | (refine o_indexOwn TtOk rfl rfl rfl rfl rfl rfl rfl rfl _ rfl ?_ (fun bO hbO => ?_); (simp only [List.length_map]; omega))
        | (refine o_loadRow TtOk rfl rfl rfl rfl rfl (by assumption) (getq_map (List.getElem?_eq_getElem ?_)) rfl rfl (by first | exact Nat.add_zero _ | rfl) ⟨rfl, rfl⟩ ?_; omega)
        | (refine o_calm rfl TtOk rfl rfl rfl ?_ (fun _ => ?_); (show List.length _ + List.length _ ≤ 9223372036854775807; (try simp only [List.length_append, List.length_cons, List.length_nil]); omega))
        | (refine o_storeRow TtOk rfl rfl rfl rfl rfl rfl (by assumption) (getq_map (List.getElem?_eq_getElem ?_)) rfl rfl (by first | exact Nat.add_zero _ | rfl) ⟨rfl, rfl⟩ rfl rfl ?_; omega)
        | refine o_build TtOk rfl rfl rfl rfl rfl rfl (by repeat' (first | exact True.intro | exact rfl | refine ⟨?_, ?_⟩)) ?_
        | refine o_buildArr0 TtOk rfl rfl rfl rfl ?_
        | refine o_buildSlice TtOk rfl rfl rfl rfl rfl rfl rfl rfl rfl rfl rfl (by repeat' (first | exact True.intro | exact rfl | refine ⟨?_, ?_⟩)) (fun _ => ?_)
        | (refine o_append TtOk rfl rfl rfl rfl rfl rfl rfl rfl rfl (by first | exact True.intro | exact rfl) rfl rfl (fun _ => rfl) ?_ ?_ (fun _ => ?_); (simp only [List.length_map, List.length_cons, List.length_nil, List.length_append, List.length_take, List.length_drop]; omega); (simp only [List.length_map, List.length_cons, List.length_nil, List.length_append, List.length_take, List.length_drop]; omega))
        | (refine o_appendStr TtOk rfl rfl rfl rfl rfl rfl rfl rfl rfl (fun _ => rfl) ?_ (fun _ => ?_); (simp only [List.length_map, List.length_cons, List.length_nil, List.length_append, List.length_take, List.length_drop]; omega))
        | (fail_if_success (refine o_isLit rfl (by first | exact .inl rfl | exact .inr rfl) ?_)); (refine o_splitP rfl rfl (fun hc => ?_) (fun hc => ?_) <;> try (exfalso; omega))
        | (fail_if_success (refine o_isLit rfl (by first | exact .inl rfl | exact .inr rfl) ?_)); (refine o_splitI rfl rfl (fun hc => ?_) (fun hc => ?_) <;> try (exfalso; omega))
        | (fail_if_success (refine o_isLit rfl (by first | exact .inl rfl | exact .inr rfl) ?_)); (refine o_splitN rfl rfl (fun hc => ?_) (fun hc => ?_) <;> try (exfalso; omega))
        | (fail_if_success (refine o_isLit rfl (by first | exact .inl rfl | exact .inr rfl) ?_)); (refine o_split rfl rfl (fun hc => ?_) (fun hc => ?_))
        | refine a_condT rfl ?_
        | refine a_condF rfl ?_
        | (refine a_condP rfl (fun hc => ?_) (fun hc => ?_)) <;> (try (exfalso; omega))
        | (refine a_condI rfl (fun hc => ?_) (fun hc => ?_)) <;> (try (exfalso; omega))
        | (refine a_condN rfl (fun hc => ?_) (fun hc => ?_)) <;> (try (exfalso; omega))
        | (refine Awp.cond rfl (fun hc => ?_) (fun hc => ?_))
        | (refine o_call0 rfl (hcn) ⟨SLe.of_eq rfl, SLe.of_eq rfl, True.intro⟩ rfl ?_; rintro _ _ ⟨rfl, rfl⟩; refine ⟨rfl, ?_⟩))
      refine ⟨(i + 1, _), [], by show i + 1 ≤ s.fs.length; omega, by show s.fs.length - (i + 1) < s.fs.length - i; omega, rfl, ⟨sle_i rfl, sle_i rfl, sle_sl rfl, sle_ptr, sle_ptr, sle_sl rfl, sle_sl rfl, True.intro⟩, HLe.cons 11 rfl (HOLe.refl _) (HLe.cons 58 rfl (HOLe.row ?_) (HLe.cons 8 rfl (HOLe.refl _) .nil))⟩
      rw [hst, List.map_append]; rfl
  have hil : i = s.fs.length := by omega
  subst hil
  rw [List.take_length]
  have hkl := keptF_len s.fs gone
  have hou : outF s gone fresh log = ⟨nextF s.next fresh, log, sortS (ltC ordF) (keptF s.fs gone ++ fresh)⟩ := rfl
  generalize outF s gone fresh log = ou at hap hou
  generalize keptF s.fs gone = kept at hkl hou ⊢
  repeat' (first
    | refine Awp.seq ?_
    | refine Awp.block ?_
    | refine Awp.region ?_
    | (refine Ops.nil ?_; show Awp _ _ _ _ _)
    | (refine Ops.nil ?_; show Exists _)
    | (refine Ops.nil ?_; show endK _ _ _ _ _)
    | (refine Awp.skip ?_; show Awp _ _ _ _ _)
    | (refine Awp.skip ?_; show endK _ _ _ _ _)
    | (refine Awp.skip ?_; show Exists _)
    | (refine Awp.exit ?_; show Awp _ _ _ _ _)
    | (refine Awp.exit ?_; show Exists _)
    | (refine Awp.exit ?_; show endK _ _ _ _ _)
    | (refine Awp.ret ?_; show endK _ _ _ _ _)
    | refine o_offT rfl rfl rfl (by first | exact .inl rfl | exact .inr rfl) ?_
    | refine o_offU rfl rfl rfl (by first | exact .inl rfl | exact .inr rfl) ?_
    | refine o_offF rfl rfl rfl (by first | exact .inl rfl | exact .inr rfl) ?_
    | (refine o_add rfl rfl rfl rfl ?_ ?_; omega)
    | refine o_len rfl TtOk rfl rfl rfl (fun _ => ?_)
    | refine o_lenOwn rfl TtOk rfl rfl rfl rfl (fun _ => ?_)
    | (refine o_calm rfl TtOk rfl rfl rfl ?_ (fun _ => ?_); first | exact True.intro | exact ⟨rfl, rfl, rfl, rfl⟩ | exact ⟨rfl, True.intro⟩ | exact ⟨rfl, rfl⟩ | exact ⟨rfl, rfl, rfl⟩ | exact rfl | exact ⟨fun h0 => by cases h0, rfl⟩ | exact (fun h0 => by cases h0) | exact ⟨rfl, by omega⟩ | exact ⟨Nat.succ_ne_zero _, rfl⟩ | omega)
    | refine o_alloc (d := 8) rfl TtOk rfl rfl rfl (fun b8 => ?_)
    | refine o_alloc (d := 11) rfl TtOk rfl rfl rfl (fun b11 => ?_)
    | refine o_alloc (d := 13) rfl TtOk rfl rfl rfl (fun b13 => ?_)
    | refine o_alloc (d := 15) rfl TtOk rfl rfl rfl (fun b15 => ?_)
    | refine o_alloc (d := 17) rfl TtOk rfl rfl rfl (fun b17 => ?_)
    | refine o_box (d := 4) rfl rfl rfl rfl (fun b4 => ?_)
    | refine o_store TtOk rfl rfl rfl rfl rfl rfl rfl ⟨rfl, rfl⟩ rfl rfl rfl rfl rfl ?_
    | (refine o_index rfl TtOk rfl rfl rfl rfl rfl rfl ?_ (getq_nat ?_) ?_; omega; omega)
    | (refine o_indexOwn TtOk rfl rfl rfl rfl rfl rfl rfl rfl _ rfl ?_ (fun bO hbO => ?_); (simp only [List.length_map]; omega))
    | (refine o_loadRow TtOk rfl rfl rfl rfl rfl (by assumption) (getq_map (List.getElem?_eq_getElem ?_)) rfl rfl (by first | exact Nat.add_zero _ | rfl) ⟨rfl, rfl⟩ ?_; omega)
    | (refine o_calm rfl TtOk rfl rfl rfl ?_ (fun _ => ?_); (show List.length _ + List.length _ ≤ 9223372036854775807; (try simp only [List.length_append, List.length_cons, List.length_nil]); omega))
    | (refine o_storeRow TtOk rfl rfl rfl rfl rfl rfl (by assumption) (getq_map (List.getElem?_eq_getElem ?_)) rfl rfl (by first | exact Nat.add_zero _ | rfl) ⟨rfl, rfl⟩ rfl rfl ?_; omega)
    | refine o_build TtOk rfl rfl rfl rfl rfl rfl (by repeat' (first | exact True.intro | exact rfl | refine ⟨?_, ?_⟩)) ?_
    | refine o_buildArr0 TtOk rfl rfl rfl rfl ?_
    | refine o_buildSlice TtOk rfl rfl rfl rfl rfl rfl rfl rfl rfl rfl rfl (by repeat' (first | exact True.intro | exact rfl | refine ⟨?_, ?_⟩)) (fun _ => ?_)
    | (refine o_append TtOk rfl rfl rfl rfl rfl rfl rfl rfl rfl (by first | exact True.intro | exact rfl) rfl rfl (fun _ => rfl) ?_ ?_ (fun _ => ?_); (simp only [List.length_map, List.length_cons, List.length_nil, List.length_append, List.length_take, List.length_drop]; omega); (simp only [List.length_map, List.length_cons, List.length_nil, List.length_append, List.length_take, List.length_drop]; omega))
    | (refine o_appendStr TtOk rfl rfl rfl rfl rfl rfl rfl rfl rfl (fun _ => rfl) ?_ (fun _ => ?_); (simp only [List.length_map, List.length_cons, List.length_nil, List.length_append, List.length_take, List.length_drop]; omega))
    | (fail_if_success (refine o_isLit rfl (by first | exact .inl rfl | exact .inr rfl) ?_)); (refine o_splitP rfl rfl (fun hc => ?_) (fun hc => ?_) <;> try (exfalso; omega))
    | (fail_if_success (refine o_isLit rfl (by first | exact .inl rfl | exact .inr rfl) ?_)); (refine o_splitI rfl rfl (fun hc => ?_) (fun hc => ?_) <;> try (exfalso; omega))
    | (fail_if_success (refine o_isLit rfl (by first | exact .inl rfl | exact .inr rfl) ?_)); (refine o_splitN rfl rfl (fun hc => ?_) (fun hc => ?_) <;> try (exfalso; omega))
    | (fail_if_success (refine o_isLit rfl (by first | exact .inl rfl | exact .inr rfl) ?_)); (refine o_split rfl rfl (fun hc => ?_) (fun hc => ?_))
    | refine a_condT rfl ?_
    | refine a_condF rfl ?_
    | (refine a_condP rfl (fun hc => ?_) (fun hc => ?_)) <;> (try (exfalso; omega))
    | (refine a_condI rfl (fun hc => ?_) (fun hc => ?_)) <;> (try (exfalso; omega))
    | (refine a_condN rfl (fun hc => ?_) (fun hc => ?_)) <;> (try (exfalso; omega))
    | (refine Awp.cond rfl (fun hc => ?_) (fun hc => ?_)))
  refine Awp.loop (fun q : Nat × Value => ⟨100, [(63, .i .i64 q.1), (62, .i .i64 fresh.length), (61, .sl 5 (fresh.map eF)), (11, .ptr 11 b11 [] 0), (8, .ptr 8 b8 [] 0)], [(11, .var b11 (.agg [.i .i64 (nextF s.next (fresh.take q.1)), .i .i64 log, .own 58 q.2])), (58, .row q.2 35 5 ((kept ++ fresh.take q.1).map eF)), (8, .var b8 (.agg [.i .i64 0, .i .i64 0, .nil]))]⟩) (fun q => q.1 ≤ fresh.length ∧ ∀ i (h : i < fresh.length), i < q.1 → ¬ badN fresh[i]) (fun q => fresh.length - q.1) [] (0, v) ⟨Nat.zero_le _, fun _ _ h => absurd h (Nat.not_lt_zero _)⟩ ?_ ?_
  · refine ⟨rfl, ⟨sle_i rfl, sle_i rfl, sle_sl rfl, sle_ptr, sle_ptr, True.intro⟩, HLe.cons 11 rfl (HOLe.refl _) (HLe.cons 58 rfl (HOLe.row ?_) (HLe.cons 8 rfl (HOLe.refl _) .nil))⟩
    rw [List.take_zero, List.append_nil]
  rintro ⟨j, w⟩ ⟨hj, hnb⟩
  dsimp only at hj hnb ⊢
  by_cases hlt : j < fresh.length
  · by_cases hb : badN fresh[j]
    · have hex : ∃ f ∈ fresh, badN f := ⟨_, List.getElem_mem hlt, hb⟩
      rw [if_pos hex] at hap
      subst hap
      unfold badN at hb
      repeat' (first
        | refine Awp.seq ?_
        | refine Awp.block ?_
        | refine Awp.region ?_
        | (refine Ops.nil ?_; show Awp _ _ _ _ _)
        | (refine Ops.nil ?_; show Exists _)
        | (refine Ops.nil ?_; show endK _ _ _ _ _)
        | (refine Awp.skip ?_; show Awp _ _ _ _ _)
        | (refine Awp.skip ?_; show endK _ _ _ _ _)
        | (refine Awp.skip ?_; show Exists _)
        | (refine Awp.exit ?_; show Awp _ _ _ _ _)
        | (refine Awp.exit ?_; show Exists _)
        | (refine Awp.exit ?_; show endK _ _ _ _ _)
        | (refine Awp.ret ?_; show endK _ _ _ _ _)
        | refine o_offT rfl rfl rfl (by first | exact .inl rfl | exact .inr rfl) ?_
        | refine o_offU rfl rfl rfl (by first | exact .inl rfl | exact .inr rfl) ?_
        | refine o_offF rfl rfl rfl (by first | exact .inl rfl | exact .inr rfl) ?_
        | (refine o_add rfl rfl rfl rfl ?_ ?_; omega)
        | refine o_len rfl TtOk rfl rfl rfl (fun _ => ?_)
        | refine o_lenOwn rfl TtOk rfl rfl rfl rfl (fun _ => ?_)
        | (refine o_calm rfl TtOk rfl rfl rfl ?_ (fun _ => ?_); first | exact True.intro | exact ⟨rfl, rfl, rfl, rfl⟩ | exact ⟨rfl, True.intro⟩ | exact ⟨rfl, rfl⟩ | exact ⟨rfl, rfl, rfl⟩ | exact rfl | exact ⟨fun h0 => by cases h0, rfl⟩ | exact (fun h0 => by cases h0) | exact ⟨rfl, by omega⟩ | exact ⟨Nat.succ_ne_zero _, rfl⟩ | omega)
        | refine o_alloc (d := 8) rfl TtOk rfl rfl rfl (fun b8 => ?_)
        | refine o_alloc (d := 11) rfl TtOk rfl rfl rfl (fun b11 => ?_)
        | refine o_alloc (d := 13) rfl TtOk rfl rfl rfl (fun b13 => ?_)
        | refine o_alloc (d := 15) rfl TtOk rfl rfl rfl (fun b15 => ?_)
        | refine o_alloc (d := 17) rfl TtOk rfl rfl rfl (fun b17 => ?_)
        | refine o_box (d := 4) rfl rfl rfl rfl (fun b4 => ?_)
        | refine o_store TtOk rfl rfl rfl rfl rfl rfl rfl ⟨rfl, rfl⟩ rfl rfl rfl rfl rfl ?_
        | (refine o_index rfl TtOk rfl rfl rfl rfl rfl rfl ?_ (getq_nat ?_) ?_; omega; omega)
        | (refine o_indexOwn TtOk rfl rfl rfl rfl rfl rfl rfl rfl _ rfl ?_ (fun bO hbO => ?_); (simp only [List.length_map]; omega))
        | (refine o_loadRow TtOk rfl rfl rfl rfl rfl (by assumption) (getq_map (List.getElem?_eq_getElem ?_)) rfl rfl (by first | exact Nat.add_zero _ | rfl) ⟨rfl, rfl⟩ ?_; omega)
        | (refine o_calm rfl TtOk rfl rfl rfl ?_ (fun _ => ?_); (show List.length _ + List.length _ ≤ 9223372036854775807; (try simp only [List.length_append, List.length_cons, List.length_nil]); omega))
        | (refine o_storeRow TtOk rfl rfl rfl rfl rfl rfl (by assumption) (getq_map (List.getElem?_eq_getElem ?_)) rfl rfl (by first | exact Nat.add_zero _ | rfl) ⟨rfl, rfl⟩ rfl rfl ?_; omega)
        | refine o_build TtOk rfl rfl rfl rfl rfl rfl (by repeat' (first | exact True.intro | exact rfl | refine ⟨?_, ?_⟩)) ?_
        | refine o_buildArr0 TtOk rfl rfl rfl rfl ?_
        | refine o_buildSlice TtOk rfl rfl rfl rfl rfl rfl rfl rfl rfl rfl rfl (by repeat' (first | exact True.intro | exact rfl | refine ⟨?_, ?_⟩)) (fun _ => ?_)
        | (refine o_append TtOk rfl rfl rfl rfl rfl rfl rfl rfl rfl (by first | exact True.intro | exact rfl) rfl rfl (fun _ => rfl) ?_ ?_ (fun _ => ?_); (simp only [List.length_map, List.length_cons, List.length_nil, List.length_append, List.length_take, List.length_drop]; omega); (simp only [List.length_map, List.length_cons, List.length_nil, List.length_append, List.length_take, List.length_drop]; omega))
        | (refine o_appendStr TtOk rfl rfl rfl rfl rfl rfl rfl rfl rfl (fun _ => rfl) ?_ (fun _ => ?_); (simp only [List.length_map, List.length_cons, List.length_nil, List.length_append, List.length_take, List.length_drop]; omega))
        | (fail_if_success (refine o_isLit rfl (by first | exact .inl rfl | exact .inr rfl) ?_)); (refine o_splitP rfl rfl (fun hc => ?_) (fun hc => ?_) <;> try (exfalso; omega))
        | (fail_if_success (refine o_isLit rfl (by first | exact .inl rfl | exact .inr rfl) ?_)); (refine o_splitI rfl rfl (fun hc => ?_) (fun hc => ?_) <;> try (exfalso; omega))
        | (fail_if_success (refine o_isLit rfl (by first | exact .inl rfl | exact .inr rfl) ?_)); (refine o_splitN rfl rfl (fun hc => ?_) (fun hc => ?_) <;> try (exfalso; omega))
        | (fail_if_success (refine o_isLit rfl (by first | exact .inl rfl | exact .inr rfl) ?_)); (refine o_split rfl rfl (fun hc => ?_) (fun hc => ?_))
        | refine a_condT rfl ?_
        | refine a_condF rfl ?_
        | (refine a_condP rfl (fun hc => ?_) (fun hc => ?_)) <;> (try (exfalso; omega))
        | (refine a_condI rfl (fun hc => ?_) (fun hc => ?_)) <;> (try (exfalso; omega))
        | (refine a_condN rfl (fun hc => ?_) (fun hc => ?_)) <;> (try (exfalso; omega))
        | (refine Awp.cond rfl (fun hc => ?_) (fun hc => ?_)))
      all_goals refine end_all [] [] (.tup [eSt zS, .i .i64 1]) rfl ?_ ?_ (rle_tup2 cle_zS (CLe.of_eq rfl) rfl rfl) .nil ⟨rfl, rfl⟩ _ (.inl rfl)
      all_goals first | exact ⟨trivial, trivial⟩ | trivial | exact ⟨trivial, trivial, trivial⟩ | (repeat' (first | exact True.intro | exact rfl | refine ⟨?_, ?_⟩))
    · have hnx := nextF_step s.next fresh j hlt
      have hfl : (kept ++ fresh.take j).length ≤ 2000 := by rw [List.length_append, List.length_take]; omega
      have hap2 : kept ++ fresh.take (j + 1) = (kept ++ fresh.take j) ++ [fresh[j]] := by rw [List.take_succ_eq_append_getElem hlt, List.append_assoc]
      have hb' := hb
      unfold badN at hb'
      generalize nextF s.next (fresh.take j) = nx at hnx ⊢
      generalize kept ++ fresh.take j = out at hfl hap2 ⊢
      repeat' (first
        | refine Awp.seq ?_
        | refine Awp.block ?_
        | refine Awp.region ?_
        | (refine Ops.nil ?_; show Awp _ _ _ _ _)
        | (refine Ops.nil ?_; show Exists _)
        | (refine Ops.nil ?_; show endK _ _ _ _ _)
        | (refine Awp.skip ?_; show Awp _ _ _ _ _)
        | (refine Awp.skip ?_; show endK _ _ _ _ _)
        | (refine Awp.skip ?_; show Exists _)
        | (refine Awp.exit ?_; show Awp _ _ _ _ _)
        | (refine Awp.exit ?_; show Exists _)
        | (refine Awp.exit ?_; show endK _ _ _ _ _)
        | (refine Awp.ret ?_; show endK _ _ _ _ _)
        | refine o_offT rfl rfl rfl (by first | exact .inl rfl | exact .inr rfl) ?_
        | refine o_offU rfl rfl rfl (by first | exact .inl rfl | exact .inr rfl) ?_
        | refine o_offF rfl rfl rfl (by first | exact .inl rfl | exact .inr rfl) ?_
        | (refine o_add rfl rfl rfl rfl ?_ ?_; omega)
        | refine o_len rfl TtOk rfl rfl rfl (fun _ => ?_)
        | refine o_lenOwn rfl TtOk rfl rfl rfl rfl (fun _ => ?_)
        | (refine o_calm rfl TtOk rfl rfl rfl ?_ (fun _ => ?_); first | exact True.intro | exact ⟨rfl, rfl, rfl, rfl⟩ | exact ⟨rfl, True.intro⟩ | exact ⟨rfl, rfl⟩ | exact ⟨rfl, rfl, rfl⟩ | exact rfl | exact ⟨fun h0 => by cases h0, rfl⟩ | exact (fun h0 => by cases h0) | exact ⟨rfl, by omega⟩ | exact ⟨Nat.succ_ne_zero _, rfl⟩ | omega)
        | refine o_alloc (d := 8) rfl TtOk rfl rfl rfl (fun b8 => ?_)
        | refine o_alloc (d := 11) rfl TtOk rfl rfl rfl (fun b11 => ?_)
        | refine o_alloc (d := 13) rfl TtOk rfl rfl rfl (fun b13 => ?_)
        | refine o_alloc (d := 15) rfl TtOk rfl rfl rfl (fun b15 => ?_)
        | refine o_alloc (d := 17) rfl TtOk rfl rfl rfl (fun b17 => ?_)
        | refine o_box (d := 4) rfl rfl rfl rfl (fun b4 => ?_)
        | refine o_store TtOk rfl rfl rfl rfl rfl rfl rfl ⟨rfl, rfl⟩ rfl rfl rfl rfl rfl ?_
        | (refine o_index rfl TtOk rfl rfl rfl rfl rfl rfl ?_ (getq_nat ?_) ?_; omega; omega)
        | (refine o_indexOwn TtOk rfl rfl rfl rfl rfl rfl rfl rfl _ rfl ?_ (fun bO hbO => ?_); (simp only [List.length_map]; omega))
        | (refine o_loadRow TtOk rfl rfl rfl rfl rfl (by assumption) (getq_map (List.getElem?_eq_getElem ?_)) rfl rfl (by first | exact Nat.add_zero _ | rfl) ⟨rfl, rfl⟩ ?_; omega)
        | (refine o_calm rfl TtOk rfl rfl rfl ?_ (fun _ => ?_); (show List.length _ + List.length _ ≤ 9223372036854775807; (try simp only [List.length_append, List.length_cons, List.length_nil]); omega))
        | (refine o_storeRow TtOk rfl rfl rfl rfl rfl rfl (by assumption) (getq_map (List.getElem?_eq_getElem ?_)) rfl rfl (by first | exact Nat.add_zero _ | rfl) ⟨rfl, rfl⟩ rfl rfl ?_; omega)
        | refine o_build TtOk rfl rfl rfl rfl rfl rfl (by repeat' (first | exact True.intro | exact rfl | refine ⟨?_, ?_⟩)) ?_
        | refine o_buildArr0 TtOk rfl rfl rfl rfl ?_
        | refine o_buildSlice TtOk rfl rfl rfl rfl rfl rfl rfl rfl rfl rfl rfl (by repeat' (first | exact True.intro | exact rfl | refine ⟨?_, ?_⟩)) (fun _ => ?_)
        | (refine o_append TtOk rfl rfl rfl rfl rfl rfl rfl rfl rfl (by first | exact True.intro | exact rfl) rfl rfl (fun _ => rfl) ?_ ?_ (fun _ => ?_); (simp only [List.length_map, List.length_cons, List.length_nil, List.length_append, List.length_take, List.length_drop]; omega); (simp only [List.length_map, List.length_cons, List.length_nil, List.length_append, List.length_take, List.length_drop]; omega))
        | (refine o_appendStr TtOk rfl rfl rfl rfl rfl rfl rfl rfl rfl (fun _ => rfl) ?_ (fun _ => ?_); (simp only [List.length_map, List.length_cons, List.length_nil, List.length_append, List.length_take, List.length_drop]; omega))
        | (fail_if_success (refine o_isLit rfl (by first | exact .inl rfl | exact .inr rfl) ?_)); (refine o_splitP rfl rfl (fun hc => ?_) (fun hc => ?_) <;> try (exfalso; omega))
        | (fail_if_success (refine o_isLit rfl (by first | exact .inl rfl | exact .inr rfl) ?_)); (refine o_splitI rfl rfl (fun hc => ?_) (fun hc => ?_) <;> try (exfalso; omega))
        | (fail_if_success (refine o_isLit rfl (by first | exact .inl rfl | exact .inr rfl) ?_)); (refine o_splitN rfl rfl (fun hc => ?_) (fun hc => ?_) <;> try (exfalso; omega))
        | (fail_if_success (refine o_isLit rfl (by first | exact .inl rfl | exact .inr rfl) ?_)); (refine o_split rfl rfl (fun hc => ?_) (fun hc => ?_))
        | refine a_condT rfl ?_
        | refine a_condF rfl ?_
        | (refine a_condP rfl (fun hc => ?_) (fun hc => ?_)) <;> (try (exfalso; omega))
        | (refine a_condI rfl (fun hc => ?_) (fun hc => ?_)) <;> (try (exfalso; omega))
        | (refine a_condN rfl (fun hc => ?_) (fun hc => ?_)) <;> (try (exfalso; omega))
        | (refine Awp.cond rfl (fun hc => ?_) (fun hc => ?_)))
      all_goals refine ⟨(j + 1, _), [], ⟨hlt, fun i h hi => by
        rcases Nat.lt_succ_iff_lt_or_eq.1 hi with h2 | h2
        · exact hnb i h h2
        · subst h2; exact hb⟩, by show fresh.length - (j + 1) < fresh.length - j; omega, rfl, ⟨sle_i rfl, sle_i rfl, sle_sl rfl, sle_ptr, sle_ptr, True.intro⟩, HLe.cons 11 rfl (HOLe.var (CLe.of_eq ?_)) (HLe.cons 58 rfl (HOLe.row ?_) (HLe.cons 8 rfl (HOLe.refl _) .nil))⟩
      · rw [hnx]
      · rw [hap2, List.map_append]; rfl
  have hjl : j = fresh.length := by omega
  subst hjl
  rw [List.take_length]
  have hnex : ¬ ∃ f ∈ fresh, badN f := fun ⟨f, hf, hb⟩ => by
    obtain ⟨i, hi, rfl⟩ := List.getElem_of_mem hf
    exact hnb i hi hi hb
  rw [if_neg hnex] at hap
  have hsrt := fun v => sortStable_spec v 52 [] rfl ordF (fun x y => order_spec x y) wo_order (kept ++ fresh) (by rw [List.length_append]; omega)
  generalize sortS (ltC ordF) (kept ++ fresh) = S at hsrt hou
  generalize nextF s.next fresh = nx at hou ⊢
  generalize kept ++ fresh = L at hsrt ⊢
  subst hou
  have hck2 := lcheck_spec ⟨nx, log, S⟩
  generalize lcheck ⟨nx, log, S⟩ = c at hck2 hap
  by_cases hc0 : c ≠ 0
  · rw [if_pos hc0] at hap
    subst hap
    repeat' (first
      | refine Awp.seq ?_
      | refine Awp.block ?_
      | refine Awp.region ?_
      | (refine Ops.nil ?_; show Awp _ _ _ _ _)
      | (refine Ops.nil ?_; show Exists _)
      | (refine Ops.nil ?_; show endK _ _ _ _ _)
      | (refine Awp.skip ?_; show Awp _ _ _ _ _)
      | (refine Awp.skip ?_; show endK _ _ _ _ _)
      | (refine Awp.skip ?_; show Exists _)
      | (refine Awp.exit ?_; show Awp _ _ _ _ _)
      | (refine Awp.exit ?_; show Exists _)
      | (refine Awp.exit ?_; show endK _ _ _ _ _)
      | (refine Awp.ret ?_; show endK _ _ _ _ _)
      | refine o_offT rfl rfl rfl (by first | exact .inl rfl | exact .inr rfl) ?_
      | refine o_offU rfl rfl rfl (by first | exact .inl rfl | exact .inr rfl) ?_
      | refine o_offF rfl rfl rfl (by first | exact .inl rfl | exact .inr rfl) ?_
      | (refine o_add rfl rfl rfl rfl ?_ ?_; omega)
      | refine o_len rfl TtOk rfl rfl rfl (fun _ => ?_)
      | refine o_lenOwn rfl TtOk rfl rfl rfl rfl (fun _ => ?_)
      | (refine o_calm rfl TtOk rfl rfl rfl ?_ (fun _ => ?_); first | exact True.intro | exact ⟨rfl, rfl, rfl, rfl⟩ | exact ⟨rfl, True.intro⟩ | exact ⟨rfl, rfl⟩ | exact ⟨rfl, rfl, rfl⟩ | exact rfl | exact ⟨fun h0 => by cases h0, rfl⟩ | exact (fun h0 => by cases h0) | exact ⟨rfl, by omega⟩ | exact ⟨Nat.succ_ne_zero _, rfl⟩ | omega)
      | refine o_alloc (d := 8) rfl TtOk rfl rfl rfl (fun b8 => ?_)
      | refine o_alloc (d := 11) rfl TtOk rfl rfl rfl (fun b11 => ?_)
      | refine o_alloc (d := 13) rfl TtOk rfl rfl rfl (fun b13 => ?_)
      | refine o_alloc (d := 15) rfl TtOk rfl rfl rfl (fun b15 => ?_)
      | refine o_alloc (d := 17) rfl TtOk rfl rfl rfl (fun b17 => ?_)
      | refine o_box (d := 4) rfl rfl rfl rfl (fun b4 => ?_)
      | refine o_store TtOk rfl rfl rfl rfl rfl rfl rfl ⟨rfl, rfl⟩ rfl rfl rfl rfl rfl ?_
      | (refine o_index rfl TtOk rfl rfl rfl rfl rfl rfl ?_ (getq_nat ?_) ?_; omega; omega)
      | (refine o_indexOwn TtOk rfl rfl rfl rfl rfl rfl rfl rfl _ rfl ?_ (fun bO hbO => ?_); (simp only [List.length_map]; omega))
      | (refine o_loadRow TtOk rfl rfl rfl rfl rfl (by assumption) (getq_map (List.getElem?_eq_getElem ?_)) rfl rfl (by first | exact Nat.add_zero _ | rfl) ⟨rfl, rfl⟩ ?_; omega)
      | (refine o_calm rfl TtOk rfl rfl rfl ?_ (fun _ => ?_); (show List.length _ + List.length _ ≤ 9223372036854775807; (try simp only [List.length_append, List.length_cons, List.length_nil]); omega))
      | (refine o_storeRow TtOk rfl rfl rfl rfl rfl rfl (by assumption) (getq_map (List.getElem?_eq_getElem ?_)) rfl rfl (by first | exact Nat.add_zero _ | rfl) ⟨rfl, rfl⟩ rfl rfl ?_; omega)
      | refine o_build TtOk rfl rfl rfl rfl rfl rfl (by repeat' (first | exact True.intro | exact rfl | refine ⟨?_, ?_⟩)) ?_
      | refine o_buildArr0 TtOk rfl rfl rfl rfl ?_
      | refine o_buildSlice TtOk rfl rfl rfl rfl rfl rfl rfl rfl rfl rfl rfl (by repeat' (first | exact True.intro | exact rfl | refine ⟨?_, ?_⟩)) (fun _ => ?_)
      | (refine o_append TtOk rfl rfl rfl rfl rfl rfl rfl rfl rfl (by first | exact True.intro | exact rfl) rfl rfl (fun _ => rfl) ?_ ?_ (fun _ => ?_); (simp only [List.length_map, List.length_cons, List.length_nil, List.length_append, List.length_take, List.length_drop]; omega); (simp only [List.length_map, List.length_cons, List.length_nil, List.length_append, List.length_take, List.length_drop]; omega))
      | (refine o_appendStr TtOk rfl rfl rfl rfl rfl rfl rfl rfl rfl (fun _ => rfl) ?_ (fun _ => ?_); (simp only [List.length_map, List.length_cons, List.length_nil, List.length_append, List.length_take, List.length_drop]; omega))
      | (fail_if_success (refine o_isLit rfl (by first | exact .inl rfl | exact .inr rfl) ?_)); (refine o_splitP rfl rfl (fun hc => ?_) (fun hc => ?_) <;> try (exfalso; omega))
      | (fail_if_success (refine o_isLit rfl (by first | exact .inl rfl | exact .inr rfl) ?_)); (refine o_splitI rfl rfl (fun hc => ?_) (fun hc => ?_) <;> try (exfalso; omega))
      | (fail_if_success (refine o_isLit rfl (by first | exact .inl rfl | exact .inr rfl) ?_)); (refine o_splitN rfl rfl (fun hc => ?_) (fun hc => ?_) <;> try (exfalso; omega))
      | (fail_if_success (refine o_isLit rfl (by first | exact .inl rfl | exact .inr rfl) ?_)); (refine o_split rfl rfl (fun hc => ?_) (fun hc => ?_))
      | refine a_condT rfl ?_
      | refine a_condF rfl ?_
      | (refine a_condP rfl (fun hc => ?_) (fun hc => ?_)) <;> (try (exfalso; omega))
      | (refine a_condI rfl (fun hc => ?_) (fun hc => ?_)) <;> (try (exfalso; omega))
      | (refine a_condN rfl (fun hc => ?_) (fun hc => ?_)) <;> (try (exfalso; omega))
      | (refine Awp.cond rfl (fun hc => ?_) (fun hc => ?_))
      | (refine o_call [] [58] [58] rfl (hsrt _) ⟨sle_own, SLe.of_eq rfl, True.intro⟩ rfl ⟨HOLe.refl _, True.intro⟩ rfl rfl ?_; rintro _ _ ⟨rfl, rfl⟩; refine ⟨_, rfl, rfl, ?_⟩)
      | (refine o_callL rfl hck2 rfl ⟨SLe.of_cle (CLe.agg (.cons (CLe.refl _) (.cons (CLe.refl _) (.cons (CLe.fz (.head _)) .nil)))) rfl, True.intro⟩ rfl ?_; rintro _ _ ⟨rfl, rfl⟩; refine ⟨rfl, rfl, ?_⟩))
    all_goals refine end_all [] [] (.tup [eSt zS, .i .i64 c]) rfl ?_ ?_ (rle_tup2 cle_zS (CLe.of_eq rfl) rfl rfl) .nil ⟨rfl, rfl⟩ _ (.inl rfl)
    all_goals first | exact ⟨trivial, trivial⟩ | trivial | exact ⟨trivial, trivial, trivial⟩ | (repeat' (first | exact True.intro | exact rfl | refine ⟨?_, ?_⟩))
  · rw [if_neg hc0] at hap
    subst hap
    repeat' (first
      | refine Awp.seq ?_
      | refine Awp.block ?_
      | refine Awp.region ?_
      | (refine Ops.nil ?_; show Awp _ _ _ _ _)
      | (refine Ops.nil ?_; show Exists _)
      | (refine Ops.nil ?_; show endK _ _ _ _ _)
      | (refine Awp.skip ?_; show Awp _ _ _ _ _)
      | (refine Awp.skip ?_; show endK _ _ _ _ _)
      | (refine Awp.skip ?_; show Exists _)
      | (refine Awp.exit ?_; show Awp _ _ _ _ _)
      | (refine Awp.exit ?_; show Exists _)
      | (refine Awp.exit ?_; show endK _ _ _ _ _)
      | (refine Awp.ret ?_; show endK _ _ _ _ _)
      | refine o_offT rfl rfl rfl (by first | exact .inl rfl | exact .inr rfl) ?_
      | refine o_offU rfl rfl rfl (by first | exact .inl rfl | exact .inr rfl) ?_
      | refine o_offF rfl rfl rfl (by first | exact .inl rfl | exact .inr rfl) ?_
      | (refine o_add rfl rfl rfl rfl ?_ ?_; omega)
      | refine o_len rfl TtOk rfl rfl rfl (fun _ => ?_)
      | refine o_lenOwn rfl TtOk rfl rfl rfl rfl (fun _ => ?_)
      | (refine o_calm rfl TtOk rfl rfl rfl ?_ (fun _ => ?_); first | exact True.intro | exact ⟨rfl, rfl, rfl, rfl⟩ | exact ⟨rfl, True.intro⟩ | exact ⟨rfl, rfl⟩ | exact ⟨rfl, rfl, rfl⟩ | exact rfl | exact ⟨fun h0 => by cases h0, rfl⟩ | exact (fun h0 => by cases h0) | exact ⟨rfl, by omega⟩ | exact ⟨Nat.succ_ne_zero _, rfl⟩ | omega)
      | refine o_alloc (d := 8) rfl TtOk rfl rfl rfl (fun b8 => ?_)
      | refine o_alloc (d := 11) rfl TtOk rfl rfl rfl (fun b11 => ?_)
      | refine o_alloc (d := 13) rfl TtOk rfl rfl rfl (fun b13 => ?_)
      | refine o_alloc (d := 15) rfl TtOk rfl rfl rfl (fun b15 => ?_)
      | refine o_alloc (d := 17) rfl TtOk rfl rfl rfl (fun b17 => ?_)
      | refine o_box (d := 4) rfl rfl rfl rfl (fun b4 => ?_)
      | refine o_store TtOk rfl rfl rfl rfl rfl rfl rfl ⟨rfl, rfl⟩ rfl rfl rfl rfl rfl ?_
      | (refine o_index rfl TtOk rfl rfl rfl rfl rfl rfl ?_ (getq_nat ?_) ?_; omega; omega)
      | (refine o_indexOwn TtOk rfl rfl rfl rfl rfl rfl rfl rfl _ rfl ?_ (fun bO hbO => ?_); (simp only [List.length_map]; omega))
      | (refine o_loadRow TtOk rfl rfl rfl rfl rfl (by assumption) (getq_map (List.getElem?_eq_getElem ?_)) rfl rfl (by first | exact Nat.add_zero _ | rfl) ⟨rfl, rfl⟩ ?_; omega)
      | (refine o_calm rfl TtOk rfl rfl rfl ?_ (fun _ => ?_); (show List.length _ + List.length _ ≤ 9223372036854775807; (try simp only [List.length_append, List.length_cons, List.length_nil]); omega))
      | (refine o_storeRow TtOk rfl rfl rfl rfl rfl rfl (by assumption) (getq_map (List.getElem?_eq_getElem ?_)) rfl rfl (by first | exact Nat.add_zero _ | rfl) ⟨rfl, rfl⟩ rfl rfl ?_; omega)
      | refine o_build TtOk rfl rfl rfl rfl rfl rfl (by repeat' (first | exact True.intro | exact rfl | refine ⟨?_, ?_⟩)) ?_
      | refine o_buildArr0 TtOk rfl rfl rfl rfl ?_
      | refine o_buildSlice TtOk rfl rfl rfl rfl rfl rfl rfl rfl rfl rfl rfl (by repeat' (first | exact True.intro | exact rfl | refine ⟨?_, ?_⟩)) (fun _ => ?_)
      | (refine o_append TtOk rfl rfl rfl rfl rfl rfl rfl rfl rfl (by first | exact True.intro | exact rfl) rfl rfl (fun _ => rfl) ?_ ?_ (fun _ => ?_); (simp only [List.length_map, List.length_cons, List.length_nil, List.length_append, List.length_take, List.length_drop]; omega); (simp only [List.length_map, List.length_cons, List.length_nil, List.length_append, List.length_take, List.length_drop]; omega))
      | (refine o_appendStr TtOk rfl rfl rfl rfl rfl rfl rfl rfl rfl (fun _ => rfl) ?_ (fun _ => ?_); (simp only [List.length_map, List.length_cons, List.length_nil, List.length_append, List.length_take, List.length_drop]; omega))
      | (fail_if_success (refine o_isLit rfl (by first | exact .inl rfl | exact .inr rfl) ?_)); (refine o_splitP rfl rfl (fun hc => ?_) (fun hc => ?_) <;> try (exfalso; omega))
      | (fail_if_success (refine o_isLit rfl (by first | exact .inl rfl | exact .inr rfl) ?_)); (refine o_splitI rfl rfl (fun hc => ?_) (fun hc => ?_) <;> try (exfalso; omega))
      | (fail_if_success (refine o_isLit rfl (by first | exact .inl rfl | exact .inr rfl) ?_)); (refine o_splitN rfl rfl (fun hc => ?_) (fun hc => ?_) <;> try (exfalso; omega))
      | (fail_if_success (refine o_isLit rfl (by first | exact .inl rfl | exact .inr rfl) ?_)); (refine o_split rfl rfl (fun hc => ?_) (fun hc => ?_))
      | refine a_condT rfl ?_
      | refine a_condF rfl ?_
      | (refine a_condP rfl (fun hc => ?_) (fun hc => ?_)) <;> (try (exfalso; omega))
      | (refine a_condI rfl (fun hc => ?_) (fun hc => ?_)) <;> (try (exfalso; omega))
      | (refine a_condN rfl (fun hc => ?_) (fun hc => ?_)) <;> (try (exfalso; omega))
      | (refine Awp.cond rfl (fun hc => ?_) (fun hc => ?_))
      | (refine o_call [] [58] [58] rfl (hsrt _) ⟨sle_own, SLe.of_eq rfl, True.intro⟩ rfl ⟨HOLe.refl _, True.intro⟩ rfl rfl ?_; rintro _ _ ⟨rfl, rfl⟩; refine ⟨_, rfl, rfl, ?_⟩)
      | (refine o_callL rfl hck2 rfl ⟨SLe.of_cle (CLe.agg (.cons (CLe.refl _) (.cons (CLe.refl _) (.cons (CLe.fz (.head _)) .nil)))) rfl, True.intro⟩ rfl ?_; rintro _ _ ⟨rfl, rfl⟩; refine ⟨rfl, rfl, ?_⟩))
    refine end_all [58] [] (.tup [eSt ⟨nx, log, S⟩, .i .i64 0]) rfl ?_ ?_ (rle_tup2 (CLe.agg (.cons (CLe.refl _) (.cons (CLe.refl _) (.cons (CLe.fz ?_) .nil)))) (CLe.of_eq rfl) rfl rfl) .nil ⟨rfl, rfl⟩ _ (.inl rfl)
    all_goals first | exact ⟨trivial, trivial⟩ | trivial | exact ⟨trivial, trivial, trivial⟩ | exact .head _ | (repeat' (first | exact True.intro | exact rfl | refine ⟨?_, ?_⟩))
end Go.Proofs.Ytnmnhnlebkebfaa
