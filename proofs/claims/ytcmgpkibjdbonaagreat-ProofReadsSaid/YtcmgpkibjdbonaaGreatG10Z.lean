/- patch.Sorted, Of, Top by rules. -/
import Derived.Test.YtcmgpkibjdbonaaGreatV30Z
import Derived.Test.YtcmgpkibjdbonaaGreatSI6Z
import Derived.Test.YtcmgpkibjdbonaaGreatV17Z
set_option maxHeartbeats 8000000
set_option maxRecDepth 100000
namespace Go.Proofs.YtcmgpkibjdbonaaGreat
open Go Go.RowKit
theorem cmp_wo {α : Type} (f : α → List UInt8) {lt : α → α → Bool} (h : ∀ x y, lt x y = decide (cmpS (f x) (f y) < 0)) : WO lt := by
  have e : ∀ x y, lt x y = Op.bytesLess (f x) (f y) := fun x y => by
    rw [h]
    cases hb : Op.bytesLess (f x) (f y)
    · exact decide_eq_false (fun hc => by rw [cmpS_neg.1 hc] at hb; cases hb)
    · exact decide_eq_true (cmpS_neg.2 hb)
  refine ⟨fun x => by rw [e, less_irr], fun x y k => ?_, fun x y z k1 k2 => ?_, fun x y z k1 k2 => ?_⟩
  · rw [e] at k ⊢; exact less_asymm k
  · rw [e] at *; exact less_trans k1 k2
  · rw [e] at *
    cases hb : Op.bytesLess (f x) (f z)
    · rfl
    · rw [less_ge hb k2] at k1; cases k1
def ordI (x y : Itm) : Int := cmpS x.l y.l
theorem woI : WO (ltCI ordI) := cmp_wo Itm.l (fun _ _ => rfl)
def srtI (l : List Itm) : List Itm := sortS (ltCI ordI) l
theorem srtI_len (l : List Itm) : (srtI l).length = l.length := sortS_len woI l
theorem srtI_mem {l : List Itm} {x : Itm} : x ∈ srtI l ↔ x ∈ l := ⟨fun h => CE.mem woI (sortS_ce woI l).symm h, fun h => CE.mem woI (sortS_ce woI l) h⟩
theorem cloneI_spec (xs : List AV) (hl : xs.length ≤ 1000000) :
    Spec Tryz.prog 211 [.sl 66 xs] [] (fun r os => ∃ v, r = .own 0 v ∧ os = [.row v 50 66 xs]) := by
  refine spec_of TtOk [] Tryz.func211 rfl Tryz.ntmps211 (by kernel_rfl) rfl rfl (fun C => ?_) rfl
  repeat' (first | refine Awp.seq ?_ | refine Awp.region ?_ | refine Ops.nil (nqA ?_) | refine Awp.skip (nqA ?_) | refine Awp.ret (nqE ?_) | (refine o_calm rfl TtOk rfl rfl rfl ?_ (fun _ => ?_); exact nd) | refine o_buildSlice TtOk rfl rfl rfl rfl rfl rfl rfl rfl rfl rfl rfl nq1 (fun _ => ?_) | (refine o_append TtOk rfl rfl rfl rfl rfl rfl rfl rfl rfl (by first | exact True.intro | exact rfl) rfl rfl (fun _ => rfl) ?_ ?_ (fun _ => ?_); ((repeat' (first | rw [List.length_append] | rw [List.length_map] | rw [List.length_cons] | rw [List.length_nil] | rw [List.length_take] | rw [List.length_drop])) <;> omega); ((repeat' (first | rw [List.length_append] | rw [List.length_map] | rw [List.length_cons] | rw [List.length_nil] | rw [List.length_take] | rw [List.length_drop])) <;> omega)) | (refine Awp.cond rfl (fun hc => ?_) (fun hc => ?_)) | (refine o_eqNilSl TtOk rfl rfl rfl rfl rfl (fun c hc0 => ?_)))
  · have := hc0 hc
    subst this
    exact end_tmp rfl rfl rfl [] [(0, _)] (CLe.nilown (k := 0)) (.none .nil) ⟨_, rfl, rfl⟩ _ (.inl rfl)
  · exact end_tmp rfl rfl rfl [] [(0, _)] CLe.own (HLe.cons 5 rfl (HOLe.refl _) .nil) ⟨_, rfl, rfl⟩ _ (.inl rfl)
theorem sorted1_spec (x y : Itm) : Spec Tryz.prog 213 ([x.A, y.A] ++ []) [] (fun v os => v = .i .i64 (ordI x y) ∧ os = []) := by
  have h1 := border_spec x.l y.l
  have ho : ordI x y = cmpS x.l y.l := rfl
  rw [ho]
  generalize cmpS x.l y.l = c at h1 ⊢
  show Spec Tryz.prog 213 [.agg [pfxA x.n x.l, labA x.s, .i .i64 x.t], .agg [pfxA y.n y.l, labA y.s, .i .i64 y.t]] [] _
  refine spec_of TtOk [] Tryz.func213 rfl Tryz.ntmps213 (by kernel_rfl) rfl rfl (fun C => ?_) rfl
  repeat' (first | refine Awp.seq ?_ | refine Awp.region ?_ | refine Ops.nil (nqA ?_) | refine Awp.ret (nqE ?_) | (refine o_calm rfl TtOk rfl rfl rfl ?_ (fun _ => ?_); exact nd) | refine o_box (d := 2) rfl rfl rfl rfl (fun b2 => ?_) | refine o_box (d := 3) rfl rfl rfl rfl (fun b3 => ?_) | refine o_callE rfl (h1) ⟨nqS, nqS, True.intro⟩ rfl ?_)
  exact nq2
theorem sorted_spec (l : List Itm) (hl : l.length ≤ 100000) : Spec Tryz.prog 155 [.sl 66 (l.map Itm.A)] [] (fun v os => v = .sl 66 ((srtI l).map Itm.A) ∧ os = []) := by
  refine spec_of TtOk [] Tryz.func155 rfl Tryz.ntmps155 (by kernel_rfl) rfl rfl (fun C => ?_) rfl
  have h1 := cloneI_spec (l.map Itm.A) (by rw [List.length_map]; omega)
  have h2 := fun v => sortStable_specI v 213 [] rfl ordI sorted1_spec woI l hl
  have hs : sortS (ltCI ordI) l = srtI l := rfl
  rw [hs] at h2
  generalize srtI l = r at h2 ⊢
  repeat' (first | refine Awp.seq ?_ | refine Awp.region ?_ | refine Ops.nil (nqA ?_) | refine Awp.ret (nqE ?_) | (refine o_calm rfl TtOk rfl rfl rfl ?_ (fun _ => ?_); exact nd) | (refine o_callR rfl h1 ⟨nqS, True.intro⟩ rfl (fun vR => ?_)) | (refine o_call [] [5] [5] rfl (h2 _) ⟨sle_own, nqS, True.intro⟩ rfl ⟨HOLe.refl _, True.intro⟩ rfl rfl ?_; rintro _ _ ⟨rfl, rfl⟩; refine ⟨_, rfl, rfl, ?_⟩))
  refine end_tmp rfl rfl rfl [5] [] (CLe.fz ?_) .nil ⟨rfl, rfl⟩ _ (.inl rfl)
  exact .head _
def itmsL (l : List Lef) : List Itm := srtI (l.map leafI)
theorem of_spec (l : List Lef) (hl : l.length ≤ 100000) (hok : ∀ x ∈ l, x.ok) : Spec Tryz.prog 68 [.sl 65 (l.map Lef.A)] [] (fun v os => v = .sl 66 ((itmsL l).map Itm.A) ∧ os = []) := by
  refine spec_of TtOk [] Tryz.func68 rfl Tryz.ntmps68 (by kernel_rfl) rfl rfl (fun C => ?_) rfl
  repeat' (first | refine Awp.seq ?_ | refine Awp.block ?_ | refine Awp.region ?_ | refine Ops.nil (nqA ?_) | refine o_len rfl TtOk rfl rfl rfl (fun _ => ?_) | (refine o_calm rfl TtOk rfl rfl rfl ?_ (fun _ => ?_); exact nd))
  refine Awp.loop (fun q : Nat × Value => ⟨20, [(8, .i .i64 q.1), (7, .i .i64 l.length), (6, .sl 65 (l.map Lef.A)), (3, .own 3 q.2)], [(3, .row q.2 50 66 (((l.map leafI).take q.1).map Itm.A))]⟩) (fun q => q.1 ≤ l.length) (fun q => l.length - q.1) [] (0, .slice none 0 0) (Nat.zero_le _) ?_ ?_
  · exact ⟨rfl, ⟨sle_i rfl, sle_i rfl, sle_sl rfl, sle_nilown, True.intro⟩, HLe.none .nil⟩
  rintro ⟨i, v⟩ hi
  dsimp only at hi ⊢
  have hml : (l.map leafI).length = l.length := List.length_map ..
  by_cases hlt : i < l.length
  · have h1 := litem_spec l[i] (hok _ (List.getElem_mem hlt))
    have hi1 : ((i : Int) + 1 = ((i + 1 : Nat) : Int)) := by omega
    have hst : (l.map leafI).take (i + 1) = (l.map leafI).take i ++ [leafI l[i]] := by rw [List.take_succ_eq_append_getElem (by omega), List.getElem_map]
    have hln : ((l.map leafI).take i).length = i := by rw [List.length_take]; omega
    generalize (l.map leafI).take i = T at hst hln ⊢
    repeat' (first | refine Awp.seq ?_ | refine Awp.block ?_ | refine Awp.region ?_ | refine Ops.nil (nqA ?_) | refine Ops.nil (nqX ?_) | refine Awp.skip (nqA ?_) | (refine o_add rfl rfl rfl rfl ?_ ?_; omega) | (refine o_calm rfl TtOk rfl rfl rfl ?_ (fun _ => ?_); exact nd) | refine o_alloc (d := 5) rfl TtOk rfl rfl rfl (fun b5 => ?_) | refine o_store TtOk rfl rfl rfl rfl rfl rfl rfl ⟨rfl, rfl⟩ rfl rfl rfl rfl rfl ?_ | (refine o_index rfl TtOk rfl rfl rfl rfl rfl rfl ?_ (getq_nat ?_) ?_; omega; omega) | refine o_buildSlice TtOk rfl rfl rfl rfl rfl rfl rfl rfl rfl rfl rfl nq1 (fun _ => ?_) | (refine o_append TtOk rfl rfl rfl rfl rfl rfl rfl rfl rfl (by first | exact True.intro | exact rfl) rfl rfl (fun _ => rfl) ?_ ?_ (fun _ => ?_); ((repeat' (first | rw [List.length_append] | rw [List.length_map] | rw [List.length_cons] | rw [List.length_nil] | rw [List.length_take] | rw [List.length_drop])) <;> omega); ((repeat' (first | rw [List.length_append] | rw [List.length_map] | rw [List.length_cons] | rw [List.length_nil] | rw [List.length_take] | rw [List.length_drop])) <;> omega)) | (refine a_condP rfl (fun hc => ?_) (fun hc => ?_)) <;> (try (exfalso; omega)) | refine o_callE rfl (h1) ⟨nqS, True.intro⟩ rfl ?_)
    refine ⟨(i + 1, _), [], hlt, by show l.length - (i + 1) < l.length - i; omega, rfl, ⟨sle_i hi1, sle_i rfl, sle_sl rfl, sle_own, True.intro⟩, HLe.cons 3 rfl (HOLe.row ?_) .nil⟩
    rw [hst, List.map_append]; rfl
  · have hie : i = l.length := by omega
    subst hie
    rw [List.take_of_length_le (by omega)]
    have h2 := sorted_spec (l.map leafI) (by omega)
    have hit : srtI (l.map leafI) = itmsL l := rfl
    rw [hit] at h2
    generalize l.map leafI = T at h2 ⊢
    generalize itmsL l = R at h2 ⊢
    repeat' (first | refine Awp.seq ?_ | refine Awp.region ?_ | refine Ops.nil (nqA ?_) | refine Awp.exit (nqA ?_) | refine Awp.ret (nqE ?_) | (refine o_calm rfl TtOk rfl rfl rfl ?_ (fun _ => ?_); exact nd) | (refine a_condP rfl (fun hc => ?_) (fun hc => ?_)) <;> (try (exfalso; omega)) | (refine o_call [3] [] [] rfl h2 ⟨SLe.of_cle (CLe.fz (.head _)) rfl, True.intro⟩ rfl True.intro rfl rfl ?_; rintro _ _ ⟨rfl, rfl⟩; refine ⟨_, rfl, rfl, ?_⟩))
    exact nq2
end Go.Proofs.YtcmgpkibjdbonaaGreat
set_option maxHeartbeats 8000000
set_option maxRecDepth 100000
namespace Go.Proofs.YtcmgpkibjdbonaaGreat
open Go Go.RowKit
theorem cmp_trans {a b c : List UInt8} (h : cmpS a b < 0) (k : cmpS b c < 0) : cmpS a c < 0 := cmpS_neg.2 (less_trans (cmpS_neg.1 h) (cmpS_neg.1 k))
theorem chkL_rise : ∀ (r : List Itm) (a : Itm), chkL (some a) r = 0 → (∀ y ∈ r, cmpS a.l y.l < 0) ∧ RiseI r ∧ ∀ y ∈ r, goodI y = true
  | [], _, _ => ⟨fun y h => (by cases h), List.Pairwise.nil, fun y h => (by cases h)⟩
  | x :: r, a, h => by
    have h : (if goodI x = true then (if badI a x = true then 3 else chkL (some x) r) else 1) = 0 := h
    by_cases hg : goodI x = true
    · rw [if_pos hg] at h
      by_cases hb : badI a x = true
      · rw [if_pos hb] at h; cases h
      · rw [if_neg hb] at h
        obtain ⟨i1, i2, i3⟩ := chkL_rise r x h
        have hlt : cmpS a.l x.l < 0 := by
          unfold badI at hb
          simp only [Bool.or_eq_true, not_or, decide_eq_true_eq] at hb
          omega
        refine ⟨fun y hy => ?_, List.pairwise_cons.2 ⟨i1, i2⟩, fun y hy => ?_⟩
        · rcases List.mem_cons.1 hy with rfl | hy
          · exact hlt
          · exact cmp_trans hlt (i1 y hy)
        · rcases List.mem_cons.1 hy with rfl | hy
          · exact hg
          · exact i3 y hy
    · rw [if_neg hg] at h; cases h
theorem chkI_rise {l : List Itm} (h : chkI l = 0) : l.length ≤ 2000 ∧ RiseI l ∧ ∀ y ∈ l, goodI y = true := by
  unfold chkI at h
  by_cases h2 : 2000 < l.length
  · rw [if_pos h2] at h; cases h
  rw [if_neg h2] at h
  refine ⟨by omega, ?_⟩
  cases l with
  | nil => exact ⟨List.Pairwise.nil, fun y h => (by cases h)⟩
  | cons x r =>
    have h : (if goodI x = true then chkL (some x) r else 1) = 0 := h
    by_cases hg : goodI x = true
    · rw [if_pos hg] at h
      obtain ⟨i1, i2, i3⟩ := chkL_rise r x h
      exact ⟨List.pairwise_cons.2 ⟨i1, i2⟩, fun y hy => by
        rcases List.mem_cons.1 hy with rfl | hy
        · exact hg
        · exact i3 y hy⟩
    · rw [if_neg hg] at h; cases h
def z32 : List UInt8 := List.replicate 32 0
def topS (l : List Itm) : List UInt8 := if chkI l ≠ 0 then z32 else if l = [] then shaN [18] else (joinF l.length l).s
theorem topS_len (l : List Itm) (hok : ∀ x ∈ l, x.ok) : (topS l).length = 32 := by
  unfold topS
  by_cases h : chkI l ≠ 0
  · rw [if_pos h]; exact List.length_replicate
  · rw [if_neg h]
    by_cases hn : l = []
    · rw [if_pos hn]; exact shaN_len _
    · rw [if_neg hn]
      exact (joinF_ok _ l hn (Nat.le_refl _) (chkI_rise (Decidable.of_not_not h)).2.1 hok).2
theorem top_spec (l : List Itm) (hl : l.length ≤ 100000) (hok : ∀ x ∈ l, x.ok) : Spec Tryz.prog 67 [.sl 66 (l.map Itm.A)] [] (fun v os => v = .tup [labA (topS l), .i .i64 (chkI l)] ∧ os = []) := by
  refine spec_of TtOk [] Tryz.func67 rfl Tryz.ntmps67 (by kernel_rfl) rfl rfl (fun C => ?_) rfl
  have h1 := pcheck_spec l hl hok
  have h2 := @chkI_rise l
  unfold topS
  generalize chkI l = c at h1 h2 ⊢
  by_cases hc0 : c = 0
  · subst hc0
    rw [if_neg (fun h => h rfl)]
    obtain ⟨-, h3, -⟩ := h2 rfl
    by_cases hn : l = []
    · rw [if_pos hn]
      subst hn
      have h4 := nempty_spec
      generalize shaN [18] = s at h4 ⊢
      repeat' (first | refine Awp.seq ?_ | refine Awp.region ?_ | refine Ops.nil (nqA ?_) | refine Awp.skip (nqA ?_) | refine Awp.ret (nqE ?_) | refine o_len rfl TtOk rfl rfl rfl (fun _ => ?_) | (refine o_calm rfl TtOk rfl rfl rfl ?_ (fun _ => ?_); exact nd) | refine o_alloc (d := 2) rfl TtOk rfl rfl rfl (fun b2 => ?_) | refine o_store TtOk rfl rfl rfl rfl rfl rfl rfl ⟨rfl, rfl⟩ rfl rfl rfl rfl rfl ?_ | refine a_condT rfl ?_ | refine a_condF rfl ?_ | refine o_callE rfl (h1) ⟨nqS, True.intro⟩ rfl ?_ | (refine o_call0 rfl (h4) True.intro rfl ?_; rintro _ _ ⟨rfl, rfl⟩; refine ⟨rfl, ?_⟩))
      refine end_all [] [] (.tup [labA s, .i .i64 0]) rfl ?_ ?_ (rle_tup2 (CLe.of_eq rfl) (CLe.of_eq rfl) rfl rfl) .nil ⟨rfl, rfl⟩ _ (.inl rfl)
      · exact nq1
      · exact ⟨trivial, trivial, trivial⟩
    · rw [if_neg hn]
      have h5 : 0 < l.length := List.length_pos_iff.2 hn
      have h4 := join_spec l.length l hn (Nat.le_refl _) hl h3 hok
      generalize joinF l.length l = x at h4 ⊢
      repeat' (first | refine Awp.seq ?_ | refine Awp.region ?_ | refine Ops.nil (nqA ?_) | refine Awp.skip (nqA ?_) | refine Awp.ret (nqE ?_) | refine o_len rfl TtOk rfl rfl rfl (fun _ => ?_) | (refine o_calm rfl TtOk rfl rfl rfl ?_ (fun _ => ?_); exact nd) | refine o_alloc (d := 2) rfl TtOk rfl rfl rfl (fun b2 => ?_) | refine o_store TtOk rfl rfl rfl rfl rfl rfl rfl ⟨rfl, rfl⟩ rfl rfl rfl rfl rfl ?_ | refine a_condF rfl ?_ | (refine a_condP rfl (fun hc => ?_) (fun hc => ?_)) <;> (try (exfalso; omega)) | refine o_callE rfl (h1) ⟨nqS, True.intro⟩ rfl ?_ | refine o_callE rfl (h4) ⟨nqS, True.intro⟩ rfl ?_)
      all_goals
        refine end_all [] [] (.tup [labA x.s, .i .i64 0]) rfl ?_ ?_ (rle_tup2 (CLe.of_eq rfl) (CLe.of_eq rfl) rfl rfl) .nil ⟨rfl, rfl⟩ _ (.inl rfl)
        · exact nq1
        · exact ⟨trivial, trivial, trivial⟩
  · rw [if_pos hc0]
    unfold z32
    repeat' (first | refine Awp.seq ?_ | refine Awp.region ?_ | refine Ops.nil (nqA ?_) | refine Awp.ret (nqE ?_) | (refine o_calm rfl TtOk rfl rfl rfl ?_ (fun _ => ?_); exact nd) | refine o_alloc (d := 2) rfl TtOk rfl rfl rfl (fun b2 => ?_) | refine o_store TtOk rfl rfl rfl rfl rfl rfl rfl ⟨rfl, rfl⟩ rfl rfl rfl rfl rfl ?_ | refine o_buildArr0 TtOk rfl rfl rfl rfl ?_ | (refine a_condN rfl (fun hc => ?_) (fun hc => ?_)) <;> (try (exfalso; omega)) | refine o_callE rfl (h1) ⟨nqS, True.intro⟩ rfl ?_)
    all_goals
      refine end_all [] [] (.tup [labA (List.replicate 32 0), .i .i64 c]) rfl ?_ ?_ (rle_tup2 (CLe.of_eq rfl) (CLe.of_eq rfl) rfl rfl) .nil ⟨rfl, rfl⟩ _ (.inl rfl)
      · exact nq1
      · exact ⟨trivial, trivial, trivial⟩
end Go.Proofs.YtcmgpkibjdbonaaGreat
set_option maxHeartbeats 4000000
namespace Go.Proofs.YtcmgpkibjdbonaaGreat
open Go Go.RowKit
theorem clr_test (c : UInt8) (k p : Nat) (_hk : k ≤ 8) (_hp : p < 8) : (clr c k).toNat.testBit p = (decide (8 - k ≤ p) && c.toNat.testBit p) := by
  have hl : c.toNat / 2 ^ (8 - k) * 2 ^ (8 - k) < 256 := Nat.lt_of_le_of_lt (Nat.div_mul_le_self _ _) c.toNat_lt
  have : (clr c k).toNat = c.toNat / 2 ^ (8 - k) * 2 ^ (8 - k) := by
    unfold clr
    rw [UInt8.toNat_ofNat']
    exact Nat.mod_eq_of_lt hl
  rw [this, Nat.testBit_mul_two_pow]
  by_cases h : 8 - k ≤ p
  · rw [decide_eq_true h, Nat.testBit_div_two_pow]
    congr 2; omega
  · rw [decide_eq_false h]; rfl
theorem bitL_def (l : List UInt8) (i : Nat) : bitL l i = ((l.getD (i / 8) 0).toNat.testBit (7 - i % 8)).toNat := bitL_test _ _
theorem cut_bit (l : List UInt8) (hl : l.length = 32) (n i : Nat) (hn : n ≤ 256) : bitL (cutL l n) i = if i < n then bitL l i else 0 := by
  have hp : ∀ j, (cutP l n).getD j 0 = if j < n / 8 then l.getD j 0 else 0 := fun j => by
    unfold cutP
    rw [List.getD_eq_getElem?_getD, List.getElem?_append, List.length_take, List.getElem?_take, List.getElem?_replicate]
    by_cases hj : j < n / 8
    · rw [if_pos hj, if_pos (by omega), if_pos hj, List.getD_eq_getElem?_getD]
    · rw [if_neg hj, if_neg (by omega)]
      split <;> rfl
  rw [bitL_def, bitL_def]
  unfold cutL
  by_cases h8 : n % 8 = 0
  · rw [if_pos h8, hp]
    by_cases hi : i < n
    · rw [if_pos hi, if_pos (by omega)]
    · rw [if_neg hi, if_neg (by omega)]
      show (Nat.testBit 0 _).toNat = 0
      rw [Nat.zero_testBit]; rfl
  · rw [if_neg h8]
    have hs : ((cutP l n).set (n / 8) (clr (l.getD (n / 8) 0) (n % 8))).getD (i / 8) 0 = if i / 8 = n / 8 then clr (l.getD (n / 8) 0) (n % 8) else (cutP l n).getD (i / 8) 0 := by
      rw [List.getD_eq_getElem?_getD, List.getElem?_set, List.getD_eq_getElem?_getD]
      have hlen := cutP_len l n hl hn
      by_cases he : n / 8 = i / 8
      · rw [if_pos he, if_pos he.symm, if_pos (by omega)]; rfl
      · rw [if_neg he, if_neg (fun h => he h.symm), List.getD_eq_getElem?_getD]
    rw [hs]
    by_cases he : i / 8 = n / 8
    · rw [if_pos he, clr_test _ _ _ (by omega) (by omega), he]
      by_cases hi : i < n
      · rw [if_pos hi, decide_eq_true (by omega), Bool.true_and]
      · rw [if_neg hi, decide_eq_false (by omega)]; rfl
    · rw [if_neg he, hp]
      by_cases hi : i < n
      · rw [if_pos hi, if_pos (by omega)]
      · rw [if_neg hi, if_neg (by omega)]
        show (Nat.testBit 0 _).toNat = 0
        rw [Nat.zero_testBit]; rfl
theorem cut_eq {a b : List UInt8} (ha : a.length = 32) (hb : b.length = 32) {n : Nat} (hn : n ≤ 256) (h : ∀ i, i < n → bitL a i = bitL b i) : cutL a n = cutL b n :=
  bits_eq (cutL_len _ _ ha hn) (cutL_len _ _ hb hn) (fun i _ => by
    rw [cut_bit a ha n i hn, cut_bit b hb n i hn]
    by_cases hi : i < n
    · rw [if_pos hi, if_pos hi, h i hi]
    · rw [if_neg hi, if_neg hi])
/-- What lies between two has their common bits. -/
theorem between {a b c : List UInt8} (ha : a.length = 32) (hb : b.length = 32) (hc : c.length = 32) (h : cmpS a b < 0) (k : cmpS b c < 0) : ∀ i, i < comL a c → bitL b i = bitL a i := by
  obtain ⟨a1, a2, a3⟩ := cmp_lt ha hb h
  obtain ⟨b1, b2, b3⟩ := cmp_lt hb hc k
  have hac := (com_bits a c (by omega)).2.1
  have hab := (com_bits a b (by omega)).2.1
  have hbc := (com_bits b c (by omega)).2.1
  have hge : comL a c ≤ comL a b := by
    rcases Nat.lt_or_ge (comL a b) (comL a c) with hlt | hge
    · exfalso
      have e1 := hac _ hlt
      rcases Nat.lt_trichotomy (comL a b) (comL b c) with h1 | h1 | h1
      · have e2 := hbc _ h1
        rw [a2] at e1; rw [a3, ← e1] at e2; cases e2
      · rw [← h1] at b2; rw [a3] at b2; cases b2
      · have e3 := hab _ h1
        have e4 := hac _ (Nat.lt_trans h1 hlt)
        rw [b2] at e3; rw [e3, b3] at e4; cases e4
    · exact hge
  exact fun i hi => (hab i (Nat.lt_of_lt_of_le hi hge)).symm
theorem frk_eq {l : List Itm} (h : 0 < l.length) : frkI l = comL l[0].l (l[l.length - 1]'(by omega)).l := by unfold frkI; rw [headD_get h, lastD_get h]
theorem rise_bits {l : List Itm} (hr : RiseI l) (hok : ∀ x ∈ l, x.ok) (h0 : 0 < l.length) (j : Nat) (hj : j < l.length) : ∀ i, i < frkI l → bitL l[j].l i = bitL l[0].l i := by
  intro i hi
  rw [frk_eq h0] at hi
  have o0 := (hok _ (List.getElem_mem h0)).1
  have oj := (hok _ (List.getElem_mem hj)).1
  have ol := (hok _ (List.getElem_mem (show l.length - 1 < l.length by omega))).1
  rcases Nat.eq_zero_or_pos j with rfl | hp
  · rfl
  · rcases Nat.lt_or_ge j (l.length - 1) with h1 | h1
    · exact between o0 oj ol (rise_lt hr hp hj) (rise_lt hr h1 (by omega)) i hi
    · have : j = l.length - 1 := by omega
      subst this
      exact ((com_bits _ _ (by omega)).2.1 i hi).symm
theorem spl_lo {l : List Itm} (j : Nat) (hj : j < splI l) (hl : j < l.length) : bitL l[j].l (frkI l) = 0 := by
  have hj : j < l.findIdx (fun x : Itm => bitL x.l (frkI l) == 1) := hj
  have h := List.not_of_lt_findIdx hj
  rcases bitL_or l[j].l (frkI l) with h1 | h1
  · exact h1
  · rw [h1] at h; exact absurd h (by decide)
theorem spl_hi {l : List Itm} (hr : RiseI l) (hok : ∀ x ∈ l, x.ok) (h2 : 2 ≤ l.length) (j : Nat) (hj : splI l ≤ j) (hl : j < l.length) : bitL l[j].l (frkI l) = 1 := by
  obtain ⟨c1, c2, c3, c4⟩ := spl_ok hr hok h2
  have hs : bitL (l[splI l]'c3).l (frkI l) = 1 := by
    have c5 : l.findIdx (fun x : Itm => bitL x.l (frkI l) == 1) < l.length := c3
    have h6 := List.findIdx_getElem (w := c5)
    exact beq_iff_eq.1 h6
  rcases Nat.eq_or_lt_of_le hj with rfl | hlt
  · exact hs
  · have hc := rise_lt hr hlt hl
    obtain ⟨d1, d2, d3⟩ := cmp_lt (hok _ (List.getElem_mem c3)).1 (hok _ (List.getElem_mem hl)).1 hc
    have hge : frkI l ≤ comL (l[splI l]'c3).l l[j].l := (com_ge (hok _ (List.getElem_mem c3)).1 (hok _ (List.getElem_mem hl)).1 (by omega)).2 (fun i hi => by
      rw [rise_bits hr hok (by omega) _ c3 i hi, rise_bits hr hok (by omega) _ hl i hi])
    rcases Nat.eq_or_lt_of_le hge with he | hlt2
    · rw [← he] at d2; rw [hs] at d2; cases d2
    · rw [← (com_bits _ _ (by rw [(hok _ (List.getElem_mem c3)).1, (hok _ (List.getElem_mem hl)).1])).2.1 _ hlt2]; exact hs
theorem com_is {a b : List UInt8} (ha : a.length = 32) (hb : b.length = 32) {n : Nat} (hn : n < 256) (h : ∀ i, i < n → bitL a i = bitL b i) (hd : bitL a n ≠ bitL b n) : comL a b = n := by
  have h1 := (com_ge ha hb (Nat.le_of_lt hn)).2 h
  rcases Nat.eq_or_lt_of_le h1 with he | hlt
  · exact he.symm
  · exact absurd ((com_bits a b (by omega)).2.1 _ hlt) hd
/-- Of what has the common bits and the next one too, more is in common. -/
theorem frk_gt {l : List Itm} (hok : ∀ x ∈ l, x.ok) (h0 : 0 < l.length) {n : Nat} (hn : n < 256) (h : ∀ x ∈ l, ∀ i, i ≤ n → bitL x.l i = bitL l[0].l i) : n < frkI l := by
  rw [frk_eq h0]
  have hm := List.getElem_mem (show l.length - 1 < l.length by omega)
  exact (com_ge (hok _ (List.getElem_mem h0)).1 (hok _ hm).1 (n := n + 1) (by omega)).2 (fun i hi => (h _ hm i (by omega)).symm)
/-- The prefix of a tree: the common bits of its items. -/
theorem join_pfx : ∀ (k : Nat) (l : List Itm) (h0 : 0 < l.length), l.length ≤ k → RiseI l → (∀ x ∈ l, x.ok) → (l.length = 1 → joinF k l = l[0]) ∧ (2 ≤ l.length → (joinF k l).n = (frkI l : Nat) ∧ (joinF k l).l = cutL l[0].l (frkI l))
  | 0, l, h0, hl, _, _ => by omega
  | k + 1, l, h0, hl, hr, hok => by
    refine ⟨fun h1 => ?_, fun h2 => ?_⟩
    · unfold joinF; rw [if_pos h1, headD_get h0]
    unfold joinF
    rw [if_neg (by omega)]
    obtain ⟨c1, c2, c3, c4⟩ := spl_ok hr hok h2
    have l1 : (l.take (splI l)).length = splI l := by rw [List.length_take]; omega
    have l2 : (l.drop (splI l)).length = l.length - splI l := List.length_drop
    have r1 : RiseI (l.take (splI l)) := hr.sublist (List.take_sublist ..)
    have r2 : RiseI (l.drop (splI l)) := hr.sublist (List.drop_sublist ..)
    have k1 : ∀ x ∈ l.take (splI l), x.ok := fun x hx => hok x (List.mem_of_mem_take hx)
    have k2 : ∀ x ∈ l.drop (splI l), x.ok := fun x hx => hok x (List.mem_of_mem_drop hx)
    obtain ⟨a1, a2⟩ := join_pfx k (l.take (splI l)) (by omega) (by omega) r1 k1
    obtain ⟨b1, b2⟩ := join_pfx k (l.drop (splI l)) (by omega) (by omega) r2 k2
    have hA : (l.take (splI l))[0]'(by omega) = l[0] := List.getElem_take
    have hB : (l.drop (splI l))[0]'(by omega) = l[splI l] := by rw [List.getElem_drop]; rfl
    have oA := joinF_ok k _ (take_ne c2 c3) (by omega) r1 k1
    have oB := joinF_ok k _ (drop_ne c3) (by omega) r2 k2
    have o0 := (hok _ (List.getElem_mem h0)).1
    have oS := (hok _ (List.getElem_mem c3)).1
    have bA : ∀ i, i ≤ frkI l → bitL (joinF k (l.take (splI l))).l i = bitL l[0].l i := by
      intro i hi
      by_cases h1 : (l.take (splI l)).length = 1
      · rw [a1 h1, hA]
      · have hg : frkI l < frkI (l.take (splI l)) := frk_gt k1 (by omega) c1 (fun x hx j hj => by
          obtain ⟨q, hq, rfl⟩ := List.getElem_of_mem hx
          rw [hA, List.getElem_take]
          rcases Nat.lt_or_ge j (frkI l) with h3 | h3
          · exact rise_bits hr hok h0 q (by omega) j h3
          · have : j = frkI l := by omega
            subst this
            rw [spl_lo q (by omega) (by omega), spl_lo 0 (by omega) h0])
        have hle : frkI (l.take (splI l)) ≤ 256 := by
          have := (spl_ok r1 k1 (by omega)).1; omega
        rw [(a2 (by omega)).2, hA, cut_bit _ o0 _ _ hle, if_pos (by omega)]
    have bB : ∀ i, i ≤ frkI l → bitL (joinF k (l.drop (splI l))).l i = bitL (l[splI l]'c3).l i := by
      intro i hi
      by_cases h1 : (l.drop (splI l)).length = 1
      · rw [b1 h1, hB]
      · have hg : frkI l < frkI (l.drop (splI l)) := frk_gt k2 (by omega) c1 (fun x hx j hj => by
          obtain ⟨q, hq, rfl⟩ := List.getElem_of_mem hx
          rw [hB, List.getElem_drop]
          rcases Nat.lt_or_ge j (frkI l) with h3 | h3
          · rw [rise_bits hr hok h0 (splI l + q) (by omega) j h3, rise_bits hr hok h0 (splI l) c3 j h3]
          · have : j = frkI l := by omega
            subst this
            rw [spl_hi hr hok h2 _ (by omega) (by omega), spl_hi hr hok h2 _ (Nat.le_refl _) c3])
        have hle : frkI (l.drop (splI l)) ≤ 256 := by
          have := (spl_ok r2 k2 (by omega)).1; omega
        rw [(b2 (by omega)).2, hB, cut_bit _ oS _ _ hle, if_pos (by omega)]
    have hcom : comL (joinF k (l.take (splI l))).l (joinF k (l.drop (splI l))).l = frkI l := com_is oA.1 oB.1 c1 (fun i hi => by
        rw [bA i (by omega), bB i (by omega), rise_bits hr hok h0 _ c3 i hi]) (by
        rw [bA _ (Nat.le_refl _), bB _ (Nat.le_refl _), spl_lo 0 c2 h0, spl_hi hr hok h2 _ (Nat.le_refl _) c3]; decide)
    refine ⟨?_, ?_⟩
    · show ((comL _ _ : Nat) : Int) = _
      rw [hcom]
    · show cutL _ (comL _ _) = _
      rw [hcom]
      exact cut_eq oA.1 o0 (by omega) (fun i hi => bA i (by omega))
end Go.Proofs.YtcmgpkibjdbonaaGreat
