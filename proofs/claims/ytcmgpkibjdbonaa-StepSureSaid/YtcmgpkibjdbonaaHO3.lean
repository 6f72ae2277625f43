/- step.hold by rules. -/
import Derived.Test.YtcmgpkibjdbonaaSW1Z
set_option maxHeartbeats 16000000
set_option maxRecDepth 100000
namespace Go.Proofs.Ytcmgpkibjdbonaa
open Go Go.RowKit
/-- What is summed of the top of told parts. -/
def tdT (T : List Itm) (O : List Lef) : List UInt8 := if T.length = 0 then [18] else if T.length = 1 then leafB (fndL O (T.headD default).l) else innB (parA T) (parB T)
/-- A part that isn't told. -/
def unT (T : List Itm) (O : List Lef) : Bool := T.length == 1 && (!(hasLf O (T.headD default).l) || decide ((T.headD default).n < 256))
def spR (R : List Lef) : Nat := if 2 ≤ R.length then splI (R.map leafI) else 0
def hld : Nat → List Itm → List Lef → List Lef → List UInt8 × List UInt8 × Bool
  | 0, _, _, _ => ([], [], false)
  | k + 1, T, O, R =>
    if unT T O = true then ([], [], false) else
    if tdT T O = rlT R then
      if T.length < 2 then ([], [], false) else
      if (hld k (T.take (splI T)) O (R.take (spR R))).1 = (hld k (T.take (splI T)) O (R.take (spR R))).2.1 then hld k (T.drop (splI T)) O (R.drop (spR R))
      else hld k (T.take (splI T)) O (R.take (spR R))
    else (tdT T O, rlT R, clsh (tdT T O) (rlT R))
theorem fndL_ok {l : List Lef} {g : List UInt8} (h : ∀ x ∈ l, x.ok) : (fndL l g).ok := by
  unfold fndL
  cases hf : l.find? (fun y => y.l == g) with
  | none => exact ⟨rfl, rfl⟩
  | some x => exact h x (List.mem_of_find?_eq_some hf)
theorem tdT_len {T : List Itm} {O : List Lef} (hr : RiseI T) (hT : ∀ x ∈ T, x.ok) (hO : ∀ x ∈ O, x.ok) : (tdT T O).length ≤ 1000 := by
  unfold tdT
  split
  · show 1 ≤ 1000; decide
  split
  · exact leafB_len _ (fndL_ok hO)
  · rename_i h0 h1
    obtain ⟨_, s1, s2, _⟩ := spl_ok hr hT (by omega)
    exact innB_len _ _ (joinF_ok _ _ (take_ne s1 s2) (by rw [List.length_take]; omega) (hr.sublist (List.take_sublist ..)) (fun x hx => hT x (List.mem_of_mem_take hx)))
      (joinF_ok _ _ (drop_ne s2) (by rw [List.length_drop]; omega) (hr.sublist (List.drop_sublist ..)) (fun x hx => hT x (List.mem_of_mem_drop hx)))
theorem td_two {T : List Itm} {O : List Lef} {R : List Lef} (h2 : 2 ≤ T.length) (h : tdT T O = rlT R) : 2 ≤ R.length := by
  unfold tdT rlT at h
  rw [if_neg (by omega), if_neg (by omega), innB_eq] at h
  split at h
  · cases h
  split at h
  · rw [leafB_eq] at h; cases h
  · rename_i h0 h1
    have : R.length ≠ 0 := fun e => h0 (List.length_eq_zero_iff.1 e)
    omega
theorem hold_spec : ∀ (k : Nat) (T : List Itm) (O R : List Lef), T.length < k → T.length ≤ 10000 → O.length ≤ 10000 → RiseI T → (∀ x ∈ T, x.ok) → (∀ x ∈ O, x.ok) → Rsn R → R.length ≤ 1000 →
    Spec Try.prog 100 [.sl 66 (T.map Itm.A), .sl 65 (O.map Lef.A), .sl 65 (R.map Lef.A)] [] (fun v os => v = .tup [.s (hld k T O R).1, .s (hld k T O R).2.1, .b (hld k T O R).2.2] ∧ os = [])
  | 0, T, O, R, hk, _, _, _, _, _, _, _ => absurd hk (Nat.not_lt_zero _)
  | k + 1, T, O, R, hk, hT, hO, hr, okT, okO, hR, hRl => by
    have hcl := clash_spec (tdT T O) (rlT R) (tdT_len hr okT okO) (rlT_len hR)
    have i1 := hold_spec k (T.take (splI T)) O (R.take (spR R))
    have i2 := hold_spec k (T.drop (splI T)) O (R.drop (spR R))
    obtain ⟨W, hW⟩ : ∃ W, hld (k + 1) T O R = W := ⟨_, rfl⟩
    rw [hW]
    unfold hld at hW
    have hWt : unT T O = true → W = ([], [], false) := fun h => by rw [if_pos h] at hW; exact hW.symm
    refine spec_of TtOk [] Try.func100 rfl Try.ntmps100 (by kernel_rfl) rfl rfl (fun C => ?_) rfl
    refine Awp.seq ?_
    repeat' (first | refine Awp.region ?_ | (refine Ops.nil ?_; show Awp _ _ _ _ _) | (refine o_calm rfl TtOk rfl rfl rfl ?_ (fun _ => ?_); first | exact True.intro | exact ⟨rfl, rfl, rfl, rfl⟩ | exact ⟨rfl, True.intro⟩ | exact ⟨rfl, rfl⟩ | exact ⟨rfl, rfl, rfl⟩ | exact rfl | exact ⟨fun h0 => by cases h0, rfl⟩ | exact (fun h0 => by cases h0) | exact ⟨rfl, by omega⟩ | exact ⟨Nat.succ_ne_zero _, rfl⟩ | omega))
    refine Awp.seqI (X := Unit) (fun _ => ⟨158, [(9, .s [18]), (10, .s [18]), (0, .sl 66 (T.map Itm.A)), (1, .sl 65 (O.map Lef.A)), (2, .sl 65 (R.map Lef.A))], []⟩) (fun _ => True) ?_ (fun _ _ => ?_)
    · repeat' (first | (refine o_calm rfl TtOk rfl rfl rfl ?_ (fun _ => ?_); first | exact True.intro | exact ⟨rfl, rfl, rfl, rfl⟩ | exact ⟨rfl, True.intro⟩ | exact ⟨rfl, rfl⟩ | exact ⟨rfl, rfl, rfl⟩ | exact rfl | exact ⟨fun h0 => by cases h0, rfl⟩ | exact (fun h0 => by cases h0) | exact ⟨rfl, by omega⟩ | exact ⟨Nat.succ_ne_zero _, rfl⟩ | omega) | refine o_buildSlice TtOk rfl rfl rfl rfl rfl rfl rfl rfl rfl rfl rfl (by repeat' (first | exact True.intro | exact rfl | refine ⟨?_, ?_⟩)) (fun _ => ?_) | (refine Ops.nil ?_; show AnyT _ _ _ _ _ _ _ _ _ _) | refine a_anyT 1 [] [] [] (by kernel_rfl) (by kernel_rfl) (n := 6) (listed := [false, false, false, false, false, false].toArray) rfl (by kernel_rfl) ?_ | refine t_two (n := 6) (listed := [false, false, false, false, false, false].toArray) 0 2 [true, false, false, false, false, false] [false, false, true, false, false, false] rfl (by kernel_rfl) rfl rfl (by kernel_rfl) (by kernel_rfl) ?_ ?_ | refine t_path (n := 5) (listed := [true, false, false, false, false, false].toArray) [1, 4, 2, 3, 5] 0 [true, true, true, true, true, true] (by kernel_rfl) rfl rfl rfl (by kernel_rfl) ?_ | refine t_fin (n := 0) (listed := [true, true, true, true, true, true].toArray) (by kernel_rfl) ?_ | refine t_path (n := 5) (listed := [false, false, true, false, false, false].toArray) [3, 0, 1, 4, 5] 0 [true, true, true, true, true, true] (by kernel_rfl) rfl rfl rfl (by kernel_rfl) ?_ | (refine o_toString (s := [18]) TtOk rfl rfl rfl rfl rfl (by first | exact True.intro | exact rfl) rfl rfl rfl rfl ?_))
      all_goals exact ⟨(), [], trivial, rfl, ⟨sle_s rfl, sle_s rfl, sle_sl rfl, sle_sl rfl, sle_sl rfl, True.intro⟩, .nil⟩
    refine Awp.seq ?_
    repeat' (first | refine Awp.region ?_ | (refine Ops.nil ?_; show Awp _ _ _ _ _) | (refine o_calm rfl TtOk rfl rfl rfl ?_ (fun _ => ?_); first | exact True.intro | exact ⟨rfl, rfl, rfl, rfl⟩ | exact ⟨rfl, True.intro⟩ | exact ⟨rfl, rfl⟩ | exact ⟨rfl, rfl, rfl⟩ | exact rfl | exact ⟨fun h0 => by cases h0, rfl⟩ | exact (fun h0 => by cases h0) | exact ⟨rfl, by omega⟩ | exact ⟨Nat.succ_ne_zero _, rfl⟩ | omega))
    refine Awp.seq ?_
    repeat' (first | refine Awp.region ?_ | (refine Ops.nil ?_; show Awp _ _ _ _ _) | (refine o_calm rfl TtOk rfl rfl rfl ?_ (fun _ => ?_); first | exact True.intro | exact ⟨rfl, rfl, rfl, rfl⟩ | exact ⟨rfl, True.intro⟩ | exact ⟨rfl, rfl⟩ | exact ⟨rfl, rfl, rfl⟩ | exact rfl | exact ⟨fun h0 => by cases h0, rfl⟩ | exact (fun h0 => by cases h0) | exact ⟨rfl, by omega⟩ | exact ⟨Nat.succ_ne_zero _, rfl⟩ | omega))
    refine Awp.seq ?_
    repeat' (first | refine Awp.region ?_ | (refine Ops.nil ?_; show Awp _ _ _ _ _) | (refine o_calm rfl TtOk rfl rfl rfl ?_ (fun _ => ?_); first | exact True.intro | exact ⟨rfl, rfl, rfl, rfl⟩ | exact ⟨rfl, True.intro⟩ | exact ⟨rfl, rfl⟩ | exact ⟨rfl, rfl, rfl⟩ | exact rfl | exact ⟨fun h0 => by cases h0, rfl⟩ | exact (fun h0 => by cases h0) | exact ⟨rfl, by omega⟩ | exact ⟨Nat.succ_ne_zero _, rfl⟩ | omega))
    refine Awp.seqI (X := List UInt8 × Nat) (fun q => ⟨158, [(9, .s q.1), (10, .s [18]), (12, .fn (.func 155) []), (15, .i .i64 q.2), (16, .i .i64 0), (0, .sl 66 (T.map Itm.A)), (1, .sl 65 (O.map Lef.A)), (2, .sl 65 (R.map Lef.A))], []⟩) (fun q => unT T O = false ∧ q.1 = tdT T O ∧ (2 ≤ T.length → q.2 = splI T)) ?_ ?_
    · clear i1 i2 hcl
      by_cases h0 : T.length = 0
      · repeat' (first | refine Awp.seq ?_ | refine Awp.block ?_ | refine Awp.region ?_ | (refine Ops.nil ?_; show Awp _ _ _ _ _) | (refine Awp.skip ?_; show Exists _) | refine o_len rfl TtOk rfl rfl rfl (fun _ => ?_) | (refine o_calm rfl TtOk rfl rfl rfl ?_ (fun _ => ?_); first | exact True.intro | exact ⟨rfl, rfl, rfl, rfl⟩ | exact ⟨rfl, True.intro⟩ | exact ⟨rfl, rfl⟩ | exact ⟨rfl, rfl, rfl⟩ | exact rfl | exact ⟨fun h0 => by cases h0, rfl⟩ | exact (fun h0 => by cases h0) | exact ⟨rfl, by omega⟩ | exact ⟨Nat.succ_ne_zero _, rfl⟩ | omega) | (refine a_condP rfl (fun hc => ?_) (fun hc => ?_)) <;> (try (exfalso; omega)))
        have hU1 : unT T O = false := by unfold unT; rw [h0]; rfl
        have hE1 : tdT T O = [18] := by unfold tdT; rw [if_pos h0]
        rw [hE1]
        all_goals exact ⟨([18], 0), [], ⟨hU1, rfl, fun h => by omega⟩, ⟨rfl, ⟨sle_s rfl, sle_s rfl, SLe.of_eq rfl, sle_i rfl, sle_i rfl, sle_sl rfl, sle_sl rfl, sle_sl rfl, True.intro⟩, .nil⟩⟩
      by_cases h1 : T.length = 1
      · have hp : 0 < T.length := by omega
        have hf := sfind_spec O T[0].l (by omega)
        have hb := leafB_spec (fndL O T[0].l) (fndL_ok okO)
        have hT0 : T[0].A = .agg [.agg [.i .i64 T[0].n, labA T[0].l], labA T[0].s, .i .i64 T[0].t] := rfl
        have hU1 : unT T O = (!(hasLf O T[0].l) || decide (T[0].n < 256)) := by unfold unT; rw [h1, headD_get hp]; rfl
        have hE1 : tdT T O = leafB (fndL O T[0].l) := by unfold tdT; rw [if_neg h0, if_pos h1, headD_get hp]
        rw [hE1]
        generalize fndL O T[0].l = x at *
        generalize hasLf O T[0].l = y at *
        repeat' (first | refine Awp.seq ?_ | refine Awp.block ?_ | refine Awp.region ?_ | (refine Ops.nil ?_; show Awp _ _ _ _ _) | (refine Ops.nil ?_; show Exists _) | (refine Awp.skip ?_; show Awp _ _ _ _ _) | (refine Awp.ret ?_; show endK _ _ _ _ _) | refine o_offF rfl rfl rfl (by first | exact .inl rfl | exact .inr rfl) ?_ | refine o_len rfl TtOk rfl rfl rfl (fun _ => ?_) | (refine o_calm rfl TtOk rfl rfl rfl ?_ (fun _ => ?_); first | exact True.intro | exact ⟨rfl, rfl, rfl, rfl⟩ | exact ⟨rfl, True.intro⟩ | exact ⟨rfl, rfl⟩ | exact ⟨rfl, rfl, rfl⟩ | exact rfl | exact ⟨fun h0 => by cases h0, rfl⟩ | exact (fun h0 => by cases h0) | exact ⟨rfl, by omega⟩ | exact ⟨Nat.succ_ne_zero _, rfl⟩ | omega) | refine o_alloc (d := 17) rfl TtOk rfl rfl rfl (fun b17 => ?_) | refine o_store TtOk rfl rfl rfl rfl rfl rfl rfl ⟨rfl, rfl⟩ rfl rfl rfl rfl rfl ?_ | (refine o_index rfl TtOk rfl rfl rfl rfl rfl rfl ?_ (getq_nat ?_) ?_; omega; omega) | (fail_if_success (refine o_isLit rfl (by first | exact .inl rfl | exact .inr rfl) ?_)); (refine o_split rfl rfl (fun hc => ?_) (fun hc => ?_)) | refine a_condT rfl ?_ | (refine a_condP rfl (fun hc => ?_) (fun hc => ?_)) <;> (try (exfalso; omega)) | (refine o_call0 rfl (hf) ⟨SLe.of_eq rfl, SLe.of_eq rfl, True.intro⟩ rfl ?_; rintro _ _ ⟨rfl, rfl⟩; refine ⟨rfl, ?_⟩) | (refine o_call0 rfl (hb) ⟨SLe.of_eq rfl, True.intro⟩ rfl ?_; rintro _ _ ⟨rfl, rfl⟩; refine ⟨rfl, ?_⟩))
        all_goals first
          | (exact ⟨(leafB x, 0), [], ⟨by rw [hU1, show (!y) = false by assumption, decide_eq_false hc]; rfl, rfl, fun h => by omega⟩, ⟨rfl, ⟨sle_s rfl, sle_s rfl, SLe.of_eq rfl, sle_i rfl, sle_i rfl, sle_sl rfl, sle_sl rfl, sle_sl rfl, True.intro⟩, .nil⟩⟩)
          | (have hWe := hWt (by rw [hU1]; first | (rw [hc]; rfl) | (rw [decide_eq_true hc, Bool.or_true]))
             subst hWe
             refine end_all [] [] (.tup [.s [], .s [], .b false]) rfl ?_ ?_ (rle_tup3c (CLe.of_eq rfl) (CLe.of_eq rfl) (CLe.of_eq rfl) rfl rfl rfl) .nil ⟨rfl, rfl⟩ _ (.inl rfl)
             · repeat' (first | exact True.intro | exact rfl | refine ⟨?_, ?_⟩)
             · exact ⟨trivial, trivial, trivial, trivial⟩)
      have hp : 0 < T.length := by omega
      have hj : T.length - 1 < T.length := by omega
      obtain ⟨hf, s1, s2, s3⟩ := spl_ok hr okT (by omega)
      have hcm := bcommon_spec T[0].l T[T.length - 1].l (okT _ (List.getElem_mem hp)).1 (okT _ (List.getElem_mem hj)).1
      have hfe : comL T[0].l T[T.length - 1].l = frkI T := by unfold frkI; rw [headD_get hp, lastD_get hp]
      rw [hfe] at hcm
      have hx := scutI_spec 154 hold1_spec (frkI T) hf T okT (by omega) s3
      have hsp : T.findIdx (fun x => bitL x.l (frkI T) == 1) = splI T := rfl
      rw [hsp] at hx
      have r1 : RiseI (T.take (splI T)) := hr.sublist (List.take_sublist ..)
      have r2 : RiseI (T.drop (splI T)) := hr.sublist (List.drop_sublist ..)
      have k1 : ∀ x ∈ T.take (splI T), x.ok := fun x hx => okT x (List.mem_of_mem_take hx)
      have k2 : ∀ x ∈ T.drop (splI T), x.ok := fun x hx => okT x (List.mem_of_mem_drop hx)
      have l1 : (T.take (splI T)).length ≤ T.length - 1 := by rw [List.length_take]; omega
      have l2 : (T.drop (splI T)).length ≤ T.length - 1 := by rw [List.length_drop]; omega
      have j1 := sjoin_spec (T.length - 1) (T.take (splI T)) (take_ne s1 s2) l1 (by omega) r1 k1
      have j2 := sjoin_spec (T.length - 1) (T.drop (splI T)) (drop_ne s2) l2 (by omega) r2 k2
      have p1 : joinF (T.length - 1) (T.take (splI T)) = parA T := rfl
      have p2 : joinF (T.length - 1) (T.drop (splI T)) = parB T := rfl
      have ib := innB_spec _ _ (joinF_ok (T.length - 1) _ (take_ne s1 s2) l1 r1 k1) (joinF_ok (T.length - 1) _ (drop_ne s2) l2 r2 k2)
      rw [p1] at j1 ib
      rw [p2] at j2 ib
      have hE : tdT T O = innB (parA T) (parB T) := by unfold tdT; rw [if_neg h0, if_neg h1]
      have hU : unT T O = false := by unfold unT; rw [beq_eq_false_iff_ne.2 h1]; rfl
      rw [hE]
      generalize innB (parA T) (parB T) = a at *
      generalize parA T = x at *
      generalize parB T = y at *
      clear r1 r2 k1 k2 l1 l2 p1 p2 hsp s3 hfe hr okT okO hR
      generalize frkI T = c at hcm hx hf
      generalize splI T = i at *
      have ht : T.drop i = (T.take T.length).drop i := by rw [List.take_length]
      rw [ht] at j2
      repeat' (first | refine Awp.seq ?_ | refine Awp.block ?_ | refine Awp.region ?_ | (refine Ops.nil ?_; show Awp _ _ _ _ _) | (refine Ops.nil ?_; show Exists _) | (refine o_sub rfl rfl rfl rfl ?_ ?_; omega) | refine o_len rfl TtOk rfl rfl rfl (fun _ => ?_) | (refine o_calm rfl TtOk rfl rfl rfl ?_ (fun _ => ?_); first | exact True.intro | exact ⟨rfl, rfl, rfl, rfl⟩ | exact ⟨rfl, True.intro⟩ | exact ⟨rfl, rfl⟩ | exact ⟨rfl, rfl, rfl⟩ | exact rfl | exact ⟨fun h0 => by cases h0, rfl⟩ | exact (fun h0 => by cases h0) | exact ⟨rfl, by omega⟩ | exact ⟨Nat.succ_ne_zero _, rfl⟩ | omega) | (refine o_index rfl TtOk rfl rfl rfl rfl rfl rfl ?_ (getq_nat ?_) ?_; omega; omega) | refine o_build TtOk rfl rfl rfl rfl rfl rfl (by repeat' (first | exact True.intro | exact rfl | refine ⟨?_, ?_⟩)) ?_ | (refine a_condP rfl (fun hc => ?_) (fun hc => ?_)) <;> (try (exfalso; omega)) | refine a_any 6 [] [] [] [0, 1, 2, 3, 5, 6, 7, 8, 9, 10, 11, 4, 12, 13, 14] (by kernel_rfl) (by kernel_rfl) (by kernel_rfl) rfl rfl rfl ?_ | refine a_any 8 [] [] [] [0, 1, 2, 4, 5, 6, 3, 7, 8, 9, 10] (by kernel_rfl) (by kernel_rfl) (by kernel_rfl) rfl rfl rfl ?_ | (refine o_sliceSl TtOk rfl 0 i rfl rfl rfl rfl rfl bnd_none (bnd_some rfl rfl) (by omega) (by omega) ?_) | (refine o_sliceSl TtOk rfl i T.length rfl rfl rfl rfl rfl (bnd_some rfl rfl) bnd_none (by omega) (by omega) ?_) | (refine o_index rfl TtOk rfl rfl rfl rfl rfl rfl ?_ (getq_as (T.length-1) ?_ hj) ?_; omega; omega) | (refine o_call0 rfl (hcm) ⟨SLe.of_eq rfl, SLe.of_eq rfl, True.intro⟩ rfl ?_; rintro _ _ ⟨rfl, rfl⟩; refine ⟨rfl, ?_⟩) | (refine o_call0 rfl (hx) ⟨SLe.of_eq rfl, SLe.of_eq rfl, SLe.of_eq rfl, True.intro⟩ rfl ?_; rintro _ _ ⟨rfl, rfl⟩; refine ⟨rfl, ?_⟩) | (refine o_call0 rfl (j1) ⟨SLe.of_eq rfl, True.intro⟩ rfl ?_; rintro _ _ ⟨rfl, rfl⟩; refine ⟨rfl, ?_⟩) | (refine o_call0 rfl (j2) ⟨SLe.of_eq rfl, True.intro⟩ rfl ?_; rintro _ _ ⟨rfl, rfl⟩; refine ⟨rfl, ?_⟩) | (refine o_call0 rfl (ib) ⟨SLe.of_eq rfl, True.intro⟩ rfl ?_; rintro _ _ ⟨rfl, rfl⟩; refine ⟨rfl, ?_⟩))
      all_goals exact ⟨(a, i), [], ⟨hU, rfl, fun _ => rfl⟩, ⟨rfl, ⟨sle_s rfl, sle_s rfl, SLe.of_eq rfl, sle_i rfl, sle_i rfl, sle_sl rfl, sle_sl rfl, sle_sl rfl, True.intro⟩, .nil⟩⟩
    rintro ⟨a, i⟩ ⟨hU, ha, hi⟩
    dsimp only at ha hi ⊢
    subst ha
    rw [if_neg (by rw [hU]; decide)] at hW
    clear hWt
    refine Awp.seqI (X := List UInt8 × Nat) (fun q => ⟨158, [(9, .s (tdT T O)), (10, .s q.1), (15, .i .i64 i), (16, .i .i64 q.2), (0, .sl 66 (T.map Itm.A)), (1, .sl 65 (O.map Lef.A)), (2, .sl 65 (R.map Lef.A))], []⟩) (fun q => q.1 = rlT R ∧ q.2 = spR R) ?_ ?_
    · clear i1 i2 hcl hi hW
      generalize tdT T O = a at *
      by_cases h0 : R.length = 0
      · have hE1 : rlT R = [18] := by unfold rlT; rw [if_pos (List.length_eq_zero_iff.1 h0)]
        have hE2 : spR R = 0 := by unfold spR; rw [if_neg (by omega)]
        rw [hE1, hE2]
        repeat' (first | refine Awp.seq ?_ | refine Awp.block ?_ | refine Awp.region ?_ | (refine Ops.nil ?_; show Awp _ _ _ _ _) | (refine Awp.skip ?_; show Exists _) | refine o_len rfl TtOk rfl rfl rfl (fun _ => ?_) | (refine o_calm rfl TtOk rfl rfl rfl ?_ (fun _ => ?_); first | exact True.intro | exact ⟨rfl, rfl, rfl, rfl⟩ | exact ⟨rfl, True.intro⟩ | exact ⟨rfl, rfl⟩ | exact ⟨rfl, rfl, rfl⟩ | exact rfl | exact ⟨fun h0 => by cases h0, rfl⟩ | exact (fun h0 => by cases h0) | exact ⟨rfl, by omega⟩ | exact ⟨Nat.succ_ne_zero _, rfl⟩ | omega) | (refine a_condP rfl (fun hc => ?_) (fun hc => ?_)) <;> (try (exfalso; omega)))
        all_goals exact ⟨([18], 0), [], ⟨rfl, rfl⟩, rfl, ⟨sle_s rfl, sle_s rfl, sle_i rfl, sle_i rfl, sle_sl rfl, sle_sl rfl, sle_sl rfl, True.intro⟩, .nil⟩
      have hp : 0 < R.length := by omega
      by_cases h1 : R.length = 1
      · have hb := leafB_spec R[0] (hR.ok _ (List.getElem_mem hp))
        have hd : R.headD lef0 = R[0] := by cases R with | nil => simp at hp | cons x q => rfl
        have hE1 : rlT R = leafB R[0] := by unfold rlT; rw [if_neg (fun e => h0 (by rw [e]; rfl)), if_pos h1, hd]
        have hE2 : spR R = 0 := by unfold spR; rw [if_neg (by omega)]
        rw [hE1, hE2]
        repeat' (first | refine Awp.seq ?_ | refine Awp.block ?_ | refine Awp.region ?_ | (refine Ops.nil ?_; show Awp _ _ _ _ _) | (refine Ops.nil ?_; show Exists _) | refine o_len rfl TtOk rfl rfl rfl (fun _ => ?_) | (refine o_calm rfl TtOk rfl rfl rfl ?_ (fun _ => ?_); first | exact True.intro | exact ⟨rfl, rfl, rfl, rfl⟩ | exact ⟨rfl, True.intro⟩ | exact ⟨rfl, rfl⟩ | exact ⟨rfl, rfl, rfl⟩ | exact rfl | exact ⟨fun h0 => by cases h0, rfl⟩ | exact (fun h0 => by cases h0) | exact ⟨rfl, by omega⟩ | exact ⟨Nat.succ_ne_zero _, rfl⟩ | omega) | (refine o_index rfl TtOk rfl rfl rfl rfl rfl rfl ?_ (getq_nat ?_) ?_; omega; omega) | (refine a_condP rfl (fun hc => ?_) (fun hc => ?_)) <;> (try (exfalso; omega)) | (refine o_call0 rfl (hb) ⟨SLe.of_eq rfl, True.intro⟩ rfl ?_; rintro _ _ ⟨rfl, rfl⟩; refine ⟨rfl, ?_⟩))
        all_goals exact ⟨(leafB R[0], 0), [], ⟨rfl, rfl⟩, rfl, ⟨sle_s rfl, sle_s rfl, sle_i rfl, sle_i rfl, sle_sl rfl, sle_sl rfl, sle_sl rfl, True.intro⟩, .nil⟩
      have hj : R.length - 1 < R.length := by omega
      have hSd := hR.sides (by omega)
      have s0 := hSd.s0
      have sl := hSd.sl
      have hcm := bcommon_spec R[0].l R[R.length - 1].l (hR.ok _ (List.getElem_mem hp)).1 (hR.ok _ (List.getElem_mem hj)).1
      have hml : (R.map leafI).length = R.length := List.length_map ..
      have hfe : comL R[0].l R[R.length - 1].l = frkI (R.map leafI) := by
        unfold frkI
        rw [headD_get (show 0 < (R.map leafI).length by omega), lastD_get (show 0 < (R.map leafI).length by omega)]
        simp only [List.getElem_map, List.length_map]; rfl
      rw [hfe] at hcm
      obtain ⟨_, _, _, s3⟩ := spl_ok hR.rise hR.okI (by omega)
      have hia : R.any (fun y => bitL y.l (frkI (R.map leafI)) == 1) = true := by rw [List.any_map] at s3; exact s3
      have hif : R.findIdx (fun y => bitL y.l (frkI (R.map leafI)) == 1) = splI (R.map leafI) := by unfold splI; rw [List.findIdx_map]; rfl
      have hx := scutL_spec 155 hold2_spec (frkI (R.map leafI)) hSd.f256 R hR.ok (by omega) hia
      rw [hif] at hx
      have l1 : (R.take (splI (R.map leafI))).length = splI (R.map leafI) := by rw [List.length_take]; omega
      have l2 : (R.drop (splI (R.map leafI))).length = R.length - splI (R.map leafI) := List.length_drop
      have w1 := swhole_spec (R.take (splI (R.map leafI))) (hR.take _) (fun e => by rw [e] at l1; simp at l1; omega) (by omega)
      have w2 := swhole_spec (R.drop (splI (R.map leafI))) (hR.drop _) (fun e => by rw [e] at l2; simp at l2; omega) (by omega)
      rw [← hSd.jA] at w1
      rw [← hSd.jB] at w2
      have ib := innB_spec _ _ hSd.oA hSd.oB
      have hE1 : rlT R = innB (parA (R.map leafI)) (parB (R.map leafI)) := by unfold rlT; rw [if_neg (fun e => h0 (by rw [e]; rfl)), if_neg h1]
      have hE2 : spR R = splI (R.map leafI) := by unfold spR; rw [if_pos (by omega)]
      rw [hE1, hE2]
      clear hSd hif hia s3 hfe l1 l2
      generalize innB (parA (R.map leafI)) (parB (R.map leafI)) = b at *
      generalize parA (R.map leafI) = x at *
      generalize parB (R.map leafI) = y at *
      generalize frkI (R.map leafI) = c at *
      generalize splI (R.map leafI) = j at *
      have ht : R.drop j = (R.take R.length).drop j := by rw [List.take_length]
      rw [ht] at w2
      repeat' (first | refine Awp.seq ?_ | refine Awp.block ?_ | refine Awp.region ?_ | (refine Ops.nil ?_; show Awp _ _ _ _ _) | (refine Ops.nil ?_; show Exists _) | (refine o_sub rfl rfl rfl rfl ?_ ?_; omega) | refine o_len rfl TtOk rfl rfl rfl (fun _ => ?_) | (refine o_calm rfl TtOk rfl rfl rfl ?_ (fun _ => ?_); first | exact True.intro | exact ⟨rfl, rfl, rfl, rfl⟩ | exact ⟨rfl, True.intro⟩ | exact ⟨rfl, rfl⟩ | exact ⟨rfl, rfl, rfl⟩ | exact rfl | exact ⟨fun h0 => by cases h0, rfl⟩ | exact (fun h0 => by cases h0) | exact ⟨rfl, by omega⟩ | exact ⟨Nat.succ_ne_zero _, rfl⟩ | omega) | (refine o_index rfl TtOk rfl rfl rfl rfl rfl rfl ?_ (getq_nat ?_) ?_; omega; omega) | refine o_build TtOk rfl rfl rfl rfl rfl rfl (by repeat' (first | exact True.intro | exact rfl | refine ⟨?_, ?_⟩)) ?_ | (refine a_condP rfl (fun hc => ?_) (fun hc => ?_)) <;> (try (exfalso; omega)) | refine a_any 16 [] [] [] [0, 1, 2, 4, 5, 6, 7, 8, 9, 3, 10, 11, 12] (by kernel_rfl) (by kernel_rfl) (by kernel_rfl) rfl rfl rfl ?_ | refine a_any 18 [] [] [] [0, 1, 2, 4, 5, 6, 3, 7, 8, 9, 10] (by kernel_rfl) (by kernel_rfl) (by kernel_rfl) rfl rfl rfl ?_ | (refine o_sliceSl TtOk rfl 0 j rfl rfl rfl rfl rfl bnd_none (bnd_some rfl rfl) (by omega) (by omega) ?_) | (refine o_sliceSl TtOk rfl j R.length rfl rfl rfl rfl rfl (bnd_some rfl rfl) bnd_none (by omega) (by omega) ?_) | (refine o_index rfl TtOk rfl rfl rfl rfl rfl rfl ?_ (getq_as (R.length-1) ?_ hj) ?_; omega; omega) | (refine o_call0 rfl (hcm) ⟨SLe.of_eq rfl, SLe.of_eq rfl, True.intro⟩ rfl ?_; rintro _ _ ⟨rfl, rfl⟩; refine ⟨rfl, ?_⟩) | (refine o_call0 rfl (hx) ⟨SLe.of_eq rfl, SLe.of_eq rfl, SLe.of_eq rfl, True.intro⟩ rfl ?_; rintro _ _ ⟨rfl, rfl⟩; refine ⟨rfl, ?_⟩) | (refine o_call0 rfl (w1) ⟨SLe.of_eq rfl, True.intro⟩ rfl ?_; rintro _ _ ⟨rfl, rfl⟩; refine ⟨rfl, ?_⟩) | (refine o_call0 rfl (w2) ⟨SLe.of_eq rfl, True.intro⟩ rfl ?_; rintro _ _ ⟨rfl, rfl⟩; refine ⟨rfl, ?_⟩) | (refine o_call0 rfl (ib) ⟨SLe.of_eq rfl, True.intro⟩ rfl ?_; rintro _ _ ⟨rfl, rfl⟩; refine ⟨rfl, ?_⟩))
      all_goals exact ⟨(b, j), [], ⟨rfl, rfl⟩, rfl, ⟨sle_s rfl, sle_s rfl, sle_i rfl, sle_i rfl, sle_sl rfl, sle_sl rfl, sle_sl rfl, True.intro⟩, .nil⟩
    rintro ⟨b, j⟩ ⟨hb, hj⟩
    dsimp only at hb hj ⊢
    subst hb
    subst hj
    by_cases hab : tdT T O = rlT R
    · rw [if_pos hab] at hW
      have hq : (!(tdT T O == rlT R)) = false := by rw [hab, beq_self_eq_true]; rfl
      by_cases h2 : T.length < 2
      · rw [if_pos h2] at hW
        subst hW
        clear i1 i2 hcl
        repeat' (first | (rw [hq]) | refine Awp.seq ?_ | refine Awp.region ?_ | (refine Ops.nil ?_; show Awp _ _ _ _ _) | (refine Awp.skip ?_; show Awp _ _ _ _ _) | (refine Awp.ret ?_; show endK _ _ _ _ _) | refine o_len rfl TtOk rfl rfl rfl (fun _ => ?_) | (refine o_calm rfl TtOk rfl rfl rfl ?_ (fun _ => ?_); first | exact True.intro | exact ⟨rfl, rfl, rfl, rfl⟩ | exact ⟨rfl, True.intro⟩ | exact ⟨rfl, rfl⟩ | exact ⟨rfl, rfl, rfl⟩ | exact rfl | exact ⟨fun h0 => by cases h0, rfl⟩ | exact (fun h0 => by cases h0) | exact ⟨rfl, by omega⟩ | exact ⟨Nat.succ_ne_zero _, rfl⟩ | omega) | refine a_condF rfl ?_ | (refine a_condP rfl (fun hc => ?_) (fun hc => ?_)) <;> (try (exfalso; omega)))
        all_goals
          refine end_all [] [] (.tup [.s [], .s [], .b false]) rfl ?_ ?_ (rle_tup3c (CLe.of_eq rfl) (CLe.of_eq rfl) (CLe.of_eq rfl) rfl rfl rfl) .nil ⟨rfl, rfl⟩ _ (.inl rfl)
          · repeat' (first | exact True.intro | exact rfl | refine ⟨?_, ?_⟩)
          · exact ⟨trivial, trivial, trivial, trivial⟩
      rw [if_neg h2] at hW
      have hT2 := td_two (by omega) hab
      have hi := hi (by omega)
      subst hi
      obtain ⟨_, s1, s2, _⟩ := spl_ok hr okT (by omega)
      have hSd := hR.sides hT2
      have s0 := hSd.s0
      have sl := hSd.sl
      have hE2 : spR R = splI (R.map leafI) := by unfold spR; rw [if_pos hT2]
      have g1 : (T.take (splI T)).length = splI T := by rw [List.length_take]; omega
      have g2 : (T.drop (splI T)).length = T.length - splI T := List.length_drop
      have g3 : (R.take (spR R)).length ≤ 1000 := by rw [List.length_take]; omega
      have g4 : (R.drop (spR R)).length ≤ 1000 := by rw [List.length_drop]; omega
      have i1 := i1 (by omega) (by omega) hO (hr.sublist (List.take_sublist ..)) (fun x hx => okT x (List.mem_of_mem_take hx)) okO (hR.take _) g3
      have i2 := i2 (by omega) (by omega) hO (hr.sublist (List.drop_sublist ..)) (fun x hx => okT x (List.mem_of_mem_drop hx)) okO (hR.drop _) g4
      have hk1 : spR R ≤ R.length := by omega
      clear hcl g1 g2 g3 g4 hE2 hSd s0 sl hab
      generalize hld k (T.take (splI T)) O (R.take (spR R)) = q1 at *
      generalize hld k (T.drop (splI T)) O (R.drop (spR R)) = q2 at *
      generalize tdT T O = a at *
      generalize rlT R = b at *
      generalize splI T = i at *
      generalize spR R = j at *
      have ht1 : T.drop i = (T.take T.length).drop i := by rw [List.take_length]
      have ht2 : R.drop j = (R.take R.length).drop j := by rw [List.take_length]
      rw [ht1, ht2] at i2
      obtain ⟨a1, b1, c1⟩ := q1
      obtain ⟨a2, b2, c2⟩ := q2
      dsimp only at i1 i2 hW
      by_cases hd : a1 = b1
      · rw [if_pos hd] at hW
        subst hW
        have hq2 : (!(a1 == b1)) = false := by rw [hd, beq_self_eq_true]; rfl
        repeat' (first | (rw [hq2]) | (rw [hq]) | refine Awp.seq ?_ | refine Awp.region ?_ | (refine Ops.nil ?_; show Awp _ _ _ _ _) | (refine Awp.skip ?_; show Awp _ _ _ _ _) | (refine Awp.ret ?_; show endK _ _ _ _ _) | refine o_len rfl TtOk rfl rfl rfl (fun _ => ?_) | (refine o_calm rfl TtOk rfl rfl rfl ?_ (fun _ => ?_); first | exact True.intro | exact ⟨rfl, rfl, rfl, rfl⟩ | exact ⟨rfl, True.intro⟩ | exact ⟨rfl, rfl⟩ | exact ⟨rfl, rfl, rfl⟩ | exact rfl | exact ⟨fun h0 => by cases h0, rfl⟩ | exact (fun h0 => by cases h0) | exact ⟨rfl, by omega⟩ | exact ⟨Nat.succ_ne_zero _, rfl⟩ | omega) | refine a_condF rfl ?_ | (refine a_condP rfl (fun hc => ?_) (fun hc => ?_)) <;> (try (exfalso; omega)) | refine a_any 26 [] [] [] [0, 1, 2, 3, 4, 5, 6, 7, 8, 9, 10, 11, 12, 13, 14] (by kernel_rfl) (by kernel_rfl) (by kernel_rfl) rfl rfl rfl ?_ | refine a_any 29 [] [] [] [0, 1, 2, 3, 4, 5, 6, 7, 8, 9, 10, 11, 12, 13] (by kernel_rfl) (by kernel_rfl) (by kernel_rfl) rfl rfl rfl ?_ | (refine o_sliceSl TtOk rfl 0 i rfl rfl rfl rfl rfl bnd_none (bnd_some rfl rfl) (by omega) (by omega) ?_) | (refine o_sliceSl TtOk rfl i T.length rfl rfl rfl rfl rfl (bnd_some rfl rfl) bnd_none (by omega) (by omega) ?_) | (refine o_sliceSl TtOk rfl 0 j rfl rfl rfl rfl rfl bnd_none (bnd_some rfl rfl) (by omega) (by omega) ?_) | (refine o_sliceSl TtOk rfl j R.length rfl rfl rfl rfl rfl (bnd_some rfl rfl) bnd_none (by omega) (by omega) ?_) | (refine o_call0 rfl (i1) ⟨SLe.of_eq rfl, SLe.of_eq rfl, SLe.of_eq rfl, True.intro⟩ rfl ?_; rintro _ _ ⟨rfl, rfl⟩; refine ⟨rfl, ?_⟩) | (refine o_call0 rfl (i2) ⟨SLe.of_eq rfl, SLe.of_eq rfl, SLe.of_eq rfl, True.intro⟩ rfl ?_; rintro _ _ ⟨rfl, rfl⟩; refine ⟨rfl, ?_⟩))
        all_goals
          refine end_all [] [] (.tup [.s a2, .s b2, .b c2]) rfl ?_ ?_ (rle_tup3c (CLe.of_eq rfl) (CLe.of_eq rfl) (CLe.of_eq rfl) rfl rfl rfl) .nil ⟨rfl, rfl⟩ _ (.inl rfl)
          · repeat' (first | exact True.intro | exact rfl | refine ⟨?_, ?_⟩)
          · exact ⟨trivial, trivial, trivial, trivial⟩
      · rw [if_neg hd] at hW
        subst hW
        have hq2 : (!(a1 == b1)) = true := by rw [beq_eq_false_iff_ne.2 hd]; rfl
        clear i2
        repeat' (first | (rw [hq2]) | (rw [hq]) | refine Awp.seq ?_ | refine Awp.region ?_ | (refine Ops.nil ?_; show Awp _ _ _ _ _) | (refine Awp.skip ?_; show Awp _ _ _ _ _) | (refine Awp.ret ?_; show endK _ _ _ _ _) | refine o_len rfl TtOk rfl rfl rfl (fun _ => ?_) | (refine o_calm rfl TtOk rfl rfl rfl ?_ (fun _ => ?_); first | exact True.intro | exact ⟨rfl, rfl, rfl, rfl⟩ | exact ⟨rfl, True.intro⟩ | exact ⟨rfl, rfl⟩ | exact ⟨rfl, rfl, rfl⟩ | exact rfl | exact ⟨fun h0 => by cases h0, rfl⟩ | exact (fun h0 => by cases h0) | exact ⟨rfl, by omega⟩ | exact ⟨Nat.succ_ne_zero _, rfl⟩ | omega) | refine a_condT rfl ?_ | refine a_condF rfl ?_ | (refine a_condP rfl (fun hc => ?_) (fun hc => ?_)) <;> (try (exfalso; omega)) | refine a_any 26 [] [] [] [0, 1, 2, 3, 4, 5, 6, 7, 8, 9, 10, 11, 12, 13, 14] (by kernel_rfl) (by kernel_rfl) (by kernel_rfl) rfl rfl rfl ?_ | (refine o_sliceSl TtOk rfl 0 i rfl rfl rfl rfl rfl bnd_none (bnd_some rfl rfl) (by omega) (by omega) ?_) | (refine o_sliceSl TtOk rfl 0 j rfl rfl rfl rfl rfl bnd_none (bnd_some rfl rfl) (by omega) (by omega) ?_) | (refine o_call0 rfl (i1) ⟨SLe.of_eq rfl, SLe.of_eq rfl, SLe.of_eq rfl, True.intro⟩ rfl ?_; rintro _ _ ⟨rfl, rfl⟩; refine ⟨rfl, ?_⟩))
        all_goals
          refine end_all [] [] (.tup [.s a1, .s b1, .b c1]) rfl ?_ ?_ (rle_tup3c (CLe.of_eq rfl) (CLe.of_eq rfl) (CLe.of_eq rfl) rfl rfl rfl) .nil ⟨rfl, rfl⟩ _ (.inl rfl)
          · repeat' (first | exact True.intro | exact rfl | refine ⟨?_, ?_⟩)
          · exact ⟨trivial, trivial, trivial, trivial⟩
    · rw [if_neg hab] at hW
      subst hW
      have hq : (!(tdT T O == rlT R)) = true := by rw [beq_eq_false_iff_ne.2 hab]; rfl
      clear i1 i2
      generalize clsh (tdT T O) (rlT R) = c at *
      generalize tdT T O = a at *
      generalize rlT R = b at *
      repeat' (first | (rw [hq]) | refine Awp.seq ?_ | refine Awp.region ?_ | (refine Ops.nil ?_; show Awp _ _ _ _ _) | (refine Awp.ret ?_; show endK _ _ _ _ _) | (refine o_calm rfl TtOk rfl rfl rfl ?_ (fun _ => ?_); first | exact True.intro | exact ⟨rfl, rfl, rfl, rfl⟩ | exact ⟨rfl, True.intro⟩ | exact ⟨rfl, rfl⟩ | exact ⟨rfl, rfl, rfl⟩ | exact rfl | exact ⟨fun h0 => by cases h0, rfl⟩ | exact (fun h0 => by cases h0) | exact ⟨rfl, by omega⟩ | exact ⟨Nat.succ_ne_zero _, rfl⟩ | omega) | refine a_condT rfl ?_ | (refine o_call0 rfl (hcl) ⟨SLe.of_eq rfl, SLe.of_eq rfl, True.intro⟩ rfl ?_; rintro _ _ ⟨rfl, rfl⟩; refine ⟨rfl, ?_⟩))
      all_goals
        refine end_all [] [] (.tup [.s a, .s b, .b c]) rfl ?_ ?_ (rle_tup3c (CLe.of_eq rfl) (CLe.of_eq rfl) (CLe.of_eq rfl) rfl rfl rfl) .nil ⟨rfl, rfl⟩ _ (.inl rfl)
        · repeat' (first | exact True.intro | exact rfl | refine ⟨?_, ?_⟩)
        · exact ⟨trivial, trivial, trivial, trivial⟩
end Go.Proofs.Ytcmgpkibjdbonaa
