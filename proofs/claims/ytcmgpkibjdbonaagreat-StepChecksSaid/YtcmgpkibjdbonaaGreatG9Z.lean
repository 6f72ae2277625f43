/- patch.join by rules. -/
import Derived.Test.YtcmgpkibjdbonaaGreatG8Z
import Derived.Test.YtcmgpkibjdbonaaGreatV1Z
set_option maxHeartbeats 8000000
set_option maxRecDepth 100000
namespace Go.Proofs.YtcmgpkibjdbonaaGreat
open Go Go.RowKit
instance : Inhabited Itm := ⟨⟨0, List.replicate 32 0, List.replicate 32 0, 0⟩⟩
def RiseI (l : List Itm) : Prop := l.Pairwise (fun a b => cmpS a.l b.l < 0)
def frkI (l : List Itm) : Nat := comL (l.headD default).l (l.getLastD default).l
def splI (l : List Itm) : Nat := l.findIdx (fun x => bitL x.l (frkI l) == 1)
def joinF : Nat → List Itm → Itm
  | 0, l => l.headD default
  | k + 1, l => if l.length = 1 then l.headD default else innI (joinF k (l.take (splI l))) (joinF k (l.drop (splI l)))
theorem innI_ok' {x y : Itm} (hx : x.ok) : (innI x y).ok := innI_ok x y hx
theorem headD_get {l : List Itm} (h : 0 < l.length) : l.headD default = l[0] := by cases l with | nil => simp at h | cons x l => rfl
theorem lastD_get {l : List Itm} (h : 0 < l.length) : l.getLastD default = l[l.length - 1]'(by omega) := by
  rw [List.getLastD_eq_getLast?, List.getLast?_eq_getElem?, List.getElem?_eq_getElem (by omega)]; rfl
theorem rise_lt {l : List Itm} (h : RiseI l) {i j : Nat} (hij : i < j) (hj : j < l.length) : cmpS (l[i]'(by omega)).l l[j].l < 0 := List.pairwise_iff_getElem.1 h i j (by omega) hj hij
theorem spl_ok {l : List Itm} (hr : RiseI l) (hok : ∀ x ∈ l, x.ok) (h2 : 2 ≤ l.length) : frkI l < 256 ∧ 0 < splI l ∧ splI l < l.length ∧ l.any (fun x => bitL x.l (frkI l) == 1) = true := by
  have h0 : 0 < l.length := by omega
  have hf : frkI l = comL l[0].l (l[l.length - 1]'(by omega)).l := by unfold frkI; rw [headD_get h0, lastD_get h0]
  obtain ⟨c1, c2, c3⟩ := cmp_lt (hok _ (List.getElem_mem h0)).1 (hok _ (List.getElem_mem (show l.length - 1 < l.length by omega))).1 (rise_lt hr (show 0 < l.length - 1 by omega) (by omega))
  rw [← hf] at c1 c2 c3
  have ha : l.any (fun x => bitL x.l (frkI l) == 1) = true := List.any_eq_true.2 ⟨l[l.length - 1]'(by omega), List.getElem_mem _, by rw [c3]; rfl⟩
  refine ⟨c1, ?_, List.findIdx_lt_length_of_exists (List.any_eq_true.1 ha), ha⟩
  rcases Nat.eq_zero_or_pos (splI l) with hz | hp
  · have h3 : bitL l[0].l (frkI l) ≠ 1 := by rw [c2]; decide
    have h4 : l.findIdx (fun x => bitL x.l (frkI l) == 1) = 0 := hz
    have h5 : (bitL l[0].l (frkI l) == 1) = true := by
      obtain ⟨a, q, rfl⟩ : ∃ a q, l = a :: q := by cases l with | nil => simp at h0 | cons a q => exact ⟨a, q, rfl⟩
      rw [List.findIdx_cons] at h4
      generalize hb : (bitL a.l (frkI (a :: q)) == 1) = b at h4
      cases b
      · cases h4
      · exact hb
    exact absurd (by simpa using h5) h3
  · exact hp
theorem take_ne {l : List Itm} {i : Nat} (hi : 0 < i) (h : i < l.length) : l.take i ≠ [] := fun he => by
  have := congrArg List.length he
  rw [List.length_take, List.length_nil] at this; omega
theorem drop_ne {l : List Itm} {i : Nat} (h : i < l.length) : l.drop i ≠ [] := fun he => by
  have := congrArg List.length he
  rw [List.length_drop, List.length_nil] at this; omega
theorem joinF_ok : ∀ (k : Nat) (l : List Itm), l ≠ [] → l.length ≤ k → RiseI l → (∀ x ∈ l, x.ok) → (joinF k l).ok
  | 0, l, hn, hl, _, _ => absurd (List.length_eq_zero_iff.1 (by omega)) hn
  | k + 1, l, hn, hl, hr, hok => by
    unfold joinF
    split
    · rename_i h1
      rw [headD_get (by omega)]
      exact hok _ (List.getElem_mem _)
    · rename_i h1
      have hp : 0 < l.length := List.length_pos_iff.2 hn
      obtain ⟨_, s1, s2, _⟩ := spl_ok hr hok (by omega)
      refine innI_ok' (joinF_ok k _ (take_ne s1 s2) ?_ (hr.sublist (List.take_sublist ..)) (fun x hx => hok x (List.mem_of_mem_take hx)))
      rw [List.length_take]; omega
theorem join1_spec (n : Nat) (hn : n < 256) (x : Itm) (hx : x.ok) : Spec Tryz.prog 205 ([x.A] ++ [.cp (.i .i64 n)]) [] (fun v os => v = .b (bitL x.l n == 1) ∧ os = []) := by
  have h1 := bit_spec x.l hx.1 n (by omega) (by omega)
  rw [if_pos (by omega), Int.toNat_natCast] at h1
  have hb := bitL_or x.l n
  generalize bitL x.l n = b at h1 hb
  obtain ⟨m, l, s, t⟩ := x
  dsimp only at h1
  show Spec Tryz.prog 205 [.agg [pfxA m l, labA s, .i .i64 t], .cp (.i .i64 n)] [] _
  refine spec_of TtOk [] Tryz.func205 rfl Tryz.ntmps205 (by kernel_rfl) rfl rfl (fun C => ?_) rfl
  repeat' (first | refine Awp.seq ?_ | refine Awp.region ?_ | refine Ops.nil (nqA ?_) | refine Awp.ret (nqE ?_) | (refine o_calm rfl TtOk rfl rfl rfl ?_ (fun _ => ?_); exact nd) | refine o_box (d := 2) rfl rfl rfl rfl (fun b2 => ?_) | refine o_callE rfl (h1) ⟨nqS, nqS, True.intro⟩ rfl ?_)
  refine end_tmp rfl rfl rfl [] [] (CLe.of_eq ?_) .nil ⟨rfl, rfl⟩ _ (.inl rfl)
  refine congrArg AV.b ?_
  rcases hb with rfl | rfl <;> rfl
theorem join_spec : ∀ (k : Nat) (l : List Itm), l ≠ [] → l.length ≤ k → l.length ≤ 100000 → RiseI l → (∀ x ∈ l, x.ok) → Spec Tryz.prog 145 [.sl 66 (l.map Itm.A)] [] (fun v os => v = (joinF k l).A ∧ os = [])
  | 0, l, hn, hl, _, _, _ => absurd (List.length_eq_zero_iff.1 (by omega)) hn
  | k + 1, l, hn, hl, hl2, hr, hok => by
    have hp : 0 < l.length := List.length_pos_iff.2 hn
    unfold joinF
    refine spec_of TtOk [] Tryz.func145 rfl Tryz.ntmps145 (by kernel_rfl) rfl rfl (fun C => ?_) rfl
    by_cases h1 : l.length = 1
    · rw [if_pos h1, headD_get hp]
      repeat' (first | refine Awp.seq ?_ | refine Awp.region ?_ | refine Ops.nil (nqA ?_) | refine Awp.ret (nqE ?_) | refine o_len rfl TtOk rfl rfl rfl (fun _ => ?_) | (refine o_calm rfl TtOk rfl rfl rfl ?_ (fun _ => ?_); exact nd) | refine o_alloc (d := 2) rfl TtOk rfl rfl rfl (fun b2 => ?_) | refine o_store TtOk rfl rfl rfl rfl rfl rfl rfl ⟨rfl, rfl⟩ rfl rfl rfl rfl rfl ?_ | (refine o_index rfl TtOk rfl rfl rfl rfl rfl rfl ?_ (getq_nat ?_) ?_; omega; omega) | (refine a_condP rfl (fun hc => ?_) (fun hc => ?_)) <;> (try (exfalso; omega)))
      refine end_all [] [] (l[0].A) rfl ?_ ?_ (rle_one (CLe.of_eq rfl) rfl) .nil ⟨rfl, rfl⟩ _ (.inl rfl)
      · exact nq1
      · exact ⟨trivial, trivial⟩
    rw [if_neg h1]
    obtain ⟨hf, s1, s2, s3⟩ := spl_ok hr hok (by omega)
    have hj : l.length - 1 < l.length := by omega
    have hcm := bcommon_spec l[0].l l[l.length - 1].l (hok _ (List.getElem_mem hp)).1 (hok _ (List.getElem_mem hj)).1
    have hfe : comL l[0].l l[l.length - 1].l = frkI l := by unfold frkI; rw [headD_get hp, lastD_get hp]
    rw [hfe] at hcm
    have hx := ixI_spec l 205 [.cp (.i .i64 (frkI l : Nat))] rfl (fun x => bitL x.l (frkI l) == 1) (fun x hx => join1_spec _ hf x (hok x hx)) hl2
    rw [if_pos s3] at hx
    have hsp : l.findIdx (fun x => bitL x.l (frkI l) == 1) = splI l := rfl
    rw [hsp] at hx
    have n1 : l.take (splI l) ≠ [] := take_ne s1 s2
    have n2 : l.drop (splI l) ≠ [] := drop_ne s2
    have r1 : RiseI (l.take (splI l)) := hr.sublist (List.take_sublist ..)
    have r2 : RiseI (l.drop (splI l)) := hr.sublist (List.drop_sublist ..)
    have k1 : ∀ x ∈ l.take (splI l), x.ok := fun x hx => hok x (List.mem_of_mem_take hx)
    have k2 : ∀ x ∈ l.drop (splI l), x.ok := fun x hx => hok x (List.mem_of_mem_drop hx)
    have l1 : (l.take (splI l)).length ≤ k := by rw [List.length_take]; omega
    have l2 : (l.drop (splI l)).length ≤ k := by rw [List.length_drop]; omega
    have j1 := join_spec k (l.take (splI l)) n1 l1 (by rw [List.length_take]; omega) r1 k1
    have j2 := join_spec k (l.drop (splI l)) n2 l2 (by rw [List.length_drop]; omega) r2 k2
    have i1 := iitem_spec _ _ (joinF_ok k _ n1 l1 r1 k1) (joinF_ok k _ n2 l2 r2 k2)
    generalize joinF k (l.take (splI l)) = x at j1 i1 ⊢
    generalize joinF k (l.drop (splI l)) = y at j2 i1 ⊢
    clear r1 r2 k1 k2 l1 l2 n1 n2 hsp s3 hfe
    generalize frkI l = c at hcm hx hf
    generalize splI l = i at s1 s2 hx j1 j2
    have ht : l.drop i = (l.take l.length).drop i := by rw [List.take_length]
    rw [ht] at j2
    repeat' (first | (refine a_freezeV 3 3 rfl rfl rfl ?_) | refine Awp.seq ?_ | refine Awp.region ?_ | refine Ops.nil (nqA ?_) | refine Awp.skip (nqA ?_) | refine Awp.ret (nqE ?_) | (refine o_sub rfl rfl rfl rfl ?_ ?_; omega) | refine o_len rfl TtOk rfl rfl rfl (fun _ => ?_) | (refine o_calm rfl TtOk rfl rfl rfl ?_ (fun _ => ?_); exact nd) | refine o_alloc (d := 2) rfl TtOk rfl rfl rfl (fun b2 => ?_) | refine o_alloc (d := 3) rfl TtOk rfl rfl rfl (fun b3 => ?_) | refine o_store TtOk rfl rfl rfl rfl rfl rfl rfl ⟨rfl, rfl⟩ rfl rfl rfl rfl rfl ?_ | (refine o_index rfl TtOk rfl rfl rfl rfl rfl rfl ?_ (getq_nat ?_) ?_; omega; omega) | refine o_build TtOk rfl rfl rfl rfl rfl rfl nq1 ?_ | (refine a_condP rfl (fun hc => ?_) (fun hc => ?_)) <;> (try (exfalso; omega)) | (refine Ops.nil ?_; show AnyT _ _ _ _ _ _ _ _ _ _) | refine a_anyT 3 [3] [15, 23] [3] (by kernel_rfl) (by kernel_rfl) (n := 16) (listed := [false, false, false, false, false, false, false, false, false, false, false, false, false, false, false, false].toArray) rfl (by kernel_rfl) ?_ | refine t_path (n := 16) (listed := [false, false, false, false, false, false, false, false, false, false, false, false, false, false, false, false].toArray) [0, 1, 2, 3, 5, 6, 7, 8, 9, 10, 11, 4, 12] 3 [true, true, true, true, true, true, true, true, true, true, true, true, true, false, false, false] (by kernel_rfl) rfl rfl rfl (by kernel_rfl) ?_ | refine t_two (n := 3) (listed := [true, true, true, true, true, true, true, true, true, true, true, true, true, false, false, false].toArray) 13 14 [true, true, true, true, true, true, true, true, true, true, true, true, true, true, false, false] [true, true, true, true, true, true, true, true, true, true, true, true, true, false, true, false] rfl (by kernel_rfl) rfl rfl (by kernel_rfl) (by kernel_rfl) ?_ ?_ | refine t_path (n := 2) (listed := [true, true, true, true, true, true, true, true, true, true, true, true, true, true, false, false].toArray) [14, 15] 0 [true, true, true, true, true, true, true, true, true, true, true, true, true, true, true, true] (by kernel_rfl) rfl rfl rfl (by kernel_rfl) ?_ | refine t_fin (n := 0) (listed := [true, true, true, true, true, true, true, true, true, true, true, true, true, true, true, true].toArray) (by kernel_rfl) ?_ | refine t_path (n := 2) (listed := [true, true, true, true, true, true, true, true, true, true, true, true, true, false, true, false].toArray) [13, 15] 0 [true, true, true, true, true, true, true, true, true, true, true, true, true, true, true, true] (by kernel_rfl) rfl rfl rfl (by kernel_rfl) ?_ | refine a_any 5 [2] [] [] [0, 1, 2, 4, 5, 6, 3, 7, 8, 9, 10] (by kernel_rfl) (by kernel_rfl) (by kernel_rfl) rfl rfl rfl ?_ | (refine o_makeFunc1 rfl rfl rfl rfl rfl ?_) | (refine o_sliceSl TtOk rfl 0 i rfl rfl rfl rfl rfl bnd_none (bnd_some rfl rfl) (by omega) (by omega) ?_) | (refine o_sliceSl TtOk rfl i l.length rfl rfl rfl rfl rfl (bnd_some rfl rfl) bnd_none (by omega) (by omega) ?_) | (refine o_index rfl TtOk rfl rfl rfl rfl rfl rfl ?_ (getq_as (l.length-1) ?_ hj) ?_; omega; omega) | refine o_callE rfl (hcm) ⟨nqS, nqS, True.intro⟩ rfl ?_ | refine o_callE rfl (hx) ⟨nqS, nqS, True.intro⟩ rfl ?_ | refine o_callE rfl (j1) ⟨nqS, True.intro⟩ rfl ?_ | refine o_callE rfl (j2) ⟨nqS, True.intro⟩ rfl ?_ | refine o_callE rfl (i1) ⟨nqS, True.intro⟩ rfl ?_)
    all_goals
      refine end_all [] [] (innI x y).A rfl ?_ ?_ (rle_one (CLe.of_eq rfl) rfl) .nil ⟨rfl, rfl⟩ _ (.inl rfl)
      · exact nq1
      · exact ⟨trivial, trivial⟩
end Go.Proofs.YtcmgpkibjdbonaaGreat
namespace Go.Proofs.YtcmgpkibjdbonaaGreat
open Go Go.RowKit
/-- A weak order. -/
structure WO {α : Type} (lt : α → α → Bool) : Prop where
  irr : ∀ x, lt x x = false
  asym : ∀ x y, lt x y = true → lt y x = false
  trans : ∀ x y z, lt x y = true → lt y z = true → lt x z = true
  neg : ∀ x y z, lt x y = false → lt y z = false → lt x z = false
section
variable {α : Type} {lt : α → α → Bool}
def eqv (lt : α → α → Bool) (x y : α) : Bool := !(lt x y) && !(lt y x)
/-- Equals keep their order. -/
def CE (lt : α → α → Bool) (l l' : List α) : Prop := ∀ z, l.filter (eqv lt z) = l'.filter (eqv lt z)
def Srt (lt : α → α → Bool) (l : List α) : Prop := l.Pairwise (fun x y => lt y x = false)
theorem CE.refl (l : List α) : CE lt l l := fun _ => rfl
theorem CE.symm {l l' : List α} (h : CE lt l l') : CE lt l' l := fun z => (h z).symm
theorem CE.trans {a b c : List α} (h : CE lt a b) (k : CE lt b c) : CE lt a c := fun z => (h z).trans (k z)
theorem CE.app {a b c d : List α} (h : CE lt a b) (k : CE lt c d) : CE lt (a ++ c) (b ++ d) := fun z => by rw [List.filter_append, List.filter_append, h z, k z]
theorem CE.mid {a b : List α} (p s : List α) (h : CE lt a b) : CE lt (p ++ a ++ s) (p ++ b ++ s) := ((CE.refl p).app h).app (CE.refl s)
theorem eqv_self (W : WO lt) (x : α) : eqv lt x x = true := by unfold eqv; rw [W.irr]; rfl
theorem CE.mem (W : WO lt) {a b : List α} (h : CE lt a b) {x : α} (hx : x ∈ a) : x ∈ b := by
  have : x ∈ a.filter (eqv lt x) := List.mem_filter.2 ⟨hx, eqv_self W x⟩
  rw [h x] at this
  exact (List.mem_filter.1 this).1
theorem CE.swap (W : WO lt) (u v : List α) (h : ∀ x ∈ u, ∀ y ∈ v, lt y x = true) : CE lt (u ++ v) (v ++ u) := by
  intro z
  rw [List.filter_append, List.filter_append]
  by_cases hu : u.filter (eqv lt z) = []
  · rw [hu, List.nil_append, List.append_nil]
  · have hv : v.filter (eqv lt z) = [] := by
      rw [List.filter_eq_nil_iff]
      intro y hy hzy
      obtain ⟨x, hx⟩ := List.exists_mem_of_ne_nil _ hu
      obtain ⟨hx1, hzx⟩ := List.mem_filter.1 hx
      have hyx := h x hx1 y hy
      simp only [eqv, Bool.and_eq_true, Bool.not_eq_true'] at hzx hzy
      rw [W.neg y z x hzy.2 hzx.1] at hyx; cases hyx
    rw [hv, List.nil_append, List.append_nil]
theorem Srt.app {a b : List α} (h1 : Srt lt a) (h2 : Srt lt b) (h : ∀ x ∈ a, ∀ y ∈ b, lt y x = false) : Srt lt (a ++ b) := List.pairwise_append.2 ⟨h1, h2, h⟩
/-- What is sorted and has the equals in their order is one list. -/
theorem srt_one (W : WO lt) : ∀ (a b : List α), Srt lt a → Srt lt b → CE lt a b → a = b
  | [], [], _, _, _ => rfl
  | [], y :: b, _, _, h => by have := (CE.mem W h.symm (x := y) (by simp)); cases this
  | x :: a, [], _, _, h => by have := (CE.mem W h (x := x) (by simp)); cases this
  | x :: a, y :: b, ha, hb, h => by
    have hxm := CE.mem W h (x := x) (by simp)
    have hym := CE.mem W h.symm (x := y) (by simp)
    have h1 : lt x y = false := by
      rcases List.mem_cons.1 hxm with rfl | hm
      · exact W.irr _
      · exact (List.pairwise_cons.1 hb).1 x hm
    have h2 : lt y x = false := by
      rcases List.mem_cons.1 hym with rfl | hm
      · exact W.irr _
      · exact (List.pairwise_cons.1 ha).1 y hm
    have e1 : eqv lt x y = true := by unfold eqv; rw [h1, h2]; rfl
    have hx := h x
    rw [List.filter_cons, List.filter_cons, if_pos (eqv_self W x), if_pos e1] at hx
    have hxy : x = y := (List.cons.inj hx).1
    subst hxy
    have ht : CE lt a b := fun z => by
      have hz := h z
      rw [List.filter_cons, List.filter_cons] at hz
      by_cases hc : eqv lt z x = true
      · rw [if_pos hc, if_pos hc] at hz; exact (List.cons.inj hz).2
      · rw [if_neg hc, if_neg hc] at hz; exact hz
    rw [srt_one W a b (List.pairwise_cons.1 ha).2 (List.pairwise_cons.1 hb).2 ht]
/-- Put behind its equals. -/
def insS (lt : α → α → Bool) (x : α) : List α → List α
  | [] => [x]
  | y :: r => if lt x y = true then x :: y :: r else y :: insS lt x r
def sortS (lt : α → α → Bool) (l : List α) : List α := l.foldl (fun a x => insS lt x a) []
theorem insS_mem {x z : α} : ∀ {l : List α}, z ∈ insS lt x l → z = x ∨ z ∈ l
  | [], h => .inl (List.mem_singleton.1 h)
  | y :: r, h => by
    unfold insS at h
    split at h
    · rcases List.mem_cons.1 h with rfl | h
      · exact .inl rfl
      · exact .inr h
    · rcases List.mem_cons.1 h with rfl | h
      · exact .inr (by simp)
      · rcases insS_mem h with h | h
        · exact .inl h
        · exact .inr (List.mem_cons_of_mem _ h)
theorem insS_srt (W : WO lt) (x : α) : ∀ (l : List α), Srt lt l → Srt lt (insS lt x l)
  | [], _ => List.pairwise_singleton _ _
  | y :: r, h => by
    obtain ⟨h1, h2⟩ := List.pairwise_cons.1 h
    unfold insS
    split
    · rename_i hc
      refine List.pairwise_cons.2 ⟨fun z hz => ?_, h⟩
      rcases List.mem_cons.1 hz with rfl | hz
      · exact W.asym _ _ hc
      · cases hzx : lt z x with
        | false => rfl
        | true => exact absurd (h1 z hz) (by rw [W.trans z x y hzx hc]; decide)
    · rename_i hc
      refine List.pairwise_cons.2 ⟨fun z hz => ?_, insS_srt W x r h2⟩
      rcases insS_mem hz with rfl | hz
      · simpa using hc
      · exact h1 z hz
theorem insS_ce (W : WO lt) (x : α) : ∀ (l : List α), Srt lt l → CE lt (l ++ [x]) (insS lt x l)
  | [], _ => CE.refl _
  | y :: r, h => by
    obtain ⟨h1, h2⟩ := List.pairwise_cons.1 h
    unfold insS
    split
    · rename_i hc
      refine CE.swap W (y :: r) [x] (fun z hz q hq => ?_)
      rw [List.mem_singleton.1 hq]
      rcases List.mem_cons.1 hz with rfl | hz
      · exact hc
      · cases hxz : lt x z with
        | true => rfl
        | false => rw [W.neg x z y hxz (h1 z hz)] at hc; cases hc
    · exact (CE.refl [y]).app (insS_ce W x r h2)
theorem sortS_go (W : WO lt) : ∀ (l a : List α), Srt lt a → Srt lt (l.foldl (fun a x => insS lt x a) a) ∧ CE lt (a ++ l) (l.foldl (fun a x => insS lt x a) a)
  | [], a, h => ⟨h, by rw [List.append_nil]; exact CE.refl a⟩
  | x :: l, a, h => by
    obtain ⟨i1, i2⟩ := sortS_go W l (insS lt x a) (insS_srt W x a h)
    refine ⟨i1, CE.trans ?_ i2⟩
    have := (insS_ce W x a h).app (CE.refl (lt := lt) l)
    rw [List.append_assoc] at this
    exact this
theorem sortS_srt (W : WO lt) (l : List α) : Srt lt (sortS lt l) := (sortS_go W l [] List.Pairwise.nil).1
theorem sortS_ce (W : WO lt) (l : List α) : CE lt l (sortS lt l) := (sortS_go W l [] List.Pairwise.nil).2
theorem sortS_of (W : WO lt) {l a : List α} (h1 : Srt lt a) (h2 : CE lt l a) : a = sortS lt l := srt_one W _ _ h1 (sortS_srt W l) (h2.symm.trans (sortS_ce W l))
/-! Cuts of sorted lists. -/
theorem srt_low (W : WO lt) {u : List α} {k : Nat} (h : Srt lt u) (hk : k < u.length) {x : α} (hx : lt u[k] x = true) : ∀ y ∈ u.take (k + 1), lt y x = true := by
  intro y hy
  obtain ⟨i, hi, rfl⟩ := List.getElem_of_mem hy
  rw [List.getElem_take]
  rw [List.length_take] at hi
  rcases Nat.lt_or_ge i k with h1 | h1
  · have := List.pairwise_iff_getElem.1 h i k (by omega) hk h1
    cases hyx : lt u[i] x with
    | true => rfl
    | false => rw [W.neg u[k] u[i] x this hyx] at hx; cases hx
  · have : i = k := by omega
    subst this; exact hx
theorem srt_high (W : WO lt) {u : List α} {k : Nat} (h : Srt lt u) (hk : k < u.length) {x : α} (hx : lt u[k] x = false) : ∀ y ∈ u.drop k, lt y x = false := by
  intro y hy
  obtain ⟨i, hi, rfl⟩ := List.getElem_of_mem hy
  rw [List.getElem_drop]
  rw [List.length_drop] at hi
  rcases Nat.eq_zero_or_pos i with h1 | h1
  · subst h1; exact hx
  · have := List.pairwise_iff_getElem.1 h k (k + i) hk (by omega) (by omega)
    exact W.neg _ _ _ this hx
theorem srt_low' (W : WO lt) {u : List α} {k : Nat} (h : Srt lt u) (hk : k < u.length) {x : α} (hx : lt x u[k] = false) : ∀ y ∈ u.take (k + 1), lt x y = false := by
  intro y hy
  obtain ⟨i, hi, rfl⟩ := List.getElem_of_mem hy
  rw [List.getElem_take]
  rw [List.length_take] at hi
  rcases Nat.lt_or_ge i k with h1 | h1
  · have := List.pairwise_iff_getElem.1 h i k (by omega) hk h1
    exact W.neg _ _ _ hx this
  · have : i = k := by omega
    subst this; exact hx
theorem srt_high' (W : WO lt) {u : List α} {k : Nat} (h : Srt lt u) (hk : k < u.length) {x : α} (hx : lt x u[k] = true) : ∀ y ∈ u.drop k, lt x y = true := by
  intro y hy
  obtain ⟨i, hi, rfl⟩ := List.getElem_of_mem hy
  rw [List.getElem_drop]
  rw [List.length_drop] at hi
  rcases Nat.eq_zero_or_pos i with h1 | h1
  · subst h1; exact hx
  · have := List.pairwise_iff_getElem.1 h k (k + i) hk (by omega) (by omega)
    cases hxy : lt x u[k + i] with
    | true => rfl
    | false => rw [W.neg x _ _ hxy this] at hx; cases hx
theorem Srt.take {l : List α} (h : Srt lt l) (n : Nat) : Srt lt (l.take n) := List.Pairwise.sublist (List.take_sublist n l) h
theorem Srt.drop {l : List α} (h : Srt lt l) (n : Nat) : Srt lt (l.drop n) := List.Pairwise.sublist (List.drop_sublist n l) h
/-- One element and a sorted row. -/
theorem merge_one_l (W : WO lt) {x : α} {v : List α} {k : Nat} (h : Srt lt v) (hk : k ≤ v.length) (h1 : k = 0 ∨ ∃ (h : k - 1 < v.length), lt v[k - 1] x = true) (h2 : k = v.length ∨ ∃ (h : k < v.length), lt v[k] x = false) :
    Srt lt (v.take k ++ [x] ++ v.drop k) ∧ CE lt ([x] ++ v) (v.take k ++ [x] ++ v.drop k) := by
  have hlow : ∀ y ∈ v.take k, lt y x = true := by
    rcases h1 with rfl | ⟨hb, hl⟩
    · intro y hy; cases hy
    · rcases Nat.eq_zero_or_pos k with h0 | h0
      · subst h0; intro y hy; cases hy
      · have := srt_low W h hb hl
        rwa [show k - 1 + 1 = k by omega] at this
  have hhigh : ∀ y ∈ v.drop k, lt y x = false := by
    rcases h2 with rfl | ⟨hb, hl⟩
    · intro y hy; rw [List.drop_length] at hy; cases hy
    · exact srt_high W h hb hl
  refine ⟨Srt.app (Srt.app (h.take k) (List.pairwise_singleton _ _) (fun y hy z hz => ?_)) (h.drop k) (fun y hy z hz => ?_), ?_⟩
  · rw [List.mem_singleton.1 hz]; exact W.asym _ _ (hlow y hy)
  · rcases List.mem_append.1 hy with hy | hy
    · have hp := h
      rw [← List.take_append_drop k v] at hp
      exact (List.pairwise_append.1 hp).2.2 y hy z hz
    · rw [List.mem_singleton.1 hy]; exact hhigh z hz
  · have := (CE.swap W [x] (v.take k) (fun a ha b hb => by rw [List.mem_singleton.1 ha]; exact hlow b hb)).app (CE.refl (lt := lt) (v.drop k))
    rw [List.append_assoc, List.take_append_drop] at this
    exact this
theorem merge_one_r (W : WO lt) {x : α} {u : List α} {k : Nat} (h : Srt lt u) (hk : k ≤ u.length) (h1 : k = 0 ∨ ∃ (h : k - 1 < u.length), lt x u[k - 1] = false) (h2 : k = u.length ∨ ∃ (h : k < u.length), lt x u[k] = true) :
    Srt lt (u.take k ++ [x] ++ u.drop k) ∧ CE lt (u ++ [x]) (u.take k ++ [x] ++ u.drop k) := by
  have hlow : ∀ y ∈ u.take k, lt x y = false := by
    rcases h1 with rfl | ⟨hb, hl⟩
    · intro y hy; cases hy
    · rcases Nat.eq_zero_or_pos k with h0 | h0
      · subst h0; intro y hy; cases hy
      · have := srt_low' W h hb hl
        rwa [show k - 1 + 1 = k by omega] at this
  have hhigh : ∀ y ∈ u.drop k, lt x y = true := by
    rcases h2 with rfl | ⟨hb, hl⟩
    · intro y hy; rw [List.drop_length] at hy; cases hy
    · exact srt_high' W h hb hl
  refine ⟨Srt.app (Srt.app (h.take k) (List.pairwise_singleton _ _) (fun y hy z hz => ?_)) (h.drop k) (fun y hy z hz => ?_), ?_⟩
  · rw [List.mem_singleton.1 hz]; exact hlow y hy
  · rcases List.mem_append.1 hy with hy | hy
    · have hp := h
      rw [← List.take_append_drop k u] at hp
      exact (List.pairwise_append.1 hp).2.2 y hy z hz
    · rw [List.mem_singleton.1 hy]; exact W.asym _ _ (hhigh z hz)
  · have := (CE.refl (lt := lt) (u.take k)).app (CE.swap W (u.drop k) [x] (fun a ha b hb => by rw [List.mem_singleton.1 hb]; exact hhigh a ha))
    rw [← List.append_assoc, List.take_append_drop, ← List.append_assoc] at this
    exact this
/-- Two halves, merged each by itself. -/
theorem merge_halves (W : WO lt) {u1 u2 v1 v2 w1 w2 : List α} (hu : Srt lt (u1 ++ u2)) (hv : Srt lt (v1 ++ v2)) (h1 : ∀ x ∈ u2, ∀ y ∈ v1, lt y x = true) (h2 : ∀ x ∈ u1, ∀ y ∈ v2, lt y x = false)
    (s1 : Srt lt w1) (c1 : CE lt (u1 ++ v1) w1) (s2 : Srt lt w2) (c2 : CE lt (u2 ++ v2) w2) : Srt lt (w1 ++ w2) ∧ CE lt ((u1 ++ u2) ++ (v1 ++ v2)) (w1 ++ w2) := by
  have hu3 := (List.pairwise_append.1 hu).2.2
  have hv3 := (List.pairwise_append.1 hv).2.2
  refine ⟨Srt.app s1 s2 (fun x hx y hy => ?_), ?_⟩
  · have hx := CE.mem W c1.symm hx
    have hy := CE.mem W c2.symm hy
    rcases List.mem_append.1 hx with hx | hx <;> rcases List.mem_append.1 hy with hy | hy
    · exact hu3 x hx y hy
    · exact h2 x hx y hy
    · exact W.asym _ _ (h1 y hy x hx)
    · exact hv3 x hx y hy
  · have a := CE.mid (lt := lt) u1 v2 (CE.swap W u2 v1 (fun x hx y hy => h1 x hx y hy))
    have b := c1.app c2
    refine CE.trans ?_ (CE.trans a ?_)
    · rw [show (u1 ++ u2) ++ (v1 ++ v2) = u1 ++ (u2 ++ v1) ++ v2 by simp only [List.append_assoc]]; exact CE.refl _
    · rw [show u1 ++ (v1 ++ u2) ++ v2 = (u1 ++ v1) ++ (u2 ++ v2) by simp only [List.append_assoc]]; exact b
end
theorem set_mid {α : Type} (p : List α) (x y : α) (s : List α) : (p ++ x :: s).set p.length y = p ++ y :: s := by
  rw [List.set_append_right _ _ (Nat.le_refl _), Nat.sub_self, List.set_cons_zero]
theorem get_mid {α : Type} (p : List α) (x : α) (s : List α) : (p ++ x :: s)[p.length]? = some x := by
  rw [List.getElem?_append_right (Nat.le_refl _), Nat.sub_self]; rfl
end Go.Proofs.YtcmgpkibjdbonaaGreat
set_option maxHeartbeats 16000000
set_option maxRecDepth 100000
namespace Go.Proofs.YtcmgpkibjdbonaaGreat
open Go Go.RowKit
theorem swap_at {α : Type} (P : List α) (x : α) (Q : List α) (y : α) (R : List α) : ((P ++ x :: (Q ++ y :: R)).set P.length y).set (P ++ x :: Q).length x = P ++ y :: (Q ++ x :: R) := by
  rw [set_mid]
  have h : P ++ y :: (Q ++ y :: R) = (P ++ y :: Q) ++ y :: R := by simp
  rw [h, show (P ++ x :: Q).length = (P ++ y :: Q).length by simp, set_mid]
  simp
theorem swap_get {α : Type} (P : List α) (x : α) (Q : List α) (y : α) (R : List α) : (P ++ x :: (Q ++ y :: R))[P.length]? = some x ∧ (P ++ x :: (Q ++ y :: R))[(P ++ x :: Q).length]? = some y := by
  refine ⟨get_mid _ _ _, ?_⟩
  rw [show P ++ x :: (Q ++ y :: R) = (P ++ x :: Q) ++ y :: R by simp]
  exact get_mid _ _ _
theorem swap_at' {α : Type} (P : List α) (x : α) (Q : List α) (y : α) (R : List α) : ((P ++ x :: (Q ++ y :: R)).set (P ++ x :: Q).length x).set P.length y = P ++ y :: (Q ++ x :: R) := by
  have hne : (P ++ x :: Q).length ≠ P.length := by simp only [List.length_append, List.length_cons]; omega
  rw [List.set_comm _ _ hne, swap_at]
theorem insS_at {α : Type} {lt : α → α → Bool} {x : α} : ∀ (S1 S2 : List α), (∀ s ∈ S1, lt x s = false) → (∀ s ∈ S2, lt x s = true) → insS lt x (S1 ++ S2) = S1 ++ x :: S2
  | [], [], _, _ => rfl
  | [], y :: r, _, h => by
    show insS lt x (y :: r) = _
    unfold insS; rw [if_pos (h y (by simp))]; rfl
  | y :: r, S2, h, k => by
    show insS lt x (y :: (r ++ S2)) = _
    unfold insS
    rw [if_neg (by rw [h y (by simp)]; decide), insS_at r S2 (fun s hs => h s (List.mem_cons_of_mem _ hs)) k]; rfl
theorem sortS_succ {α : Type} {lt : α → α → Bool} (l : List α) (k : Nat) (h : k < l.length) : sortS lt (l.take (k + 1)) = insS lt l[k] (sortS lt (l.take k)) := by
  unfold sortS; rw [List.take_succ_eq_append_getElem h, List.foldl_append]; rfl
theorem sortS_len {α : Type} {lt : α → α → Bool} (_W : WO lt) (l : List α) : (sortS lt l).length = l.length := by
  have h : ∀ (x : α) (a : List α), (insS lt x a).length = a.length + 1 := fun x a => by
    induction a with
    | nil => rfl
    | cons y r ih => unfold insS; split <;> simp [ih]
  have h2 : ∀ (l a : List α), (l.foldl (fun a x => insS lt x a) a).length = a.length + l.length := fun l => by
    induction l with
    | nil => intro a; rfl
    | cons x l ih => intro a; rw [List.foldl_cons, ih, h, List.length_cons]; omega
  unfold sortS; rw [h2]; simp
theorem get_U {α : Type} (A U V D : List α) (k : Nat) (h : k < U.length) : (A ++ U ++ V ++ D)[A.length + k]? = some U[k] := by
  rw [List.append_assoc, List.append_assoc, List.getElem?_append_right (by omega), List.getElem?_append_left (by omega), List.getElem?_eq_getElem (by omega)]
  congr 2; omega
theorem get_V {α : Type} (A U V D : List α) (k : Nat) (h : k < V.length) : (A ++ U ++ V ++ D)[A.length + U.length + k]? = some V[k] := by
  have h1 : (A ++ U).length = A.length + U.length := List.length_append
  rw [List.append_assoc (A ++ U), List.getElem?_append_right (by omega), List.getElem?_append_left (by omega), List.getElem?_eq_getElem (by omega)]
  congr 2; omega
theorem sym_cross {α : Type} {lt : α → α → Bool} (W : WO lt) {U V : List α} (sU : Srt lt U) (sV : Srt lt V) {k l : Nat} (_hk : k ≤ U.length) (_hl : l ≤ V.length)
    (hA : k = 0 ∨ l = V.length ∨ ∃ (h1 : k - 1 < U.length) (h2 : l < V.length), lt V[l] U[k - 1] = false) (hB : k = U.length ∨ l = 0 ∨ ∃ (h1 : k < U.length) (h2 : l - 1 < V.length), lt V[l - 1] U[k] = true) :
    (∀ x ∈ U.drop k, ∀ y ∈ V.take l, lt y x = true) ∧ (∀ x ∈ U.take k, ∀ y ∈ V.drop l, lt y x = false) := by
  constructor
  · rcases hB with h | h | ⟨h1, h2, h3⟩
    · rw [h, List.drop_length]; intro x hx; cases hx
    · rw [h]; intro x _ y hy; cases hy
    · intro x hx y hy
      have hl0 : l ≠ 0 := fun h => by rw [h] at hy; cases hy
      have hy2 := srt_low W sV h2 h3 y (by rw [show l - 1 + 1 = l by omega]; exact hy)
      have hx2 : lt x U[k] = false := srt_high W sU h1 (W.irr _) x hx
      cases hyx : lt y x with
      | true => rfl
      | false => rw [W.neg y x _ hyx hx2] at hy2; cases hy2
  · rcases hA with h | h | ⟨h1, h2, h3⟩
    · rw [h]; intro x hx; cases hx
    · rw [h, List.drop_length]; intro x _ y hy; cases hy
    · intro x hx y hy
      have hk0 : k ≠ 0 := fun h => by rw [h] at hx; cases hx
      have hy2 := srt_high W sV h2 h3 y hy
      have hx2 : lt U[k - 1] x = false := srt_low' W sU h1 (W.irr _) x (by rw [show k - 1 + 1 = k by omega]; exact hx)
      exact W.neg _ _ _ hy2 hx2
theorem sortS_id {α : Type} {lt : α → α → Bool} (W : WO lt) {l : List α} (h : Srt lt l) : sortS lt l = l := (sortS_of W h (CE.refl l)).symm
def Bk {α : Type} (lt : α → α → Bool) (bs : Nat) (l : List α) : Prop := ∀ k, Srt lt ((l.drop (k * bs)).take bs)
theorem Bk.nil {α : Type} {lt : α → α → Bool} (bs : Nat) : Bk lt bs [] := fun k => by rw [List.drop_nil, List.take_nil]; exact List.Pairwise.nil
theorem Bk.app {α : Type} {lt : α → α → Bool} {bs k : Nat} {P Q : List α} (h : Bk lt bs P) (hP : P.length = k * bs) (hQ : Srt lt Q) : Bk lt bs (P ++ Q) := by
  intro i
  by_cases hi : i < k
  · have h1 : (i + 1) * bs ≤ k * bs := Nat.mul_le_mul_right _ hi
    rw [Nat.add_mul, Nat.one_mul] at h1
    rw [List.drop_append_of_le_length (by omega), List.take_append_of_le_length (by rw [List.length_drop]; omega)]
    exact h i
  · have h1 : k * bs ≤ i * bs := Nat.mul_le_mul_right _ (by omega)
    rw [List.drop_append, List.drop_eq_nil_iff.2 (by omega), List.nil_append]
    exact (hQ.drop _).take _
theorem Bk.drop {α : Type} {lt : α → α → Bool} {bs : Nat} {R : List α} (h : Bk lt bs R) (j : Nat) : Bk lt bs (R.drop (j * bs)) := fun k => by
  rw [List.drop_drop, ← Nat.add_mul]; exact h _
end Go.Proofs.YtcmgpkibjdbonaaGreat
