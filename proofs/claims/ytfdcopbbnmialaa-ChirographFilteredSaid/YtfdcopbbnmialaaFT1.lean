/- top.ChirographFiltered by rules. -/
import Derived.Test.YtfdcopbbnmialaaDV1
import Derived.Test.YtfdcopbbnmialaaDK8Z
import Derived.Test.YtfdcopbbnmialaaJ6
import Derived.Test.YtfdcopbbnmialaaKRZ
import Derived.Test.YtfdcopbbnmialaaCUZ
set_option maxHeartbeats 16000000
set_option maxRecDepth 100000
namespace Go.Proofs.Ytfdcopbbnmialaa
open Go Go.RowKit
structure FtI (keys : List (List UInt8)) (i : Nat) (D : Dsk) (l : List (Nat × List (List UInt8))) (now : Nat) : Prop where
  v : Vw D (logL l)
  j : JOk l now
  t : txtJ l = (keys.take i).map (List.take 60)
  u : usedL (logL l) ≤ 68 * i
  n : l.length ≤ i
  w : now ≤ i
  r : D.room = 1048576
theorem addJ_len {now : Nat} {s : List UInt8} : ∀ {l : List (Nat × List (List UInt8))}, (addJ l now s).length ≤ l.length + 1
  | [] => Nat.le_refl _
  | p :: r => by
    unfold addJ
    by_cases a : p.1 = now
    · rw [if_pos a]; simp
    · rw [if_neg a]; have := @addJ_len now s r; simp only [List.length_cons]; omega
theorem FtI.add {keys : List (List UInt8)} {i : Nat} {D : Dsk} {l : List (Nat × List (List UInt8))} {now : Nat} (h : FtI keys i D l now) (hi : i < 30) (hk : i < keys.length) (q : Nat) :
    addE D now (keys[i].take 60) q = 0 ∧ FtI keys (i + 1) (addD D now (keys[i].take 60) q) (addJ l now (keys[i].take 60)) now := by
  have hl : (keys[i].take 60).length ≤ 60 := by rw [List.length_take]; omega
  have hv := h.v
  rw [← List.append_nil (logL l)] at hv
  have hll : ∀ p ∈ l, p.1 < 10000000000 := fun p hp => Nat.lt_of_le_of_lt (h.j.le p hp) h.j.lim
  have ha := add_vw (s := keys[i].take 60) hv h.j.lim hll (fun k hk => by cases hk) q (by omega)
  rw [List.append_nil, List.append_nil] at ha
  have hu := h.u
  have hn := h.n
  rw [if_neg (by rw [h.r]; rintro (h1 | h1); omega; have h2 := h1.2; rw [List.length_nil] at h2; omega)] at ha
  have hj := h.j.add (s := keys[i].take 60) (by omega)
  refine ⟨ha.1, ha.2.1, hj.1, ?_, ?_, ?_, by have := h.w; omega, ha.2.2.trans h.r⟩
  · rw [hj.2, h.t, List.take_succ_eq_append_getElem hk, List.map_append]; rfl
  · have hp := put_log h.j.lim (keys[i].take 60) hll
    rw [← hp, usedL_put, sealWrap_len]; omega
  · have := @addJ_len now (keys[i].take 60) l; omega
theorem FtI.turn {keys : List (List UInt8)} {i : Nat} {D : Dsk} {l : List (Nat × List (List UInt8))} {now : Nat} (h : FtI keys (i + 1) D l now) (hw : now ≤ i) (hi : i < 30) : FtI keys (i + 1) D l (now + 1) :=
  ⟨h.v, ⟨h.j.rise, fun p hp => Nat.le_succ_of_le (h.j.le p hp), h.j.tx, by omega⟩, h.t, h.u, h.n, by omega, h.r⟩
theorem FtI.opn {keys : List (List UInt8)} {i : Nat} {D : Dsk} {l : List (Nat × List (List UInt8))} {now : Nat} (h : FtI keys i D l now) : (opnS D 0 (segN (listN D))).1 = (keys.take i).map (List.take 60) := by
  have hv := h.v
  rw [← List.append_nil (logL l)] at hv
  have hll : ∀ p ∈ l, p.1 < 10000000000 := fun p hp => Nat.lt_of_le_of_lt (h.j.le p hp) h.j.lim
  have h1 := opn_vw (fm := 0) hv h.j.rise hll (fun k hk => by cases hk) h.j.tx (fun p _ => Nat.zero_le _)
  rw [h1]; exact h.t
theorem ft_new (keys : List (List UInt8)) : FtI keys 0 (newD 1048576) [] 0 :=
  ⟨new_vw _ (by decide), ⟨List.Pairwise.nil, fun p h => (by cases h), fun p h => (by cases h), by decide⟩, rfl, Nat.le_refl _, Nat.le_refl _, Nat.le_refl _, rfl⟩
theorem crs_vw {D : Dsk} {L : List (List UInt8 × List UInt8)} (v : Vw D L) : crsD D = D := by
  unfold crsD
  have h1 := v.fuse
  have h2 := v.dead
  cases D
  dsimp only at h1 h2
  subst h1 h2; rfl
theorem filtered_spec (keys : List (List UInt8)) (hk : keys.length ≤ 9223372036854775807) (ks : List Int) (hks : ks.length ≤ 9223372036854775807) (other : List UInt8) (ho : other.length ≤ 9223372036854775807) : Spec Try.prog 3 [.sl 1 (keys.map stA), .sl 1 (ks.map (AV.i .i64)), .s other] [] (fun v os => v = .b true ∧ os = []) := by
  have hL : ∀ bd bm D, dskL bd bm D = [.var bd (dskV bm D), .obj bm (mpO D.es D.clk), grpL (D.fs.map Fil.O)] := fun _ _ _ => rfl
  have k1 := dnew_spec 1048576
  have k2 : ∀ bd bm, Spec Try.prog 5 [.ptr 0 bd [] 0, .i .i64 (0 : Nat)] (dskL bd bm (newD 1048576)) (fun v os => ∃ bj, v = .tup [.ptr 3 bj [] 0, .sl 1 [], .i .i64 0] ∧ os = dskL bd bm (newD 1048576) ++ [jouO bd bj 0]) := fun bd bm => by
    have h0 := ft_new keys
    have h1 := jopen_spec bd bm (newD 1048576) 0 h0.v.ok (by decide) (by decide) (by decide) rfl
    have h2 := opn_vw (l := []) (O := []) (fm := 0) h0.v List.Pairwise.nil (fun p h => by cases h) (fun p h => by cases h) (fun p h => by cases h) (fun p h => by cases h)
    rw [h2] at h1
    exact h1
  refine spec_of TtOk [] Try.func3 rfl Try.ntmps3 (by kernel_rfl) rfl rfl (fun C => ?_) rfl
  repeat' (first | refine Awp.seq ?_ | refine Awp.block ?_ | refine Awp.region ?_ | (refine Ops.nil ?_; show Awp _ _ _ _ _) | (refine Awp.skip ?_; show Awp _ _ _ _ _) | (refine o_calm rfl TtOk rfl rfl rfl ?_ (fun _ => ?_); first | exact True.intro | exact ⟨rfl, rfl, rfl, rfl⟩ | exact ⟨rfl, True.intro⟩ | exact ⟨rfl, rfl⟩ | exact ⟨rfl, rfl, rfl⟩ | exact rfl | exact ⟨fun h0 => by cases h0, rfl⟩ | exact (fun h0 => by cases h0) | exact ⟨rfl, by omega⟩ | exact ⟨Nat.succ_ne_zero _, rfl⟩ | omega) | refine o_eqNil TtOk rfl rfl rfl rfl rfl ?_ | refine a_condF rfl ?_ | (refine o_call [] [] [0, 1, 2] rfl k1 ⟨SLe.of_eq rfl, True.intro⟩ rfl True.intro rfl rfl ?_; rintro _ _ ⟨bd, bm, rfl, rfl⟩; refine ⟨_, rfl, rfl, ?_⟩) | (refine o_call [] [0, 1, 2] [0, 1, 2, 3] rfl (k2 bd bm) ⟨sle_ptr, SLe.of_eq rfl, True.intro⟩ rfl ⟨HOLe.refl _, HOLe.refl _, HOLe.refl _, True.intro⟩ rfl rfl ?_; rintro _ _ ⟨bj, rfl, rfl⟩; refine ⟨_, rfl, rfl, ?_⟩))
  refine Awp.loop (fun q : Nat × Dsk × List (Nat × List (List UInt8)) × Nat => ⟨117, [(12, .i .i64 q.1), (11, .i .i64 q.1), (8, .ptr 3 bj [] 0), (7, .ptr 0 bd [] 0), (0, .sl 1 (keys.map stA)), (1, .sl 1 (ks.map (AV.i .i64))), (2, .s other)], [(0, .var bd (dskV bm q.2.1)), (1, .obj bm (mpO q.2.1.es q.2.1.clk)), (2, grpL (q.2.1.fs.map Fil.O)), (3, jouO bd bj q.2.2.2)]⟩) (fun q => q.1 ≤ 30 ∧ q.1 ≤ keys.length ∧ FtI keys q.1 q.2.1 q.2.2.1 q.2.2.2) (fun q => 30 - q.1) [] (0, newD 1048576, [], 0) ⟨Nat.zero_le _, Nat.zero_le _, ft_new keys⟩ ?_ ?_
  · exact ⟨rfl, ⟨sle_i rfl, sle_i rfl, sle_ptr, sle_ptr, sle_sl rfl, sle_sl rfl, sle_s rfl, True.intro⟩, HLe.cons 0 rfl (HOLe.refl _) (HLe.cons 1 rfl (HOLe.refl _) (HLe.cons 2 rfl (HOLe.refl _) (HLe.cons 3 rfl (HOLe.refl _) .nil)))⟩
  rintro ⟨i, D, l, now⟩ ⟨h30, hik, hI⟩
  dsimp only at h30 hik hI ⊢
  by_cases hlt : i < 30 ∧ i < keys.length
  · obtain ⟨hi3, hi⟩ := hlt
    have hct := cut_spec keys[i] 60 (by decide)
    have hul : D.used ≤ 100000 := by rw [hI.v.used]; have := hI.u; omega
    have hnow := hI.w
    have hja := jadd_spec bd bm bj D now (keys[i].take 60) hI.v.ok (by omega) (by rw [hI.v.fuse]; decide) (by rw [List.length_take]; omega) (by omega)
    have hja2 : Spec Try.prog 6 [.ptr 3 bj [] 0, .s (keys[i].take 60)] (dskL bd bm D ++ [jouO bd bj now]) (fun v os => ∃ D', FtI keys (i + 1) D' (addJ l now (keys[i].take 60)) now ∧ v = .i .i64 0 ∧ os = dskL bd bm D' ++ [jouO bd bj now]) := by
      refine hja.mono ?_
      rintro v os ⟨q, rfl, rfl⟩
      have := hI.add hi3 hi q
      exact ⟨_, this.2, by rw [this.1], rfl⟩
    clear hja
    generalize keys[i].take 60 = kc at hct hja2
    have htu := jturn_spec bd bj now (by omega)
    have hgt : (keys.map stA)[i]? = some (.s keys[i]) := by rw [List.getElem?_map, List.getElem?_eq_getElem hi]; rfl
    repeat' (first | refine Awp.seq ?_ | refine Awp.block ?_ | refine Awp.region ?_ | (refine Ops.nil ?_; show Awp _ _ _ _ _) | (refine Ops.nil ?_; show Exists _) | (refine Awp.skip ?_; show Awp _ _ _ _ _) | (refine o_add rfl rfl rfl rfl ?_ ?_; omega) | (refine o_rem rfl rfl rfl rfl ?_ ?_ ?_; omega; omega) | refine o_len rfl TtOk rfl rfl rfl (fun _ => ?_) | (refine o_calm rfl TtOk rfl rfl rfl ?_ (fun _ => ?_); first | exact True.intro | exact ⟨rfl, rfl, rfl, rfl⟩ | exact ⟨rfl, True.intro⟩ | exact ⟨rfl, rfl⟩ | exact ⟨rfl, rfl, rfl⟩ | exact rfl | exact ⟨fun h0 => by cases h0, rfl⟩ | exact (fun h0 => by cases h0) | exact ⟨rfl, by omega⟩ | exact ⟨Nat.succ_ne_zero _, rfl⟩ | omega) | (refine o_index rfl TtOk rfl rfl rfl rfl rfl rfl ?_ (getq_nat ?_) ?_; omega; omega) | (fail_if_success (refine o_isLit rfl (by first | exact .inl rfl | exact .inr rfl) ?_)); (refine o_splitP rfl rfl (fun hc => ?_) (fun hc => ?_) <;> try (exfalso; omega)) | refine a_condF rfl ?_ | (refine a_condP rfl (fun hc => ?_) (fun hc => ?_)) <;> (try (exfalso; omega)) | (refine o_call [] [0, 1, 2, 3] [0, 1, 2, 3] rfl hja2 ⟨sle_ptr, SLe.of_eq rfl, True.intro⟩ rfl ⟨HOLe.refl _, HOLe.refl _, HOLe.refl _, HOLe.refl _, True.intro⟩ rfl rfl ?_; rintro _ _ ⟨D2, hI2, rfl, rfl⟩; refine ⟨_, rfl, rfl, ?_⟩) | (refine o_call [] [3] [3] rfl htu ⟨sle_ptr, True.intro⟩ rfl ⟨HOLe.refl _, True.intro⟩ rfl rfl ?_; rintro _ _ ⟨rfl, rfl⟩; refine ⟨_, rfl, rfl, ?_⟩) | (refine o_call0 rfl (hct) ⟨SLe.of_eq rfl, SLe.of_eq rfl, True.intro⟩ rfl ?_; rintro _ _ ⟨rfl, rfl⟩; refine ⟨rfl, ?_⟩))
    · have hI3 := hI2.turn hnow hi3
      exact ⟨(i + 1, D2, addJ l now kc, now + 1), [], ⟨by show i + 1 ≤ 30; omega, by show i + 1 ≤ keys.length; omega, hI3⟩, by show 30 - (i + 1) < 30 - i; omega, rfl, ⟨sle_i (by show (i : Int) + 1 = ((i + 1 : Nat) : Int); omega), sle_i (by show (i : Int) + 1 = ((i + 1 : Nat) : Int); omega), sle_ptr, sle_ptr, sle_sl rfl, sle_sl rfl, sle_s rfl, True.intro⟩, HLe.cons 0 rfl (HOLe.refl _) (HLe.cons 1 rfl (HOLe.refl _) (HLe.cons 2 rfl (HOLe.refl _) (HLe.cons 3 rfl (HOLe.refl _) .nil)))⟩
    · exact ⟨(i + 1, D2, addJ l now kc, now), [], ⟨by show i + 1 ≤ 30; omega, by show i + 1 ≤ keys.length; omega, hI2⟩, by show 30 - (i + 1) < 30 - i; omega, rfl, ⟨sle_i (by show (i : Int) + 1 = ((i + 1 : Nat) : Int); omega), sle_i (by show (i : Int) + 1 = ((i + 1 : Nat) : Int); omega), sle_ptr, sle_ptr, sle_sl rfl, sle_sl rfl, sle_s rfl, True.intro⟩, HLe.cons 0 rfl (HOLe.refl _) (HLe.cons 1 rfl (HOLe.refl _) (HLe.cons 2 rfl (HOLe.refl _) (HLe.cons 3 rfl (HOLe.refl _) .nil)))⟩
  · have hul : D.used ≤ 100000 := by rw [hI.v.used]; have := hI.u; omega
    have hfl : D.fs.length ≤ 100 := by
      have h1 := hI.v.len
      unfold logL at h1
      rw [List.length_map] at h1
      have := hI.n
      omega
    have kcr := crash_spec bd bm D ks hI.v.ok (by omega) (by omega) hI.v.sure hks
    rw [crs_vw hI.v] at kcr
    have kop := jopen_spec bd bm D 0 hI.v.ok (by omega) (by omega) (by decide) hI.v.dead
    rw [hI.opn] at kop
    have hTl : ((keys.take i).map (List.take 60)).length = i := by rw [List.length_map, List.length_take]; omega
    have hTm : ∀ s ∈ (keys.take i).map (List.take 60), s.length ≤ 1000000000000 := fun s hs => by
      obtain ⟨u, _, rfl⟩ := List.mem_map.1 hs
      rw [List.length_take]; omega
    have hTg : ∀ j (h : j < i) (h2 : j < keys.length), ((keys.take i).map (List.take 60))[j]'(by rw [hTl]; exact h) = keys[j].take 60 := fun j h h2 => by
      rw [List.getElem_map, List.getElem_take]
    generalize (keys.take i).map (List.take 60) = T at kop hTl hTm hTg
    have hmk := make_spec T 10 (by decide) (by omega) hTm
    have hmh := fun k hk => may_has T 10 k hk
    have hF := mkF_len T 10
    have hFl : (mkF T 10).length ≤ 2000 := by rw [hF]; unfold nbOf; omega
    generalize mkF T 10 = F at hmk hmh hFl
    generalize pOf 10 = p at hmk hmh
    have hmay : ∀ k ∈ T, Spec Try.prog 11 [flA p F, .s k] [] (fun v os => v = .b true ∧ os = []) := fun k hk => by
      have h := may_spec p F k (hTm k hk) (by omega)
      rw [hmh k hk] at h; exact h
    unfold flA at hmk hmay
    repeat' (first | refine Awp.seq ?_ | refine Awp.block ?_ | refine Awp.region ?_ | (refine Ops.nil ?_; show Awp _ _ _ _ _) | (refine Awp.skip ?_; show Awp _ _ _ _ _) | (refine Awp.exit ?_; show Awp _ _ _ _ _) | refine o_noT rfl rfl rfl ?_ | refine o_len rfl TtOk rfl rfl rfl (fun _ => ?_) | (refine o_calm rfl TtOk rfl rfl rfl ?_ (fun _ => ?_); first | exact True.intro | exact ⟨rfl, rfl, rfl, rfl⟩ | exact ⟨rfl, True.intro⟩ | exact ⟨rfl, rfl⟩ | exact ⟨rfl, rfl, rfl⟩ | exact rfl | exact ⟨fun h0 => by cases h0, rfl⟩ | exact (fun h0 => by cases h0) | exact ⟨rfl, by omega⟩ | exact ⟨Nat.succ_ne_zero _, rfl⟩ | omega) | refine o_alloc (d := 16) rfl TtOk rfl rfl rfl (fun b16 => ?_) | refine o_store TtOk rfl rfl rfl rfl rfl rfl rfl ⟨rfl, rfl⟩ rfl rfl rfl rfl rfl ?_ | (fail_if_success (refine o_isLit rfl (by first | exact .inl rfl | exact .inr rfl) ?_)); (refine o_splitP rfl rfl (fun hc => ?_) (fun hc => ?_) <;> try (exfalso; omega)) | refine a_condF rfl ?_ | (refine a_condP rfl (fun hc => ?_) (fun hc => ?_)) <;> (try (exfalso; omega)) | (refine a_condN rfl (fun hc => ?_) (fun hc => ?_)) <;> (try (exfalso; omega)) | (refine o_call [] [0, 1, 2] [0, 1, 2] rfl kcr ⟨sle_ptr, SLe.of_eq rfl, True.intro⟩ rfl ⟨HOLe.refl _, HOLe.refl _, HOLe.refl _, True.intro⟩ rfl rfl ?_; rintro _ _ ⟨rfl, rfl⟩; refine ⟨_, rfl, rfl, ?_⟩) | (refine o_call [] [0, 1, 2] [0, 1, 2, 90] rfl kop ⟨sle_ptr, SLe.of_eq rfl, True.intro⟩ rfl ⟨HOLe.refl _, HOLe.refl _, HOLe.refl _, True.intro⟩ rfl rfl ?_; rintro _ _ ⟨bj2, rfl, rfl⟩; refine ⟨_, rfl, rfl, ?_⟩) | (refine o_call0 rfl (hmk) ⟨SLe.of_eq rfl, SLe.of_eq rfl, True.intro⟩ rfl ?_; rintro _ _ ⟨rfl, rfl⟩; refine ⟨rfl, ?_⟩))
    all_goals
      refine Awp.loop (fun q : Nat × Bool => ⟨117, [(85, .i .i64 q.1), (84, .i .i64 T.length), (83, .sl 1 (T.map AV.s)), (18, .b q.2), (16, .ptr 16 b16 [] 0), (0, .sl 1 (keys.map stA)), (2, .s other)], [(16, .var b16 (.agg [.i .i64 p, .sl 1 (F.map byA)]))]⟩) (fun q => q.1 ≤ T.length ∧ (q.2 = true → other ∈ T)) (fun q => T.length - q.1) [] (0, false) ⟨Nat.zero_le _, fun h => by cases h⟩ ?_ ?_
      · exact ⟨rfl, ⟨sle_i rfl, sle_i rfl, sle_sl rfl, SLe.of_eq rfl, sle_ptr, sle_sl rfl, sle_s rfl, True.intro⟩, HLe.cons 16 rfl (HOLe.refl _) .nil⟩
      rintro ⟨j, b⟩ ⟨hj, hb⟩
      dsimp only at hj hb ⊢
      by_cases hlt2 : j < T.length
      · have hj2 : j < keys.length := by omega
        have hct := cut_spec keys[j] 60 (by decide)
        have hm := hmay T[j] (List.getElem_mem hlt2)
        have hmem := List.getElem_mem hlt2
        have hTj := hTg j (by omega) hj2
        rw [← hTj] at hct
        have hge : T[j]? = some T[j] := List.getElem?_eq_getElem hlt2
        have hbn : (!(T[j] == T[j])) = false := by simp
        have hbe : (T[j] == other) = true → other ∈ T := fun h => by rw [← beq_iff_eq.1 h]; exact hmem
        cases b
        · repeat' (first | (rw [hbn]) | refine Awp.seq ?_ | refine Awp.block ?_ | refine Awp.region ?_ | (refine Ops.nil ?_; show Awp _ _ _ _ _) | (refine Ops.nil ?_; show Exists _) | (refine Awp.skip ?_; show Awp _ _ _ _ _) | (refine o_add rfl rfl rfl rfl ?_ ?_; omega) | (refine o_calm rfl TtOk rfl rfl rfl ?_ (fun _ => ?_); first | exact True.intro | exact ⟨rfl, rfl, rfl, rfl⟩ | exact ⟨rfl, True.intro⟩ | exact ⟨rfl, rfl⟩ | exact ⟨rfl, rfl, rfl⟩ | exact rfl | exact ⟨fun h0 => by cases h0, rfl⟩ | exact (fun h0 => by cases h0) | exact ⟨rfl, by omega⟩ | exact ⟨Nat.succ_ne_zero _, rfl⟩ | omega) | (refine o_index rfl TtOk rfl rfl rfl rfl rfl rfl ?_ (getq_nat ?_) ?_; omega; omega) | refine a_condF rfl ?_ | (refine a_condP rfl (fun hc => ?_) (fun hc => ?_)) <;> (try (exfalso; omega)) | (refine o_call0 rfl (hct) ⟨SLe.of_eq rfl, SLe.of_eq rfl, True.intro⟩ rfl ?_; rintro _ _ ⟨rfl, rfl⟩; refine ⟨rfl, ?_⟩) | (refine o_call0 rfl (hm) ⟨SLe.of_eq rfl, SLe.of_eq rfl, True.intro⟩ rfl ?_; rintro _ _ ⟨rfl, rfl⟩; refine ⟨rfl, ?_⟩))
          all_goals exact ⟨(j + 1, T[j] == other), [], ⟨by show j + 1 ≤ T.length; omega, hbe⟩, by show T.length - (j + 1) < T.length - j; omega, rfl, ⟨sle_i (by show (j : Int) + 1 = ((j + 1 : Nat) : Int); omega), sle_i rfl, sle_sl rfl, SLe.of_eq rfl, sle_ptr, sle_sl rfl, sle_s rfl, True.intro⟩, HLe.cons 16 rfl (HOLe.refl _) .nil⟩
        · repeat' (first | (rw [hbn]) | refine Awp.seq ?_ | refine Awp.block ?_ | refine Awp.region ?_ | (refine Ops.nil ?_; show Awp _ _ _ _ _) | (refine Ops.nil ?_; show Exists _) | (refine Awp.skip ?_; show Awp _ _ _ _ _) | refine o_noF rfl rfl rfl ?_ | (refine o_add rfl rfl rfl rfl ?_ ?_; omega) | (refine o_calm rfl TtOk rfl rfl rfl ?_ (fun _ => ?_); first | exact True.intro | exact ⟨rfl, rfl, rfl, rfl⟩ | exact ⟨rfl, True.intro⟩ | exact ⟨rfl, rfl⟩ | exact ⟨rfl, rfl, rfl⟩ | exact rfl | exact ⟨fun h0 => by cases h0, rfl⟩ | exact (fun h0 => by cases h0) | exact ⟨rfl, by omega⟩ | exact ⟨Nat.succ_ne_zero _, rfl⟩ | omega) | (refine o_index rfl TtOk rfl rfl rfl rfl rfl rfl ?_ (getq_nat ?_) ?_; omega; omega) | refine a_condF rfl ?_ | (refine a_condP rfl (fun hc => ?_) (fun hc => ?_)) <;> (try (exfalso; omega)) | (refine o_call0 rfl (hct) ⟨SLe.of_eq rfl, SLe.of_eq rfl, True.intro⟩ rfl ?_; rintro _ _ ⟨rfl, rfl⟩; refine ⟨rfl, ?_⟩) | (refine o_call0 rfl (hm) ⟨SLe.of_eq rfl, SLe.of_eq rfl, True.intro⟩ rfl ?_; rintro _ _ ⟨rfl, rfl⟩; refine ⟨rfl, ?_⟩))
          all_goals exact ⟨(j + 1, true), [], ⟨by show j + 1 ≤ T.length; omega, fun _ => hb rfl⟩, by show T.length - (j + 1) < T.length - j; omega, rfl, ⟨sle_i (by show (j : Int) + 1 = ((j + 1 : Nat) : Int); omega), sle_i rfl, sle_sl rfl, SLe.of_eq rfl, sle_ptr, sle_sl rfl, sle_s rfl, True.intro⟩, HLe.cons 16 rfl (HOLe.refl _) .nil⟩
      · cases b
        · repeat' (first | refine Awp.seq ?_ | refine Awp.region ?_ | (refine Ops.nil ?_; show Awp _ _ _ _ _) | (refine Awp.exit ?_; show Awp _ _ _ _ _) | (refine Awp.ret ?_; show endK _ _ _ _ _) | refine o_noF rfl rfl rfl ?_ | (refine o_calm rfl TtOk rfl rfl rfl ?_ (fun _ => ?_); first | exact True.intro | exact ⟨rfl, rfl, rfl, rfl⟩ | exact ⟨rfl, True.intro⟩ | exact ⟨rfl, rfl⟩ | exact ⟨rfl, rfl, rfl⟩ | exact rfl | exact ⟨fun h0 => by cases h0, rfl⟩ | exact (fun h0 => by cases h0) | exact ⟨rfl, by omega⟩ | exact ⟨Nat.succ_ne_zero _, rfl⟩ | omega) | (refine a_condP rfl (fun hc => ?_) (fun hc => ?_)) <;> (try (exfalso; omega)))
          all_goals exact end_tmp rfl rfl rfl [] [] (CLe.of_eq rfl) .nil ⟨rfl, rfl⟩ _ (.inl rfl)
        · have hm := hmay other (hb rfl)
          repeat' (first | refine Awp.seq ?_ | refine Awp.region ?_ | (refine Ops.nil ?_; show Awp _ _ _ _ _) | (refine Awp.exit ?_; show Awp _ _ _ _ _) | (refine Awp.ret ?_; show endK _ _ _ _ _) | (refine o_calm rfl TtOk rfl rfl rfl ?_ (fun _ => ?_); first | exact True.intro | exact ⟨rfl, rfl, rfl, rfl⟩ | exact ⟨rfl, True.intro⟩ | exact ⟨rfl, rfl⟩ | exact ⟨rfl, rfl, rfl⟩ | exact rfl | exact ⟨fun h0 => by cases h0, rfl⟩ | exact (fun h0 => by cases h0) | exact ⟨rfl, by omega⟩ | exact ⟨Nat.succ_ne_zero _, rfl⟩ | omega) | (refine a_condP rfl (fun hc => ?_) (fun hc => ?_)) <;> (try (exfalso; omega)) | (refine o_call0 rfl (hm) ⟨SLe.of_eq rfl, SLe.of_eq rfl, True.intro⟩ rfl ?_; rintro _ _ ⟨rfl, rfl⟩; refine ⟨rfl, ?_⟩))
          all_goals exact end_tmp rfl rfl rfl [] [] (CLe.of_eq rfl) .nil ⟨rfl, rfl⟩ _ (.inl rfl)
end Go.Proofs.Ytfdcopbbnmialaa
