/- seal.All by rules: the texts of the frames from the beginning on. -/
import Derived.Test.YtfdcopbbnmialaaS3
import Derived.Test.YtfdcopbbnmialaaDK5Z
set_option maxHeartbeats 16000000
set_option maxRecDepth 100000
namespace Go.Proofs.Ytfdcopbbnmialaa
open Go Go.RowKit
def sallF : Nat → List UInt8 → List (List UInt8) × Nat
  | 0, _ => ([], 0)
  | k + 1, s => if (sopen s).2.2 = 0 then ((sopen s).1 :: (sallF k (s.drop (sopen s).2.1)).1, (sopen s).2.1 + (sallF k (s.drop (sopen s).2.1)).2) else ([], 0)
def sall (s : List UInt8) : List (List UInt8) × Nat := sallF (s.length + 1) s
theorem sopen_ok {s : List UInt8} (h : (sopen s).2.2 = 0) : 8 ≤ (sopen s).2.1 ∧ (sopen s).2.1 ≤ s.length ∧ (sopen s).1.length ≤ s.length := by
  by_cases h8 : s.length < 8
  · rw [sopen_short h8] at h; cases h
  · obtain ⟨c0, c1, c2, c3, c4, c5, c6, c7, r, rfl⟩ := eight h8
    have hso : sopen (c0 :: c1 :: c2 :: c3 :: c4 :: c5 :: c6 :: c7 :: r) = if c0.toNat ≠ 94 ∨ 65536 < n3 c1 c2 c3 then ([], 0, 4) else if r.length < n3 c1 c2 c3 then ([], 0, 5)
      else if crc ([c0, c1, c2, c3] ++ r.take (n3 c1 c2 c3)) = n4 c4 c5 c6 c7 then (r.take (n3 c1 c2 c3), 8 + n3 c1 c2 c3, 0) else ([], 0, 6) := rfl
    rw [hso] at h ⊢
    by_cases h1 : c0.toNat ≠ 94 ∨ 65536 < n3 c1 c2 c3
    · rw [if_pos h1] at h; exact absurd h (by decide)
    by_cases h2 : r.length < n3 c1 c2 c3
    · rw [if_neg h1, if_pos h2] at h; exact absurd h (by decide)
    by_cases h3 : crc ([c0, c1, c2, c3] ++ r.take (n3 c1 c2 c3)) = n4 c4 c5 c6 c7
    · rw [if_neg h1, if_neg h2, if_pos h3]
      refine ⟨by show 8 ≤ 8 + _; omega, ?_, ?_⟩
      · show 8 + n3 c1 c2 c3 ≤ _
        simp only [List.length_cons]; omega
      · show (r.take _).length ≤ _
        rw [List.length_take]; simp only [List.length_cons]; omega
    · rw [if_neg h1, if_neg h2, if_neg h3] at h; exact absurd h (by decide)
theorem sall_spec (s : List UInt8) (hs : s.length ≤ 1000000000) : Spec Try.prog 16 [.s s] [] (fun v os => v = .tup [.sl 1 ((sall s).1.map AV.s), .i .i64 ((sall s).2 : Nat)] ∧ os = []) := by
  refine spec_of TtOk [] Try.func16 rfl Try.ntmps16 (by kernel_rfl) rfl rfl (fun C => ?_) rfl
  generalize hA : sall s = A
  repeat' (first | refine Awp.seq ?_ | refine Awp.block ?_ | refine Awp.region ?_ | (refine Ops.nil ?_; show Awp _ _ _ _ _) | (refine o_calm rfl TtOk rfl rfl rfl ?_ (fun _ => ?_); first | exact True.intro | exact ⟨rfl, rfl, rfl, rfl⟩ | exact ⟨rfl, True.intro⟩ | exact ⟨rfl, rfl⟩ | exact ⟨rfl, rfl, rfl⟩ | exact rfl | exact ⟨fun h0 => by cases h0, rfl⟩ | exact (fun h0 => by cases h0) | exact ⟨rfl, by omega⟩ | exact ⟨Nat.succ_ne_zero _, rfl⟩ | omega))
  refine Awp.loop (fun q : Nat × List (List UInt8) × Nat × Value => ⟨28, [(5, .i .i64 q.1), (4, .own 4 q.2.2.2), (0, .s s)], [(4, .row q.2.2.2 9 1 (q.2.1.map AV.s))]⟩) (fun q => q.1 ≤ s.length ∧ s.length - q.1 < q.2.2.1 ∧ 8 * q.2.1.length ≤ q.1 ∧ A = (q.2.1 ++ (sallF q.2.2.1 (s.drop q.1)).1, q.1 + (sallF q.2.2.1 (s.drop q.1)).2)) (fun q => q.2.2.1) [] (0, [], s.length + 1, .slice none 0 0) ⟨Nat.zero_le _, by dsimp only; omega, Nat.zero_le _, by show A = _; rw [← hA]; unfold sall; simp⟩ ?_ ?_
  · exact ⟨rfl, ⟨sle_i rfl, sle_nilown, sle_s rfl, True.intro⟩, HLe.none .nil⟩
  rintro ⟨at', out, k, v⟩ ⟨ha, hk, ho, hAq⟩
  dsimp only at ha hk ho hAq ⊢
  obtain ⟨k, rfl⟩ : ∃ k', k = k' + 1 := ⟨k - 1, by omega⟩
  have hdl : (s.drop at').length = s.length - at' := List.length_drop
  have hsp := sopen_spec (s.drop at') (by omega)
  have hok := @sopen_ok (s.drop at')
  have hun : sallF (k + 1) (s.drop at') = if (sopen (s.drop at')).2.2 = 0 then ((sopen (s.drop at')).1 :: (sallF k ((s.drop at').drop (sopen (s.drop at')).2.1)).1, (sopen (s.drop at')).2.1 + (sallF k ((s.drop at').drop (sopen (s.drop at')).2.1)).2) else ([], 0) := rfl
  rw [hun] at hAq
  have htk : AV.s ((s.take s.length).drop at') = AV.s (s.drop at') := by rw [List.take_length]
  generalize hq : sopen (s.drop at') = q at hsp hok hAq
  obtain ⟨t, m, e⟩ := q
  dsimp only at hsp hok hAq
  by_cases he : e = 0
  · subst he
    obtain ⟨h1, h2, h3⟩ := hok rfl
    rw [if_pos rfl, List.drop_drop] at hAq
    repeat' (first | refine Awp.seq ?_ | refine Awp.block ?_ | refine Awp.region ?_ | (refine Ops.nil ?_; show Awp _ _ _ _ _) | (refine Ops.nil ?_; show Exists _) | (refine Awp.skip ?_; show Awp _ _ _ _ _) | (refine o_add rfl rfl rfl rfl ?_ ?_; omega) | (refine o_calm rfl TtOk rfl rfl rfl ?_ (fun _ => ?_); first | exact True.intro | exact ⟨rfl, rfl, rfl, rfl⟩ | exact ⟨rfl, True.intro⟩ | exact ⟨rfl, rfl⟩ | exact ⟨rfl, rfl, rfl⟩ | exact rfl | exact ⟨fun h0 => by cases h0, rfl⟩ | exact (fun h0 => by cases h0) | exact ⟨rfl, by omega⟩ | exact ⟨Nat.succ_ne_zero _, rfl⟩ | omega) | refine o_buildSlice TtOk rfl rfl rfl rfl rfl rfl rfl rfl rfl rfl rfl (by repeat' (first | exact True.intro | exact rfl | refine ⟨?_, ?_⟩)) (fun _ => ?_) | (refine o_append TtOk rfl rfl rfl rfl rfl rfl rfl rfl rfl (by first | exact True.intro | exact rfl) rfl rfl (fun _ => rfl) ?_ ?_ (fun _ => ?_); ((repeat' (first | rw [List.length_append] | rw [List.length_map] | rw [List.length_cons] | rw [List.length_nil] | rw [List.length_take] | rw [List.length_drop])) <;> omega); ((repeat' (first | rw [List.length_append] | rw [List.length_map] | rw [List.length_cons] | rw [List.length_nil] | rw [List.length_take] | rw [List.length_drop])) <;> omega)) | refine a_condF rfl ?_ | (refine o_sliceStr TtOk rfl at' s.length rfl rfl rfl (bnd_some rfl rfl) bnd_none (by omega) (by omega) ?_) | (refine o_call0 rfl hsp ⟨SLe.of_eq htk, True.intro⟩ rfl ?_; rintro _ _ ⟨rfl, rfl⟩; refine ⟨rfl, ?_⟩))
    exact ⟨(at' + m, out ++ [t], k, _), [], ⟨by show at' + m ≤ s.length; omega, by show s.length - (at' + m) < k; omega, by show 8 * (out ++ [t]).length ≤ at' + m; rw [List.length_append, List.length_singleton]; omega, by rw [hAq]; show _ = (out ++ [t] ++ _, at' + m + _); rw [List.append_assoc, Nat.add_assoc]; rfl⟩, by show k < k + 1; omega, rfl, ⟨sle_i (by show (at' : Int) + m = ((at' + m : Nat) : Int); omega), sle_own, sle_s rfl, True.intro⟩, HLe.cons 4 rfl (by show HOLe _ (HO.row _ _ _ (List.map AV.s out ++ [AV.s t])) (.row _ _ _ ((out ++ [t]).map AV.s)); rw [List.map_append]; exact HOLe.refl _) .nil⟩
  · rw [if_neg he] at hAq
    repeat' (first | refine Awp.seq ?_ | refine Awp.block ?_ | refine Awp.region ?_ | (refine Ops.nil ?_; show Awp _ _ _ _ _) | (refine Awp.ret ?_; show endK _ _ _ _ _) | (refine o_calm rfl TtOk rfl rfl rfl ?_ (fun _ => ?_); first | exact True.intro | exact ⟨rfl, rfl, rfl, rfl⟩ | exact ⟨rfl, True.intro⟩ | exact ⟨rfl, rfl⟩ | exact ⟨rfl, rfl, rfl⟩ | exact rfl | exact ⟨fun h0 => by cases h0, rfl⟩ | exact (fun h0 => by cases h0) | exact ⟨rfl, by omega⟩ | exact ⟨Nat.succ_ne_zero _, rfl⟩ | omega) | (refine a_condN rfl (fun hc => ?_) (fun hc => ?_)) <;> (try (exfalso; omega)) | (refine o_sliceStr TtOk rfl at' s.length rfl rfl rfl (bnd_some rfl rfl) bnd_none (by omega) (by omega) ?_) | (refine o_call0 rfl hsp ⟨SLe.of_eq htk, True.intro⟩ rfl ?_; rintro _ _ ⟨rfl, rfl⟩; refine ⟨rfl, ?_⟩))
    rw [List.append_nil, Nat.add_zero] at hAq
    subst hAq
    all_goals
      refine end_all [4] [] (.tup [.sl 1 (out.map AV.s), .i .i64 (at' : Nat)]) rfl ?_ ?_ (rle_tup2 (CLe.fz (.head _)) (CLe.of_eq rfl) rfl rfl) .nil ⟨rfl, rfl⟩ _ (.inl rfl)
      · repeat' (first | exact True.intro | exact rfl | refine ⟨?_, ?_⟩)
      · exact ⟨trivial, trivial, trivial⟩
end Go.Proofs.Ytfdcopbbnmialaa
set_option maxHeartbeats 8000000
set_option maxRecDepth 100000
namespace Go.Proofs.Ytfdcopbbnmialaa
open Go Go.RowKit
def listN (D : Dsk) : List (List UInt8) := if D.dead = true then [] else sortN (D.fs.map (·.nm))
theorem es_nm (D : Dsk) : D.es.map (·.1) = D.fs.map (·.nm) := by unfold Dsk.es; rw [List.map_map]; rfl
theorem dlist_spec (bd bm : Nat) (D : Dsk) (ok : D.ok) (hl : D.fs.length ≤ 1000000) : Spec Try.prog 25 [.ptr 0 bd [] 0] (dskL bd bm D) (fun v os => v = .sl 1 ((listN D).map AV.s) ∧ os = dskL bd bm D) := by
  have hL : dskL bd bm D = [.var bd (.agg [.i .i64 D.room, .own 1 (.map (some bm)), .i .i64 D.fuse, .b D.dead]), .obj bm (mpO D.es D.clk), grpL (D.fs.map Fil.O)] := rfl
  rw [hL]
  have k1 := keysIt_spec bm D.clk D.es
  have hel : D.es.length ≤ 1000000 := by unfold Dsk.es; rw [List.length_map]; exact hl
  have k2 := fun bi => sortedIt_spec 61 bm bi D.clk D.es hel (es_nl ok) (es_lt ok) (es_bn ok) (by rw [es_nm]; exact ok.nd)
  rw [es_nm] at k2
  unfold listN
  generalize hdd : D.dead = dd at *
  refine spec_of TtOk [(0, .var bd (.agg [.i .i64 D.room, .own 1 (.map (some bm)), .i .i64 D.fuse, .b dd])), (1, .obj bm (mpO D.es D.clk)), (2, grpL (D.fs.map Fil.O))] Try.func25 rfl Try.ntmps25 (by kernel_rfl) rfl rfl (fun C => ?_) rfl
  cases dd
  case true =>
    rw [if_pos rfl]
    repeat' (first | refine Awp.seq ?_ | refine Awp.region ?_ | (refine Ops.nil ?_; show Awp _ _ _ _ _) | (refine Awp.ret ?_; show endK _ _ _ _ _) | (refine o_calm rfl TtOk rfl rfl rfl ?_ (fun _ => ?_); first | exact True.intro | exact ⟨rfl, rfl, rfl, rfl⟩ | exact ⟨rfl, True.intro⟩ | exact ⟨rfl, rfl⟩ | exact ⟨rfl, rfl, rfl⟩ | exact rfl | exact ⟨fun h0 => by cases h0, rfl⟩ | exact (fun h0 => by cases h0) | exact ⟨rfl, by omega⟩ | exact ⟨Nat.succ_ne_zero _, rfl⟩ | omega) | refine a_condT rfl ?_)
    all_goals
      refine end_all [] [(0, _), (1, _), (2, _)] (.sl 1 (([] : List (List UInt8)).map AV.s)) rfl ?_ ?_ (rle_one CLe.nilsl rfl) (HLe.cons 0 rfl (HOLe.refl _) (HLe.cons 1 rfl (HOLe.refl _) (HLe.cons 2 rfl (HOLe.refl _) .nil))) ⟨rfl, rfl⟩ _ (.inl rfl)
      · repeat' (first | exact True.intro | exact rfl | refine ⟨?_, ?_⟩)
      · exact ⟨trivial, trivial⟩
  rw [if_neg (by decide)]
  generalize sortN (D.fs.map (·.nm)) = S at *
  repeat' (first | refine Awp.seq ?_ | refine Awp.region ?_ | (refine Ops.nil ?_; show Awp _ _ _ _ _) | (refine Awp.skip ?_; show Awp _ _ _ _ _) | (refine Awp.ret ?_; show endK _ _ _ _ _) | (refine o_calm rfl TtOk rfl rfl rfl ?_ (fun _ => ?_); first | exact True.intro | exact ⟨rfl, rfl, rfl, rfl⟩ | exact ⟨rfl, True.intro⟩ | exact ⟨rfl, rfl⟩ | exact ⟨rfl, rfl, rfl⟩ | exact rfl | exact ⟨fun h0 => by cases h0, rfl⟩ | exact (fun h0 => by cases h0) | exact ⟨rfl, by omega⟩ | exact ⟨Nat.succ_ne_zero _, rfl⟩ | omega) | refine a_condF rfl ?_ | (refine o_call [] [1] [1, 60] rfl k1 ⟨sle_own, True.intro⟩ rfl ⟨HOLe.refl _, True.intro⟩ rfl rfl ?_; rintro _ _ ⟨bi, rfl, rfl⟩; refine ⟨_, rfl, rfl, ?_⟩) | (refine o_call [] [1, 60] [1, 60, 61] rfl (k2 _) ⟨SLe.of_eq rfl, True.intro⟩ rfl ⟨HOLe.refl _, HOLe.refl _, True.intro⟩ rfl rfl ?_; rintro _ _ ⟨vS, rfl, rfl⟩; refine ⟨_, rfl, rfl, ?_⟩))
  all_goals
    refine end_all [61] [(0, _), (1, _), (2, _)] (.sl 1 (S.map AV.s)) rfl ?_ ?_ (rle_one (CLe.fz (.head _)) rfl) (HLe.cons 0 rfl (HOLe.refl _) (HLe.cons 1 rfl (HOLe.refl _) (HLe.cons 2 rfl (HOLe.refl _) .nil))) ⟨rfl, rfl⟩ _ (.inl rfl)
    · repeat' (first | exact True.intro | exact rfl | refine ⟨?_, ?_⟩)
    · exact ⟨trivial, trivial⟩
end Go.Proofs.Ytfdcopbbnmialaa
set_option maxHeartbeats 4000000
namespace Go.Proofs.Ytfdcopbbnmialaa
open Go Go.RowKit
/-- The last digits of a number, the first of them first. -/
def digT : Nat → Nat → List UInt8
  | 0, _ => []
  | k + 1, n => UInt8.ofNat (48 + n / 10 ^ k % 10) :: digT k n
def logP : List UInt8 := [108, 111, 103, 45]
def nameN (n : Nat) : List UInt8 := logP ++ digT 10 n
def numL : List UInt8 → Nat → Option Nat
  | [], n => some n
  | c :: r, n => if c.toNat < 48 ∨ 57 < c.toNat then none else numL r (10 * n + (c.toNat - 48))
def numN (s : List UInt8) : Option Nat := if s.take 4 = logP ∧ (s.drop 4).length = 10 then numL (s.drop 4) 0 else none
theorem digT_len : ∀ k n, (digT k n).length = k
  | 0, _ => rfl
  | k + 1, n => by unfold digT; rw [List.length_cons, digT_len k n]
theorem nameN_len (n : Nat) : (nameN n).length = 14 := by unfold nameN; rw [List.length_append, digT_len]; rfl
theorem div_mod_ten (n : Nat) : ∀ k, n % 10 ^ (k + 1) = n / 10 ^ k % 10 * 10 ^ k + n % 10 ^ k := fun k => by
  rw [Nat.pow_succ, Nat.mod_mul, Nat.mul_comm (10 ^ k), Nat.add_comm]
theorem dig_toNat (x : Nat) : (UInt8.ofNat (48 + x % 10)).toNat = 48 + x % 10 := by
  rw [UInt8.toNat_ofNat']
  exact Nat.mod_eq_of_lt (by have := Nat.mod_lt x (show 0 < 10 by decide); omega)
theorem numL_digT : ∀ (k n a : Nat), numL (digT k n) a = some (a * 10 ^ k + n % 10 ^ k)
  | 0, n, a => by unfold digT numL; simp [Nat.mod_one]
  | k + 1, n, a => by
    have h1 := dig_toNat (n / 10 ^ k)
    have h2 := Nat.mod_lt (n / 10 ^ k) (show 0 < 10 by decide)
    unfold digT numL
    rw [if_neg (by rw [h1]; omega), numL_digT k n, div_mod_ten n k, h1, Nat.add_sub_cancel_left, Nat.pow_succ, Nat.add_mul, Nat.mul_comm 10 a, Nat.mul_assoc, Nat.mul_comm 10]
    rw [Nat.add_assoc]
theorem num_name {n : Nat} (h : n < 10000000000) : numN (nameN n) = some n := by
  unfold numN nameN
  have h1 : (logP ++ digT 10 n).take 4 = logP := List.take_left (l₁ := logP)
  have h2 : (logP ++ digT 10 n).drop 4 = digT 10 n := List.drop_left (l₁ := logP)
  rw [h1, h2, if_pos ⟨rfl, digT_len 10 n⟩, numL_digT, Nat.mod_eq_of_lt (by exact h)]
  simp
theorem digT_mod : ∀ (k n j : Nat), k ≤ j → digT k (n % 10 ^ j) = digT k n
  | 0, _, _, _ => rfl
  | k + 1, n, j, h => by
    unfold digT
    rw [digT_mod k n j (by omega)]
    congr 3
    obtain ⟨i, rfl⟩ : ∃ i, j = k + 1 + i := ⟨j - (k + 1), by omega⟩
    rw [show (10 : Nat) ^ (k + 1 + i) = 10 ^ k * (10 * 10 ^ i) by rw [Nat.pow_add, Nat.pow_succ, Nat.mul_assoc], Nat.mod_mul_right_div_self, Nat.mod_mul_right_mod]
theorem digT_numL : ∀ (r : List UInt8) (a m : Nat), numL r a = some m → ∃ v, v < 10 ^ r.length ∧ m = a * 10 ^ r.length + v ∧ digT r.length v = r
  | [], a, m, h => by
    unfold numL at h
    cases h
    exact ⟨0, by decide, by simp, rfl⟩
  | c :: r, a, m, h => by
    unfold numL at h
    split at h
    · cases h
    · next hc =>
      obtain ⟨v, hv, hm, hd⟩ := digT_numL r _ m h
      have hp : 0 < 10 ^ r.length := Nat.pow_pos (by decide)
      have hq : (c.toNat - 48) * 10 ^ r.length + v < 10 ^ (r.length + 1) := by
        rw [Nat.pow_succ]
        have : (c.toNat - 48) * 10 ^ r.length ≤ 9 * 10 ^ r.length := Nat.mul_le_mul_right _ (by omega)
        omega
      refine ⟨(c.toNat - 48) * 10 ^ r.length + v, hq, ?_, ?_⟩
      · rw [hm, List.length_cons, Nat.pow_succ, Nat.add_mul, Nat.mul_comm (10 ^ r.length) 10, ← Nat.mul_assoc, Nat.mul_comm a 10]; omega
      · rw [List.length_cons]
        unfold digT
        have h1 : ((c.toNat - 48) * 10 ^ r.length + v) / 10 ^ r.length = c.toNat - 48 := by
          rw [Nat.mul_comm, Nat.mul_add_div hp, Nat.div_eq_of_lt hv, Nat.add_zero]
        have h2 : digT r.length ((c.toNat - 48) * 10 ^ r.length + v) = r := by
          rw [← digT_mod r.length _ r.length (Nat.le_refl _), Nat.mul_add_mod_self_right, Nat.mod_eq_of_lt hv, hd]
        rw [h1, h2, Nat.mod_eq_of_lt (show c.toNat - 48 < 10 by omega), show 48 + (c.toNat - 48) = c.toNat by omega, UInt8.ofNat_toNat]
theorem name_num {s : List UInt8} {m : Nat} (h : numN s = some m) : nameN m = s ∧ m < 10000000000 := by
  unfold numN at h
  split at h
  · next hc =>
    obtain ⟨v, hv, hm, hd⟩ := digT_numL _ _ _ h
    rw [hc.2] at hv hm hd
    have hmv : m = v := by rw [hm]; omega
    subst hmv
    refine ⟨?_, hv⟩
    unfold nameN
    rw [hd, ← hc.1, List.take_append_drop]
  · cases h
theorem digT_zero : ∀ (k j n : Nat), n < 10 ^ j → j ≤ k → digT k n = List.replicate (k - j) 48 ++ digT j n
  | 0, j, n, _, h => by
    have : j = 0 := by omega
    subst this; rfl
  | k + 1, j, n, h, hj => by
    by_cases hk : j = k + 1
    · subst hk; rw [Nat.sub_self]; rfl
    · have h0 : n / 10 ^ k = 0 := Nat.div_eq_of_lt (Nat.lt_of_lt_of_le h (Nat.pow_le_pow_right (by decide) (by omega)))
      unfold digT
      rw [h0, digT_zero k j n h (by omega), show k + 1 - j = (k - j) + 1 by omega, List.replicate_succ]
      cases j <;> rfl
theorem digT_lt : ∀ (k n m : Nat), n < m → m < 10 ^ k → digT k n < digT k m
  | 0, n, m, h, hm => by exfalso; rw [Nat.pow_zero] at hm; omega
  | k + 1, n, m, h, hm => by
    have hp : 0 < 10 ^ k := Nat.pow_pos (by decide)
    have hm1 : m / 10 ^ k < 10 := by rw [Nat.div_lt_iff_lt_mul hp, Nat.mul_comm]; exact hm
    have hle : n / 10 ^ k ≤ m / 10 ^ k := Nat.div_le_div_right (Nat.le_of_lt h)
    unfold digT
    rcases Nat.lt_or_eq_of_le hle with hlt | heq
    · refine List.Lex.rel ?_
      rw [UInt8.lt_iff_toNat_lt, dig_toNat, dig_toNat, Nat.mod_eq_of_lt hm1, Nat.mod_eq_of_lt (by omega)]
      omega
    · rw [heq]
      refine List.Lex.cons ?_
      have h1 := Nat.div_add_mod n (10 ^ k)
      have h2 := Nat.div_add_mod m (10 ^ k)
      rw [heq] at h1
      have := digT_lt k (n % 10 ^ k) (m % 10 ^ k) (by omega) (Nat.mod_lt _ hp)
      rw [digT_mod k n k (Nat.le_refl _), digT_mod k m k (Nat.le_refl _)] at this
      exact this
theorem nameN_lt {n m : Nat} (h : n < m) (hm : m < 10000000000) : nameN n < nameN m := by
  unfold nameN logP
  exact List.Lex.cons (List.Lex.cons (List.Lex.cons (List.Lex.cons (digT_lt 10 n m h hm))))
/-- The numbers of the segments among names. -/
def segN (l : List (List UInt8)) : List Nat := l.filterMap numN
theorem seg_names : ∀ (l : List Nat), (∀ n ∈ l, n < 10000000000) → segN (l.map nameN) = l
  | [], _ => rfl
  | n :: r, h => by
    unfold segN
    rw [List.map_cons, List.filterMap_cons, num_name (h n (List.mem_cons_self ..))]
    exact congrArg _ (seg_names r (fun x hx => h x (List.mem_cons_of_mem _ hx)))
end Go.Proofs.Ytfdcopbbnmialaa
