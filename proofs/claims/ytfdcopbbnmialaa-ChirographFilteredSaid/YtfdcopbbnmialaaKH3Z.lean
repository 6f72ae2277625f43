/- bloom.Good, ref08.Good, May, Same, Of by rules. -/
import Derived.Test.YtfdcopbbnmialaaHPZ
set_option maxHeartbeats 4000000
namespace Go.Proofs.Ytfdcopbbnmialaa
open Go Go.RowKit
def goodB (p : Int) (n : Nat) : Bool := decide (1 ≤ p) && (decide (p ≤ 16) && (decide (1 ≤ n) && decide (n ≤ 65536)))
theorem goodB_iff {p : Int} {n : Nat} : goodB p n = true ↔ 1 ≤ p ∧ p ≤ 16 ∧ 1 ≤ n ∧ n ≤ 65536 := by unfold goodB; simp
theorem goodB_neg {p : Int} {n : Nat} (h : ¬ (1 ≤ p ∧ p ≤ 16 ∧ 1 ≤ n ∧ n ≤ 65536)) : goodB p n = false := by
  cases hg : goodB p n
  · rfl
  · exact absurd (goodB_iff.1 hg) h
def blA (x : Bool) : AV := .b x
def rfA (p : Int) (b : List Bool) : AV := .agg [.i .i64 p, .sl 1 (b.map blA)]
theorem good_spec (p : Int) (b : List UInt8) (hb : b.length ≤ 1000000000000) : Spec Try.prog 24 [flA p b] [] (fun v os => v = .b (goodB p (bitsOf b).length) ∧ os = []) := by
  refine spec_of TtOk [] Try.func24 rfl Try.ntmps24 (by kernel_rfl) rfl rfl (fun C => ?_) rfl
  unfold flA
  rw [bitsOf_len]
  repeat' (first | refine Awp.seq ?_ | refine Awp.region ?_ | (refine Ops.nil ?_; show Awp _ _ _ _ _) | (refine Awp.ret ?_; show endK _ _ _ _ _) | refine o_offT rfl rfl rfl (by first | exact .inl rfl | exact .inr rfl) ?_ | refine o_len rfl TtOk rfl rfl rfl (fun _ => ?_) | (refine o_calm rfl TtOk rfl rfl rfl ?_ (fun _ => ?_); first | exact True.intro | exact ⟨rfl, rfl, rfl, rfl⟩ | exact ⟨rfl, True.intro⟩ | exact ⟨rfl, rfl⟩ | exact ⟨rfl, rfl, rfl⟩ | exact rfl | exact ⟨fun h0 => by cases h0, rfl⟩ | exact (fun h0 => by cases h0) | exact ⟨rfl, by omega⟩ | exact ⟨Nat.succ_ne_zero _, rfl⟩ | omega) | refine o_box rfl rfl rfl rfl (fun bB => ?_) | (fail_if_success (refine o_isLit rfl (by first | exact .inl rfl | exact .inr rfl) ?_)); (refine o_splitP rfl rfl (fun hc => ?_) (fun hc => ?_) <;> try (exfalso; omega)))
  all_goals refine end_tmp rfl rfl rfl [] [] (CLe.of_eq ?_) .nil ⟨rfl, rfl⟩ _ (.inl rfl)
  all_goals refine congrArg AV.b ?_
  all_goals first | exact (goodB_neg (by omega)).symm | (rw [Bool.eq_iff_iff, decide_eq_true_eq, goodB_iff]; omega)
/-- What a bit of a byte says. -/
theorem bit_test (c : UInt8) (x : Nat) : (bitsI .and .u8 ((c.toNat : Int).fdiv (2 ^ (min ((x : Int) % 8).toNat (IntKind.bits .u8)))) 1) = if c.toNat.testBit (x % 8) then 1 else 0 := by
  have hc := c.toNat_lt
  have hk : min ((x : Int) % 8).toNat (IntKind.bits .u8) = x % 8 := by rw [show IntKind.bits .u8 = 8 from rfl]; omega
  have hl : c.toNat / 2 ^ (x % 8) < 256 := Nat.lt_of_le_of_lt (Nat.div_le_self _ _) hc
  rw [hk, fdiv_pow, show (1 : Int) = ((1 : Nat) : Int) from rfl, and8 hl (by decide), Nat.and_one_is_mod, Nat.testBit_eq_decide_div_mod_eq]
  have := Nat.mod_lt (c.toNat / 2 ^ (x % 8)) (show 2 > 0 by decide)
  by_cases h : c.toNat / 2 ^ (x % 8) % 2 = 1
  · rw [if_pos (by rw [decide_eq_true_eq]; exact h), h]
  · rw [if_neg (by rw [decide_eq_true_eq]; exact h)]; omega
theorem bitsOf_at (b : List UInt8) (x : Nat) (h : x / 8 < b.length) : (bitsOf b).getD x true = (b[x / 8]'h).toNat.testBit (x % 8) := by
  rw [List.getD_eq_getElem?_getD, bitsOf_get, List.getElem?_eq_getElem h]; rfl
/-- May a key be there? -/
def mayB (p : Int) (b : List Bool) (H : Nat) : Bool := !(goodB p b.length) || (placesN H p.toNat b.length).all (fun x => b.getD x true)
theorem all_take_succ {α : Type} (f : α → Bool) (l : List α) (k : Nat) (x : α) (hx : l[k]? = some x) : (l.take (k + 1)).all f = ((l.take k).all f && f x) := by
  rw [List.take_add_one, hx]; simp
theorem all_false_at {α : Type} (f : α → Bool) (l : List α) (k : Nat) (x : α) (hx : l[k]? = some x) (h : f x = false) : l.all f = false := by
  rw [List.all_eq_false]
  exact ⟨x, List.mem_of_getElem? hx, by rw [h]; decide⟩
theorem may_spec (p : Int) (b s : List UInt8) (hs : s.length ≤ 1000000000000) (hb : b.length ≤ 1000000000) : Spec Try.prog 11 [flA p b, .s s] [] (fun v os => v = .b (mayB p (bitsOf b) (hashN s)) ∧ os = []) := by
  refine spec_of TtOk [] Try.func11 rfl Try.ntmps11 (by kernel_rfl) rfl rfl (fun C => ?_) rfl
  have hgd := good_spec p b (by omega)
  have hm : mayB p (bitsOf b) (hashN s) = (!(goodB p (bitsOf b).length) || (placesN (hashN s) p.toNat (bitsOf b).length).all (fun x => (bitsOf b).getD x true)) := rfl
  cases hg : goodB p (bitsOf b).length
  · rw [hg] at hgd hm
    rw [hm]
    unfold flA at hgd ⊢
    repeat' (first | refine Awp.seq ?_ | refine Awp.region ?_ | (refine Ops.nil ?_; show Awp _ _ _ _ _) | (refine Awp.ret ?_; show endK _ _ _ _ _) | (refine o_calm rfl TtOk rfl rfl rfl ?_ (fun _ => ?_); first | exact True.intro | exact ⟨rfl, rfl, rfl, rfl⟩ | exact ⟨rfl, True.intro⟩ | exact ⟨rfl, rfl⟩ | exact ⟨rfl, rfl, rfl⟩ | exact rfl | exact ⟨fun h0 => by cases h0, rfl⟩ | exact (fun h0 => by cases h0) | exact ⟨rfl, by omega⟩ | exact ⟨Nat.succ_ne_zero _, rfl⟩ | omega) | refine o_box rfl rfl rfl rfl (fun bB => ?_) | refine a_condT rfl ?_ | (refine o_call0 rfl hgd ⟨SLe.of_eq rfl, True.intro⟩ rfl ?_; rintro _ _ ⟨rfl, rfl⟩; refine ⟨rfl, ?_⟩))
    exact end_tmp rfl rfl rfl [] [] (CLe.of_eq rfl) .nil ⟨rfl, rfl⟩ _ (.inl rfl)
  · rw [hg] at hgd hm
    rw [bitsOf_len] at hm
    rw [bitsOf_len, goodB_iff] at hg
    obtain ⟨p, rfl⟩ := Int.eq_ofNat_of_zero_le (show 0 ≤ p by omega)
    have hpl := places_spec p b s hs (by omega) (by omega) (by omega)
    rw [hm]
    unfold flA at hgd hpl ⊢
    repeat' (first | refine Awp.seq ?_ | refine Awp.block ?_ | refine Awp.region ?_ | (refine Ops.nil ?_; show Awp _ _ _ _ _) | (refine Awp.skip ?_; show Awp _ _ _ _ _) | refine o_lenOwn rfl TtOk rfl rfl rfl rfl (fun _ => ?_) | (refine o_calm rfl TtOk rfl rfl rfl ?_ (fun _ => ?_); first | exact True.intro | exact ⟨rfl, rfl, rfl, rfl⟩ | exact ⟨rfl, True.intro⟩ | exact ⟨rfl, rfl⟩ | exact ⟨rfl, rfl, rfl⟩ | exact rfl | exact ⟨fun h0 => by cases h0, rfl⟩ | exact (fun h0 => by cases h0) | exact ⟨rfl, by omega⟩ | exact ⟨Nat.succ_ne_zero _, rfl⟩ | omega) | refine o_box rfl rfl rfl rfl (fun bB => ?_) | refine a_condF rfl ?_ | (refine o_call0 rfl hgd ⟨SLe.of_eq rfl, True.intro⟩ rfl ?_; rintro _ _ ⟨rfl, rfl⟩; refine ⟨rfl, ?_⟩) | (refine o_callR rfl hpl ⟨SLe.of_eq rfl, SLe.of_eq rfl, True.intro⟩ rfl (fun vR => ?_)))
    have hps : ∀ x ∈ placesN (hashN s) p (8 * b.length), x < 8 * b.length := placesN_lt (by omega)
    have hpn := placesN_len (hashN s) p (8 * b.length)
    rw [show Int.toNat (p : Int) = p from rfl]
    generalize placesN (hashN s) p (8 * b.length) = ps at hps hpn ⊢
    refine Awp.loop (fun k : Nat => ⟨30, [(14, .i .i64 k), (13, .i .i64 ps.length), (12, .sl 1 (ps.map ptA)), (2, .ptr 2 bB [] 0)], [(2, .var bB (.agg [.i .i64 p, .sl 1 (b.map byA)]))]⟩) (fun k => k ≤ ps.length ∧ (ps.take k).all (fun x => (bitsOf b).getD x true) = true) (fun k => ps.length - k) [12] 0 ⟨Nat.zero_le _, rfl⟩ ?_ ?_
    · exact ⟨rfl, ⟨sle_i rfl, sle_i rfl, SLe.of_cle (CLe.fz (.head _)) rfl, sle_ptr, True.intro⟩, HLe.same rfl (HOLe.refl _) .nil⟩
    rintro k ⟨hk, hall⟩
    by_cases hlt : k < ps.length
    · have hx := hps _ (List.getElem_mem hlt)
      have hx8 : ps[k] / 8 < b.length := by omega
      have hbt := bit_test (b[ps[k] / 8]) ps[k]
      have hat := bitsOf_at b ps[k] hx8
      have hsu := all_take_succ (fun x => (bitsOf b).getD x true) ps k ps[k] (List.getElem?_eq_getElem hlt)
      have hfa := all_false_at (fun x => (bitsOf b).getD x true) ps k ps[k] (List.getElem?_eq_getElem hlt)
      have hz : bitsI .and .u8 ((b[ps[k] / 8].toNat : Int).fdiv (2 ^ (min ((ps[k] : Int) % 8).toNat (IntKind.bits .u8)))) 1 = 0 → (bitsOf b).getD ps[k] true = false := by
        rw [hbt, hat]; cases b[ps[k] / 8].toNat.testBit (ps[k] % 8) <;> simp
      have hnz : ¬ bitsI .and .u8 ((b[ps[k] / 8].toNat : Int).fdiv (2 ^ (min ((ps[k] : Int) % 8).toNat (IntKind.bits .u8)))) 1 = 0 → (bitsOf b).getD ps[k] true = true := by
        rw [hbt, hat]; cases b[ps[k] / 8].toNat.testBit (ps[k] % 8) <;> simp
      clear hbt hat
      repeat' (first | refine Awp.seq ?_ | refine Awp.block ?_ | refine Awp.region ?_ | (refine Ops.nil ?_; show Awp _ _ _ _ _) | (refine Ops.nil ?_; show Exists _) | (refine Awp.skip ?_; show Awp _ _ _ _ _) | (refine Awp.ret ?_; show endK _ _ _ _ _) | (refine o_add rfl rfl rfl rfl ?_ ?_; omega) | (refine o_quo rfl rfl rfl rfl ?_ ?_ ?_; omega; omega) | (refine o_rem rfl rfl rfl rfl ?_ ?_ ?_; omega; omega) | (refine o_calm rfl TtOk rfl rfl rfl ?_ (fun _ => ?_); first | exact True.intro | exact ⟨rfl, rfl, rfl, rfl⟩ | exact ⟨rfl, True.intro⟩ | exact ⟨rfl, rfl⟩ | exact ⟨rfl, rfl, rfl⟩ | exact rfl | exact ⟨fun h0 => by cases h0, rfl⟩ | exact (fun h0 => by cases h0) | exact ⟨rfl, by omega⟩ | exact ⟨Nat.succ_ne_zero _, rfl⟩ | omega) | (refine o_index rfl TtOk rfl rfl rfl rfl rfl rfl ?_ (getq_nat ?_) ?_; omega; omega) | (refine a_condP rfl (fun hc => ?_) (fun hc => ?_)) <;> (try (exfalso; omega)))
      · refine end_tmp rfl rfl rfl [] [] (CLe.of_eq ?_) .nil ⟨rfl, rfl⟩ _ (.inl rfl)
        rw [hfa (hz hc)]; rfl
      · refine ⟨k + 1, [], ⟨hlt, by rw [hsu, hall, hnz hc]; rfl⟩, by omega, ?_⟩
        refine ⟨rfl, ?_, ?_⟩ <;> repeat' (first | exact True.intro | refine sle_i ?_ | refine sle_sl ?_ | exact sle_ptr | exact HLe.nil | exact HOLe.refl _ | refine HLe.same rfl ?_ ?_ | with_reducible rfl | refine ⟨?_, ?_⟩ | fail)
        all_goals first | rfl | omega
    · have hkl : k = ps.length := by omega
      rw [hkl, List.take_length] at hall
      repeat' (first | refine Awp.seq ?_ | refine Awp.region ?_ | (refine Ops.nil ?_; show Awp _ _ _ _ _) | (refine Awp.exit ?_; show Awp _ _ _ _ _) | (refine Awp.ret ?_; show endK _ _ _ _ _) | (refine o_calm rfl TtOk rfl rfl rfl ?_ (fun _ => ?_); first | exact True.intro | exact ⟨rfl, rfl, rfl, rfl⟩ | exact ⟨rfl, True.intro⟩ | exact ⟨rfl, rfl⟩ | exact ⟨rfl, rfl, rfl⟩ | exact rfl | exact ⟨fun h0 => by cases h0, rfl⟩ | exact (fun h0 => by cases h0) | exact ⟨rfl, by omega⟩ | exact ⟨Nat.succ_ne_zero _, rfl⟩ | omega) | (refine a_condP rfl (fun hc => ?_) (fun hc => ?_)) <;> (try (exfalso; omega)))
      refine end_tmp rfl rfl rfl [] [] (CLe.of_eq ?_) .nil ⟨rfl, rfl⟩ _ (.inl rfl)
      rw [hall]; rfl
end Go.Proofs.Ytfdcopbbnmialaa
set_option maxHeartbeats 4000000
namespace Go.Proofs.Ytfdcopbbnmialaa
open Go Go.RowKit
def sameB (p q : Int) (a b : List Bool) : Bool := decide (p = q) && decide (a = b)
end Go.Proofs.Ytfdcopbbnmialaa
