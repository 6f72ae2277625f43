/- Two neighbours with the most in common are one node of the tree. No program in sight. -/
import Derived.Test.YtpjfhllkckdejaaG12Z
import Derived.Test.YtpjfhllkckdejaaN1
import Derived.Test.YtpjfhllkckdejaaV15Z
import Derived.Test.YtpjfhllkckdejaaTypesZ
import Derived.Test.YtpjfhllkckdejaaProg
import Derived.Test.YtpjfhllkckdejaaBase2Z
import Derived.Lib.ConvBytes
import Derived.Lib.AppendStr
import Derived.Laws.IdiomStrings
import Derived.Laws.BytesArg
import Derived.Laws.BitsAllLaws
import Derived.Laws.BitsLemmas
set_option maxHeartbeats 4000000
namespace Go.Proofs.Ytpjfhllkckdejaa
open Go Go.RowKit
structure Fst (G : List Itm) : Prop where
  ok : ∀ x ∈ G, x.ok
  good : ∀ x ∈ G, goodI x = true
  anti : G.Pairwise Anti
  rise : RiseI G
/-- The item that two neighbours are. -/
def nbC (G : List Itm) (i : Nat) : Nat := comL (G.getD i default).l (G.getD (i + 1) default).l
def mrg (G : List Itm) (i : Nat) : List Itm := G.take i ++ innI (G.getD i default) (G.getD (i + 1) default) :: G.drop (i + 2)
theorem getD_at {G : List Itm} {i : Nat} (h : i < G.length) : G.getD i default = G[i] := by rw [List.getD_eq_getElem?_getD, List.getElem?_eq_getElem h]; rfl
theorem com_ne {a b c : List UInt8} (ha : a.length = 32) (hb : b.length = 32) (hc : c.length = 32) (h : cmpS a b < 0) (k : cmpS b c < 0) : comL a b ≠ comL b c := fun he => by
  obtain ⟨_, _, h3⟩ := cmp_lt ha hb h
  obtain ⟨_, k2, _⟩ := cmp_lt hb hc k
  rw [he] at h3; rw [h3] at k2; cases k2
theorem com_mono2 {a b c : List UInt8} (ha : a.length = 32) (hb : b.length = 32) (hc : c.length = 32) (h : cmpS a b < 0) (k : cmpS b c < 0) : comL a c ≤ comL b c :=
  (com_ge hb hc (comL_256 ha)).2 (fun i hi => by
    rw [between ha hb hc h k i hi]
    exact (com_bits a c (by omega)).2.1 i hi)
theorem mrg_ok {G : List Itm} (hG : Fst G) (i : Nat) (hi : i + 1 < G.length) (hmax : ∀ j, j + 1 < G.length → nbC G j ≤ nbC G i) :
    Fst (mrg G i) ∧ trJ 256 0 (mrg G i) = trJ 256 0 G ∧ chkN (G[i]'(by omega)) G[i + 1] = 0 ∧ (mrg G i).length + 1 = G.length := by
  have hi0 : i < G.length := by omega
  have e0 := getD_at hi0
  have e1 := getD_at hi
  have oA := hG.ok _ (List.getElem_mem hi0)
  have oB := hG.ok _ (List.getElem_mem hi)
  have gA := hG.good _ (List.getElem_mem hi0)
  have gB := hG.good _ (List.getElem_mem hi)
  have hab := rise_lt hG.rise (show i < i + 1 by omega) hi
  have haA := List.pairwise_iff_getElem.1 hG.anti i (i + 1) hi0 hi (by omega)
  obtain ⟨c1, c2, c3⟩ := cmp_lt oA.1 oB.1 hab
  have hci : nbC G i = comL G[i].l G[i + 1].l := by unfold nbC; rw [e0, e1]
  -- those ahead, those behind
  have hbef : ∀ j (hj : j < i), comL (G[j]'(by omega)).l G[i].l < nbC G i := fun j hj => by
    have oj := hG.ok _ (List.getElem_mem (show j < G.length by omega))
    have om := hG.ok _ (List.getElem_mem (show i - 1 < G.length by omega))
    have h1 : comL (G[i - 1]'(by omega)).l G[i].l < nbC G i := by
      have hm := hmax (i - 1) (by omega)
      have e2 : nbC G (i - 1) = comL (G[i - 1]'(by omega)).l G[i].l := by
        unfold nbC
        rw [show i - 1 + 1 = i by omega, getD_at (show i - 1 < G.length by omega), e0]
      have hne := com_ne om.1 oA.1 oB.1 (rise_lt hG.rise (show i - 1 < i by omega) hi0) hab
      rw [← hci, ← e2] at hne
      rw [← e2]; omega
    rcases Nat.lt_or_ge j (i - 1) with h2 | h2
    · exact Nat.lt_of_le_of_lt (com_mono2 oj.1 om.1 oA.1 (rise_lt hG.rise h2 (by omega)) (rise_lt hG.rise (show i - 1 < i by omega) hi0)) h1
    · have : j = i - 1 := by omega
      subst this; exact h1
  have haft : ∀ j (hj : i + 1 < j) (hjl : j < G.length), comL G[i + 1].l G[j].l < nbC G i := fun j hj hjl => by
    have oj := hG.ok _ (List.getElem_mem hjl)
    have hl2 : i + 2 < G.length := by omega
    have om := hG.ok _ (List.getElem_mem hl2)
    have h1 : comL G[i + 1].l G[i + 2].l < nbC G i := by
      have hm := hmax (i + 1) (by omega)
      have e2 : nbC G (i + 1) = comL G[i + 1].l G[i + 2].l := by
        unfold nbC
        rw [e1, getD_at hl2]
      have hne := com_ne oA.1 oB.1 om.1 hab (rise_lt hG.rise (show i + 1 < i + 2 by omega) hl2)
      rw [← hci, ← e2] at hne
      rw [← e2]; omega
    rcases Nat.lt_or_ge (i + 2) j with h2 | h2
    · exact Nat.lt_of_le_of_lt (com_mono oB.1 om.1 oj.1 (rise_lt hG.rise (show i + 1 < i + 2 by omega) hl2) (rise_lt hG.rise h2 hjl)) h1
    · have : j = i + 2 := by omega
      subst this; exact h1
  have hsplit : G = G.take i ++ G[i] :: G[i + 1] :: G.drop (i + 2) := by
    rw [← List.drop_eq_getElem_cons hi, ← List.drop_eq_getElem_cons hi0]
    exact (List.take_append_drop i G).symm
  have hmr : mrg G i = G.take i ++ innI G[i] G[i + 1] :: G.drop (i + 2) := by unfold mrg; rw [e0, e1]
  have hb1 : ∀ y ∈ G.take i, y ∈ G ∧ comL y.l G[i].l < nbC G i ∧ cmpS y.l G[i].l < 0 ∧ Anti y G[i] := fun y hy => by
    obtain ⟨j, hj, rfl⟩ := List.getElem_of_mem hy
    rw [List.length_take] at hj
    have hj : j < i := by omega
    rw [List.getElem_take]
    exact ⟨List.getElem_mem _, hbef j hj, rise_lt hG.rise hj hi0, List.pairwise_iff_getElem.1 hG.anti j i (by omega) hi0 hj⟩
  have hb2 : ∀ y ∈ G.drop (i + 2), y ∈ G ∧ comL G[i + 1].l y.l < nbC G i ∧ cmpS G[i + 1].l y.l < 0 ∧ Anti G[i + 1] y := fun y hy => by
    obtain ⟨j, hj, rfl⟩ := List.getElem_of_mem hy
    rw [List.length_drop] at hj
    rw [List.getElem_drop]
    exact ⟨List.getElem_mem _, haft (i + 2 + j) (by omega) (by omega), rise_lt hG.rise (show i + 1 < i + 2 + j by omega) (by omega), List.pairwise_iff_getElem.1 hG.anti (i + 1) (i + 2 + j) hi (by omega) (by omega)⟩
  have hTk : RiseI (G.take i) := hG.rise.sublist (List.take_sublist ..)
  have hDr : RiseI (G.drop (i + 2)) := hG.rise.sublist (List.drop_sublist ..)
  have hTkA : (G.take i).Pairwise Anti := hG.anti.sublist (List.take_sublist ..)
  have hDrA : (G.drop (i + 2)).Pairwise Anti := hG.anti.sublist (List.drop_sublist ..)
  have hcrossA : ∀ a ∈ G.take i, ∀ b ∈ G.drop (i + 2), Anti a b ∧ cmpS a.l b.l < 0 := fun a ha b hb => by
    have h2 := hG.anti
    have h3 := hG.rise
    rw [hsplit] at h2 h3
    have h3 : (G.take i ++ G[i] :: G[i + 1] :: G.drop (i + 2)).Pairwise (fun a b => cmpS a.l b.l < 0) := h3
    have hm : b ∈ G[i] :: G[i + 1] :: G.drop (i + 2) := List.mem_cons_of_mem _ (List.mem_cons_of_mem _ hb)
    exact ⟨(List.pairwise_append.1 h2).2.2 a ha b hm, (List.pairwise_append.1 h3).2.2 a ha b hm⟩
  have hlen : (mrg G i).length + 1 = G.length := by rw [hmr, List.length_append, List.length_cons, List.length_take, List.length_drop]; omega
  have gmem : ∀ y ∈ G, goodI y = true := hG.good
  have omem : ∀ y ∈ G, y.ok := hG.ok
  have htA := good_t gA
  have htB := good_t gB
  clear hbef haft hmax e0 e1
  rw [hmr] at hlen ⊢
  generalize G.take i = A at *
  generalize G.drop (i + 2) = D at *
  generalize G[i] = a at *
  generalize G[i + 1] = b at *
  rw [hci] at hb1 hb2
  have hox := innI_ok a b oA
  have hxn : (innI a b).n = ((comL a.l b.l : Nat) : Int) := rfl
  have hxl : (innI a b).l = cutL a.l (comL a.l b.l) := rfl
  have hxt : (innI a b).t = if b.t > a.t then b.t else a.t := rfl
  have gx : goodI (innI a b) = true := by
    have h1 : goodP ⟨(innI a b).n, (innI a b).l⟩ = true := good_cut oA.1 (by omega)
    have h2 : 0 ≤ (innI a b).t ∧ (innI a b).t ≤ 1073741824 := by rw [hxt]; split <;> omega
    unfold goodI
    rw [h1, decide_eq_true h2.1, decide_eq_true h2.2]; rfl
  have hag := (com_bits a.l b.l (by rw [oA.1, oB.1])).2.1
  have hck : chkN a b = 0 := by
    unfold chkN
    rw [if_pos ⟨gA, gB⟩, if_neg]
    rintro (h | h | h)
    · have := haA.1; omega
    · have := haA.2; omega
    · omega
  have hxa : ∀ k, k < comL a.l b.l → bitL (innI a b).l k = bitL a.l k := fun k hk => by rw [hxl, cut_bit _ oA.1 _ _ (by omega), if_pos hk]
  have hjn : joinF [a, b].length [a, b] = innI a b := by
    have hr2 : RiseI [a, b] := List.pairwise_cons.2 ⟨fun y hy => by rw [List.mem_singleton.1 hy]; exact hab, List.pairwise_singleton _ _⟩
    obtain ⟨_, s1, s2, _⟩ := spl_ok hr2 (fun y hy => by
      rcases List.mem_cons.1 hy with rfl | hy
      · exact oA
      · rw [List.mem_singleton.1 hy]; exact oB) (show 2 ≤ 2 from Nat.le_refl _)
    have s2 : splI [a, b] < 2 := s2
    show (if [a, b].length = 1 then _ else innI (joinF 1 ([a, b].take (splI [a, b]))) (joinF 1 ([a, b].drop (splI [a, b])))) = _
    rw [if_neg (show ¬ [a, b].length = 1 from fun h => by simp at h), show splI [a, b] = 1 by omega]
    rfl
  have htr : ∀ f' d' : Nat, d' + f' = 256 → (d' : Int) ≤ (innI a b).n → trJ f' d' [a, b] = innI a b := fun f' d' hd hle => by
    rw [← hjn]
    refine trJ_join f' d' [a, b] (by decide : 0 < 2) hd (List.pairwise_cons.2 ⟨fun y hy => by rw [List.mem_singleton.1 hy]; exact hab, List.pairwise_singleton _ _⟩) (fun y hy => by
      rcases List.mem_cons.1 hy with rfl | hy
      · exact oA
      · rw [List.mem_singleton.1 hy]; exact oB) (fun y hy k hk => ?_)
    rcases List.mem_cons.1 hy with rfl | hy
    · rfl
    · rw [List.mem_singleton.1 hy]
      exact (hag k (by rw [hxn] at hle; omega)).symm
  have hba : ∀ y ∈ A, Anti y (innI a b) ∧ cmpS y.l (innI a b).l < 0 ∧ comL (innI a b).l y.l < comL a.l b.l := fun y hy => by
    obtain ⟨ym, y1, y2, y3⟩ := hb1 y hy
    have oy := omem y ym
    obtain ⟨_, z2, z3⟩ := cmp_lt oy.1 oA.1 y2
    have hc : comL y.l (innI a b).l = comL y.l a.l := com_is oy.1 hox.1 (by omega) (fun k hk => by
      rw [hxa k (by omega)]; exact (com_bits y.l a.l (by rw [oy.1, oA.1])).2.1 k hk) (by rw [hxa _ y1, z2, z3]; decide)
    refine ⟨⟨by rw [hc]; exact y3.1, by rw [hc, hxn]; omega⟩, lt_cmp oy.1 hox.1 (by rw [hc]; omega) (by rw [hc]; exact z2), by rw [com_comm, hc]; exact y1⟩
  have hda : ∀ y ∈ D, Anti (innI a b) y ∧ cmpS (innI a b).l y.l < 0 ∧ comL (innI a b).l y.l < comL a.l b.l := fun y hy => by
    obtain ⟨ym, y1, y2, y3⟩ := hb2 y hy
    have oy := omem y ym
    obtain ⟨_, z2, z3⟩ := cmp_lt oB.1 oy.1 y2
    have hxb : ∀ k, k < comL a.l b.l → bitL (innI a b).l k = bitL b.l k := fun k hk => by rw [hxa k hk, hag k hk]
    have hc : comL (innI a b).l y.l = comL b.l y.l := com_is hox.1 oy.1 (by omega) (fun k hk => by
      rw [hxb k (by omega)]; exact (com_bits b.l y.l (by rw [oy.1, oB.1])).2.1 k hk) (by rw [hxb _ y1, z2, z3]; decide)
    refine ⟨⟨by rw [hc, hxn]; omega, by rw [hc]; exact y3.2⟩, lt_cmp hox.1 oy.1 (by rw [hc]; omega) (by rw [hc, hxb _ y1]; exact z2), by rw [hc]; exact y1⟩
  refine ⟨⟨fun y hy => ?_, fun y hy => ?_, ?_, ?_⟩, ?_, hck, hlen⟩
  · rcases List.mem_append.1 hy with h | h
    · exact omem y (hb1 y h).1
    · rcases List.mem_cons.1 h with rfl | h
      · exact hox
      · exact omem y (hb2 y h).1
  · rcases List.mem_append.1 hy with h | h
    · exact gmem y (hb1 y h).1
    · rcases List.mem_cons.1 h with rfl | h
      · exact gx
      · exact gmem y (hb2 y h).1
  · refine List.pairwise_append.2 ⟨hTkA, List.pairwise_cons.2 ⟨fun y hy => (hda y hy).1, hDrA⟩, fun p hp q hq => ?_⟩
    rcases List.mem_cons.1 hq with rfl | hq
    · exact (hba p hp).1
    · exact (hcrossA p hp q hq).1
  · refine List.pairwise_append.2 ⟨hTk, List.pairwise_cons.2 ⟨fun y hy => (hda y hy).2.1, hDr⟩, fun p hp q hq => ?_⟩
    rcases List.mem_cons.1 hq with rfl | hq
    · exact (hba p hp).2.1
    · exact (hcrossA p hp q hq).2
  · have p1 : (A ++ innI a b :: D).Perm (innI a b :: (A ++ D)) := List.perm_middle
    have p2 : ([a, b] ++ (A ++ D)).Perm (A ++ a :: b :: D) := by
      have h1 : (A ++ a :: b :: D).Perm (a :: (A ++ b :: D)) := List.perm_middle
      have h2 : (A ++ b :: D).Perm (b :: (A ++ D)) := List.perm_middle
      exact (h1.trans (h2.cons a)).symm
    rw [trJ_perm _ _ _ _ p1, hsplit, ← trJ_perm _ _ _ _ p2]
    refine trJ_coll 256 0 (innI a b) [a, b] (A ++ D) rfl (by rw [hxn]; omega) (List.cons_ne_nil _ _) (fun y hy k hk => ?_) htr (fun y hy => ?_) (fun y _ k hk => absurd hk (Nat.not_lt_zero _)) (by rw [hxn]; omega)
    · rw [hxn] at hk
      rcases List.mem_cons.1 hy with rfl | hy
      · exact (hxa k (by omega)).symm
      · rw [List.mem_singleton.1 hy, hxa k (by omega), hag k (by omega)]
    · have hy2 : y ∈ G ∧ comL (innI a b).l y.l < comL a.l b.l := by
        rcases List.mem_append.1 hy with h | h
        · exact ⟨(hb1 y h).1, (hba y h).2.2⟩
        · exact ⟨(hb2 y h).1, (hda y h).2.2⟩
      have oy := omem y hy2.1
      refine ⟨comL (innI a b).l y.l, by rw [hxn]; omega, fun he => ?_⟩
      exact (com_bits (innI a b).l y.l (by rw [hox.1, oy.1])).2.2.1 (by rw [hox.1]; omega) he.symm
end Go.Proofs.Ytpjfhllkckdejaa
set_option maxHeartbeats 4000000
namespace Go.Proofs.Ytpjfhllkckdejaa
open Go Go.RowKit

/-- What a Reader holds. -/
structure RS where
  s : List UInt8
  p : Nat
  e : Int
def RS.ok (r : RS) : Prop := r.p ≤ r.s.length ∧ r.s.length ≤ 9223372036854775807
def rdA (r : RS) : AV := .agg [.s r.s, .i .i64 r.p, .i .i64 r.e]
def RS.take (r : RS) (n : Nat) : List UInt8 × RS :=
  if r.e ≠ 0 then ([], r) else if r.s.length - r.p < n then ([], ⟨r.s, r.p, 5⟩) else ((r.s.drop r.p).take n, ⟨r.s, r.p + n, 0⟩)
def RS.fail (r : RS) (x : Int) : RS := if r.e = 0 then ⟨r.s, r.p, x⟩ else r
theorem rfail_spec (b : Nat) (x : Int) (r : RS) : Spec Try.prog 84 [.ptr 0 b [] 0, .i .i64 x] [.var b (rdA r)] (fun v os => v = .tup [] ∧ os = [.var b (rdA (r.fail x))]) := by
  refine spec_of TtOk [(0, .var b (rdA r))] Try.func84 rfl Try.ntmps84 (by kernel_rfl) rfl rfl (fun C => ?_) rfl
  repeat' (first | refine Awp.seq ?_ | refine Awp.region ?_ | (refine Ops.nil ?_; show Awp _ _ _ _ _) | (refine Ops.nil ?_; show endK _ _ _ _ _) | (refine Awp.skip ?_; show endK _ _ _ _ _) | (refine o_calm rfl TtOk rfl rfl rfl ?_ (fun _ => ?_); first | exact True.intro | exact ⟨rfl, rfl, rfl, rfl⟩ | exact ⟨rfl, True.intro⟩ | exact ⟨rfl, rfl⟩ | exact ⟨rfl, rfl, rfl⟩ | exact rfl | exact ⟨fun h0 => by cases h0, rfl⟩ | exact (fun h0 => by cases h0) | exact ⟨rfl, by omega⟩ | exact ⟨Nat.succ_ne_zero _, rfl⟩ | omega) | refine o_store TtOk rfl rfl rfl rfl rfl rfl rfl ⟨rfl, rfl⟩ rfl rfl rfl rfl rfl ?_ | (refine a_condP rfl (fun hc => ?_) (fun hc => ?_)) <;> (try (exfalso; omega)))
  · refine end_none rfl [] _ (HLe.same (k := 0) rfl (HOLe.refl _) .nil) ⟨rfl, ?_⟩ _ (by first | exact .inl rfl | exact .inr rfl)
    unfold RS.fail; rw [if_pos hc]; rfl
  · refine end_none rfl [] _ (HLe.same (k := 0) rfl (HOLe.refl _) .nil) ⟨rfl, ?_⟩ _ (by first | exact .inl rfl | exact .inr rfl)
    unfold RS.fail; rw [if_neg hc]; rfl
theorem rtake_spec (b : Nat) (n : Nat) (r : RS) (hok : r.ok) : Spec Try.prog 83 [.ptr 0 b [] 0, .i .i64 n] [.var b (rdA r)] (fun v os => v = .s (r.take n).1 ∧ os = [.var b (rdA (r.take n).2)]) := by
  obtain ⟨h1, h2⟩ := hok
  refine spec_of TtOk [(0, .var b (rdA r))] Try.func83 rfl Try.ntmps83 (by kernel_rfl) rfl rfl (fun C => ?_) rfl
  repeat' (first | refine Awp.seq ?_ | refine Awp.region ?_ | (refine Ops.nil ?_; show Awp _ _ _ _ _) | (refine Ops.nil ?_; show Exists _) | (refine Ops.nil ?_; show endK _ _ _ _ _) | (refine Awp.skip ?_; show Awp _ _ _ _ _) | (refine Awp.skip ?_; show endK _ _ _ _ _) | (refine Awp.skip ?_; show Exists _) | (refine Awp.ret ?_; show endK _ _ _ _ _) | refine o_offT rfl rfl rfl (by first | exact .inl rfl | exact .inr rfl) ?_ | refine o_offU rfl rfl rfl (by first | exact .inl rfl | exact .inr rfl) ?_ | refine o_offF rfl rfl rfl (by first | exact .inl rfl | exact .inr rfl) ?_ | (refine o_add rfl rfl rfl rfl ?_ ?_; omega) | (refine o_sub rfl rfl rfl rfl ?_ ?_; omega) | refine o_len rfl TtOk rfl rfl rfl (fun _ => ?_) | refine o_lenOwn rfl TtOk rfl rfl rfl rfl (fun _ => ?_) | (refine o_calm rfl TtOk rfl rfl rfl ?_ (fun _ => ?_); first | exact True.intro | exact ⟨rfl, rfl, rfl, rfl⟩ | exact ⟨rfl, True.intro⟩ | exact ⟨rfl, rfl⟩ | exact ⟨rfl, rfl, rfl⟩ | exact rfl | exact ⟨fun h0 => by cases h0, rfl⟩ | exact (fun h0 => by cases h0) | exact ⟨rfl, by omega⟩ | exact ⟨Nat.succ_ne_zero _, rfl⟩ | omega) | refine o_store TtOk rfl rfl rfl rfl rfl rfl rfl ⟨rfl, rfl⟩ rfl rfl rfl rfl rfl ?_ | (refine o_calm rfl TtOk rfl rfl rfl ?_ (fun _ => ?_); (show List.length _ + List.length _ ≤ 9223372036854775807; (repeat' (first | rw [List.length_append] | rw [List.length_map] | rw [List.length_cons] | rw [List.length_nil] | rw [List.length_take] | rw [List.length_drop])) <;> omega)) | refine o_sliceCp TtOk rfl rfl rfl rfl rfl rfl ?_ | refine o_eqNil TtOk rfl rfl rfl rfl rfl ?_ | refine o_eqArr8 TtOk rfl rfl rfl rfl rfl rfl (by kernel_rfl) ?_ | (fail_if_success (refine o_isLit rfl (by first | exact .inl rfl | exact .inr rfl) ?_)); (refine o_splitP rfl rfl (fun hc => ?_) (fun hc => ?_) <;> try (exfalso; omega)) | (fail_if_success (refine o_isLit rfl (by first | exact .inl rfl | exact .inr rfl) ?_)); (refine o_splitI rfl rfl (fun hc => ?_) (fun hc => ?_) <;> try (exfalso; omega)) | (fail_if_success (refine o_isLit rfl (by first | exact .inl rfl | exact .inr rfl) ?_)); (refine o_splitN rfl rfl (fun hc => ?_) (fun hc => ?_) <;> try (exfalso; omega)) | (fail_if_success (refine o_isLit rfl (by first | exact .inl rfl | exact .inr rfl) ?_)); (refine o_split rfl rfl (fun hc => ?_) (fun hc => ?_)) | refine a_condT rfl ?_ | refine a_condF rfl ?_ | (refine a_condP rfl (fun hc => ?_) (fun hc => ?_)) <;> (try (exfalso; omega)) | (refine a_condI rfl (fun hc => ?_) (fun hc => ?_)) <;> (try (exfalso; omega)) | (refine a_condN rfl (fun hc => ?_) (fun hc => ?_)) <;> (try (exfalso; omega)) | (refine Awp.cond rfl (fun hc => ?_) (fun hc => ?_)) | refine a_any 1 [] [] [] [0, 1, 2, 3, 4, 5, 6, 7, 8, 9, 12, 13, 14, 10, 11, 15, 16, 17, 18] (by kernel_rfl) (by kernel_rfl) (by kernel_rfl) rfl rfl rfl ?_ | refine a_any 6 [] [] [] [0, 1, 2, 4, 5, 6, 8, 10, 11, 12, 3, 7, 9, 13, 14, 15] (by kernel_rfl) (by kernel_rfl) (by kernel_rfl) rfl rfl rfl ?_)
  · have ht : r.take n = ([], ⟨r.s, r.p, 5⟩) := by unfold RS.take; rw [if_neg (by omega), if_pos (by omega)]
    refine end_tmp rfl rfl rfl [] [(0, _)] (CLe.of_eq (by rw [ht]; rfl)) (HLe.same rfl (HOLe.refl _) .nil) ⟨rfl, by rw [ht]; rfl⟩ _ (.inl rfl)
  · refine o_sliceStr TtOk rfl r.p (r.p + n) rfl rfl rfl (bnd_some rfl (by omega)) (bnd_some rfl (by omega)) (by omega) (by omega) ?_
    repeat' (first | refine Awp.seq ?_ | refine Awp.region ?_ | (refine Ops.nil ?_; show Awp _ _ _ _ _) | (refine Ops.nil ?_; show Exists _) | (refine Ops.nil ?_; show endK _ _ _ _ _) | (refine Awp.skip ?_; show Awp _ _ _ _ _) | (refine Awp.skip ?_; show endK _ _ _ _ _) | (refine Awp.skip ?_; show Exists _) | (refine Awp.ret ?_; show endK _ _ _ _ _) | refine o_offT rfl rfl rfl (by first | exact .inl rfl | exact .inr rfl) ?_ | refine o_offU rfl rfl rfl (by first | exact .inl rfl | exact .inr rfl) ?_ | refine o_offF rfl rfl rfl (by first | exact .inl rfl | exact .inr rfl) ?_ | (refine o_add rfl rfl rfl rfl ?_ ?_; omega) | (refine o_sub rfl rfl rfl rfl ?_ ?_; omega) | refine o_len rfl TtOk rfl rfl rfl (fun _ => ?_) | refine o_lenOwn rfl TtOk rfl rfl rfl rfl (fun _ => ?_) | (refine o_calm rfl TtOk rfl rfl rfl ?_ (fun _ => ?_); first | exact True.intro | exact ⟨rfl, rfl, rfl, rfl⟩ | exact ⟨rfl, True.intro⟩ | exact ⟨rfl, rfl⟩ | exact ⟨rfl, rfl, rfl⟩ | exact rfl | exact ⟨fun h0 => by cases h0, rfl⟩ | exact (fun h0 => by cases h0) | exact ⟨rfl, by omega⟩ | exact ⟨Nat.succ_ne_zero _, rfl⟩ | omega) | refine o_store TtOk rfl rfl rfl rfl rfl rfl rfl ⟨rfl, rfl⟩ rfl rfl rfl rfl rfl ?_ | (refine o_calm rfl TtOk rfl rfl rfl ?_ (fun _ => ?_); (show List.length _ + List.length _ ≤ 9223372036854775807; (repeat' (first | rw [List.length_append] | rw [List.length_map] | rw [List.length_cons] | rw [List.length_nil] | rw [List.length_take] | rw [List.length_drop])) <;> omega)) | refine o_sliceCp TtOk rfl rfl rfl rfl rfl rfl ?_ | refine o_eqNil TtOk rfl rfl rfl rfl rfl ?_ | refine o_eqArr8 TtOk rfl rfl rfl rfl rfl rfl (by kernel_rfl) ?_ | (fail_if_success (refine o_isLit rfl (by first | exact .inl rfl | exact .inr rfl) ?_)); (refine o_splitP rfl rfl (fun hc => ?_) (fun hc => ?_) <;> try (exfalso; omega)) | (fail_if_success (refine o_isLit rfl (by first | exact .inl rfl | exact .inr rfl) ?_)); (refine o_splitI rfl rfl (fun hc => ?_) (fun hc => ?_) <;> try (exfalso; omega)) | (fail_if_success (refine o_isLit rfl (by first | exact .inl rfl | exact .inr rfl) ?_)); (refine o_splitN rfl rfl (fun hc => ?_) (fun hc => ?_) <;> try (exfalso; omega)) | (fail_if_success (refine o_isLit rfl (by first | exact .inl rfl | exact .inr rfl) ?_)); (refine o_split rfl rfl (fun hc => ?_) (fun hc => ?_)) | refine a_condT rfl ?_ | refine a_condF rfl ?_ | (refine a_condP rfl (fun hc => ?_) (fun hc => ?_)) <;> (try (exfalso; omega)) | (refine a_condI rfl (fun hc => ?_) (fun hc => ?_)) <;> (try (exfalso; omega)) | (refine a_condN rfl (fun hc => ?_) (fun hc => ?_)) <;> (try (exfalso; omega)) | (refine Awp.cond rfl (fun hc => ?_) (fun hc => ?_)) | refine a_any 1 [] [] [] [0, 1, 2, 3, 4, 5, 6, 7, 8, 9, 12, 13, 14, 10, 11, 15, 16, 17, 18] (by kernel_rfl) (by kernel_rfl) (by kernel_rfl) rfl rfl rfl ?_ | refine a_any 6 [] [] [] [0, 1, 2, 4, 5, 6, 8, 10, 11, 12, 3, 7, 9, 13, 14, 15] (by kernel_rfl) (by kernel_rfl) (by kernel_rfl) rfl rfl rfl ?_)
    have ht : r.take n = ((r.s.drop r.p).take n, ⟨r.s, r.p + n, 0⟩) := by unfold RS.take; rw [if_neg (by omega), if_neg (by omega)]
    refine end_tmp rfl rfl rfl [] [(0, _)] (CLe.of_eq ?_) (HLe.same rfl (HOLe.refl _) .nil) ⟨rfl, ?_⟩ _ (.inl rfl)
    · rw [ht]; show AV.s ((r.s.take (r.p+n)).drop r.p) = AV.s ((r.s.drop r.p).take n); rw [List.drop_take, Nat.add_sub_cancel_left]
    · rw [ht]; show [HO.var b (.agg [.s r.s, .i .i64 (r.p + n), .i .i64 r.e])] = [HO.var b (.agg [.s r.s, .i .i64 ((r.p + n : Nat) : Int), .i .i64 0])]; rw [Int.natCast_add, hc]
  · have ht : r.take n = ([], r) := by unfold RS.take; rw [if_pos hc]
    refine end_tmp rfl rfl rfl [] [(0, _)] (CLe.of_eq (by rw [ht]; rfl)) (HLe.same rfl (HOLe.refl _) .nil) ⟨rfl, by rw [ht]; rfl⟩ _ (.inl rfl)
theorem RS.ok_take {r : RS} (h : r.ok) (n : Nat) : (r.take n).2.ok := by
  unfold RS.take; split
  · exact h
  · split
    · exact h
    · exact ⟨by show r.p + n ≤ r.s.length; have := h.1; omega, h.2⟩
theorem RS.ok_fail {r : RS} (h : r.ok) (x : Int) : (r.fail x).ok := by unfold RS.fail; split <;> exact h
end Go.Proofs.Ytpjfhllkckdejaa
namespace Go.Proofs.Ytpjfhllkckdejaa
open Go.RowKit

def byC (c : UInt8) : List Value := [.int .u8 (c.toNat : Int)]
theorem ofInt_i64 (a : Nat) (ha : a < 9223372036854775808) : (BitVec.ofInt 64 (a : Int)).toNat = a := by
  rw [BitVec.ofInt_natCast, BitVec.toNat_ofNat]; exact Nat.mod_eq_of_lt (by omega)
theorem i64_or_nat (a b : Nat) (ha : a < 9223372036854775808) (hb : b < 9223372036854775808) : bits .or .i64 (a : Int) (b : Int) = ((a ||| b : Nat) : Int) := by
  have hx : a ||| b < 2 ^ 63 := Nat.or_lt_two_pow (by omega) (by omega)
  show IntKind.i64.wrap ((BitVec.ofInt 64 (a : Int) ||| BitVec.ofInt 64 (b : Int)).toNat : Int) = _
  rw [BitVec.toNat_or, ofInt_i64 a ha, ofInt_i64 b hb, IntKind.wrap_i64]
  omega
/-- 'n<<8 | c'. -/
theorem or_byte (x c : Nat) (hc : c < 256) (hx : 256 * x + c < 9223372036854775808) : bits .or .i64 ((x : Int) * 256) (c : Int) = ((256 * x + c : Nat) : Int) := by
  have h1 : ((x : Int) * 256) = ((256 * x : Nat) : Int) := by omega
  rw [h1, i64_or_nat _ _ (by omega) (by omega), ← Nat.two_pow_add_eq_or_of_lt (i := 8) (by omega)]
end Go.Proofs.Ytpjfhllkckdejaa
