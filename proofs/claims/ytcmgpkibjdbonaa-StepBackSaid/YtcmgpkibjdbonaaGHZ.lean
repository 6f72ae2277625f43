/- The tree of the parts that Cover tells and of leaves at its labels is the tree of the other leaves and of these. No program in sight. -/
import Derived.Test.YtcmgpkibjdbonaaGEZ
import Derived.Test.YtcmgpkibjdbonaaG14Z
import Derived.Test.YtcmgpkibjdbonaaSL7Z
import Derived.Test.YtcmgpkibjdbonaaG7Z
import Derived.Test.YtcmgpkibjdbonaaV15Z
import Derived.Test.YtcmgpkibjdbonaaTypesZ
import Derived.Test.YtcmgpkibjdbonaaProg
import Derived.Test.YtcmgpkibjdbonaaBase2Z
import Derived.Lib.ConvBytes
import Derived.Lib.AppendStr
import Derived.Laws.IdiomStrings
import Derived.Laws.BytesArg
import Derived.Laws.BitsAllLaws
import Derived.Laws.BitsLemmas
set_option maxHeartbeats 4000000
namespace Go.Proofs.Ytcmgpkibjdbonaa
open Go Go.RowKit
theorem leaf_good {x : Lef} (hok : x.ok) (h0 : 0 ≤ x.t) (h1 : x.t ≤ 1073741824) : goodI (leafI x) = true := by
  unfold goodI
  have hg : goodP ⟨(leafI x).n, (leafI x).l⟩ = true := by
    show goodP ⟨256, x.l⟩ = true
    unfold goodP
    show (decide ((0 : Int) ≤ 256) && (decide ((256 : Int) ≤ 256) && (cutL x.l 256 == x.l))) = true
    rw [cut256 x.l hok.1, beq_self_eq_true]; rfl
  rw [hg]
  show (true && (decide (0 ≤ x.t) && decide (x.t ≤ 1073741824))) = true
  rw [decide_eq_true h0, decide_eq_true h1]; rfl
theorem good_t {x : Itm} (h : goodI x = true) : 0 ≤ x.t ∧ x.t ≤ 1073741824 := by
  unfold goodI at h
  simp only [Bool.and_eq_true, decide_eq_true_eq] at h
  exact h.2
theorem leaf_anti {x y : Lef} (hx : x.ok) (hy : y.ok) (h : x.l ≠ y.l) : Anti (leafI x) (leafI y) := by
  have h1 : comL x.l y.l < 256 := by
    rcases Nat.lt_or_ge (comL x.l y.l) 256 with h2 | h2
    · exact h2
    · exact absurd ((com_bits x.l y.l (by rw [hx.1, hy.1])).2.2.2 (by have := comL_256 (b := y.l) hx.1; rw [hx.1]; omega)) h
  exact ⟨by show ((comL x.l y.l : Nat) : Int) < 256; omega, by show ((comL x.l y.l : Nat) : Int) < 256; omega⟩
theorem joinF_t : ∀ (k : Nat) (l : List Itm), l ≠ [] → l.length ≤ k → RiseI l → (∀ x ∈ l, x.ok) → (∀ x ∈ l, 0 ≤ x.t ∧ x.t ≤ 1073741824) → 0 ≤ (joinF k l).t ∧ (joinF k l).t ≤ 1073741824
  | 0, l, hn, hl, _, _, _ => absurd (List.length_eq_zero_iff.1 (by omega)) hn
  | k + 1, l, hn, hl, hr, hok, ht => by
    have hp : 0 < l.length := List.length_pos_iff.2 hn
    unfold joinF
    by_cases h1 : l.length = 1
    · rw [if_pos h1, headD_get hp]; exact ht _ (List.getElem_mem _)
    rw [if_neg h1]
    obtain ⟨_, s1, s2, _⟩ := spl_ok hr hok (by omega)
    have a := joinF_t k _ (take_ne s1 s2) (by rw [List.length_take]; omega) (hr.sublist (List.take_sublist ..)) (fun x hx => hok x (List.mem_of_mem_take hx)) (fun x hx => ht x (List.mem_of_mem_take hx))
    have b := joinF_t k _ (drop_ne s2) (by rw [List.length_drop]; omega) (hr.sublist (List.drop_sublist ..)) (fun x hx => hok x (List.mem_of_mem_drop hx)) (fun x hx => ht x (List.mem_of_mem_drop hx))
    generalize joinF k (l.take (splI l)) = u at a ⊢
    generalize joinF k (l.drop (splI l)) = v at b ⊢
    have e : (innI u v).t = if v.t > u.t then v.t else u.t := rfl
    rw [e]
    split
    · exact b
    · exact a
theorem rise_ne {l : List Lef} (hr : RiseI (l.map leafI)) : l.Pairwise (fun a b => a.l ≠ b.l) := by
  have h : (l.map leafI).Pairwise (fun a b => cmpS a.l b.l < 0) := hr
  rw [List.pairwise_map] at h
  exact h.imp (fun {a b} hab he => by
    have hab : cmpS a.l b.l < 0 := hab
    rw [he, cmpS_eq] at hab; omega)
def notIn (ls : List (List UInt8)) (x : Lef) : Bool := !(ls.contains x.l)
theorem cover_top {S F : List Lef} {ls : List (List UInt8)} (hls : ∀ x ∈ ls, x.length = 32) (hc : chkI (S.map leafI) = 0) (hok : ∀ x ∈ S, x.ok) (hF : ∀ x ∈ F, x.ok ∧ 0 ≤ x.t ∧ x.t ≤ 1073741824 ∧ x.l ∈ ls) (hFd : F.Pairwise (fun a b => a.l ≠ b.l)) (hlen : S.length + F.length ≤ 2000) :
    chkI (srtI ((openF S.length ls S).1 ++ F.map leafI)) = 0 ∧ chkI (srtI ((S.filter (notIn ls) ++ F).map leafI)) = 0 ∧ topS (srtI ((openF S.length ls S).1 ++ F.map leafI)) = topS (srtI ((S.filter (notIn ls) ++ F).map leafI)) ∧ (openF S.length ls S).2 = S.filter (fun x => ls.contains x.l) ∧ (∀ x ∈ (openF S.length ls S).1, x.ok) ∧ RiseI (openF S.length ls S).1 := by
  obtain ⟨-, hr, hg⟩ := chkI_rise hc
  have hg1 : ∀ x ∈ S, goodI (leafI x) = true := fun x hx => hg _ (List.mem_map_of_mem hx)
  obtain ⟨c1, c2, c3, c4⟩ := cov_all ls hls S.length S (Nat.le_refl _) hr hok hg1
  have hlP := (openF_len S.length ls S).1
  rw [← openB_fst] at hlP ⊢
  generalize openB S.length ls S = r at c1 c2 c3 hlP ⊢
  have hJ : ∀ q ∈ r, q.2 ≠ [] ∧ JoinB q.1 (q.2.map leafI) := fun q hq => ⟨(c1 q hq).ne, blk_join (c1 q hq) hok⟩
  have c3 : r.flatMap (·.2) = S.filter (notIn ls) := c3
  have hU : ∀ x ∈ S.filter (notIn ls), x ∈ S ∧ x.l ∉ ls := fun x hx => ⟨(List.mem_filter.1 hx).1, fun hm => by
    have h2 := (List.mem_filter.1 hx).2
    unfold notIn at h2
    rw [List.contains_iff_mem.2 hm] at h2; cases h2⟩
  have okP : ∀ x ∈ r.map (·.1), x.ok := fun x hx => by
    obtain ⟨q, hq, rfl⟩ := List.mem_map.1 hx
    exact (hJ q hq).2.ok
  have okF : ∀ x ∈ F.map leafI, x.ok := fun x hx => by
    obtain ⟨y, hy, rfl⟩ := List.mem_map.1 hx
    exact leafI_ok y (hF y hy).1
  have ok1 : ∀ x ∈ r.map (·.1) ++ F.map leafI, x.ok := fun x hx => by
    rcases List.mem_append.1 hx with h | h
    · exact okP x h
    · exact okF x h
  have ok2 : ∀ x ∈ (S.filter (notIn ls) ++ F).map leafI, x.ok := fun x hx => by
    obtain ⟨y, hy, rfl⟩ := List.mem_map.1 hx
    rcases List.mem_append.1 hy with h | h
    · exact leafI_ok y (hok y (hU y h).1)
    · exact leafI_ok y (hF y h).1
  have gF : ∀ x ∈ F.map leafI, goodI x = true := fun x hx => by
    obtain ⟨y, hy, rfl⟩ := List.mem_map.1 hx
    exact leaf_good (hF y hy).1 (hF y hy).2.1 (hF y hy).2.2.1
  have gP : ∀ x ∈ r.map (·.1), goodI x = true := fun x hx => by
    obtain ⟨q, hq, rfl⟩ := List.mem_map.1 hx
    have hgB : ∀ b ∈ q.2.map leafI, goodI b = true := fun b hb => by
      obtain ⟨y, hy, rfl⟩ := List.mem_map.1 hb
      exact hg1 y ((c1 q hq).sub y hy)
    have hgp := (hJ q hq).2.good hgB
    have ht := joinF_t q.2.length (q.2.map leafI) (fun h => (c1 q hq).ne (List.map_eq_nil_iff.1 h)) (by rw [List.length_map]; exact Nat.le_refl _) (c1 q hq).rise (fun x hx => by
      obtain ⟨y, hy, rfl⟩ := List.mem_map.1 hx
      exact leafI_ok y (hok y ((c1 q hq).sub y hy))) (fun x hx => good_t (hgB x hx))
    rw [← (c1 q hq).eq] at ht
    unfold goodI
    rw [show goodP ⟨q.1.n, q.1.l⟩ = true from hgp, decide_eq_true ht.1, decide_eq_true ht.2]; rfl
  have a1 : (r.map (·.1) ++ F.map leafI).Pairwise Anti := by
    refine List.pairwise_append.2 ⟨?_, ?_, fun a ha b hb => ?_⟩
    · rw [List.pairwise_map]; exact c2.imp (fun h => ⟨h.1, h.2.1⟩)
    · rw [List.pairwise_map]
      exact List.Pairwise.imp_of_mem (fun {a b} ha hb h => leaf_anti (hF a ha).1 (hF b hb).1 h) hFd
    · obtain ⟨q, hq, rfl⟩ := List.mem_map.1 ha
      obtain ⟨y, hy, rfl⟩ := List.mem_map.1 hb
      have h1 := (c1 q hq).out y.l (hF y hy).2.2.2
      have h2 := (hJ q hq).2.le
      exact ⟨h1, by show ((comL q.1.l y.l : Nat) : Int) < 256; omega⟩
  have hUF : (S.filter (notIn ls) ++ F).Pairwise (fun a b => a.l ≠ b.l) := by
    refine List.pairwise_append.2 ⟨(rise_ne hr).filter _, hFd, fun a ha b hb he => ?_⟩
    exact (hU a ha).2 (he ▸ (hF b hb).2.2.2)
  have a2 : ((S.filter (notIn ls) ++ F).map leafI).Pairwise Anti := by
    rw [List.pairwise_map]
    refine List.Pairwise.imp_of_mem (fun {a b} ha hb h => leaf_anti ?_ ?_ h) hUF
    · rcases List.mem_append.1 ha with h | h
      · exact hok a (hU a h).1
      · exact (hF a h).1
    · rcases List.mem_append.1 hb with h | h
      · exact hok b (hU b h).1
      · exact (hF b h).1
  have e1 := chk_anti (l := r.map (·.1) ++ F.map leafI) (by rw [List.length_append, List.length_map (f := leafI)]; omega) (fun x hx => by
    rcases List.mem_append.1 hx with h | h
    · exact gP x h
    · exact gF x h) ok1 a1
  have e2 := chk_anti (l := (S.filter (notIn ls) ++ F).map leafI) (by
    have := List.length_filter_le (notIn ls) S
    rw [List.length_map, List.length_append]; omega) (fun x hx => by
    obtain ⟨y, hy, rfl⟩ := List.mem_map.1 hx
    rcases List.mem_append.1 hy with h | h
    · exact hg1 y (hU y h).1
    · exact gF _ (List.mem_map_of_mem h)) ok2 a2
  refine ⟨e1, e2, ?_, c4, okP, List.pairwise_map.2 (c2.imp (fun h => h.2.2.2.2))⟩
  rw [top_trJ ok1 e1, top_trJ ok2 e2]
  have ht := trJ_blocks r (F.map leafI) hJ c2 (fun q hq x hx => by
    obtain ⟨y, hy, rfl⟩ := List.mem_map.1 hx
    exact ⟨leafI_ok y (hF y hy).1, (c1 q hq).out y.l (hF y hy).2.2.2⟩) (fun q hq y hy => hok y ((c1 q hq).sub y hy))
  rw [c3, ← List.map_append] at ht
  rw [ht]
  have hnil : (r.map (·.1) ++ F.map leafI = []) ↔ ((S.filter (notIn ls) ++ F).map leafI = []) := by
    rw [List.map_append, ← c3]
    cases r with
    | nil => rfl
    | cons q r =>
      constructor
      · intro h; cases h
      · intro h
        exfalso
        have h1 := (List.append_eq_nil_iff.1 h).1
        rw [List.flatMap_cons, List.map_append] at h1
        exact (c1 q (List.mem_cons_self ..)).ne (List.map_eq_nil_iff.1 (List.append_eq_nil_iff.1 h1).1)
  by_cases hn : r.map (·.1) ++ F.map leafI = []
  · rw [if_pos hn, if_pos (hnil.1 hn)]
  · rw [if_neg hn, if_neg (fun h => hn (hnil.2 h))]
/-- What is sorted of lists that are one but for their order. -/
theorem srt_eq {a b : List Itm} (h : a.Perm b) (hc : chkI (srtI b) = 0) : srtI a = srtI b := srt_perm h (chkI_rise hc).2.1
theorem srt_id {a : List Itm} (h : RiseI a) : srtI a = a := sortS_id woI (h.imp (fun {x y} hxy => by
  show decide (cmpS y.l x.l < 0) = false
  exact decide_eq_false (fun h2 => by
    have := cmp_trans hxy h2
    rw [cmpS_eq] at this; omega)))
end Go.Proofs.Ytcmgpkibjdbonaa
set_option maxHeartbeats 16000000
set_option maxRecDepth 100000
namespace Go.Proofs.Ytcmgpkibjdbonaa
open Go Go.RowKit
/-- How many leaves of rising ones have bit n at 0. -/
def sidL (n : Nat) (l : List Lef) : Nat := if l.any (fun x => bitL x.l n == 1) = true then l.findIdx (fun x => bitL x.l n == 1) else l.length
/-- The two parts of a tree. -/
def parA (I : List Itm) : Itm := joinF (I.length - 1) (I.take (splI I))
def parB (I : List Itm) : Itm := joinF (I.length - 1) (I.drop (splI I))
theorem join_par {I : List Itm} (h2 : 2 ≤ I.length) : joinF I.length I = innI (parA I) (parB I) := by
  obtain ⟨k, hk⟩ : ∃ k, I.length = k + 1 := ⟨I.length - 1, by omega⟩
  unfold parA parB
  rw [hk]
  show (if I.length = 1 then _ else _) = _
  rw [if_neg (by omega)]; rfl
theorem par_ok {I : List Itm} (hr : RiseI I) (hok : ∀ x ∈ I, x.ok) (h2 : 2 ≤ I.length) : (parA I).ok ∧ (parB I).ok := by
  obtain ⟨_, s1, s2, _⟩ := spl_ok hr hok h2
  exact ⟨joinF_ok _ _ (take_ne s1 s2) (by rw [List.length_take]; omega) (hr.sublist (List.take_sublist ..)) (fun x hx => hok x (List.mem_of_mem_take hx)),
    joinF_ok _ _ (drop_ne s2) (by rw [List.length_drop]; omega) (hr.sublist (List.drop_sublist ..)) (fun x hx => hok x (List.mem_of_mem_drop hx))⟩
end Go.Proofs.Ytcmgpkibjdbonaa
set_option maxHeartbeats 4000000
namespace Go.Proofs.Ytcmgpkibjdbonaa
open Go Go.RowKit
def TK.isIface : TK → Bool
  | .iface => true
  | _ => false
section
variable {m : OM} {P : Program} {T : List (Nat × TI)} {C : Ctx} {ops : Array Oper} {l : List Oper} {K : St → Prop} {n : Nat} {sl : List (Nat × AV)} {hp : List (Nat × HO)} {d : Nat} {ty : Nat} {pos : String} {aft : Array Edge} {gd : Option (Nat × Bool)}
theorem not_iface {k : TK} {t sz by_ : Nat} {z : AV} (h : TOk P t ⟨k, sz, by_, z⟩) (hk : k.isIface = false) : ∃ dd, P.underlying t = some dd ∧ ∀ want, dd ≠ .interface want := by
  obtain ⟨dd, h1, h2⟩ := h.desc
  refine ⟨dd, h1, fun want he => ?_⟩
  subst he
  have h2 : TK.iface = k := h2
  subst h2; cases hk
theorem o_mkIface (hT : TTOk P T) (hw : gval ops ⟨n, sl, hp⟩ gd = gwant gd) {t : Nat} {x : Operand} {y : AV} {k : TK} {sz by_ : Nat} {z : AV} (hx : ev ⟨n, sl, hp⟩ x = y) (hv : y.isVal = true) (ht : tget T t = some ⟨k, sz, by_, z⟩) (hk : k.isIface = false) (hd : Nat.blt d n = true)
    (h : Ops m P C ops l ⟨n, (d, .ifc t y) :: sl, hp⟩ K) : Ops m P C ops (⟨some d, .makeInterface t x, ty, pos, aft, gd⟩ :: l) ⟨n, sl, hp⟩ K := by
  refine Ops.by (d := some d) hw none okc_none hd rfl (fun a w hs => ?_) h
  have E := ev_rep hs x
  rw [hx] at E
  obtain ⟨cs, h1, h2⟩ := repV_cells hv E
  refine ⟨.iface t (ofCells y cs), ⟨_, ⟨cs, rfl, h1⟩, rfl⟩, fun w' _ => ?_⟩
  obtain ⟨dd, hu, hn⟩ := not_iface (tget_ok hT ht) hk
  simp only [execOp, Instr.makeInterface, Sem.run_bind, run_underlying hu, Result.andThen_ok, h2]
  cases dd <;> first | rfl | exact absurd rfl (hn _)
theorem o_assertT (hT : TTOk P T) (hw : gval ops ⟨n, sl, hp⟩ gd = gwant gd) {xt t : Nat} {x : Operand} {y : AV} {k : TK} {sz by_ : Nat} {z : AV} (hx : ev ⟨n, sl, hp⟩ x = .ifc t y) (_hv : y.isVal = true) (ht : tget T t = some ⟨k, sz, by_, z⟩) (hk : k.isIface = false) (hd : Nat.blt d n = true)
    (h : Ops m P C ops l ⟨n, (d, .tup [y, .b true]) :: sl, hp⟩ K) : Ops m P C ops (⟨some d, .typeAssert x xt t true, ty, pos, aft, gd⟩ :: l) ⟨n, sl, hp⟩ K := by
  refine Ops.by (d := some d) hw none okc_none hd rfl (fun a w hs => ?_) h
  have E := ev_rep hs x
  rw [hx] at E
  obtain ⟨_, ⟨vs, rfl, h1⟩, h2⟩ := E
  have h2 : a.eval x = .iface t (ofCells y vs) := h2
  refine ⟨.tuple #[ofCells y vs, .bool true], ⟨[ofCells y vs, .bool true], rfl, rfl, fun i b u hb hu => ?_⟩, fun w' _ => ?_⟩
  · match i with
    | 0 => simp at hb hu; subst hb; subst hu; exact .inr ⟨vs, h1, rfl⟩
    | 1 => simp at hb hu; subst hb; subst hu; exact .inr ⟨_, rfl, rfl⟩
    | j + 2 => simp at hb
  obtain ⟨dd, hu, hn⟩ := not_iface (tget_ok hT ht) hk
  simp only [execOp, Instr.typeAssert, Sem.run_bind, run_underlying hu, Result.andThen_ok, h2]
  cases dd <;> first | (simp [Sem.run_pure]; done) | (simp; rfl) | exact absurd rfl (hn _)
theorem CLe.ifc {fr : Fr} {t : Nat} {a b : AV} (h : CLe fr a b) : CLe fr (.ifc t a) (.ifc t b) := ⟨fun w F cs hf h1 => by
  simp only [repC] at h1 ⊢
  obtain ⟨vs, rfl, h3⟩ := h1
  have h4 := h.1 w F _ hf h3
  refine ⟨vs, ?_, h4⟩
  unfold ofCells
  rw [h.2], rfl⟩
end
end Go.Proofs.Ytcmgpkibjdbonaa
set_option maxHeartbeats 8000000
set_option maxRecDepth 100000
namespace Go.Proofs.Ytcmgpkibjdbonaa
open Go Go.RowKit
def leafN (x : Lef) : AV := .ifc 29 x.A
def innN (x y : Itm) : AV := .ifc 35 (.agg [x.A, y.A])
def chkLf (x : Lef) : Int := if x.t < 0 ∨ 1073741824 < x.t then 1 else 0
def chkN (x y : Itm) : Int := if goodI x = true ∧ goodI y = true then (if x.n ≤ (comL x.l y.l : Nat) ∨ y.n ≤ (comL x.l y.l : Nat) ∨ 0 < cmpS x.l y.l then 3 else 0) else 1
theorem ncheckL_spec (x : Lef) : Spec Try.prog 104 [leafN x] [] (fun v os => v = .i .i64 (chkLf x) ∧ os = []) := by
  obtain ⟨l, u, t⟩ := x
  show Spec Try.prog 104 [.ifc 29 (.agg [labA l, labA u, .i .i64 t])] [] (fun v os => v = .i .i64 (if t < 0 ∨ 1073741824 < t then 1 else 0) ∧ os = [])
  refine spec_of TtOk [] Try.func104 rfl Try.ntmps104 (by kernel_rfl) rfl rfl (fun C => ?_) rfl
  by_cases h : t < 0 ∨ 1073741824 < t
  · rw [if_pos h]
    repeat' (first | refine Awp.seq ?_ | refine Awp.block ?_ | refine Awp.region ?_ | (refine Ops.nil ?_; show Awp _ _ _ _ _) | (refine Awp.ret ?_; show endK _ _ _ _ _) | refine o_noF rfl rfl rfl ?_ | (refine o_calm rfl TtOk rfl rfl rfl ?_ (fun _ => ?_); first | exact True.intro | exact ⟨rfl, rfl, rfl, rfl⟩ | exact ⟨rfl, True.intro⟩ | exact ⟨rfl, rfl⟩ | exact ⟨rfl, rfl, rfl⟩ | exact rfl | exact ⟨fun h0 => by cases h0, rfl⟩ | exact (fun h0 => by cases h0) | exact ⟨rfl, by omega⟩ | exact ⟨Nat.succ_ne_zero _, rfl⟩ | omega) | refine o_alloc (d := 3) rfl TtOk rfl rfl rfl (fun b3 => ?_) | refine o_store TtOk rfl rfl rfl rfl rfl rfl rfl ⟨rfl, rfl⟩ rfl rfl rfl rfl rfl ?_ | (fail_if_success (refine o_isLit rfl (by first | exact .inl rfl | exact .inr rfl) ?_)); (refine o_splitP rfl rfl (fun hc => ?_) (fun hc => ?_) <;> try (exfalso; omega)) | refine a_condT rfl ?_ | (refine a_condP rfl (fun hc => ?_) (fun hc => ?_)) <;> (try (exfalso; omega)) | (refine o_assertT TtOk rfl rfl rfl rfl rfl rfl ?_))
    all_goals exact end_tmp rfl rfl rfl [] [] (CLe.of_eq rfl) .nil ⟨rfl, rfl⟩ _ (.inl rfl)
  · rw [if_neg h]
    repeat' (first | refine Awp.seq ?_ | refine Awp.block ?_ | refine Awp.region ?_ | (refine Ops.nil ?_; show Awp _ _ _ _ _) | (refine Awp.skip ?_; show Awp _ _ _ _ _) | (refine Awp.ret ?_; show endK _ _ _ _ _) | (refine o_calm rfl TtOk rfl rfl rfl ?_ (fun _ => ?_); first | exact True.intro | exact ⟨rfl, rfl, rfl, rfl⟩ | exact ⟨rfl, True.intro⟩ | exact ⟨rfl, rfl⟩ | exact ⟨rfl, rfl, rfl⟩ | exact rfl | exact ⟨fun h0 => by cases h0, rfl⟩ | exact (fun h0 => by cases h0) | exact ⟨rfl, by omega⟩ | exact ⟨Nat.succ_ne_zero _, rfl⟩ | omega) | refine o_alloc (d := 3) rfl TtOk rfl rfl rfl (fun b3 => ?_) | refine o_store TtOk rfl rfl rfl rfl rfl rfl rfl ⟨rfl, rfl⟩ rfl rfl rfl rfl rfl ?_ | (fail_if_success (refine o_isLit rfl (by first | exact .inl rfl | exact .inr rfl) ?_)); (refine o_splitP rfl rfl (fun hc => ?_) (fun hc => ?_) <;> try (exfalso; omega)) | refine a_condT rfl ?_ | (refine a_condP rfl (fun hc => ?_) (fun hc => ?_)) <;> (try (exfalso; omega)) | (refine o_assertT TtOk rfl rfl rfl rfl rfl rfl ?_))
    all_goals exact end_tmp rfl rfl rfl [] [] (CLe.of_eq rfl) .nil ⟨rfl, rfl⟩ _ (.inl rfl)
def lef0 : Lef := ⟨List.replicate 32 0, List.replicate 32 0, 0⟩
def itm0 : Itm := ⟨0, List.replicate 32 0, List.replicate 32 0, 0⟩
def itmZ : AV := .agg [.agg [.i .i64 0, .arr 1 32 (List.replicate 32 (.i .u8 0))], .arr 1 32 (List.replicate 32 (.i .u8 0)), .i .i64 0]
end Go.Proofs.Ytcmgpkibjdbonaa
set_option maxHeartbeats 16000000
set_option maxRecDepth 100000
namespace Go.Proofs.Ytcmgpkibjdbonaa
open Go Go.RowKit
structure Prf where
  e : Int
  lf : Lef
  a : Itm
  b : Itm
  path : List Itm
def Prf.A (p : Prf) : AV := .agg [.i .i64 p.e, p.lf.A, .agg [p.a.A, p.b.A], .sl 66 (p.path.map Itm.A)]
def Prf.R (p : Prf) : AV := .agg [.i .i64 p.e, p.lf.A, p.a.R, p.b.R, .sl 66 (p.path.map Itm.R)]
structure Prf.ok (p : Prf) : Prop where
  lf : p.lf.ok
  a : p.a.ok
  b : p.b.ok
  path : ∀ x ∈ p.path, x.ok
def itmY : AV := .agg [.agg [.i .i64 0, .arr 1 32 (List.replicate 32 (.i .u8 0))], .arr 1 32 (List.replicate 32 (.i .u8 0)), .i .i64 0]
def prf0 : Prf := ⟨0, lef0, itm0, itm0, []⟩
/-- The way towards a label, in rising leaves. -/
def wayF : Nat → List Lef → List UInt8 → List Itm → Prf
  | 0, _, _, p => ⟨0, lef0, itm0, itm0, p.reverse⟩
  | k + 1, l, lb, p => if l = [] then ⟨0, lef0, itm0, itm0, p.reverse⟩ else if l.length = 1 then ⟨1, l.headD lef0, itm0, itm0, p.reverse⟩
    else if hasP (joinF l.length (l.map leafI)).p lb = false then ⟨2, lef0, parA (l.map leafI), parB (l.map leafI), p.reverse⟩
    else if bitL lb (frkI (l.map leafI)) = 1 then wayF k (l.drop (splI (l.map leafI))) lb (p ++ [parA (l.map leafI)]) else wayF k (l.take (splI (l.map leafI))) lb (p ++ [parB (l.map leafI)])
def mkE (l : List Lef) : Int := chkI (itmsL l)
def mkP (l : List Lef) (lb : List UInt8) : Prf := if mkE l ≠ 0 then prf0 else wayF (l.length + 1) (srtL l) lb []
theorem hok_map {l : List Lef} (hok : ∀ x ∈ l, x.ok) : ∀ x ∈ l.map leafI, x.ok := fun x hx => by
  obtain ⟨y, hy, rfl⟩ := List.mem_map.1 hx
  exact leafI_ok y (hok y hy)
end Go.Proofs.Ytcmgpkibjdbonaa
set_option maxHeartbeats 16000000
set_option maxRecDepth 100000
namespace Go.Proofs.Ytcmgpkibjdbonaa
open Go Go.RowKit
/-- Bit m of a label; none beyond its end. -/
def bitN (l : List UInt8) (m : Nat) : Nat := if m < 256 then bitL l m else 0
/-- The node of an item on the way and the one beside it. -/
def upL (x y : Itm) : Itm := if 0 < cmpS x.l y.l then y else x
def upR (x y : Itm) : Itm := if 0 < cmpS x.l y.l then x else y
def upE (x y : Itm) (lb : List UInt8) : Int := if chkN (upL x y) (upR x y) ≠ 0 then chkN (upL x y) (upR x y) else if hasP (innI (upL x y) (upR x y)).p lb = true ∧ bitN lb (comL (upL x y).l (upR x y).l) = bitN x.l (comL (upL x y).l (upR x y).l) then 0 else 11
end Go.Proofs.Ytcmgpkibjdbonaa
set_option maxHeartbeats 4000000
namespace Go.Proofs.Ytcmgpkibjdbonaa
open Go Go.RowKit

/-- What a Reader holds. -/
structure RS where
  s : List UInt8
  p : Nat
  e : Int
def RS.ok (r : RS) : Prop := r.p ≤ r.s.length ∧ r.s.length ≤ 9223372036854775807
def rdA (r : RS) : AV := .agg [.s r.s, .i .i64 r.p, .i .i64 r.e]
def RS.take (r : RS) (n : Nat) : List UInt8 × RS :=
  if r.e ≠ 0 then ([], r) else if r.s.length - r.p < n then ([], ⟨r.s, r.p, 5⟩) else ((r.s.drop r.p).take n, ⟨r.s, r.p + n, 0⟩)
def RS.fail (r : RS) (x : Int) : RS := if r.e = 0 then ⟨r.s, r.p, x⟩ else r
theorem rfail_spec (b : Nat) (x : Int) (r : RS) : Spec Try.prog 161 [.ptr 0 b [] 0, .i .i64 x] [.var b (rdA r)] (fun v os => v = .tup [] ∧ os = [.var b (rdA (r.fail x))]) := by
  refine spec_of TtOk [(0, .var b (rdA r))] Try.func161 rfl Try.ntmps161 (by kernel_rfl) rfl rfl (fun C => ?_) rfl
  repeat' (first | refine Awp.seq ?_ | refine Awp.region ?_ | (refine Ops.nil ?_; show Awp _ _ _ _ _) | (refine Ops.nil ?_; show endK _ _ _ _ _) | (refine Awp.skip ?_; show endK _ _ _ _ _) | (refine o_calm rfl TtOk rfl rfl rfl ?_ (fun _ => ?_); first | exact True.intro | exact ⟨rfl, rfl, rfl, rfl⟩ | exact ⟨rfl, True.intro⟩ | exact ⟨rfl, rfl⟩ | exact ⟨rfl, rfl, rfl⟩ | exact rfl | exact ⟨fun h0 => by cases h0, rfl⟩ | exact (fun h0 => by cases h0) | exact ⟨rfl, by omega⟩ | exact ⟨Nat.succ_ne_zero _, rfl⟩ | omega) | refine o_store TtOk rfl rfl rfl rfl rfl rfl rfl ⟨rfl, rfl⟩ rfl rfl rfl rfl rfl ?_ | (refine a_condP rfl (fun hc => ?_) (fun hc => ?_)) <;> (try (exfalso; omega)))
  · refine end_none rfl [] _ (HLe.same (k := 0) rfl (HOLe.refl _) .nil) ⟨rfl, ?_⟩ _ (by first | exact .inl rfl | exact .inr rfl)
    unfold RS.fail; rw [if_pos hc]; rfl
  · refine end_none rfl [] _ (HLe.same (k := 0) rfl (HOLe.refl _) .nil) ⟨rfl, ?_⟩ _ (by first | exact .inl rfl | exact .inr rfl)
    unfold RS.fail; rw [if_neg hc]; rfl
theorem rtake_spec (b : Nat) (n : Nat) (r : RS) (hok : r.ok) : Spec Try.prog 162 [.ptr 0 b [] 0, .i .i64 n] [.var b (rdA r)] (fun v os => v = .s (r.take n).1 ∧ os = [.var b (rdA (r.take n).2)]) := by
  obtain ⟨h1, h2⟩ := hok
  refine spec_of TtOk [(0, .var b (rdA r))] Try.func162 rfl Try.ntmps162 (by kernel_rfl) rfl rfl (fun C => ?_) rfl
  repeat' (first | refine Awp.seq ?_ | refine Awp.region ?_ | (refine Ops.nil ?_; show Awp _ _ _ _ _) | (refine Awp.skip ?_; show Awp _ _ _ _ _) | (refine Awp.ret ?_; show endK _ _ _ _ _) | refine o_offT rfl rfl rfl (by first | exact .inl rfl | exact .inr rfl) ?_ | (refine o_add rfl rfl rfl rfl ?_ ?_; omega) | (refine o_sub rfl rfl rfl rfl ?_ ?_; omega) | (refine o_calm rfl TtOk rfl rfl rfl ?_ (fun _ => ?_); first | exact True.intro | exact ⟨rfl, rfl, rfl, rfl⟩ | exact ⟨rfl, True.intro⟩ | exact ⟨rfl, rfl⟩ | exact ⟨rfl, rfl, rfl⟩ | exact rfl | exact ⟨fun h0 => by cases h0, rfl⟩ | exact (fun h0 => by cases h0) | exact ⟨rfl, by omega⟩ | exact ⟨Nat.succ_ne_zero _, rfl⟩ | omega) | refine o_store TtOk rfl rfl rfl rfl rfl rfl rfl ⟨rfl, rfl⟩ rfl rfl rfl rfl rfl ?_ | (fail_if_success (refine o_isLit rfl (by first | exact .inl rfl | exact .inr rfl) ?_)); (refine o_splitP rfl rfl (fun hc => ?_) (fun hc => ?_) <;> try (exfalso; omega)) | refine a_condT rfl ?_ | refine a_condF rfl ?_ | (refine a_condP rfl (fun hc => ?_) (fun hc => ?_)) <;> (try (exfalso; omega)) | (refine a_condN rfl (fun hc => ?_) (fun hc => ?_)) <;> (try (exfalso; omega)) | refine a_any 1 [] [] [] [0, 1, 2, 3, 4, 5, 6, 7, 8, 9, 12, 13, 14, 10, 11, 15, 16, 17, 18] (by kernel_rfl) (by kernel_rfl) (by kernel_rfl) rfl rfl rfl ?_ | refine a_any 6 [] [] [] [0, 1, 2, 4, 5, 6, 8, 10, 11, 12, 3, 7, 9, 13, 14, 15] (by kernel_rfl) (by kernel_rfl) (by kernel_rfl) rfl rfl rfl ?_)
  · have ht : r.take n = ([], ⟨r.s, r.p, 5⟩) := by unfold RS.take; rw [if_neg (by omega), if_pos (by omega)]
    refine end_tmp rfl rfl rfl [] [(0, _)] (CLe.of_eq (by rw [ht]; rfl)) (HLe.same rfl (HOLe.refl _) .nil) ⟨rfl, by rw [ht]; rfl⟩ _ (.inl rfl)
  · refine o_sliceStr TtOk rfl r.p (r.p + n) rfl rfl rfl (bnd_some rfl (by omega)) (bnd_some rfl (by omega)) (by omega) (by omega) ?_
    repeat' (first | (refine Ops.nil ?_; show Awp _ _ _ _ _) | (refine Awp.ret ?_; show endK _ _ _ _ _) | (refine o_calm rfl TtOk rfl rfl rfl ?_ (fun _ => ?_); first | exact True.intro | exact ⟨rfl, rfl, rfl, rfl⟩ | exact ⟨rfl, True.intro⟩ | exact ⟨rfl, rfl⟩ | exact ⟨rfl, rfl, rfl⟩ | exact rfl | exact ⟨fun h0 => by cases h0, rfl⟩ | exact (fun h0 => by cases h0) | exact ⟨rfl, by omega⟩ | exact ⟨Nat.succ_ne_zero _, rfl⟩ | omega))
    have ht : r.take n = ((r.s.drop r.p).take n, ⟨r.s, r.p + n, 0⟩) := by unfold RS.take; rw [if_neg (by omega), if_neg (by omega)]
    refine end_tmp rfl rfl rfl [] [(0, _)] (CLe.of_eq ?_) (HLe.same rfl (HOLe.refl _) .nil) ⟨rfl, ?_⟩ _ (.inl rfl)
    · rw [ht]; show AV.s ((r.s.take (r.p+n)).drop r.p) = AV.s ((r.s.drop r.p).take n); rw [List.drop_take, Nat.add_sub_cancel_left]
    · rw [ht]; show [HO.var b (.agg [.s r.s, .i .i64 (r.p + n), .i .i64 r.e])] = [HO.var b (.agg [.s r.s, .i .i64 ((r.p + n : Nat) : Int), .i .i64 0])]; rw [Int.natCast_add, hc]
  · have ht : r.take n = ([], r) := by unfold RS.take; rw [if_pos hc]
    refine end_tmp rfl rfl rfl [] [(0, _)] (CLe.of_eq (by rw [ht]; rfl)) (HLe.same rfl (HOLe.refl _) .nil) ⟨rfl, by rw [ht]; rfl⟩ _ (.inl rfl)
theorem RS.ok_take {r : RS} (h : r.ok) (n : Nat) : (r.take n).2.ok := by
  unfold RS.take; split
  · exact h
  · split
    · exact h
    · exact ⟨by show r.p + n ≤ r.s.length; have := h.1; omega, h.2⟩
theorem RS.ok_fail {r : RS} (h : r.ok) (x : Int) : (r.fail x).ok := by unfold RS.fail; split <;> exact h
end Go.Proofs.Ytcmgpkibjdbonaa
namespace Go.Proofs.Ytcmgpkibjdbonaa
open Go.RowKit

def byC (c : UInt8) : List Value := [.int .u8 (c.toNat : Int)]
theorem ofInt_i64 (a : Nat) (ha : a < 9223372036854775808) : (BitVec.ofInt 64 (a : Int)).toNat = a := by
  rw [BitVec.ofInt_natCast, BitVec.toNat_ofNat]; exact Nat.mod_eq_of_lt (by omega)
theorem i64_or_nat (a b : Nat) (ha : a < 9223372036854775808) (hb : b < 9223372036854775808) : bits .or .i64 (a : Int) (b : Int) = ((a ||| b : Nat) : Int) := by
  have hx : a ||| b < 2 ^ 63 := Nat.or_lt_two_pow (by omega) (by omega)
  show IntKind.i64.wrap ((BitVec.ofInt 64 (a : Int) ||| BitVec.ofInt 64 (b : Int)).toNat : Int) = _
  rw [BitVec.toNat_or, ofInt_i64 a ha, ofInt_i64 b hb, IntKind.wrap_i64]
  omega
/-- 'n<<8 | c'. -/
theorem or_byte (x c : Nat) (hc : c < 256) (hx : 256 * x + c < 9223372036854775808) : bits .or .i64 ((x : Int) * 256) (c : Int) = ((256 * x + c : Nat) : Int) := by
  have h1 : ((x : Int) * 256) = ((256 * x : Nat) : Int) := by omega
  rw [h1, i64_or_nat _ _ (by omega) (by omega), ← Nat.two_pow_add_eq_or_of_lt (i := 8) (by omega)]
end Go.Proofs.Ytcmgpkibjdbonaa
