/- proof.Check, Summed, Clash by rules. -/
import Derived.Test.YtcmgpkibjdbonaaGreatPF4Z
import Derived.Test.YtcmgpkibjdbonaaGreatPP2Z
set_option maxHeartbeats 16000000
set_option maxRecDepth 100000
namespace Go.Proofs.YtcmgpkibjdbonaaGreat
open Go Go.RowKit
theorem meth_lf : IsMeth Tryz.prog 46 "Item" 83 := fun v w => by kernel_rfl
theorem meth_inn : IsMeth Tryz.prog 52 "Item" 78 := fun v w => by kernel_rfl
def chkL_ (p : Prf) (top lb : List UInt8) : Lef := if chkE p top lb = 0 then (if chkB p lb = true then p.lf else lef0) else lef0
def chkO (p : Prf) (top lb : List UInt8) : Bool := if chkE p top lb = 0 then chkB p lb else false
theorem prcheck_spec (top lb : List UInt8) (p : Prf) (hp : p.ok) (hpl : p.path.length ≤ 100000) (ht : top.length = 32) (hlb : lb.length = 32) : Spec Tryz.prog 17 [labA top, labA lb, p.A] [] (fun v os => v = .tup [(chkL_ p top lb).A, .b (chkO p top lb), .i .i64 (chkE p top lb)] ∧ os = []) := by
  have hn := pnodes_spec p hp hpl lb hlb
  have hch := fun h => nds_chain (lb := lb) hp h
  obtain ⟨e, lf, a, b, path⟩ := p
  have hF : ∀ (N : List Nod) (x : Int), ndsF ⟨e, lf, a, b, path⟩ lb = (N, x) → chkE ⟨e, lf, a, b, path⟩ top lb = if x ≠ 0 then x else if nsum N = top then 0 else 11 := fun N x h => by unfold chkE; rw [h]
  have hlfA : lf.A = .agg [labA lf.l, labA lf.v, .i .i64 lf.t] := rfl
  obtain ⟨N, x, hN⟩ : ∃ N x, ndsF ⟨e, lf, a, b, path⟩ lb = (N, x) := ⟨_, _, rfl⟩
  have hE := hF N x hN
  rw [hN] at hn hch
  have hpA : Prf.A ⟨e, lf, a, b, path⟩ = .agg [.i .i64 e, .agg [labA lf.l, labA lf.v, .i .i64 lf.t], .agg [a.A, b.A], .sl 66 (path.map Itm.A)] := rfl
  rw [hpA] at hn ⊢
  unfold chkL_ chkO
  rw [hE]
  dsimp only at hn hch ⊢
  clear hF hE hN hpA
  refine spec_of TtOk [] Tryz.func17 rfl Tryz.ntmps17 (by kernel_rfl) rfl rfl (fun C => ?_) rfl
  by_cases hx : x ≠ 0
  · rw [if_pos hx, if_neg hx, if_neg hx]
    repeat' (first | refine Awp.seq ?_ | refine Awp.region ?_ | refine Ops.nil (nqA ?_) | refine Awp.ret (nqE ?_) | (refine o_calm rfl TtOk rfl rfl rfl ?_ (fun _ => ?_); exact nd) | refine o_alloc (d := 6) rfl TtOk rfl rfl rfl (fun b6 => ?_) | refine o_box (d := 3) rfl rfl rfl rfl (fun b3 => ?_) | refine o_box (d := 4) rfl rfl rfl rfl (fun b4 => ?_) | refine o_box (d := 5) rfl rfl rfl rfl (fun b5 => ?_) | refine o_store TtOk rfl rfl rfl rfl rfl rfl rfl ⟨rfl, rfl⟩ rfl rfl rfl rfl rfl ?_ | refine o_build TtOk rfl rfl rfl rfl rfl rfl nq1 ?_ | (refine a_condN rfl (fun hc => ?_) (fun hc => ?_)) <;> (try (exfalso; omega)) | refine o_callE rfl (hn) ⟨nqS, nqS, True.intro⟩ rfl ?_)
    all_goals
      refine end_all [] [] (.tup [lef0.A, .b false, .i .i64 x]) rfl ?_ ?_ (rle_tup3c (CLe.of_eq rfl) (CLe.of_eq rfl) (CLe.of_eq rfl) rfl rfl rfl) .nil ⟨rfl, rfl⟩ _ (.inl rfl)
      · exact nq1
      · exact ⟨trivial, trivial, trivial, trivial⟩
  rw [if_neg hx]
  have hx := Decidable.not_not.1 hx
  subst hx
  by_cases hN0 : N = []
  · subst hN0
    have hem := nempty_spec
    rw [show nsum [] = shaN [18] from rfl]
    generalize shaN [18] = s18 at hem ⊢
    by_cases hs : s18 = top
    · subst hs
      rw [if_pos rfl]
      have hq : (!(s18 == s18)) = false := by rw [beq_self_eq_true]; rfl
      by_cases he : e = 1
      · subst he
        by_cases hl : lf.l = lb
        · have hb : (lf.l == lb) = true := beq_iff_eq.2 hl
          have hB : chkB ⟨1, lf, a, b, path⟩ lb = true := by unfold chkB; rw [show ((⟨1, lf, a, b, path⟩ : Prf).lf.l == lb) = true from hb]; rfl
          rw [hB]
          repeat' (first | (rw [hb]) | refine Awp.seq ?_ | refine Awp.region ?_ | refine Ops.nil (nqA ?_) | refine Awp.skip (nqA ?_) | refine Awp.ret (nqE ?_) | refine o_len rfl TtOk rfl rfl rfl (fun _ => ?_) | (refine o_calm rfl TtOk rfl rfl rfl ?_ (fun _ => ?_); exact nd) | refine o_alloc (d := 6) rfl TtOk rfl rfl rfl (fun b6 => ?_) | refine o_alloc (d := 11) rfl TtOk rfl rfl rfl (fun b11 => ?_) | refine o_box (d := 3) rfl rfl rfl rfl (fun b3 => ?_) | refine o_box (d := 4) rfl rfl rfl rfl (fun b4 => ?_) | refine o_box (d := 5) rfl rfl rfl rfl (fun b5 => ?_) | refine o_store TtOk rfl rfl rfl rfl rfl rfl rfl ⟨rfl, rfl⟩ rfl rfl rfl rfl rfl ?_ | refine o_eqArr8 TtOk rfl rfl rfl rfl rfl rfl (by kernel_rfl) ?_ | refine a_condT rfl ?_ | refine a_condF rfl ?_ | (refine o_neArr8 TtOk rfl rfl rfl rfl rfl rfl (by kernel_rfl) ?_; rw [hq]) | refine o_callE rfl (hn) ⟨nqS, nqS, True.intro⟩ rfl ?_ | (refine o_call0 rfl (hem) True.intro rfl ?_; rintro _ _ ⟨rfl, rfl⟩; refine ⟨rfl, ?_⟩))
          all_goals
            refine end_all [] [] (.tup [lf.A, .b true, .i .i64 0]) rfl ?_ ?_ (rle_tup3c (CLe.of_eq rfl) (CLe.of_eq rfl) (CLe.of_eq rfl) rfl rfl rfl) .nil ⟨rfl, rfl⟩ _ (.inl rfl)
            · exact nq1
            · exact ⟨trivial, trivial, trivial, trivial⟩
        · have hb : (lf.l == lb) = false := beq_eq_false_iff_ne.2 hl
          have hB : chkB ⟨1, lf, a, b, path⟩ lb = false := by unfold chkB; rw [show ((⟨1, lf, a, b, path⟩ : Prf).lf.l == lb) = false from hb]; rfl
          rw [hB]
          repeat' (first | (rw [hb]) | refine Awp.seq ?_ | refine Awp.region ?_ | refine Ops.nil (nqA ?_) | refine Awp.skip (nqA ?_) | refine Awp.ret (nqE ?_) | refine o_len rfl TtOk rfl rfl rfl (fun _ => ?_) | (refine o_calm rfl TtOk rfl rfl rfl ?_ (fun _ => ?_); exact nd) | refine o_alloc (d := 6) rfl TtOk rfl rfl rfl (fun b6 => ?_) | refine o_alloc (d := 11) rfl TtOk rfl rfl rfl (fun b11 => ?_) | refine o_box (d := 3) rfl rfl rfl rfl (fun b3 => ?_) | refine o_box (d := 4) rfl rfl rfl rfl (fun b4 => ?_) | refine o_box (d := 5) rfl rfl rfl rfl (fun b5 => ?_) | refine o_store TtOk rfl rfl rfl rfl rfl rfl rfl ⟨rfl, rfl⟩ rfl rfl rfl rfl rfl ?_ | refine o_build TtOk rfl rfl rfl rfl rfl rfl nq1 ?_ | refine o_eqArr8 TtOk rfl rfl rfl rfl rfl rfl (by kernel_rfl) ?_ | refine a_condF rfl ?_ | (refine o_neArr8 TtOk rfl rfl rfl rfl rfl rfl (by kernel_rfl) ?_; rw [hq]) | refine o_callE rfl (hn) ⟨nqS, nqS, True.intro⟩ rfl ?_ | (refine o_call0 rfl (hem) True.intro rfl ?_; rintro _ _ ⟨rfl, rfl⟩; refine ⟨rfl, ?_⟩))
          all_goals
            refine end_all [] [] (.tup [lef0.A, .b false, .i .i64 0]) rfl ?_ ?_ (rle_tup3c (CLe.of_eq rfl) (CLe.of_eq rfl) (CLe.of_eq rfl) rfl rfl rfl) .nil ⟨rfl, rfl⟩ _ (.inl rfl)
            · exact nq1
            · exact ⟨trivial, trivial, trivial, trivial⟩
      · have hB : chkB ⟨e, lf, a, b, path⟩ lb = false := by unfold chkB; rw [show ((⟨e, lf, a, b, path⟩ : Prf).e == 1) = false from beq_eq_false_iff_ne.2 he]; rfl
        rw [hB]
        repeat' (first | refine Awp.seq ?_ | refine Awp.region ?_ | refine Ops.nil (nqA ?_) | refine Awp.skip (nqA ?_) | refine Awp.ret (nqE ?_) | refine o_noT rfl rfl rfl ?_ | refine o_len rfl TtOk rfl rfl rfl (fun _ => ?_) | (refine o_calm rfl TtOk rfl rfl rfl ?_ (fun _ => ?_); exact nd) | refine o_alloc (d := 6) rfl TtOk rfl rfl rfl (fun b6 => ?_) | refine o_alloc (d := 11) rfl TtOk rfl rfl rfl (fun b11 => ?_) | refine o_box (d := 3) rfl rfl rfl rfl (fun b3 => ?_) | refine o_box (d := 4) rfl rfl rfl rfl (fun b4 => ?_) | refine o_box (d := 5) rfl rfl rfl rfl (fun b5 => ?_) | refine o_store TtOk rfl rfl rfl rfl rfl rfl rfl ⟨rfl, rfl⟩ rfl rfl rfl rfl rfl ?_ | refine o_build TtOk rfl rfl rfl rfl rfl rfl nq1 ?_ | (fail_if_success (refine o_isLit rfl (by first | exact .inl rfl | exact .inr rfl) ?_)); (refine o_splitP rfl rfl (fun hc => ?_) (fun hc => ?_) <;> try (exfalso; omega)) | refine a_condF rfl ?_ | (refine o_neArr8 TtOk rfl rfl rfl rfl rfl rfl (by kernel_rfl) ?_; rw [hq]) | refine o_callE rfl (hn) ⟨nqS, nqS, True.intro⟩ rfl ?_ | (refine o_call0 rfl (hem) True.intro rfl ?_; rintro _ _ ⟨rfl, rfl⟩; refine ⟨rfl, ?_⟩))
        all_goals
          refine end_all [] [] (.tup [lef0.A, .b false, .i .i64 0]) rfl ?_ ?_ (rle_tup3c (CLe.of_eq rfl) (CLe.of_eq rfl) (CLe.of_eq rfl) rfl rfl rfl) .nil ⟨rfl, rfl⟩ _ (.inl rfl)
          · exact nq1
          · exact ⟨trivial, trivial, trivial, trivial⟩
    · rw [if_neg hs]
      have hq : (!(s18 == top)) = true := by rw [beq_eq_false_iff_ne.2 hs]; rfl
      repeat' (first | refine Awp.seq ?_ | refine Awp.region ?_ | refine Ops.nil (nqA ?_) | refine Awp.skip (nqA ?_) | refine Awp.ret (nqE ?_) | refine o_len rfl TtOk rfl rfl rfl (fun _ => ?_) | (refine o_calm rfl TtOk rfl rfl rfl ?_ (fun _ => ?_); exact nd) | refine o_alloc (d := 6) rfl TtOk rfl rfl rfl (fun b6 => ?_) | refine o_alloc (d := 11) rfl TtOk rfl rfl rfl (fun b11 => ?_) | refine o_box (d := 3) rfl rfl rfl rfl (fun b3 => ?_) | refine o_box (d := 4) rfl rfl rfl rfl (fun b4 => ?_) | refine o_box (d := 5) rfl rfl rfl rfl (fun b5 => ?_) | refine o_store TtOk rfl rfl rfl rfl rfl rfl rfl ⟨rfl, rfl⟩ rfl rfl rfl rfl rfl ?_ | refine o_build TtOk rfl rfl rfl rfl rfl rfl nq1 ?_ | refine a_condT rfl ?_ | refine a_condF rfl ?_ | (refine o_neArr8 TtOk rfl rfl rfl rfl rfl rfl (by kernel_rfl) ?_; rw [hq]) | refine o_callE rfl (hn) ⟨nqS, nqS, True.intro⟩ rfl ?_ | (refine o_call0 rfl (hem) True.intro rfl ?_; rintro _ _ ⟨rfl, rfl⟩; refine ⟨rfl, ?_⟩))
      all_goals
        refine end_all [] [] (.tup [lef0.A, .b false, .i .i64 11]) rfl ?_ ?_ (rle_tup3c (CLe.of_eq rfl) (CLe.of_eq rfl) (CLe.of_eq rfl) rfl rfl rfl) .nil ⟨rfl, rfl⟩ _ (.inl rfl)
        · exact nq1
        · exact ⟨trivial, trivial, trivial, trivial⟩
  · have hem := nempty_spec
    generalize shaN [18] = s18 at hem
    obtain ⟨N', n, rfl⟩ : ∃ N' n, N = N' ++ [n] := ⟨N.dropLast, N.getLast hN0, (List.dropLast_concat_getLast hN0).symm⟩
    have hg : n.gd := by
      rcases hch rfl with ⟨_, h1, _⟩ | ⟨_, h1, _⟩
      · exact absurd h1 hN0
      · rw [List.reverse_append] at h1
        exact Chain.gd h1
    have hjl : (N' ++ [n]).length - 1 < (N' ++ [n]).length := by rw [List.length_append, List.length_singleton]; omega
    have hpos : 0 < (N' ++ [n]).length := by omega
    have hgn : (N' ++ [n])[(N' ++ [n]).length - 1] = n := by simp
    have hns : nsum (N' ++ [n]) = n.itm.s := by unfold nsum; rw [List.getLast?_concat]
    rw [hns]
    clear hch hns
    have hNl : (N' ++ [n]).length = N'.length + 1 := by rw [List.length_append, List.length_singleton]
    generalize N' ++ [n] = N at *
    cases n with
    | no => exact absurd hg (fun h => h)
    | lf y =>
      have hit : Spec Tryz.prog 83 [y.A] [] (fun v os => v = .agg [pfxA (leafI y).n (leafI y).l, labA (leafI y).s, .i .i64 (leafI y).t] ∧ os = []) := litem_spec y hg.1
      have hgA : Nod.A N[N.length - 1] = .ifc 46 y.A := by rw [hgn]; rfl
      rw [show (Nod.lf y).itm = leafI y from rfl]
      generalize leafI y = z at *
      by_cases hs : z.s = top
      · subst hs
        rw [if_pos rfl]
        have hq : (!(z.s == z.s)) = false := by rw [beq_self_eq_true]; rfl
        by_cases he : e = 1
        · subst he
          by_cases hl : lf.l = lb
          · have hb : (lf.l == lb) = true := beq_iff_eq.2 hl
            have hB : chkB ⟨1, lf, a, b, path⟩ lb = true := by unfold chkB; rw [show ((⟨1, lf, a, b, path⟩ : Prf).lf.l == lb) = true from hb]; rfl
            rw [hB]
            repeat' (first | (rw [hb]) | (rw [hgA]) | refine Awp.seq ?_ | refine Awp.region ?_ | refine Ops.nil (nqA ?_) | refine Awp.skip (nqA ?_) | refine Awp.ret (nqE ?_) | (refine o_sub rfl rfl rfl rfl ?_ ?_; omega) | refine o_len rfl TtOk rfl rfl rfl (fun _ => ?_) | (refine o_calm rfl TtOk rfl rfl rfl ?_ (fun _ => ?_); exact nd) | refine o_alloc (d := 6) rfl TtOk rfl rfl rfl (fun b6 => ?_) | refine o_alloc (d := 11) rfl TtOk rfl rfl rfl (fun b11 => ?_) | refine o_box (d := 3) rfl rfl rfl rfl (fun b3 => ?_) | refine o_box (d := 4) rfl rfl rfl rfl (fun b4 => ?_) | refine o_box (d := 5) rfl rfl rfl rfl (fun b5 => ?_) | refine o_store TtOk rfl rfl rfl rfl rfl rfl rfl ⟨rfl, rfl⟩ rfl rfl rfl rfl rfl ?_ | refine o_eqArr8 TtOk rfl rfl rfl rfl rfl rfl (by kernel_rfl) ?_ | refine a_condT rfl ?_ | refine a_condF rfl ?_ | (refine a_condP rfl (fun hc => ?_) (fun hc => ?_)) <;> (try (exfalso; omega)) | (refine o_index rfl TtOk rfl rfl rfl rfl rfl rfl ?_ (getq_as (N.length-1) ?_ hjl) ?_; omega; omega) | (refine o_invoke rfl rfl meth_lf hit rfl ⟨nqS, True.intro⟩ rfl rfl ?_; rintro _ _ ⟨rfl, rfl⟩; refine ⟨rfl, ?_⟩) | (refine o_neArr8 TtOk rfl rfl rfl rfl rfl rfl (by kernel_rfl) ?_; rw [hq]) | refine o_callE rfl (hn) ⟨nqS, nqS, True.intro⟩ rfl ?_ | (refine o_call0 rfl (hem) True.intro rfl ?_; rintro _ _ ⟨rfl, rfl⟩; refine ⟨rfl, ?_⟩))
            all_goals
              refine end_all [] [] (.tup [lf.A, .b true, .i .i64 0]) rfl ?_ ?_ (rle_tup3c (CLe.of_eq rfl) (CLe.of_eq rfl) (CLe.of_eq rfl) rfl rfl rfl) .nil ⟨rfl, rfl⟩ _ (.inl rfl)
              · exact nq1
              · exact ⟨trivial, trivial, trivial, trivial⟩
          · have hb : (lf.l == lb) = false := beq_eq_false_iff_ne.2 hl
            have hB : chkB ⟨1, lf, a, b, path⟩ lb = false := by unfold chkB; rw [show ((⟨1, lf, a, b, path⟩ : Prf).lf.l == lb) = false from hb]; rfl
            rw [hB]
            repeat' (first | (rw [hb]) | (rw [hgA]) | refine Awp.seq ?_ | refine Awp.region ?_ | refine Ops.nil (nqA ?_) | refine Awp.skip (nqA ?_) | refine Awp.ret (nqE ?_) | (refine o_sub rfl rfl rfl rfl ?_ ?_; omega) | refine o_len rfl TtOk rfl rfl rfl (fun _ => ?_) | (refine o_calm rfl TtOk rfl rfl rfl ?_ (fun _ => ?_); exact nd) | refine o_alloc (d := 6) rfl TtOk rfl rfl rfl (fun b6 => ?_) | refine o_alloc (d := 11) rfl TtOk rfl rfl rfl (fun b11 => ?_) | refine o_box (d := 3) rfl rfl rfl rfl (fun b3 => ?_) | refine o_box (d := 4) rfl rfl rfl rfl (fun b4 => ?_) | refine o_box (d := 5) rfl rfl rfl rfl (fun b5 => ?_) | refine o_store TtOk rfl rfl rfl rfl rfl rfl rfl ⟨rfl, rfl⟩ rfl rfl rfl rfl rfl ?_ | refine o_build TtOk rfl rfl rfl rfl rfl rfl nq1 ?_ | refine o_eqArr8 TtOk rfl rfl rfl rfl rfl rfl (by kernel_rfl) ?_ | refine a_condF rfl ?_ | (refine a_condP rfl (fun hc => ?_) (fun hc => ?_)) <;> (try (exfalso; omega)) | (refine o_index rfl TtOk rfl rfl rfl rfl rfl rfl ?_ (getq_as (N.length-1) ?_ hjl) ?_; omega; omega) | (refine o_invoke rfl rfl meth_lf hit rfl ⟨nqS, True.intro⟩ rfl rfl ?_; rintro _ _ ⟨rfl, rfl⟩; refine ⟨rfl, ?_⟩) | (refine o_neArr8 TtOk rfl rfl rfl rfl rfl rfl (by kernel_rfl) ?_; rw [hq]) | refine o_callE rfl (hn) ⟨nqS, nqS, True.intro⟩ rfl ?_ | (refine o_call0 rfl (hem) True.intro rfl ?_; rintro _ _ ⟨rfl, rfl⟩; refine ⟨rfl, ?_⟩))
            all_goals
              refine end_all [] [] (.tup [lef0.A, .b false, .i .i64 0]) rfl ?_ ?_ (rle_tup3c (CLe.of_eq rfl) (CLe.of_eq rfl) (CLe.of_eq rfl) rfl rfl rfl) .nil ⟨rfl, rfl⟩ _ (.inl rfl)
              · exact nq1
              · exact ⟨trivial, trivial, trivial, trivial⟩
        · have hB : chkB ⟨e, lf, a, b, path⟩ lb = false := by unfold chkB; rw [show ((⟨e, lf, a, b, path⟩ : Prf).e == 1) = false from beq_eq_false_iff_ne.2 he]; rfl
          rw [hB]
          repeat' (first | (rw [hgA]) | refine Awp.seq ?_ | refine Awp.region ?_ | refine Ops.nil (nqA ?_) | refine Awp.skip (nqA ?_) | refine Awp.ret (nqE ?_) | refine o_noT rfl rfl rfl ?_ | (refine o_sub rfl rfl rfl rfl ?_ ?_; omega) | refine o_len rfl TtOk rfl rfl rfl (fun _ => ?_) | (refine o_calm rfl TtOk rfl rfl rfl ?_ (fun _ => ?_); exact nd) | refine o_alloc (d := 6) rfl TtOk rfl rfl rfl (fun b6 => ?_) | refine o_alloc (d := 11) rfl TtOk rfl rfl rfl (fun b11 => ?_) | refine o_box (d := 3) rfl rfl rfl rfl (fun b3 => ?_) | refine o_box (d := 4) rfl rfl rfl rfl (fun b4 => ?_) | refine o_box (d := 5) rfl rfl rfl rfl (fun b5 => ?_) | refine o_store TtOk rfl rfl rfl rfl rfl rfl rfl ⟨rfl, rfl⟩ rfl rfl rfl rfl rfl ?_ | refine o_build TtOk rfl rfl rfl rfl rfl rfl nq1 ?_ | (fail_if_success (refine o_isLit rfl (by first | exact .inl rfl | exact .inr rfl) ?_)); (refine o_splitP rfl rfl (fun hc => ?_) (fun hc => ?_) <;> try (exfalso; omega)) | refine a_condF rfl ?_ | (refine a_condP rfl (fun hc => ?_) (fun hc => ?_)) <;> (try (exfalso; omega)) | (refine o_index rfl TtOk rfl rfl rfl rfl rfl rfl ?_ (getq_as (N.length-1) ?_ hjl) ?_; omega; omega) | (refine o_invoke rfl rfl meth_lf hit rfl ⟨nqS, True.intro⟩ rfl rfl ?_; rintro _ _ ⟨rfl, rfl⟩; refine ⟨rfl, ?_⟩) | (refine o_neArr8 TtOk rfl rfl rfl rfl rfl rfl (by kernel_rfl) ?_; rw [hq]) | refine o_callE rfl (hn) ⟨nqS, nqS, True.intro⟩ rfl ?_ | (refine o_call0 rfl (hem) True.intro rfl ?_; rintro _ _ ⟨rfl, rfl⟩; refine ⟨rfl, ?_⟩))
          all_goals
            refine end_all [] [] (.tup [lef0.A, .b false, .i .i64 0]) rfl ?_ ?_ (rle_tup3c (CLe.of_eq rfl) (CLe.of_eq rfl) (CLe.of_eq rfl) rfl rfl rfl) .nil ⟨rfl, rfl⟩ _ (.inl rfl)
            · exact nq1
            · exact ⟨trivial, trivial, trivial, trivial⟩
      · rw [if_neg hs]
        have hq : (!(z.s == top)) = true := by rw [beq_eq_false_iff_ne.2 hs]; rfl
        repeat' (first | (rw [hgA]) | refine Awp.seq ?_ | refine Awp.region ?_ | refine Ops.nil (nqA ?_) | refine Awp.skip (nqA ?_) | refine Awp.ret (nqE ?_) | (refine o_sub rfl rfl rfl rfl ?_ ?_; omega) | refine o_len rfl TtOk rfl rfl rfl (fun _ => ?_) | (refine o_calm rfl TtOk rfl rfl rfl ?_ (fun _ => ?_); exact nd) | refine o_alloc (d := 6) rfl TtOk rfl rfl rfl (fun b6 => ?_) | refine o_alloc (d := 11) rfl TtOk rfl rfl rfl (fun b11 => ?_) | refine o_box (d := 3) rfl rfl rfl rfl (fun b3 => ?_) | refine o_box (d := 4) rfl rfl rfl rfl (fun b4 => ?_) | refine o_box (d := 5) rfl rfl rfl rfl (fun b5 => ?_) | refine o_store TtOk rfl rfl rfl rfl rfl rfl rfl ⟨rfl, rfl⟩ rfl rfl rfl rfl rfl ?_ | refine o_build TtOk rfl rfl rfl rfl rfl rfl nq1 ?_ | refine a_condT rfl ?_ | refine a_condF rfl ?_ | (refine a_condP rfl (fun hc => ?_) (fun hc => ?_)) <;> (try (exfalso; omega)) | (refine o_index rfl TtOk rfl rfl rfl rfl rfl rfl ?_ (getq_as (N.length-1) ?_ hjl) ?_; omega; omega) | (refine o_invoke rfl rfl meth_lf hit rfl ⟨nqS, True.intro⟩ rfl rfl ?_; rintro _ _ ⟨rfl, rfl⟩; refine ⟨rfl, ?_⟩) | (refine o_neArr8 TtOk rfl rfl rfl rfl rfl rfl (by kernel_rfl) ?_; rw [hq]) | refine o_callE rfl (hn) ⟨nqS, nqS, True.intro⟩ rfl ?_ | (refine o_call0 rfl (hem) True.intro rfl ?_; rintro _ _ ⟨rfl, rfl⟩; refine ⟨rfl, ?_⟩))
        all_goals
          refine end_all [] [] (.tup [lef0.A, .b false, .i .i64 11]) rfl ?_ ?_ (rle_tup3c (CLe.of_eq rfl) (CLe.of_eq rfl) (CLe.of_eq rfl) rfl rfl rfl) .nil ⟨rfl, rfl⟩ _ (.inl rfl)
          · exact nq1
          · exact ⟨trivial, trivial, trivial, trivial⟩
    | inn u v =>
      have hit : Spec Tryz.prog 78 [.agg [u.A, v.A]] [] (fun r os => r = .agg [pfxA (innI u v).n (innI u v).l, labA (innI u v).s, .i .i64 (innI u v).t] ∧ os = []) := iitem_spec u v hg.1 hg.2.1
      have hgA : Nod.A N[N.length - 1] = .ifc 52 (.agg [u.A, v.A]) := by rw [hgn]; rfl
      rw [show (Nod.inn u v).itm = innI u v from rfl]
      generalize innI u v = z at *
      by_cases hs : z.s = top
      · subst hs
        rw [if_pos rfl]
        have hq : (!(z.s == z.s)) = false := by rw [beq_self_eq_true]; rfl
        by_cases he : e = 1
        · subst he
          by_cases hl : lf.l = lb
          · have hb : (lf.l == lb) = true := beq_iff_eq.2 hl
            have hB : chkB ⟨1, lf, a, b, path⟩ lb = true := by unfold chkB; rw [show ((⟨1, lf, a, b, path⟩ : Prf).lf.l == lb) = true from hb]; rfl
            rw [hB]
            repeat' (first | (rw [hb]) | (rw [hgA]) | refine Awp.seq ?_ | refine Awp.region ?_ | refine Ops.nil (nqA ?_) | refine Awp.skip (nqA ?_) | refine Awp.ret (nqE ?_) | (refine o_sub rfl rfl rfl rfl ?_ ?_; omega) | refine o_len rfl TtOk rfl rfl rfl (fun _ => ?_) | (refine o_calm rfl TtOk rfl rfl rfl ?_ (fun _ => ?_); exact nd) | refine o_alloc (d := 6) rfl TtOk rfl rfl rfl (fun b6 => ?_) | refine o_alloc (d := 11) rfl TtOk rfl rfl rfl (fun b11 => ?_) | refine o_box (d := 3) rfl rfl rfl rfl (fun b3 => ?_) | refine o_box (d := 4) rfl rfl rfl rfl (fun b4 => ?_) | refine o_box (d := 5) rfl rfl rfl rfl (fun b5 => ?_) | refine o_store TtOk rfl rfl rfl rfl rfl rfl rfl ⟨rfl, rfl⟩ rfl rfl rfl rfl rfl ?_ | refine o_eqArr8 TtOk rfl rfl rfl rfl rfl rfl (by kernel_rfl) ?_ | refine a_condT rfl ?_ | refine a_condF rfl ?_ | (refine a_condP rfl (fun hc => ?_) (fun hc => ?_)) <;> (try (exfalso; omega)) | (refine o_index rfl TtOk rfl rfl rfl rfl rfl rfl ?_ (getq_as (N.length-1) ?_ hjl) ?_; omega; omega) | (refine o_invoke rfl rfl meth_inn hit rfl ⟨nqS, True.intro⟩ rfl rfl ?_; rintro _ _ ⟨rfl, rfl⟩; refine ⟨rfl, ?_⟩) | (refine o_neArr8 TtOk rfl rfl rfl rfl rfl rfl (by kernel_rfl) ?_; rw [hq]) | refine o_callE rfl (hn) ⟨nqS, nqS, True.intro⟩ rfl ?_ | (refine o_call0 rfl (hem) True.intro rfl ?_; rintro _ _ ⟨rfl, rfl⟩; refine ⟨rfl, ?_⟩))
            all_goals
              refine end_all [] [] (.tup [lf.A, .b true, .i .i64 0]) rfl ?_ ?_ (rle_tup3c (CLe.of_eq rfl) (CLe.of_eq rfl) (CLe.of_eq rfl) rfl rfl rfl) .nil ⟨rfl, rfl⟩ _ (.inl rfl)
              · exact nq1
              · exact ⟨trivial, trivial, trivial, trivial⟩
          · have hb : (lf.l == lb) = false := beq_eq_false_iff_ne.2 hl
            have hB : chkB ⟨1, lf, a, b, path⟩ lb = false := by unfold chkB; rw [show ((⟨1, lf, a, b, path⟩ : Prf).lf.l == lb) = false from hb]; rfl
            rw [hB]
            repeat' (first | (rw [hb]) | (rw [hgA]) | refine Awp.seq ?_ | refine Awp.region ?_ | refine Ops.nil (nqA ?_) | refine Awp.skip (nqA ?_) | refine Awp.ret (nqE ?_) | (refine o_sub rfl rfl rfl rfl ?_ ?_; omega) | refine o_len rfl TtOk rfl rfl rfl (fun _ => ?_) | (refine o_calm rfl TtOk rfl rfl rfl ?_ (fun _ => ?_); exact nd) | refine o_alloc (d := 6) rfl TtOk rfl rfl rfl (fun b6 => ?_) | refine o_alloc (d := 11) rfl TtOk rfl rfl rfl (fun b11 => ?_) | refine o_box (d := 3) rfl rfl rfl rfl (fun b3 => ?_) | refine o_box (d := 4) rfl rfl rfl rfl (fun b4 => ?_) | refine o_box (d := 5) rfl rfl rfl rfl (fun b5 => ?_) | refine o_store TtOk rfl rfl rfl rfl rfl rfl rfl ⟨rfl, rfl⟩ rfl rfl rfl rfl rfl ?_ | refine o_build TtOk rfl rfl rfl rfl rfl rfl nq1 ?_ | refine o_eqArr8 TtOk rfl rfl rfl rfl rfl rfl (by kernel_rfl) ?_ | refine a_condF rfl ?_ | (refine a_condP rfl (fun hc => ?_) (fun hc => ?_)) <;> (try (exfalso; omega)) | (refine o_index rfl TtOk rfl rfl rfl rfl rfl rfl ?_ (getq_as (N.length-1) ?_ hjl) ?_; omega; omega) | (refine o_invoke rfl rfl meth_inn hit rfl ⟨nqS, True.intro⟩ rfl rfl ?_; rintro _ _ ⟨rfl, rfl⟩; refine ⟨rfl, ?_⟩) | (refine o_neArr8 TtOk rfl rfl rfl rfl rfl rfl (by kernel_rfl) ?_; rw [hq]) | refine o_callE rfl (hn) ⟨nqS, nqS, True.intro⟩ rfl ?_ | (refine o_call0 rfl (hem) True.intro rfl ?_; rintro _ _ ⟨rfl, rfl⟩; refine ⟨rfl, ?_⟩))
            all_goals
              refine end_all [] [] (.tup [lef0.A, .b false, .i .i64 0]) rfl ?_ ?_ (rle_tup3c (CLe.of_eq rfl) (CLe.of_eq rfl) (CLe.of_eq rfl) rfl rfl rfl) .nil ⟨rfl, rfl⟩ _ (.inl rfl)
              · exact nq1
              · exact ⟨trivial, trivial, trivial, trivial⟩
        · have hB : chkB ⟨e, lf, a, b, path⟩ lb = false := by unfold chkB; rw [show ((⟨e, lf, a, b, path⟩ : Prf).e == 1) = false from beq_eq_false_iff_ne.2 he]; rfl
          rw [hB]
          repeat' (first | (rw [hgA]) | refine Awp.seq ?_ | refine Awp.region ?_ | refine Ops.nil (nqA ?_) | refine Awp.skip (nqA ?_) | refine Awp.ret (nqE ?_) | refine o_noT rfl rfl rfl ?_ | (refine o_sub rfl rfl rfl rfl ?_ ?_; omega) | refine o_len rfl TtOk rfl rfl rfl (fun _ => ?_) | (refine o_calm rfl TtOk rfl rfl rfl ?_ (fun _ => ?_); exact nd) | refine o_alloc (d := 6) rfl TtOk rfl rfl rfl (fun b6 => ?_) | refine o_alloc (d := 11) rfl TtOk rfl rfl rfl (fun b11 => ?_) | refine o_box (d := 3) rfl rfl rfl rfl (fun b3 => ?_) | refine o_box (d := 4) rfl rfl rfl rfl (fun b4 => ?_) | refine o_box (d := 5) rfl rfl rfl rfl (fun b5 => ?_) | refine o_store TtOk rfl rfl rfl rfl rfl rfl rfl ⟨rfl, rfl⟩ rfl rfl rfl rfl rfl ?_ | refine o_build TtOk rfl rfl rfl rfl rfl rfl nq1 ?_ | (fail_if_success (refine o_isLit rfl (by first | exact .inl rfl | exact .inr rfl) ?_)); (refine o_splitP rfl rfl (fun hc => ?_) (fun hc => ?_) <;> try (exfalso; omega)) | refine a_condF rfl ?_ | (refine a_condP rfl (fun hc => ?_) (fun hc => ?_)) <;> (try (exfalso; omega)) | (refine o_index rfl TtOk rfl rfl rfl rfl rfl rfl ?_ (getq_as (N.length-1) ?_ hjl) ?_; omega; omega) | (refine o_invoke rfl rfl meth_inn hit rfl ⟨nqS, True.intro⟩ rfl rfl ?_; rintro _ _ ⟨rfl, rfl⟩; refine ⟨rfl, ?_⟩) | (refine o_neArr8 TtOk rfl rfl rfl rfl rfl rfl (by kernel_rfl) ?_; rw [hq]) | refine o_callE rfl (hn) ⟨nqS, nqS, True.intro⟩ rfl ?_ | (refine o_call0 rfl (hem) True.intro rfl ?_; rintro _ _ ⟨rfl, rfl⟩; refine ⟨rfl, ?_⟩))
          all_goals
            refine end_all [] [] (.tup [lef0.A, .b false, .i .i64 0]) rfl ?_ ?_ (rle_tup3c (CLe.of_eq rfl) (CLe.of_eq rfl) (CLe.of_eq rfl) rfl rfl rfl) .nil ⟨rfl, rfl⟩ _ (.inl rfl)
            · exact nq1
            · exact ⟨trivial, trivial, trivial, trivial⟩
      · rw [if_neg hs]
        have hq : (!(z.s == top)) = true := by rw [beq_eq_false_iff_ne.2 hs]; rfl
        repeat' (first | (rw [hgA]) | refine Awp.seq ?_ | refine Awp.region ?_ | refine Ops.nil (nqA ?_) | refine Awp.skip (nqA ?_) | refine Awp.ret (nqE ?_) | (refine o_sub rfl rfl rfl rfl ?_ ?_; omega) | refine o_len rfl TtOk rfl rfl rfl (fun _ => ?_) | (refine o_calm rfl TtOk rfl rfl rfl ?_ (fun _ => ?_); exact nd) | refine o_alloc (d := 6) rfl TtOk rfl rfl rfl (fun b6 => ?_) | refine o_alloc (d := 11) rfl TtOk rfl rfl rfl (fun b11 => ?_) | refine o_box (d := 3) rfl rfl rfl rfl (fun b3 => ?_) | refine o_box (d := 4) rfl rfl rfl rfl (fun b4 => ?_) | refine o_box (d := 5) rfl rfl rfl rfl (fun b5 => ?_) | refine o_store TtOk rfl rfl rfl rfl rfl rfl rfl ⟨rfl, rfl⟩ rfl rfl rfl rfl rfl ?_ | refine o_build TtOk rfl rfl rfl rfl rfl rfl nq1 ?_ | refine a_condT rfl ?_ | refine a_condF rfl ?_ | (refine a_condP rfl (fun hc => ?_) (fun hc => ?_)) <;> (try (exfalso; omega)) | (refine o_index rfl TtOk rfl rfl rfl rfl rfl rfl ?_ (getq_as (N.length-1) ?_ hjl) ?_; omega; omega) | (refine o_invoke rfl rfl meth_inn hit rfl ⟨nqS, True.intro⟩ rfl rfl ?_; rintro _ _ ⟨rfl, rfl⟩; refine ⟨rfl, ?_⟩) | (refine o_neArr8 TtOk rfl rfl rfl rfl rfl rfl (by kernel_rfl) ?_; rw [hq]) | refine o_callE rfl (hn) ⟨nqS, nqS, True.intro⟩ rfl ?_ | (refine o_call0 rfl (hem) True.intro rfl ?_; rintro _ _ ⟨rfl, rfl⟩; refine ⟨rfl, ?_⟩))
        all_goals
          refine end_all [] [] (.tup [lef0.A, .b false, .i .i64 11]) rfl ?_ ?_ (rle_tup3c (CLe.of_eq rfl) (CLe.of_eq rfl) (CLe.of_eq rfl) rfl rfl rfl) .nil ⟨rfl, rfl⟩ _ (.inl rfl)
          · exact nq1
          · exact ⟨trivial, trivial, trivial, trivial⟩
end Go.Proofs.YtcmgpkibjdbonaaGreat
