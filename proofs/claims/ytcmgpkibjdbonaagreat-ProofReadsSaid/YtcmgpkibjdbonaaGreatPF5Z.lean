/- proof.Check, Summed, Clash by rules. -/
import Derived.Test.YtcmgpkibjdbonaaGreatPFDZ
import Derived.Test.YtcmgpkibjdbonaaGreatPP1Z
import Derived.Test.YtcmgpkibjdbonaaGreatPF2Z
import Derived.Test.YtcmgpkibjdbonaaGreatV31Z
set_option maxHeartbeats 16000000
set_option maxRecDepth 100000
namespace Go.Proofs.YtcmgpkibjdbonaaGreat
open Go Go.RowKit
theorem meth_lf : IsMeth Tryz.prog 46 "Item" 83 := fun v w => by kernel_rfl
theorem meth_inn : IsMeth Tryz.prog 52 "Item" 78 := fun v w => by kernel_rfl
def chkL_ (p : Prf) (top lb : List UInt8) : Lef := if chkE p top lb = 0 then (if chkB p lb = true then p.lf else lef0) else lef0
def chkO (p : Prf) (top lb : List UInt8) : Bool := if chkE p top lb = 0 then chkB p lb else false
theorem prcheck_spec (top lb : List UInt8) (p : Prf) (hp : p.ok) (hpl : p.path.length ≤ 100000) (ht : top.length = 32) (hlb : lb.length = 32) : Spec Tryz.prog 17 [labA top, labA lb, p.A] [] (fun v os => v = .tup [(chkL_ p top lb).A, .b (chkO p top lb), .i .i64 (chkE p top lb)] ∧ os = []) := by
  have hn := pnodes_spec p hp hpl lb hlb
  have hch := fun h => nds_chain (lb := lb) hp h
  obtain ⟨e, lf, a, b, path⟩ := p
  have hF : ∀ (N : List Nod) (x : Int), ndsF ⟨e, lf, a, b, path⟩ lb = (N, x) → chkE ⟨e, lf, a, b, path⟩ top lb = if x ≠ 0 then x else if nsum N = top then 0 else 11 := fun N x h => by unfold chkE; rw [h]
  have hlfA : lf.A = .agg [labA lf.l, labA lf.v, .i .i64 lf.t] := rfl
  obtain ⟨N, x, hN⟩ : ∃ N x, ndsF ⟨e, lf, a, b, path⟩ lb = (N, x) := ⟨_, _, rfl⟩
  have hE := hF N x hN
  rw [hN] at hn hch
  have hpA : Prf.A ⟨e, lf, a, b, path⟩ = .agg [.i .i64 e, .agg [labA lf.l, labA lf.v, .i .i64 lf.t], .agg [a.A, b.A], .sl 66 (path.map Itm.A)] := rfl
  rw [hpA] at hn ⊢
  unfold chkL_ chkO
  rw [hE]
  dsimp only at hn hch ⊢
  clear hF hE hN hpA
  refine spec_of TtOk [] Tryz.func17 rfl Tryz.ntmps17 (by kernel_rfl) rfl rfl (fun C => ?_) rfl
  by_cases hx : x ≠ 0
  · rw [if_pos hx, if_neg hx, if_neg hx]
    repeat' (first | refine Awp.seq ?_ | refine Awp.region ?_ | refine Ops.nil (nqA ?_) | refine Awp.ret (nqE ?_) | (refine o_calm rfl TtOk rfl rfl rfl ?_ (fun _ => ?_); exact nd) | refine o_alloc (d := 6) rfl TtOk rfl rfl rfl (fun b6 => ?_) | refine o_box (d := 3) rfl rfl rfl rfl (fun b3 => ?_) | refine o_box (d := 4) rfl rfl rfl rfl (fun b4 => ?_) | refine o_box (d := 5) rfl rfl rfl rfl (fun b5 => ?_) | refine o_store TtOk rfl rfl rfl rfl rfl rfl rfl ⟨rfl, rfl⟩ rfl rfl rfl rfl rfl ?_ | refine o_build TtOk rfl rfl rfl rfl rfl rfl nq1 ?_ | (refine a_condN rfl (fun hc => ?_) (fun hc => ?_)) <;> (try (exfalso; omega)) | refine o_callE rfl (hn) ⟨nqS, nqS, True.intro⟩ rfl ?_)
    all_goals
      refine end_all [] [] (.tup [lef0.A, .b false, .i .i64 x]) rfl ?_ ?_ (rle_tup3c (CLe.of_eq rfl) (CLe.of_eq rfl) (CLe.of_eq rfl) rfl rfl rfl) .nil ⟨rfl, rfl⟩ _ (.inl rfl)
      · exact nq1
      · exact ⟨trivial, trivial, trivial, trivial⟩
  rw [if_neg hx]
  have hx := Decidable.not_not.1 hx
  subst hx
  by_cases hN0 : N = []
  · subst hN0
    have hem := nempty_spec
    rw [show nsum [] = shaN [18] from rfl]
    generalize shaN [18] = s18 at hem ⊢
    by_cases hs : s18 = top
    · subst hs
      rw [if_pos rfl]
      have hq : (!(s18 == s18)) = false := by rw [beq_self_eq_true]; rfl
      by_cases he : e = 1
      · subst he
        by_cases hl : lf.l = lb
        · have hb : (lf.l == lb) = true := beq_iff_eq.2 hl
          have hB : chkB ⟨1, lf, a, b, path⟩ lb = true := by unfold chkB; rw [show ((⟨1, lf, a, b, path⟩ : Prf).lf.l == lb) = true from hb]; rfl
          rw [hB]
          repeat' (first | (rw [hb]) | refine Awp.seq ?_ | refine Awp.region ?_ | refine Ops.nil (nqA ?_) | refine Awp.skip (nqA ?_) | refine Awp.ret (nqE ?_) | refine o_len rfl TtOk rfl rfl rfl (fun _ => ?_) | (refine o_calm rfl TtOk rfl rfl rfl ?_ (fun _ => ?_); exact nd) | refine o_alloc (d := 6) rfl TtOk rfl rfl rfl (fun b6 => ?_) | refine o_alloc (d := 11) rfl TtOk rfl rfl rfl (fun b11 => ?_) | refine o_box (d := 3) rfl rfl rfl rfl (fun b3 => ?_) | refine o_box (d := 4) rfl rfl rfl rfl (fun b4 => ?_) | refine o_box (d := 5) rfl rfl rfl rfl (fun b5 => ?_) | refine o_store TtOk rfl rfl rfl rfl rfl rfl rfl ⟨rfl, rfl⟩ rfl rfl rfl rfl rfl ?_ | refine o_eqArr8 TtOk rfl rfl rfl rfl rfl rfl (by kernel_rfl) ?_ | refine a_condT rfl ?_ | refine a_condF rfl ?_ | (refine o_neArr8 TtOk rfl rfl rfl rfl rfl rfl (by kernel_rfl) ?_; rw [hq]) | refine o_callE rfl (hn) ⟨nqS, nqS, True.intro⟩ rfl ?_ | (refine o_call0 rfl (hem) True.intro rfl ?_; rintro _ _ ⟨rfl, rfl⟩; refine ⟨rfl, ?_⟩))
          all_goals
            refine end_all [] [] (.tup [lf.A, .b true, .i .i64 0]) rfl ?_ ?_ (rle_tup3c (CLe.of_eq rfl) (CLe.of_eq rfl) (CLe.of_eq rfl) rfl rfl rfl) .nil ⟨rfl, rfl⟩ _ (.inl rfl)
            · exact nq1
            · exact ⟨trivial, trivial, trivial, trivial⟩
        · have hb : (lf.l == lb) = false := beq_eq_false_iff_ne.2 hl
          have hB : chkB ⟨1, lf, a, b, path⟩ lb = false := by unfold chkB; rw [show ((⟨1, lf, a, b, path⟩ : Prf).lf.l == lb) = false from hb]; rfl
          rw [hB]
          repeat' (first | (rw [hb]) | refine Awp.seq ?_ | refine Awp.region ?_ | refine Ops.nil (nqA ?_) | refine Awp.skip (nqA ?_) | refine Awp.ret (nqE ?_) | refine o_len rfl TtOk rfl rfl rfl (fun _ => ?_) | (refine o_calm rfl TtOk rfl rfl rfl ?_ (fun _ => ?_); exact nd) | refine o_alloc (d := 6) rfl TtOk rfl rfl rfl (fun b6 => ?_) | refine o_alloc (d := 11) rfl TtOk rfl rfl rfl (fun b11 => ?_) | refine o_box (d := 3) rfl rfl rfl rfl (fun b3 => ?_) | refine o_box (d := 4) rfl rfl rfl rfl (fun b4 => ?_) | refine o_box (d := 5) rfl rfl rfl rfl (fun b5 => ?_) | refine o_store TtOk rfl rfl rfl rfl rfl rfl rfl ⟨rfl, rfl⟩ rfl rfl rfl rfl rfl ?_ | refine o_build TtOk rfl rfl rfl rfl rfl rfl nq1 ?_ | refine o_eqArr8 TtOk rfl rfl rfl rfl rfl rfl (by kernel_rfl) ?_ | refine a_condF rfl ?_ | (refine o_neArr8 TtOk rfl rfl rfl rfl rfl rfl (by kernel_rfl) ?_; rw [hq]) | refine o_callE rfl (hn) ⟨nqS, nqS, True.intro⟩ rfl ?_ | (refine o_call0 rfl (hem) True.intro rfl ?_; rintro _ _ ⟨rfl, rfl⟩; refine ⟨rfl, ?_⟩))
          all_goals
            refine end_all [] [] (.tup [lef0.A, .b false, .i .i64 0]) rfl ?_ ?_ (rle_tup3c (CLe.of_eq rfl) (CLe.of_eq rfl) (CLe.of_eq rfl) rfl rfl rfl) .nil ⟨rfl, rfl⟩ _ (.inl rfl)
            · exact nq1
            · exact ⟨trivial, trivial, trivial, trivial⟩
      · have hB : chkB ⟨e, lf, a, b, path⟩ lb = false := by unfold chkB; rw [show ((⟨e, lf, a, b, path⟩ : Prf).e == 1) = false from beq_eq_false_iff_ne.2 he]; rfl
        rw [hB]
        repeat' (first | refine Awp.seq ?_ | refine Awp.region ?_ | refine Ops.nil (nqA ?_) | refine Awp.skip (nqA ?_) | refine Awp.ret (nqE ?_) | refine o_noT rfl rfl rfl ?_ | refine o_len rfl TtOk rfl rfl rfl (fun _ => ?_) | (refine o_calm rfl TtOk rfl rfl rfl ?_ (fun _ => ?_); exact nd) | refine o_alloc (d := 6) rfl TtOk rfl rfl rfl (fun b6 => ?_) | refine o_alloc (d := 11) rfl TtOk rfl rfl rfl (fun b11 => ?_) | refine o_box (d := 3) rfl rfl rfl rfl (fun b3 => ?_) | refine o_box (d := 4) rfl rfl rfl rfl (fun b4 => ?_) | refine o_box (d := 5) rfl rfl rfl rfl (fun b5 => ?_) | refine o_store TtOk rfl rfl rfl rfl rfl rfl rfl ⟨rfl, rfl⟩ rfl rfl rfl rfl rfl ?_ | refine o_build TtOk rfl rfl rfl rfl rfl rfl nq1 ?_ | (fail_if_success (refine o_isLit rfl (by first | exact .inl rfl | exact .inr rfl) ?_)); (refine o_splitP rfl rfl (fun hc => ?_) (fun hc => ?_) <;> try (exfalso; omega)) | refine a_condF rfl ?_ | (refine o_neArr8 TtOk rfl rfl rfl rfl rfl rfl (by kernel_rfl) ?_; rw [hq]) | refine o_callE rfl (hn) ⟨nqS, nqS, True.intro⟩ rfl ?_ | (refine o_call0 rfl (hem) True.intro rfl ?_; rintro _ _ ⟨rfl, rfl⟩; refine ⟨rfl, ?_⟩))
        all_goals
          refine end_all [] [] (.tup [lef0.A, .b false, .i .i64 0]) rfl ?_ ?_ (rle_tup3c (CLe.of_eq rfl) (CLe.of_eq rfl) (CLe.of_eq rfl) rfl rfl rfl) .nil ⟨rfl, rfl⟩ _ (.inl rfl)
          · exact nq1
          · exact ⟨trivial, trivial, trivial, trivial⟩
    · rw [if_neg hs]
      have hq : (!(s18 == top)) = true := by rw [beq_eq_false_iff_ne.2 hs]; rfl
      repeat' (first | refine Awp.seq ?_ | refine Awp.region ?_ | refine Ops.nil (nqA ?_) | refine Awp.skip (nqA ?_) | refine Awp.ret (nqE ?_) | refine o_len rfl TtOk rfl rfl rfl (fun _ => ?_) | (refine o_calm rfl TtOk rfl rfl rfl ?_ (fun _ => ?_); exact nd) | refine o_alloc (d := 6) rfl TtOk rfl rfl rfl (fun b6 => ?_) | refine o_alloc (d := 11) rfl TtOk rfl rfl rfl (fun b11 => ?_) | refine o_box (d := 3) rfl rfl rfl rfl (fun b3 => ?_) | refine o_box (d := 4) rfl rfl rfl rfl (fun b4 => ?_) | refine o_box (d := 5) rfl rfl rfl rfl (fun b5 => ?_) | refine o_store TtOk rfl rfl rfl rfl rfl rfl rfl ⟨rfl, rfl⟩ rfl rfl rfl rfl rfl ?_ | refine o_build TtOk rfl rfl rfl rfl rfl rfl nq1 ?_ | refine a_condT rfl ?_ | refine a_condF rfl ?_ | (refine o_neArr8 TtOk rfl rfl rfl rfl rfl rfl (by kernel_rfl) ?_; rw [hq]) | refine o_callE rfl (hn) ⟨nqS, nqS, True.intro⟩ rfl ?_ | (refine o_call0 rfl (hem) True.intro rfl ?_; rintro _ _ ⟨rfl, rfl⟩; refine ⟨rfl, ?_⟩))
      all_goals
        refine end_all [] [] (.tup [lef0.A, .b false, .i .i64 11]) rfl ?_ ?_ (rle_tup3c (CLe.of_eq rfl) (CLe.of_eq rfl) (CLe.of_eq rfl) rfl rfl rfl) .nil ⟨rfl, rfl⟩ _ (.inl rfl)
        · exact nq1
        · exact ⟨trivial, trivial, trivial, trivial⟩
  · have hem := nempty_spec
    generalize shaN [18] = s18 at hem
    obtain ⟨N', n, rfl⟩ : ∃ N' n, N = N' ++ [n] := ⟨N.dropLast, N.getLast hN0, (List.dropLast_concat_getLast hN0).symm⟩
    have hg : n.gd := by
      rcases hch rfl with ⟨_, h1, _⟩ | ⟨_, h1, _⟩
      · exact absurd h1 hN0
      · rw [List.reverse_append] at h1
        exact Chain.gd h1
    have hjl : (N' ++ [n]).length - 1 < (N' ++ [n]).length := by rw [List.length_append, List.length_singleton]; omega
    have hpos : 0 < (N' ++ [n]).length := by omega
    have hgn : (N' ++ [n])[(N' ++ [n]).length - 1] = n := by simp
    have hns : nsum (N' ++ [n]) = n.itm.s := by unfold nsum; rw [List.getLast?_concat]
    rw [hns]
    clear hch hns
    have hNl : (N' ++ [n]).length = N'.length + 1 := by rw [List.length_append, List.length_singleton]
    generalize N' ++ [n] = N at *
    cases n with
    | no => exact absurd hg (fun h => h)
    | lf y =>
      have hit : Spec Tryz.prog 83 [y.A] [] (fun v os => v = .agg [pfxA (leafI y).n (leafI y).l, labA (leafI y).s, .i .i64 (leafI y).t] ∧ os = []) := litem_spec y hg.1
      have hgA : Nod.A N[N.length - 1] = .ifc 46 y.A := by rw [hgn]; rfl
      rw [show (Nod.lf y).itm = leafI y from rfl]
      generalize leafI y = z at *
      by_cases hs : z.s = top
      · subst hs
        rw [if_pos rfl]
        have hq : (!(z.s == z.s)) = false := by rw [beq_self_eq_true]; rfl
        by_cases he : e = 1
        · subst he
          by_cases hl : lf.l = lb
          · have hb : (lf.l == lb) = true := beq_iff_eq.2 hl
            have hB : chkB ⟨1, lf, a, b, path⟩ lb = true := by unfold chkB; rw [show ((⟨1, lf, a, b, path⟩ : Prf).lf.l == lb) = true from hb]; rfl
            rw [hB]
            repeat' (first | (rw [hb]) | (rw [hgA]) | refine Awp.seq ?_ | refine Awp.region ?_ | refine Ops.nil (nqA ?_) | refine Awp.skip (nqA ?_) | refine Awp.ret (nqE ?_) | (refine o_sub rfl rfl rfl rfl ?_ ?_; omega) | refine o_len rfl TtOk rfl rfl rfl (fun _ => ?_) | (refine o_calm rfl TtOk rfl rfl rfl ?_ (fun _ => ?_); exact nd) | refine o_alloc (d := 6) rfl TtOk rfl rfl rfl (fun b6 => ?_) | refine o_alloc (d := 11) rfl TtOk rfl rfl rfl (fun b11 => ?_) | refine o_box (d := 3) rfl rfl rfl rfl (fun b3 => ?_) | refine o_box (d := 4) rfl rfl rfl rfl (fun b4 => ?_) | refine o_box (d := 5) rfl rfl rfl rfl (fun b5 => ?_) | refine o_store TtOk rfl rfl rfl rfl rfl rfl rfl ⟨rfl, rfl⟩ rfl rfl rfl rfl rfl ?_ | refine o_eqArr8 TtOk rfl rfl rfl rfl rfl rfl (by kernel_rfl) ?_ | refine a_condT rfl ?_ | refine a_condF rfl ?_ | (refine a_condP rfl (fun hc => ?_) (fun hc => ?_)) <;> (try (exfalso; omega)) | (refine o_index rfl TtOk rfl rfl rfl rfl rfl rfl ?_ (getq_as (N.length-1) ?_ hjl) ?_; omega; omega) | (refine o_invoke rfl rfl meth_lf hit rfl ⟨nqS, True.intro⟩ rfl rfl ?_; rintro _ _ ⟨rfl, rfl⟩; refine ⟨rfl, ?_⟩) | (refine o_neArr8 TtOk rfl rfl rfl rfl rfl rfl (by kernel_rfl) ?_; rw [hq]) | refine o_callE rfl (hn) ⟨nqS, nqS, True.intro⟩ rfl ?_ | (refine o_call0 rfl (hem) True.intro rfl ?_; rintro _ _ ⟨rfl, rfl⟩; refine ⟨rfl, ?_⟩))
            all_goals
              refine end_all [] [] (.tup [lf.A, .b true, .i .i64 0]) rfl ?_ ?_ (rle_tup3c (CLe.of_eq rfl) (CLe.of_eq rfl) (CLe.of_eq rfl) rfl rfl rfl) .nil ⟨rfl, rfl⟩ _ (.inl rfl)
              · exact nq1
              · exact ⟨trivial, trivial, trivial, trivial⟩
          · have hb : (lf.l == lb) = false := beq_eq_false_iff_ne.2 hl
            have hB : chkB ⟨1, lf, a, b, path⟩ lb = false := by unfold chkB; rw [show ((⟨1, lf, a, b, path⟩ : Prf).lf.l == lb) = false from hb]; rfl
            rw [hB]
            repeat' (first | (rw [hb]) | (rw [hgA]) | refine Awp.seq ?_ | refine Awp.region ?_ | refine Ops.nil (nqA ?_) | refine Awp.skip (nqA ?_) | refine Awp.ret (nqE ?_) | (refine o_sub rfl rfl rfl rfl ?_ ?_; omega) | refine o_len rfl TtOk rfl rfl rfl (fun _ => ?_) | (refine o_calm rfl TtOk rfl rfl rfl ?_ (fun _ => ?_); exact nd) | refine o_alloc (d := 6) rfl TtOk rfl rfl rfl (fun b6 => ?_) | refine o_alloc (d := 11) rfl TtOk rfl rfl rfl (fun b11 => ?_) | refine o_box (d := 3) rfl rfl rfl rfl (fun b3 => ?_) | refine o_box (d := 4) rfl rfl rfl rfl (fun b4 => ?_) | refine o_box (d := 5) rfl rfl rfl rfl (fun b5 => ?_) | refine o_store TtOk rfl rfl rfl rfl rfl rfl rfl ⟨rfl, rfl⟩ rfl rfl rfl rfl rfl ?_ | refine o_build TtOk rfl rfl rfl rfl rfl rfl nq1 ?_ | refine o_eqArr8 TtOk rfl rfl rfl rfl rfl rfl (by kernel_rfl) ?_ | refine a_condF rfl ?_ | (refine a_condP rfl (fun hc => ?_) (fun hc => ?_)) <;> (try (exfalso; omega)) | (refine o_index rfl TtOk rfl rfl rfl rfl rfl rfl ?_ (getq_as (N.length-1) ?_ hjl) ?_; omega; omega) | (refine o_invoke rfl rfl meth_lf hit rfl ⟨nqS, True.intro⟩ rfl rfl ?_; rintro _ _ ⟨rfl, rfl⟩; refine ⟨rfl, ?_⟩) | (refine o_neArr8 TtOk rfl rfl rfl rfl rfl rfl (by kernel_rfl) ?_; rw [hq]) | refine o_callE rfl (hn) ⟨nqS, nqS, True.intro⟩ rfl ?_ | (refine o_call0 rfl (hem) True.intro rfl ?_; rintro _ _ ⟨rfl, rfl⟩; refine ⟨rfl, ?_⟩))
            all_goals
              refine end_all [] [] (.tup [lef0.A, .b false, .i .i64 0]) rfl ?_ ?_ (rle_tup3c (CLe.of_eq rfl) (CLe.of_eq rfl) (CLe.of_eq rfl) rfl rfl rfl) .nil ⟨rfl, rfl⟩ _ (.inl rfl)
              · exact nq1
              · exact ⟨trivial, trivial, trivial, trivial⟩
        · have hB : chkB ⟨e, lf, a, b, path⟩ lb = false := by unfold chkB; rw [show ((⟨e, lf, a, b, path⟩ : Prf).e == 1) = false from beq_eq_false_iff_ne.2 he]; rfl
          rw [hB]
          repeat' (first | (rw [hgA]) | refine Awp.seq ?_ | refine Awp.region ?_ | refine Ops.nil (nqA ?_) | refine Awp.skip (nqA ?_) | refine Awp.ret (nqE ?_) | refine o_noT rfl rfl rfl ?_ | (refine o_sub rfl rfl rfl rfl ?_ ?_; omega) | refine o_len rfl TtOk rfl rfl rfl (fun _ => ?_) | (refine o_calm rfl TtOk rfl rfl rfl ?_ (fun _ => ?_); exact nd) | refine o_alloc (d := 6) rfl TtOk rfl rfl rfl (fun b6 => ?_) | refine o_alloc (d := 11) rfl TtOk rfl rfl rfl (fun b11 => ?_) | refine o_box (d := 3) rfl rfl rfl rfl (fun b3 => ?_) | refine o_box (d := 4) rfl rfl rfl rfl (fun b4 => ?_) | refine o_box (d := 5) rfl rfl rfl rfl (fun b5 => ?_) | refine o_store TtOk rfl rfl rfl rfl rfl rfl rfl ⟨rfl, rfl⟩ rfl rfl rfl rfl rfl ?_ | refine o_build TtOk rfl rfl rfl rfl rfl rfl nq1 ?_ | (fail_if_success (refine o_isLit rfl (by first | exact .inl rfl | exact .inr rfl) ?_)); (refine o_splitP rfl rfl (fun hc => ?_) (fun hc => ?_) <;> try (exfalso; omega)) | refine a_condF rfl ?_ | (refine a_condP rfl (fun hc => ?_) (fun hc => ?_)) <;> (try (exfalso; omega)) | (refine o_index rfl TtOk rfl rfl rfl rfl rfl rfl ?_ (getq_as (N.length-1) ?_ hjl) ?_; omega; omega) | (refine o_invoke rfl rfl meth_lf hit rfl ⟨nqS, True.intro⟩ rfl rfl ?_; rintro _ _ ⟨rfl, rfl⟩; refine ⟨rfl, ?_⟩) | (refine o_neArr8 TtOk rfl rfl rfl rfl rfl rfl (by kernel_rfl) ?_; rw [hq]) | refine o_callE rfl (hn) ⟨nqS, nqS, True.intro⟩ rfl ?_ | (refine o_call0 rfl (hem) True.intro rfl ?_; rintro _ _ ⟨rfl, rfl⟩; refine ⟨rfl, ?_⟩))
          all_goals
            refine end_all [] [] (.tup [lef0.A, .b false, .i .i64 0]) rfl ?_ ?_ (rle_tup3c (CLe.of_eq rfl) (CLe.of_eq rfl) (CLe.of_eq rfl) rfl rfl rfl) .nil ⟨rfl, rfl⟩ _ (.inl rfl)
            · exact nq1
            · exact ⟨trivial, trivial, trivial, trivial⟩
      · rw [if_neg hs]
        have hq : (!(z.s == top)) = true := by rw [beq_eq_false_iff_ne.2 hs]; rfl
        repeat' (first | (rw [hgA]) | refine Awp.seq ?_ | refine Awp.region ?_ | refine Ops.nil (nqA ?_) | refine Awp.skip (nqA ?_) | refine Awp.ret (nqE ?_) | (refine o_sub rfl rfl rfl rfl ?_ ?_; omega) | refine o_len rfl TtOk rfl rfl rfl (fun _ => ?_) | (refine o_calm rfl TtOk rfl rfl rfl ?_ (fun _ => ?_); exact nd) | refine o_alloc (d := 6) rfl TtOk rfl rfl rfl (fun b6 => ?_) | refine o_alloc (d := 11) rfl TtOk rfl rfl rfl (fun b11 => ?_) | refine o_box (d := 3) rfl rfl rfl rfl (fun b3 => ?_) | refine o_box (d := 4) rfl rfl rfl rfl (fun b4 => ?_) | refine o_box (d := 5) rfl rfl rfl rfl (fun b5 => ?_) | refine o_store TtOk rfl rfl rfl rfl rfl rfl rfl ⟨rfl, rfl⟩ rfl rfl rfl rfl rfl ?_ | refine o_build TtOk rfl rfl rfl rfl rfl rfl nq1 ?_ | refine a_condT rfl ?_ | refine a_condF rfl ?_ | (refine a_condP rfl (fun hc => ?_) (fun hc => ?_)) <;> (try (exfalso; omega)) | (refine o_index rfl TtOk rfl rfl rfl rfl rfl rfl ?_ (getq_as (N.length-1) ?_ hjl) ?_; omega; omega) | (refine o_invoke rfl rfl meth_lf hit rfl ⟨nqS, True.intro⟩ rfl rfl ?_; rintro _ _ ⟨rfl, rfl⟩; refine ⟨rfl, ?_⟩) | (refine o_neArr8 TtOk rfl rfl rfl rfl rfl rfl (by kernel_rfl) ?_; rw [hq]) | refine o_callE rfl (hn) ⟨nqS, nqS, True.intro⟩ rfl ?_ | (refine o_call0 rfl (hem) True.intro rfl ?_; rintro _ _ ⟨rfl, rfl⟩; refine ⟨rfl, ?_⟩))
        all_goals
          refine end_all [] [] (.tup [lef0.A, .b false, .i .i64 11]) rfl ?_ ?_ (rle_tup3c (CLe.of_eq rfl) (CLe.of_eq rfl) (CLe.of_eq rfl) rfl rfl rfl) .nil ⟨rfl, rfl⟩ _ (.inl rfl)
          · exact nq1
          · exact ⟨trivial, trivial, trivial, trivial⟩
    | inn u v =>
      have hit : Spec Tryz.prog 78 [.agg [u.A, v.A]] [] (fun r os => r = .agg [pfxA (innI u v).n (innI u v).l, labA (innI u v).s, .i .i64 (innI u v).t] ∧ os = []) := iitem_spec u v hg.1 hg.2.1
      have hgA : Nod.A N[N.length - 1] = .ifc 52 (.agg [u.A, v.A]) := by rw [hgn]; rfl
      rw [show (Nod.inn u v).itm = innI u v from rfl]
      generalize innI u v = z at *
      by_cases hs : z.s = top
      · subst hs
        rw [if_pos rfl]
        have hq : (!(z.s == z.s)) = false := by rw [beq_self_eq_true]; rfl
        by_cases he : e = 1
        · subst he
          by_cases hl : lf.l = lb
          · have hb : (lf.l == lb) = true := beq_iff_eq.2 hl
            have hB : chkB ⟨1, lf, a, b, path⟩ lb = true := by unfold chkB; rw [show ((⟨1, lf, a, b, path⟩ : Prf).lf.l == lb) = true from hb]; rfl
            rw [hB]
            repeat' (first | (rw [hb]) | (rw [hgA]) | refine Awp.seq ?_ | refine Awp.region ?_ | refine Ops.nil (nqA ?_) | refine Awp.skip (nqA ?_) | refine Awp.ret (nqE ?_) | (refine o_sub rfl rfl rfl rfl ?_ ?_; omega) | refine o_len rfl TtOk rfl rfl rfl (fun _ => ?_) | (refine o_calm rfl TtOk rfl rfl rfl ?_ (fun _ => ?_); exact nd) | refine o_alloc (d := 6) rfl TtOk rfl rfl rfl (fun b6 => ?_) | refine o_alloc (d := 11) rfl TtOk rfl rfl rfl (fun b11 => ?_) | refine o_box (d := 3) rfl rfl rfl rfl (fun b3 => ?_) | refine o_box (d := 4) rfl rfl rfl rfl (fun b4 => ?_) | refine o_box (d := 5) rfl rfl rfl rfl (fun b5 => ?_) | refine o_store TtOk rfl rfl rfl rfl rfl rfl rfl ⟨rfl, rfl⟩ rfl rfl rfl rfl rfl ?_ | refine o_eqArr8 TtOk rfl rfl rfl rfl rfl rfl (by kernel_rfl) ?_ | refine a_condT rfl ?_ | refine a_condF rfl ?_ | (refine a_condP rfl (fun hc => ?_) (fun hc => ?_)) <;> (try (exfalso; omega)) | (refine o_index rfl TtOk rfl rfl rfl rfl rfl rfl ?_ (getq_as (N.length-1) ?_ hjl) ?_; omega; omega) | (refine o_invoke rfl rfl meth_inn hit rfl ⟨nqS, True.intro⟩ rfl rfl ?_; rintro _ _ ⟨rfl, rfl⟩; refine ⟨rfl, ?_⟩) | (refine o_neArr8 TtOk rfl rfl rfl rfl rfl rfl (by kernel_rfl) ?_; rw [hq]) | refine o_callE rfl (hn) ⟨nqS, nqS, True.intro⟩ rfl ?_ | (refine o_call0 rfl (hem) True.intro rfl ?_; rintro _ _ ⟨rfl, rfl⟩; refine ⟨rfl, ?_⟩))
            all_goals
              refine end_all [] [] (.tup [lf.A, .b true, .i .i64 0]) rfl ?_ ?_ (rle_tup3c (CLe.of_eq rfl) (CLe.of_eq rfl) (CLe.of_eq rfl) rfl rfl rfl) .nil ⟨rfl, rfl⟩ _ (.inl rfl)
              · exact nq1
              · exact ⟨trivial, trivial, trivial, trivial⟩
          · have hb : (lf.l == lb) = false := beq_eq_false_iff_ne.2 hl
            have hB : chkB ⟨1, lf, a, b, path⟩ lb = false := by unfold chkB; rw [show ((⟨1, lf, a, b, path⟩ : Prf).lf.l == lb) = false from hb]; rfl
            rw [hB]
            repeat' (first | (rw [hb]) | (rw [hgA]) | refine Awp.seq ?_ | refine Awp.region ?_ | refine Ops.nil (nqA ?_) | refine Awp.skip (nqA ?_) | refine Awp.ret (nqE ?_) | (refine o_sub rfl rfl rfl rfl ?_ ?_; omega) | refine o_len rfl TtOk rfl rfl rfl (fun _ => ?_) | (refine o_calm rfl TtOk rfl rfl rfl ?_ (fun _ => ?_); exact nd) | refine o_alloc (d := 6) rfl TtOk rfl rfl rfl (fun b6 => ?_) | refine o_alloc (d := 11) rfl TtOk rfl rfl rfl (fun b11 => ?_) | refine o_box (d := 3) rfl rfl rfl rfl (fun b3 => ?_) | refine o_box (d := 4) rfl rfl rfl rfl (fun b4 => ?_) | refine o_box (d := 5) rfl rfl rfl rfl (fun b5 => ?_) | refine o_store TtOk rfl rfl rfl rfl rfl rfl rfl ⟨rfl, rfl⟩ rfl rfl rfl rfl rfl ?_ | refine o_build TtOk rfl rfl rfl rfl rfl rfl nq1 ?_ | refine o_eqArr8 TtOk rfl rfl rfl rfl rfl rfl (by kernel_rfl) ?_ | refine a_condF rfl ?_ | (refine a_condP rfl (fun hc => ?_) (fun hc => ?_)) <;> (try (exfalso; omega)) | (refine o_index rfl TtOk rfl rfl rfl rfl rfl rfl ?_ (getq_as (N.length-1) ?_ hjl) ?_; omega; omega) | (refine o_invoke rfl rfl meth_inn hit rfl ⟨nqS, True.intro⟩ rfl rfl ?_; rintro _ _ ⟨rfl, rfl⟩; refine ⟨rfl, ?_⟩) | (refine o_neArr8 TtOk rfl rfl rfl rfl rfl rfl (by kernel_rfl) ?_; rw [hq]) | refine o_callE rfl (hn) ⟨nqS, nqS, True.intro⟩ rfl ?_ | (refine o_call0 rfl (hem) True.intro rfl ?_; rintro _ _ ⟨rfl, rfl⟩; refine ⟨rfl, ?_⟩))
            all_goals
              refine end_all [] [] (.tup [lef0.A, .b false, .i .i64 0]) rfl ?_ ?_ (rle_tup3c (CLe.of_eq rfl) (CLe.of_eq rfl) (CLe.of_eq rfl) rfl rfl rfl) .nil ⟨rfl, rfl⟩ _ (.inl rfl)
              · exact nq1
              · exact ⟨trivial, trivial, trivial, trivial⟩
        · have hB : chkB ⟨e, lf, a, b, path⟩ lb = false := by unfold chkB; rw [show ((⟨e, lf, a, b, path⟩ : Prf).e == 1) = false from beq_eq_false_iff_ne.2 he]; rfl
          rw [hB]
          repeat' (first | (rw [hgA]) | refine Awp.seq ?_ | refine Awp.region ?_ | refine Ops.nil (nqA ?_) | refine Awp.skip (nqA ?_) | refine Awp.ret (nqE ?_) | refine o_noT rfl rfl rfl ?_ | (refine o_sub rfl rfl rfl rfl ?_ ?_; omega) | refine o_len rfl TtOk rfl rfl rfl (fun _ => ?_) | (refine o_calm rfl TtOk rfl rfl rfl ?_ (fun _ => ?_); exact nd) | refine o_alloc (d := 6) rfl TtOk rfl rfl rfl (fun b6 => ?_) | refine o_alloc (d := 11) rfl TtOk rfl rfl rfl (fun b11 => ?_) | refine o_box (d := 3) rfl rfl rfl rfl (fun b3 => ?_) | refine o_box (d := 4) rfl rfl rfl rfl (fun b4 => ?_) | refine o_box (d := 5) rfl rfl rfl rfl (fun b5 => ?_) | refine o_store TtOk rfl rfl rfl rfl rfl rfl rfl ⟨rfl, rfl⟩ rfl rfl rfl rfl rfl ?_ | refine o_build TtOk rfl rfl rfl rfl rfl rfl nq1 ?_ | (fail_if_success (refine o_isLit rfl (by first | exact .inl rfl | exact .inr rfl) ?_)); (refine o_splitP rfl rfl (fun hc => ?_) (fun hc => ?_) <;> try (exfalso; omega)) | refine a_condF rfl ?_ | (refine a_condP rfl (fun hc => ?_) (fun hc => ?_)) <;> (try (exfalso; omega)) | (refine o_index rfl TtOk rfl rfl rfl rfl rfl rfl ?_ (getq_as (N.length-1) ?_ hjl) ?_; omega; omega) | (refine o_invoke rfl rfl meth_inn hit rfl ⟨nqS, True.intro⟩ rfl rfl ?_; rintro _ _ ⟨rfl, rfl⟩; refine ⟨rfl, ?_⟩) | (refine o_neArr8 TtOk rfl rfl rfl rfl rfl rfl (by kernel_rfl) ?_; rw [hq]) | refine o_callE rfl (hn) ⟨nqS, nqS, True.intro⟩ rfl ?_ | (refine o_call0 rfl (hem) True.intro rfl ?_; rintro _ _ ⟨rfl, rfl⟩; refine ⟨rfl, ?_⟩))
          all_goals
            refine end_all [] [] (.tup [lef0.A, .b false, .i .i64 0]) rfl ?_ ?_ (rle_tup3c (CLe.of_eq rfl) (CLe.of_eq rfl) (CLe.of_eq rfl) rfl rfl rfl) .nil ⟨rfl, rfl⟩ _ (.inl rfl)
            · exact nq1
            · exact ⟨trivial, trivial, trivial, trivial⟩
      · rw [if_neg hs]
        have hq : (!(z.s == top)) = true := by rw [beq_eq_false_iff_ne.2 hs]; rfl
        repeat' (first | (rw [hgA]) | refine Awp.seq ?_ | refine Awp.region ?_ | refine Ops.nil (nqA ?_) | refine Awp.skip (nqA ?_) | refine Awp.ret (nqE ?_) | (refine o_sub rfl rfl rfl rfl ?_ ?_; omega) | refine o_len rfl TtOk rfl rfl rfl (fun _ => ?_) | (refine o_calm rfl TtOk rfl rfl rfl ?_ (fun _ => ?_); exact nd) | refine o_alloc (d := 6) rfl TtOk rfl rfl rfl (fun b6 => ?_) | refine o_alloc (d := 11) rfl TtOk rfl rfl rfl (fun b11 => ?_) | refine o_box (d := 3) rfl rfl rfl rfl (fun b3 => ?_) | refine o_box (d := 4) rfl rfl rfl rfl (fun b4 => ?_) | refine o_box (d := 5) rfl rfl rfl rfl (fun b5 => ?_) | refine o_store TtOk rfl rfl rfl rfl rfl rfl rfl ⟨rfl, rfl⟩ rfl rfl rfl rfl rfl ?_ | refine o_build TtOk rfl rfl rfl rfl rfl rfl nq1 ?_ | refine a_condT rfl ?_ | refine a_condF rfl ?_ | (refine a_condP rfl (fun hc => ?_) (fun hc => ?_)) <;> (try (exfalso; omega)) | (refine o_index rfl TtOk rfl rfl rfl rfl rfl rfl ?_ (getq_as (N.length-1) ?_ hjl) ?_; omega; omega) | (refine o_invoke rfl rfl meth_inn hit rfl ⟨nqS, True.intro⟩ rfl rfl ?_; rintro _ _ ⟨rfl, rfl⟩; refine ⟨rfl, ?_⟩) | (refine o_neArr8 TtOk rfl rfl rfl rfl rfl rfl (by kernel_rfl) ?_; rw [hq]) | refine o_callE rfl (hn) ⟨nqS, nqS, True.intro⟩ rfl ?_ | (refine o_call0 rfl (hem) True.intro rfl ?_; rintro _ _ ⟨rfl, rfl⟩; refine ⟨rfl, ?_⟩))
        all_goals
          refine end_all [] [] (.tup [lef0.A, .b false, .i .i64 11]) rfl ?_ ?_ (rle_tup3c (CLe.of_eq rfl) (CLe.of_eq rfl) (CLe.of_eq rfl) rfl rfl rfl) .nil ⟨rfl, rfl⟩ _ (.inl rfl)
          · exact nq1
          · exact ⟨trivial, trivial, trivial, trivial⟩
end Go.Proofs.YtcmgpkibjdbonaaGreat
set_option maxHeartbeats 16000000
set_option maxRecDepth 100000
namespace Go.Proofs.YtcmgpkibjdbonaaGreat
open Go Go.RowKit
end Go.Proofs.YtcmgpkibjdbonaaGreat
set_option maxHeartbeats 8000000
set_option maxRecDepth 100000
namespace Go.Proofs.YtcmgpkibjdbonaaGreat
open Go Go.RowKit
def eqLf (x y : Lef) : Bool := x.l == y.l && (x.v == y.v && x.t == y.t)
theorem eqLf_iff {x y : Lef} : eqLf x y = true ↔ x = y := by
  unfold eqLf
  simp only [Bool.and_eq_true, beq_iff_eq]
  obtain ⟨a, b, c⟩ := x
  obtain ⟨d, e, f⟩ := y
  simp
theorem eqLf_self (x : Lef) : eqLf x x = true := eqLf_iff.2 rfl
theorem eqI_self (x : Itm) : eqI x x = true := eqI_iff.2 rfl
section
variable {m : OM} {C : Ctx} {ops : Array Oper} {l : List Oper} {K : St → Prop} {n : Nat} {sl : List (Nat × AV)} {hp : List (Nat × HO)} {d : Nat} {ty : Nat} {pos : String} {aft : Array Edge} {gd : Option (Nat × Bool)}
end
theorem lefR_eq0 (x y : Lef) (hx : x.ok) (hy : y.ok) (w : World) : (Op.equalIn 10000 58 (.agg (lefC_ x).toArray) (.agg (lefC_ y).toArray)).run Tryz.prog w = .ok (eqLf x y) w := by
  have hS : Tryz.prog.underlying 58 = some (.struct (Tryz.prog.fieldsOf 58)) := by kernel_rfl
  have hh : Tryz.prog.stoodInHeld 58 = false := by kernel_rfl
  have hi : Tryz.prog.underlying 3 = some (.int .i64) := by kernel_rfl
  have hk : Tryz.prog.plainKey 3 = true := by kernel_rfl
  have hu8 : Tryz.prog.underlying 5 = some (.int .u8) := by kernel_rfl
  have hk8 : Tryz.prog.plainKey 5 = true := by kernel_rfl
  have hl : Tryz.prog.underlying 44 = some (.array 32 5) := by kernel_rfl
  have hsz := (tget_ok TtOk (show tget Tt 44 = some _ from rfl)).sizeRun w
  have hag : (isAgg 44).run Tryz.prog w = .ok true w := by
    unfold isAgg; simp only [Sem.run_bind, run_underlying hl, Result.andThen_ok, Sem.run_pure]
  have pA : ∀ (z : Lef), z.ok → (part 44 (lefC_ z).toArray 0).run Tryz.prog w = .ok (.agg (z.l.map cellB).toArray) w := fun z hz => by
    have hx : ((lefC_ z).toArray.extract 0 (0 + 32)) = (z.l.map cellB).toArray := by
      rw [List.extract_toArray]
      congr 1
      unfold lefC_ List.extract
      rw [List.drop_zero, List.take_append_of_le_length (by rw [List.length_map, hz.1]; decide), List.take_of_length_le (by rw [List.length_map, hz.1]; decide)]
    unfold part
    simp only [Sem.run_bind, hag, Result.andThen_ok, if_true, hsz, Sem.run_pure]
    exact congrArg (fun q => Result.ok (Value.agg q) w) hx
  have pB : ∀ (z : Lef), z.ok → (part 44 (lefC_ z).toArray 32).run Tryz.prog w = .ok (.agg (z.v.map cellB).toArray) w := fun z hz => by
    have hx : ((lefC_ z).toArray.extract 32 (32 + 32)) = (z.v.map cellB).toArray := by
      rw [List.extract_toArray]
      congr 1
      unfold lefC_ List.extract
      rw [List.drop_append_of_le_length (by rw [List.length_map, hz.1]; decide), List.drop_of_length_le (by rw [List.length_map, hz.1]; decide), List.nil_append, List.take_append_of_le_length (by rw [List.length_map, hz.2]; decide), List.take_of_length_le (by rw [List.length_map, hz.2]; decide)]
    unfold part
    simp only [Sem.run_bind, hag, Result.andThen_ok, if_true, hsz, Sem.run_pure]
    exact congrArg (fun q => Result.ok (Value.agg q) w) hx
  have pC : ∀ (z : Lef), z.ok → (part 3 (lefC_ z).toArray 64).run Tryz.prog w = .ok (.int .i64 z.t) w := fun z hz => run_part_plain w hk (by
    unfold lefC_
    rw [List.getElem?_toArray, List.getElem?_append_right (by rw [List.length_map, hz.1]; decide), List.getElem?_append_right (by rw [List.length_map, List.length_map, hz.1, hz.2]; decide), List.length_map, List.length_map, hz.1, hz.2]; rfl)
  have p3 := run_equalIn_int (P := Tryz.prog) w 9998 3 .i64 .i64 x.t y.t hi
  have p4 : ∀ a b : List UInt8, a.length = 32 → b.length = 32 → (Op.equalIn (9998 + 1) 44 (.agg (a.map cellB).toArray) (.agg (b.map cellB).toArray)).run Tryz.prog w = .ok (a == b) w := fun a b ha hb => by
    obtain ⟨ie, hie, hies, _⟩ := (tget_ok TtOk (show tget Tt 5 = some _ from rfl)).inf
    have hco : Tryz.prog.cellsOf 5 = 1 := by unfold Program.cellsOf; rw [hie]; exact hies
    have h1 := run_equalIn_array (P := Tryz.prog) w 9998 (a.map cellB).toArray (b.map cellB).toArray hl hie
    have h2 := eqItems_bytes (P := Tryz.prog) (w := w) hu8 hk8 9997 a b (List.range 32) (fun i hi => by have := List.mem_range.1 hi; omega)
    rw [all_range_eq a b 32 ha hb] at h2
    rw [hco] at h1
    rw [h1]
    exact h2
  unfold eqLf
  rw [run_equalIn_struct (P := Tryz.prog) w 9999 _ _ _ hS hh]
  simp only [Program.fieldsOf, Tryz.underlying58]
  simp only [Op.eqFields]
  rw [if_pos (by decide)]
  rw [Sem.run_bind, pA x hx, Result.andThen_ok, Sem.run_bind, pA y hy, Result.andThen_ok, Sem.run_bind, p4 _ _ hx.1 hy.1, Result.andThen_ok]
  generalize (x.l == y.l) = q
  cases q
  · simp only [Bool.not_false, if_true, Sem.run_pure, Bool.false_and]
    try rfl
  · simp only [Bool.not_true, Bool.false_eq_true, if_false]
    rw [if_pos (by decide)]
    rw [Sem.run_bind, pB x hx, Result.andThen_ok, Sem.run_bind, pB y hy, Result.andThen_ok, Sem.run_bind, p4 _ _ hx.2 hy.2, Result.andThen_ok]
    generalize (x.v == y.v) = r
    cases r
    · simp only [Bool.not_false, if_true, Sem.run_pure, Bool.false_and]
      try rfl
    · simp only [Bool.not_true, Bool.false_eq_true, if_false]
      rw [if_pos (by decide)]
      rw [Sem.run_bind, pC x hx, Result.andThen_ok, Sem.run_bind, pC y hy, Result.andThen_ok, Sem.run_bind, p3, Result.andThen_ok]
      generalize (x.t == y.t) = z
      cases z <;> rfl
theorem lefR_neq (x y : Lef) (hx : x.ok) (hy : y.ok) (w : World) : (binOp .neq 58 (.agg (lefC_ x).toArray) (.agg (lefC_ y).toArray)).run Tryz.prog w = .ok (.bool (!(eqLf x y))) w := by
  rw [run_neq_struct, lefR_eq0 x y hx hy]; rfl
section
variable {m : OM} {C : Ctx} {ops : Array Oper} {l : List Oper} {K : St → Prop} {n : Nat} {sl : List (Nat × AV)} {hp : List (Nat × HO)} {d : Nat} {ty : Nat} {pos : String} {aft : Array Edge} {gd : Option (Nat × Bool)}
theorem o_neLefR (hw : gval ops ⟨n, sl, hp⟩ gd = gwant gd) {u : Nat} {x y : Operand} {p q : Lef} (hx : ev ⟨n, sl, hp⟩ x = p.A) (hy : ev ⟨n, sl, hp⟩ y = q.A) (hd : Nat.blt d n = true)
    (h : Ops m Tryz.prog C ops l ⟨n, (d, .b (!eqLf p q)) :: sl, hp⟩ K) : Ops m Tryz.prog C ops (⟨some d, .binOp .neq 58 x y u, ty, pos, aft, gd⟩ :: l) ⟨n, sl, hp⟩ K := by
  refine Ops.by (d := some d) hw none okc_none hd rfl (fun ac w hs => ?_) h
  have Ex := ev_rep hs x
  have Ey := ev_rep hs y
  rw [hx] at Ex
  rw [hy] at Ey
  obtain ⟨l1, Ex⟩ := lef_cells Ex
  obtain ⟨l2, Ey⟩ := lef_cells Ey
  refine ⟨_, repV_b.2 rfl, fun w' _ => ?_⟩
  have hgd := run_eqGuard_agg (P := Tryz.prog) w' .neq 58 x y (lefC_ p).toArray (lefC_ q).toArray (by kernel_rfl)
  simp only [execOp, Ex, Ey, Sem.run_bind, hgd, lefR_neq p q l1 l2, Result.andThen_ok, Sem.run_pure]
end
end Go.Proofs.YtcmgpkibjdbonaaGreat
set_option maxHeartbeats 16000000
set_option maxRecDepth 100000
namespace Go.Proofs.YtcmgpkibjdbonaaGreat
open Go Go.RowKit
theorem same18_spec (p : Prf) : Spec Tryz.prog 44 [p.R, p.R] [] (fun v os => v = .b true ∧ os = []) := by
  obtain ⟨e, lf, a, b, path⟩ := p
  show Spec Tryz.prog 44 [.agg [.i .i64 e, lf.A, a.R, b.R, .sl 66 (path.map Itm.R)], .agg [.i .i64 e, lf.A, a.R, b.R, .sl 66 (path.map Itm.R)]] [] _
  have q1 : (!(eqLf lf lf)) = false := by rw [eqLf_self]; rfl
  have q2 : (!(eqI a a)) = false := by rw [eqI_self]; rfl
  have q3 : (!(eqI b b)) = false := by rw [eqI_self]; rfl
  have qp : ∀ (i : Nat) (h : i < path.length), (!(eqI path[i] path[i])) = false := fun i h => by rw [eqI_self]; rfl
  refine spec_of TtOk [] Tryz.func44 rfl Tryz.ntmps44 (by kernel_rfl) rfl rfl (fun C => ?_) rfl
  repeat' (first | refine Awp.seq ?_ | refine Awp.block ?_ | refine Awp.region ?_ | refine Ops.nil (nqA ?_) | refine Awp.skip (nqA ?_) | refine o_len rfl TtOk rfl rfl rfl (fun _ => ?_) | (refine o_calm rfl TtOk rfl rfl rfl ?_ (fun _ => ?_); exact nd) | refine o_box (d := 2) rfl rfl rfl rfl (fun b2 => ?_) | refine o_box (d := 3) rfl rfl rfl rfl (fun b3 => ?_) | (fail_if_success (refine o_isLit rfl (by first | exact .inl rfl | exact .inr rfl) ?_)); (refine o_splitN rfl rfl (fun hc => ?_) (fun hc => ?_) <;> try (exfalso; omega)) | (refine a_condN rfl (fun hc => ?_) (fun hc => ?_)) <;> (try (exfalso; omega)) | (refine o_neLefR rfl rfl rfl rfl ?_; rw [q1]) | (refine o_neItm rfl rfl rfl rfl ?_; first | rw [q2] | rw [q3]))
  refine Awp.loop (fun i : Nat => ⟨59, [(44, .i .i64 i), (43, .i .i64 path.length), (2, .ptr 2 b2 [] 0), (3, .ptr 3 b3 [] 0)], [(2, .var b2 (.agg [.i .i64 e, lf.A, a.R, b.R, .sl 66 (path.map Itm.R)])), (3, .var b3 (.agg [.i .i64 e, lf.A, a.R, b.R, .sl 66 (path.map Itm.R)]))]⟩) (fun i => i ≤ path.length) (fun i => path.length - i) [] 0 (Nat.zero_le _) ?_ ?_
  · exact ⟨rfl, ⟨sle_i rfl, sle_i rfl, sle_ptr, sle_ptr, True.intro⟩, HLe.cons 2 rfl (HOLe.refl _) (HLe.cons 3 rfl (HOLe.refl _) .nil)⟩
  intro i hi
  by_cases hlt : i < path.length
  · have hi1 : ((i : Int) + 1 = ((i + 1 : Nat) : Int)) := by omega
    have qi := qp i hlt
    repeat' (first | refine Awp.seq ?_ | refine Awp.block ?_ | refine Awp.region ?_ | refine Ops.nil (nqA ?_) | refine Ops.nil (nqX ?_) | refine Awp.skip (nqA ?_) | (refine o_add rfl rfl rfl rfl ?_ ?_; omega) | (refine o_calm rfl TtOk rfl rfl rfl ?_ (fun _ => ?_); exact nd) | (refine o_index rfl TtOk rfl rfl rfl rfl rfl rfl ?_ (getq_nat ?_) ?_; omega; omega) | refine a_condF rfl ?_ | (refine a_condP rfl (fun hc => ?_) (fun hc => ?_)) <;> (try (exfalso; omega)) | refine a_any 6 [] [] [] [0, 2, 5, 7, 1, 3, 4, 6, 8, 9, 10] (by kernel_rfl) (by kernel_rfl) (by kernel_rfl) rfl rfl rfl ?_ | (refine o_neItm rfl rfl rfl rfl ?_; rw [qi]))
    exact ⟨i + 1, [], hlt, by omega, rfl, ⟨sle_i hi1, sle_i rfl, sle_ptr, sle_ptr, True.intro⟩, HLe.cons 2 rfl (HOLe.refl _) (HLe.cons 3 rfl (HOLe.refl _) .nil)⟩
  · repeat' (first | refine Awp.seq ?_ | refine Awp.region ?_ | refine Ops.nil (nqA ?_) | refine Awp.exit (nqA ?_) | refine Awp.ret (nqE ?_) | (refine o_calm rfl TtOk rfl rfl rfl ?_ (fun _ => ?_); exact nd) | (refine a_condP rfl (fun hc => ?_) (fun hc => ?_)) <;> (try (exfalso; omega)))
    exact nq2
theorem told18_spec (p : Prf) (hl : p.path.length ≤ 300) : Spec Tryz.prog 19 [p.A] [] (fun v os => v = p.R ∧ os = []) := by
  obtain ⟨e, lf, a, b, path⟩ := p
  dsimp only at hl
  have h1 := told15_spec a
  have h2 := told15_spec b
  have h3 := told16_spec path 300 (by omega) (by decide) hl
  show Spec Tryz.prog 19 [.agg [.i .i64 e, lf.A, .agg [a.A, b.A], .sl 66 (path.map Itm.A)]] [] (fun v os => v = .agg [.i .i64 e, lf.A, a.R, b.R, .sl 66 (path.map Itm.R)] ∧ os = [])
  refine spec_of TtOk [] Tryz.func19 rfl Tryz.ntmps19 (by kernel_rfl) rfl rfl (fun C => ?_) rfl
  repeat' (first | refine Awp.seq ?_ | refine Awp.region ?_ | refine Ops.nil (nqA ?_) | refine Awp.ret (nqE ?_) | (refine o_calm rfl TtOk rfl rfl rfl ?_ (fun _ => ?_); exact nd) | refine o_alloc (d := 2) rfl TtOk rfl rfl rfl (fun b2 => ?_) | refine o_box (d := 1) rfl rfl rfl rfl (fun b1 => ?_) | refine o_store TtOk rfl rfl rfl rfl rfl rfl rfl ⟨rfl, rfl⟩ rfl rfl rfl rfl rfl ?_ | refine o_build TtOk rfl rfl rfl rfl rfl rfl nq1 ?_ | refine a_any 1 [2] [4, 6, 9, 13, 16] [10, 14, 17] [0, 2, 4, 5, 8, 9, 12, 1, 3, 6, 10, 13, 7, 11, 14, 15, 16] (by kernel_rfl) (by kernel_rfl) (by kernel_rfl) rfl rfl rfl ?_ | refine o_callE rfl (h1) ⟨nqS, True.intro⟩ rfl ?_ | refine o_callE rfl (h2) ⟨nqS, True.intro⟩ rfl ?_ | refine o_callE rfl (h3) ⟨nqS, nqS, True.intro⟩ rfl ?_)
  refine end_all [] [] (.agg [.i .i64 e, lf.A, a.R, b.R, .sl 66 (path.map Itm.R)]) rfl ?_ ?_ (rle_one (CLe.of_eq rfl) rfl) .nil ⟨rfl, rfl⟩ _ (.inl rfl)
  · exact nq1
  · exact ⟨trivial, trivial⟩
def cutP18 (p : Prf) : Prf := ⟨p.e, p.lf, p.a, p.b, p.path.take 300⟩
theorem cutP_ok {p : Prf} (h : p.ok) : (cutP18 p).ok ∧ (cutP18 p).path.length ≤ 300 := ⟨⟨h.lf, h.a, h.b, fun x hx => h.path x (List.mem_of_mem_take hx)⟩, by show (p.path.take 300).length ≤ 300; rw [List.length_take]; omega⟩
theorem cut18_spec (p : Prf) (hl : p.path.length ≤ 9223372036854775807) : Spec Tryz.prog 16 [p.A] [] (fun v os => v = (cutP18 p).A ∧ os = []) := by
  obtain ⟨e, lf, a, b, path⟩ := p
  dsimp only at hl
  unfold cutP18
  show Spec Tryz.prog 16 [.agg [.i .i64 e, lf.A, .agg [a.A, b.A], .sl 66 (path.map Itm.A)]] [] (fun v os => v = .agg [.i .i64 e, lf.A, .agg [a.A, b.A], .sl 66 ((path.take 300).map Itm.A)] ∧ os = [])
  refine spec_of TtOk [] Tryz.func16 rfl Tryz.ntmps16 (by kernel_rfl) rfl rfl (fun C => ?_) rfl
  by_cases h : 300 < path.length
  · repeat' (first | refine Awp.seq ?_ | refine Awp.region ?_ | refine Ops.nil (nqA ?_) | refine Awp.ret (nqE ?_) | refine o_len rfl TtOk rfl rfl rfl (fun _ => ?_) | (refine o_calm rfl TtOk rfl rfl rfl ?_ (fun _ => ?_); exact nd) | refine o_alloc (d := 2) rfl TtOk rfl rfl rfl (fun b2 => ?_) | refine o_box (d := 1) rfl rfl rfl rfl (fun b1 => ?_) | refine o_store TtOk rfl rfl rfl rfl rfl rfl rfl ⟨rfl, rfl⟩ rfl rfl rfl rfl rfl ?_ | (refine a_condP rfl (fun hc => ?_) (fun hc => ?_)) <;> (try (exfalso; omega)) | (refine o_sliceSl TtOk rfl 0 300 rfl rfl rfl rfl rfl bnd_none (bnd_some rfl rfl) (by omega) (by omega) ?_; rw [List.drop_zero]))
    refine end_all [] [] (.agg [.i .i64 e, lf.A, .agg [a.A, b.A], .sl 66 ((path.take 300).map Itm.A)]) rfl ?_ ?_ (rle_one (CLe.of_eq rfl) rfl) .nil ⟨rfl, rfl⟩ _ (.inl rfl)
    · exact nq1
    · exact ⟨trivial, trivial⟩
  · rw [List.take_of_length_le (by omega)]
    repeat' (first | refine Awp.seq ?_ | refine Awp.region ?_ | refine Ops.nil (nqA ?_) | refine Awp.skip (nqA ?_) | refine Awp.ret (nqE ?_) | refine o_len rfl TtOk rfl rfl rfl (fun _ => ?_) | (refine o_calm rfl TtOk rfl rfl rfl ?_ (fun _ => ?_); exact nd) | refine o_alloc (d := 2) rfl TtOk rfl rfl rfl (fun b2 => ?_) | refine o_box (d := 1) rfl rfl rfl rfl (fun b1 => ?_) | refine o_store TtOk rfl rfl rfl rfl rfl rfl rfl ⟨rfl, rfl⟩ rfl rfl rfl rfl rfl ?_ | (refine a_condP rfl (fun hc => ?_) (fun hc => ?_)) <;> (try (exfalso; omega)))
    refine end_all [] [] (.agg [.i .i64 e, lf.A, .agg [a.A, b.A], .sl 66 (path.map Itm.A)]) rfl ?_ ?_ (rle_one (CLe.of_eq rfl) rfl) .nil ⟨rfl, rfl⟩ _ (.inl rfl)
    · exact nq1
    · exact ⟨trivial, trivial⟩
theorem mk_chk {L : List Lef} (lb : List UInt8) (hok : ∀ x ∈ L, x.ok) (hl : L.length ≤ 200) (hc : mkE L = 0) : chkE (mkP L lb) (topS (itmsL L)) lb = 0 := by
  obtain ⟨a, b, _⟩ := mk_taken lb hok hl hc
  unfold chkE
  rw [a, if_neg (show ¬ ((0 : Int) ≠ 0) from fun h => h rfl), b, if_pos rfl]
def awF18 : Lef := ⟨labC 64, List.replicate 32 0, 5⟩
def awL18 : List Lef := [lefC 0, awF18, lefC 128]
theorem awE18 : mkE awL18 = 0 := by decide +kernel
theorem awP18 : (mkP awL18 (labC 64)).path.length = 2 := by decide +kernel
theorem awOk18 : ∀ x ∈ awL18, x.ok := fun x hx => by
  rcases List.mem_cons.1 hx with rfl | hx
  · exact ⟨rfl, rfl⟩
  rcases List.mem_cons.1 hx with rfl | hx
  · exact ⟨rfl, rfl⟩
  rw [List.mem_singleton.1 hx]; exact ⟨rfl, rfl⟩
theorem awN18 : ∀ x ∈ awL18, x.l ≠ labC 192 := by decide +kernel
theorem awake18_spec : Spec Tryz.prog 26 [] [] (fun v os => v = .b true ∧ os = []) := by
  obtain ⟨_, _, a3, a4, a5, a6⟩ := mk_taken (L := awL18) (labC 64) awOk18 (by decide) awE18
  obtain ⟨_, _, b3, b4, b5, b6⟩ := mk_taken (L := awL18) (labC 192) awOk18 (by decide) awE18
  have c1 := mk_chk (L := awL18) (labC 64) awOk18 (by decide) awE18
  have c2 := mk_chk (L := awL18) (labC 192) awOk18 (by decide) awE18
  obtain ⟨d1, d2⟩ := a3 awF18 (List.mem_cons_of_mem _ (List.mem_cons_self ..)) rfl
  have e1 : chkB (mkP awL18 (labC 64)) (labC 64) = true := by unfold chkB; rw [d1, d2]; rfl
  have e2 : chkB (mkP awL18 (labC 192)) (labC 192) = false := by
    unfold chkB
    by_cases h : (mkP awL18 (labC 192)).e = 1
    · rw [beq_eq_false_iff_ne.2 (awN18 _ (b4 h)), Bool.and_false]
    · rw [beq_eq_false_iff_ne.2 h, Bool.false_and]
  have hio : ∀ x ∈ itmsL awL18, x.ok := fun x hx => by
    obtain ⟨y, hy, rfl⟩ := List.mem_map.1 (srtI_mem.1 hx)
    exact leafI_ok y (awOk18 y hy)
  have k0 := of_spec awL18 (by decide) awOk18
  have k1 := top_spec (itmsL awL18) (by unfold itmsL; rw [srtI_len, List.length_map]; decide) hio
  rw [show chkI (itmsL awL18) = 0 from awE18] at k1
  have htl := topS_len (itmsL awL18) hio
  have k2 := pmake_spec awL18 (labC 64) (by decide) awOk18 rfl
  have k3 := prcheck_spec (topS (itmsL awL18)) (labC 64) (mkP awL18 (labC 64)) a5 (by omega) htl rfl
  have k4 := pmake_spec awL18 (labC 192) (by decide) awOk18 rfl
  have k5 := prcheck_spec (topS (itmsL awL18)) (labC 192) (mkP awL18 (labC 192)) b5 (by omega) htl rfl
  rw [awE18] at k2 k4
  unfold chkL_ chkO at k3 k5
  rw [c1, if_pos rfl, if_pos rfl, e1, if_pos rfl, d2] at k3
  rw [c2, if_pos rfl, if_pos rfl, e2, if_neg (by decide)] at k5
  have hpl := awP18
  have hlA : awL18.map Lef.A = [lef0.A, .agg [labA (labC 64), labA (List.replicate 32 0), .i .i64 5], .agg [labA (labC 128), labA (List.replicate 32 0), .i .i64 0]] := rfl
  rw [hlA] at k0 k2 k4
  clear a3 a4 a5 a6 b3 b4 b5 b6 c1 c2 d1 d2 e1 e2 hio hlA
  generalize topS (itmsL awL18) = top at *
  generalize itmsL awL18 = I at *
  generalize mkP awL18 (labC 192) = q at *
  generalize mkP awL18 (labC 64) = p at *
  obtain ⟨e, lf, a, b, path⟩ := p
  dsimp only at hpl
  have hpA : Prf.A ⟨e, lf, a, b, path⟩ = .agg [.i .i64 e, lf.A, .agg [a.A, b.A], .sl 66 (path.map Itm.A)] := rfl
  rw [hpA] at k2 k3
  have hfA : awF18.A = .agg [labA (labC 64), labA (List.replicate 32 0), .i .i64 5] := rfl
  rw [hfA] at k3
  refine spec_of TtOk [] Tryz.func26 rfl Tryz.ntmps26 (by kernel_rfl) rfl rfl (fun C => ?_) rfl
  repeat' (first | (refine o_freezeR 19 1 rfl rfl rfl ?_) | refine Awp.seq ?_ | refine Awp.region ?_ | refine Ops.nil (nqA ?_) | refine Awp.ret (nqE ?_) | refine o_len rfl TtOk rfl rfl rfl (fun _ => ?_) | (refine o_calm rfl TtOk rfl rfl rfl ?_ (fun _ => ?_); exact nd) | refine o_alloc (d := 2) rfl TtOk rfl rfl rfl (fun b2 => ?_) | refine o_alloc (d := 4) rfl TtOk rfl rfl rfl (fun b4 => ?_) | refine o_alloc (d := 6) rfl TtOk rfl rfl rfl (fun b6 => ?_) | refine o_alloc (d := 9) rfl TtOk rfl rfl rfl (fun b9 => ?_) | refine o_alloc (d := 11) rfl TtOk rfl rfl rfl (fun b11 => ?_) | refine o_store TtOk rfl rfl rfl rfl rfl rfl rfl ⟨rfl, rfl⟩ rfl rfl rfl rfl rfl ?_ | refine o_build TtOk rfl rfl rfl rfl rfl rfl nq1 ?_ | refine o_buildSlice TtOk rfl rfl rfl rfl rfl rfl rfl rfl rfl rfl rfl nq1 (fun _ => ?_) | (fail_if_success (refine o_isLit rfl (by first | exact .inl rfl | exact .inr rfl) ?_)); (refine o_splitP rfl rfl (fun hc => ?_) (fun hc => ?_) <;> try (exfalso; omega)) | (refine o_buildArr TtOk rfl ((labC 64).map byA) rfl rfl rfl (by kernel_rfl) rfl rfl ?_) | (refine o_buildArr TtOk rfl ((labC 128).map byA) rfl rfl rfl (by kernel_rfl) rfl rfl ?_) | (refine o_buildArr TtOk rfl ((labC 192).map byA) rfl rfl rfl (by kernel_rfl) rfl rfl ?_) | refine o_callE rfl (k0) ⟨nqS, True.intro⟩ rfl ?_ | refine o_callE rfl (k1) ⟨nqS, True.intro⟩ rfl ?_ | refine o_callE rfl (k2) ⟨nqS, nqS, True.intro⟩ rfl ?_ | refine o_callE rfl (k3) ⟨nqS, nqS, nqS, True.intro⟩ rfl ?_ | refine o_callE rfl (k4) ⟨nqS, nqS, True.intro⟩ rfl ?_ | refine o_callE rfl (k5) ⟨nqS, nqS, nqS, True.intro⟩ rfl ?_)
  all_goals exact nq2
end Go.Proofs.YtcmgpkibjdbonaaGreat
