/- proof.up by rules. -/
import Derived.Test.YtcmgpkibjdbonaaGreatV35Z
import Derived.Test.YtcmgpkibjdbonaaGreatV17Z
import Derived.Test.YtcmgpkibjdbonaaGreatV13Z
import Derived.Test.YtcmgpkibjdbonaaGreatTypesZ
import Derived.Test.YtcmgpkibjdbonaaGreatProg
import Derived.Test.YtcmgpkibjdbonaaGreatBase2Z
import Derived.Lib.ConvBytes
import Derived.Lib.AppendStr
import Derived.Laws.IdiomStrings
import Derived.Laws.BytesArg
import Derived.Laws.BitsAllLaws
import Derived.Laws.BitsLemmas
set_option maxHeartbeats 16000000
set_option maxRecDepth 100000
namespace Go.Proofs.YtcmgpkibjdbonaaGreat
open Go Go.RowKit
/-- Bit m of a label; none beyond its end. -/
def bitN (l : List UInt8) (m : Nat) : Nat := if m < 256 then bitL l m else 0
theorem bitN_spec (l : List UInt8) (hl : l.length = 32) (m : Nat) (hm : m ≤ 256) : Spec Tryz.prog 80 [labA l, .i .i64 m] [] (fun v os => v = .i .i64 (bitN l m) ∧ os = []) := by
  have h := bit_spec l hl m (by omega) (by omega)
  have e : (if (m : Int) < 256 then bitL l (m : Int).toNat else 0 : Nat) = bitN l m := by
    unfold bitN
    rw [Int.toNat_natCast]
    by_cases c : m < 256
    · rw [if_pos c, if_pos (by omega)]
    · rw [if_neg c, if_neg (by omega)]
  rw [e] at h
  exact h
/-- The node of an item on the way and the one beside it. -/
def upL (x y : Itm) : Itm := if 0 < cmpS x.l y.l then y else x
def upR (x y : Itm) : Itm := if 0 < cmpS x.l y.l then x else y
def upE (x y : Itm) (lb : List UInt8) : Int := if chkN (upL x y) (upR x y) ≠ 0 then chkN (upL x y) (upR x y) else if hasP (innI (upL x y) (upR x y)).p lb = true ∧ bitN lb (comL (upL x y).l (upR x y).l) = bitN x.l (comL (upL x y).l (upR x y).l) then 0 else 11
theorem up_spec (x y : Itm) (lb : List UInt8) (hx : x.ok) (hy : y.ok) (hlb : lb.length = 32) : Spec Tryz.prog 85 [x.A, y.A, labA lb] [] (fun v os => v = .tup [.agg [(upL x y).A, (upR x y).A], .i .i64 (upE x y lb)] ∧ os = []) := by
  refine spec_of TtOk [] Tryz.func85 rfl Tryz.ntmps85 (by kernel_rfl) rfl rfl (fun C => ?_) rfl
  have ho := border_spec x.l y.l
  by_cases hc : 0 < cmpS x.l y.l
  · have e1 : upL x y = y := if_pos hc
    have e2 : upR x y = x := if_pos hc
    have hck := ncheckI_spec y x hy hx
    have hit := iitem_spec y x hy hx
    have hil : (innI y x).l.length = 32 := (innI_ok y x hy).1
    have hm : comL y.l x.l ≤ 256 := comL_256 hy.1
    have hn : (innI y x).n = ((comL y.l x.l : Nat) : Int) := rfl
    have hb1 := bitN_spec lb hlb (comL y.l x.l) hm
    have hb2 := bitN_spec x.l hx.1 (comL y.l x.l) hm
    unfold upE
    rw [e1, e2]
    generalize innI y x = z at *
    obtain ⟨zn, zl, zs, zt⟩ := z
    dsimp only at hn hil
    subst hn
    have hhs := bhas_spec (comL y.l x.l : Nat) zl lb hil hlb
    have hP : (⟨(comL y.l x.l : Nat), zl, zs, zt⟩ : Itm).p = ⟨(comL y.l x.l : Nat), zl⟩ := rfl
    rw [hP]
    clear hP e1 e2
    generalize hasP ⟨_, zl⟩ lb = h at hhs ⊢
    generalize comL y.l x.l = m at *
    generalize bitN lb m = u at *
    generalize bitN x.l m = v at *
    generalize chkN y x = e at *
    generalize cmpS x.l y.l = o at *
    by_cases he : e ≠ 0
    · rw [if_pos he]
      repeat' (first | refine Awp.seq ?_ | refine Awp.region ?_ | refine Ops.nil (nqA ?_) | refine Awp.ret (nqE ?_) | (refine o_calm rfl TtOk rfl rfl rfl ?_ (fun _ => ?_); exact nd) | refine o_alloc (d := 6) rfl TtOk rfl rfl rfl (fun b6 => ?_) | refine o_alloc (d := 8) rfl TtOk rfl rfl rfl (fun b8 => ?_) | refine o_box (d := 3) rfl rfl rfl rfl (fun b3 => ?_) | refine o_box (d := 4) rfl rfl rfl rfl (fun b4 => ?_) | refine o_box (d := 5) rfl rfl rfl rfl (fun b5 => ?_) | refine o_store TtOk rfl rfl rfl rfl rfl rfl rfl ⟨rfl, rfl⟩ rfl rfl rfl rfl rfl ?_ | refine o_build TtOk rfl rfl rfl rfl rfl rfl nq1 ?_ | (refine a_condP rfl (fun hc => ?_) (fun hc => ?_)) <;> (try (exfalso; omega)) | (refine a_condN rfl (fun hc => ?_) (fun hc => ?_)) <;> (try (exfalso; omega)) | (refine o_mkIface TtOk rfl rfl rfl rfl rfl rfl ?_) | refine o_callE rfl (ho) ⟨nqS, nqS, True.intro⟩ rfl ?_ | refine o_callE rfl (hck) ⟨nqS, True.intro⟩ rfl ?_)
      all_goals
        refine end_all [] [] (.tup [.agg [y.A, x.A], .i .i64 e]) rfl ?_ ?_ (rle_tup2 (CLe.of_eq rfl) (CLe.of_eq rfl) rfl rfl) .nil ⟨rfl, rfl⟩ _ (.inl rfl)
        · exact nq1
        · exact ⟨trivial, trivial, trivial⟩
    · have he := Decidable.not_not.1 he
      subst he
      rw [if_neg (by decide)]
      cases h
      · rw [if_neg (by simp)]
        repeat' (first | refine Awp.seq ?_ | refine Awp.region ?_ | refine Ops.nil (nqA ?_) | refine Awp.skip (nqA ?_) | refine Awp.ret (nqE ?_) | refine o_noF rfl rfl rfl ?_ | (refine o_calm rfl TtOk rfl rfl rfl ?_ (fun _ => ?_); exact nd) | refine o_alloc (d := 6) rfl TtOk rfl rfl rfl (fun b6 => ?_) | refine o_alloc (d := 8) rfl TtOk rfl rfl rfl (fun b8 => ?_) | refine o_alloc (d := 10) rfl TtOk rfl rfl rfl (fun b10 => ?_) | refine o_box (d := 3) rfl rfl rfl rfl (fun b3 => ?_) | refine o_box (d := 4) rfl rfl rfl rfl (fun b4 => ?_) | refine o_box (d := 5) rfl rfl rfl rfl (fun b5 => ?_) | refine o_store TtOk rfl rfl rfl rfl rfl rfl rfl ⟨rfl, rfl⟩ rfl rfl rfl rfl rfl ?_ | refine o_build TtOk rfl rfl rfl rfl rfl rfl nq1 ?_ | refine a_condT rfl ?_ | refine a_condF rfl ?_ | (refine a_condP rfl (fun hc => ?_) (fun hc => ?_)) <;> (try (exfalso; omega)) | refine a_any 8 [] [] [] [0, 1, 2, 3, 4, 6, 9, 10, 12, 5, 7, 11, 13, 8, 14, 15, 16] (by kernel_rfl) (by kernel_rfl) (by kernel_rfl) rfl rfl rfl ?_ | (refine o_mkIface TtOk rfl rfl rfl rfl rfl rfl ?_) | refine o_callE rfl (ho) ⟨nqS, nqS, True.intro⟩ rfl ?_ | refine o_callE rfl (hck) ⟨nqS, True.intro⟩ rfl ?_ | refine o_callE rfl (hit) ⟨nqS, True.intro⟩ rfl ?_ | refine o_callE rfl (hhs) ⟨nqS, nqS, True.intro⟩ rfl ?_)
        all_goals
          refine end_all [] [] (.tup [.agg [y.A, x.A], .i .i64 11]) rfl ?_ ?_ (rle_tup2 (CLe.of_eq rfl) (CLe.of_eq rfl) rfl rfl) .nil ⟨rfl, rfl⟩ _ (.inl rfl)
          · exact nq1
          · exact ⟨trivial, trivial, trivial⟩
      by_cases huv : u = v
      · rw [if_pos ⟨rfl, huv⟩]
        have hui : (u : Int) = v := by omega
        repeat' (first | refine Awp.seq ?_ | refine Awp.region ?_ | refine Ops.nil (nqA ?_) | refine Awp.skip (nqA ?_) | refine Awp.ret (nqE ?_) | (refine o_calm rfl TtOk rfl rfl rfl ?_ (fun _ => ?_); exact nd) | refine o_alloc (d := 6) rfl TtOk rfl rfl rfl (fun b6 => ?_) | refine o_alloc (d := 8) rfl TtOk rfl rfl rfl (fun b8 => ?_) | refine o_alloc (d := 10) rfl TtOk rfl rfl rfl (fun b10 => ?_) | refine o_box (d := 3) rfl rfl rfl rfl (fun b3 => ?_) | refine o_box (d := 4) rfl rfl rfl rfl (fun b4 => ?_) | refine o_box (d := 5) rfl rfl rfl rfl (fun b5 => ?_) | refine o_store TtOk rfl rfl rfl rfl rfl rfl rfl ⟨rfl, rfl⟩ rfl rfl rfl rfl rfl ?_ | refine o_build TtOk rfl rfl rfl rfl rfl rfl nq1 ?_ | refine a_condF rfl ?_ | (refine a_condP rfl (fun hc => ?_) (fun hc => ?_)) <;> (try (exfalso; omega)) | (refine a_condN rfl (fun hc => ?_) (fun hc => ?_)) <;> (try (exfalso; omega)) | refine a_any 8 [] [] [] [0, 1, 2, 3, 4, 6, 9, 10, 12, 5, 7, 11, 13, 8, 14, 15, 16] (by kernel_rfl) (by kernel_rfl) (by kernel_rfl) rfl rfl rfl ?_ | (refine o_mkIface TtOk rfl rfl rfl rfl rfl rfl ?_) | refine o_callE rfl (ho) ⟨nqS, nqS, True.intro⟩ rfl ?_ | refine o_callE rfl (hck) ⟨nqS, True.intro⟩ rfl ?_ | refine o_callE rfl (hit) ⟨nqS, True.intro⟩ rfl ?_ | refine o_callE rfl (hhs) ⟨nqS, nqS, True.intro⟩ rfl ?_ | refine o_callE rfl (hb1) ⟨nqS, nqS, True.intro⟩ rfl ?_ | refine o_callE rfl (hb2) ⟨nqS, nqS, True.intro⟩ rfl ?_)
        all_goals
          refine end_all [] [] (.tup [.agg [y.A, x.A], .i .i64 0]) rfl ?_ ?_ (rle_tup2 (CLe.of_eq rfl) (CLe.of_eq rfl) rfl rfl) .nil ⟨rfl, rfl⟩ _ (.inl rfl)
          · exact nq1
          · exact ⟨trivial, trivial, trivial⟩
      · rw [if_neg (fun h => huv h.2)]
        have hui : ¬ (u : Int) = v := by omega
        repeat' (first | refine Awp.seq ?_ | refine Awp.region ?_ | refine Ops.nil (nqA ?_) | refine Awp.skip (nqA ?_) | refine Awp.ret (nqE ?_) | (refine o_calm rfl TtOk rfl rfl rfl ?_ (fun _ => ?_); exact nd) | refine o_alloc (d := 6) rfl TtOk rfl rfl rfl (fun b6 => ?_) | refine o_alloc (d := 8) rfl TtOk rfl rfl rfl (fun b8 => ?_) | refine o_alloc (d := 10) rfl TtOk rfl rfl rfl (fun b10 => ?_) | refine o_box (d := 3) rfl rfl rfl rfl (fun b3 => ?_) | refine o_box (d := 4) rfl rfl rfl rfl (fun b4 => ?_) | refine o_box (d := 5) rfl rfl rfl rfl (fun b5 => ?_) | refine o_store TtOk rfl rfl rfl rfl rfl rfl rfl ⟨rfl, rfl⟩ rfl rfl rfl rfl rfl ?_ | refine o_build TtOk rfl rfl rfl rfl rfl rfl nq1 ?_ | refine a_condF rfl ?_ | (refine a_condP rfl (fun hc => ?_) (fun hc => ?_)) <;> (try (exfalso; omega)) | (refine a_condN rfl (fun hc => ?_) (fun hc => ?_)) <;> (try (exfalso; omega)) | refine a_any 8 [] [] [] [0, 1, 2, 3, 4, 6, 9, 10, 12, 5, 7, 11, 13, 8, 14, 15, 16] (by kernel_rfl) (by kernel_rfl) (by kernel_rfl) rfl rfl rfl ?_ | (refine o_mkIface TtOk rfl rfl rfl rfl rfl rfl ?_) | refine o_callE rfl (ho) ⟨nqS, nqS, True.intro⟩ rfl ?_ | refine o_callE rfl (hck) ⟨nqS, True.intro⟩ rfl ?_ | refine o_callE rfl (hit) ⟨nqS, True.intro⟩ rfl ?_ | refine o_callE rfl (hhs) ⟨nqS, nqS, True.intro⟩ rfl ?_ | refine o_callE rfl (hb1) ⟨nqS, nqS, True.intro⟩ rfl ?_ | refine o_callE rfl (hb2) ⟨nqS, nqS, True.intro⟩ rfl ?_)
        all_goals
          refine end_all [] [] (.tup [.agg [y.A, x.A], .i .i64 11]) rfl ?_ ?_ (rle_tup2 (CLe.of_eq rfl) (CLe.of_eq rfl) rfl rfl) .nil ⟨rfl, rfl⟩ _ (.inl rfl)
          · exact nq1
          · exact ⟨trivial, trivial, trivial⟩
  · have e1 : upL x y = x := if_neg hc
    have e2 : upR x y = y := if_neg hc
    have hck := ncheckI_spec x y hx hy
    have hit := iitem_spec x y hx hy
    have hil : (innI x y).l.length = 32 := (innI_ok x y hx).1
    have hm : comL x.l y.l ≤ 256 := comL_256 hx.1
    have hn : (innI x y).n = ((comL x.l y.l : Nat) : Int) := rfl
    have hb1 := bitN_spec lb hlb (comL x.l y.l) hm
    have hb2 := bitN_spec x.l hx.1 (comL x.l y.l) hm
    unfold upE
    rw [e1, e2]
    generalize innI x y = z at *
    obtain ⟨zn, zl, zs, zt⟩ := z
    dsimp only at hn hil
    subst hn
    have hhs := bhas_spec (comL x.l y.l : Nat) zl lb hil hlb
    have hP : (⟨(comL x.l y.l : Nat), zl, zs, zt⟩ : Itm).p = ⟨(comL x.l y.l : Nat), zl⟩ := rfl
    rw [hP]
    clear hP e1 e2
    generalize hasP ⟨_, zl⟩ lb = h at hhs ⊢
    generalize comL x.l y.l = m at *
    generalize bitN lb m = u at *
    generalize bitN x.l m = v at *
    generalize chkN x y = e at *
    generalize cmpS x.l y.l = o at *
    by_cases he : e ≠ 0
    · rw [if_pos he]
      repeat' (first | refine Awp.seq ?_ | refine Awp.region ?_ | refine Ops.nil (nqA ?_) | refine Awp.skip (nqA ?_) | refine Awp.ret (nqE ?_) | (refine o_calm rfl TtOk rfl rfl rfl ?_ (fun _ => ?_); exact nd) | refine o_alloc (d := 6) rfl TtOk rfl rfl rfl (fun b6 => ?_) | refine o_alloc (d := 8) rfl TtOk rfl rfl rfl (fun b8 => ?_) | refine o_box (d := 3) rfl rfl rfl rfl (fun b3 => ?_) | refine o_box (d := 4) rfl rfl rfl rfl (fun b4 => ?_) | refine o_box (d := 5) rfl rfl rfl rfl (fun b5 => ?_) | refine o_store TtOk rfl rfl rfl rfl rfl rfl rfl ⟨rfl, rfl⟩ rfl rfl rfl rfl rfl ?_ | refine o_build TtOk rfl rfl rfl rfl rfl rfl nq1 ?_ | (refine a_condP rfl (fun hc => ?_) (fun hc => ?_)) <;> (try (exfalso; omega)) | (refine a_condN rfl (fun hc => ?_) (fun hc => ?_)) <;> (try (exfalso; omega)) | (refine o_mkIface TtOk rfl rfl rfl rfl rfl rfl ?_) | refine o_callE rfl (ho) ⟨nqS, nqS, True.intro⟩ rfl ?_ | refine o_callE rfl (hck) ⟨nqS, True.intro⟩ rfl ?_)
      all_goals
        refine end_all [] [] (.tup [.agg [x.A, y.A], .i .i64 e]) rfl ?_ ?_ (rle_tup2 (CLe.of_eq rfl) (CLe.of_eq rfl) rfl rfl) .nil ⟨rfl, rfl⟩ _ (.inl rfl)
        · exact nq1
        · exact ⟨trivial, trivial, trivial⟩
    · have he := Decidable.not_not.1 he
      subst he
      rw [if_neg (by decide)]
      cases h
      · rw [if_neg (by simp)]
        repeat' (first | refine Awp.seq ?_ | refine Awp.region ?_ | refine Ops.nil (nqA ?_) | refine Awp.skip (nqA ?_) | refine Awp.ret (nqE ?_) | refine o_noF rfl rfl rfl ?_ | (refine o_calm rfl TtOk rfl rfl rfl ?_ (fun _ => ?_); exact nd) | refine o_alloc (d := 6) rfl TtOk rfl rfl rfl (fun b6 => ?_) | refine o_alloc (d := 8) rfl TtOk rfl rfl rfl (fun b8 => ?_) | refine o_alloc (d := 10) rfl TtOk rfl rfl rfl (fun b10 => ?_) | refine o_box (d := 3) rfl rfl rfl rfl (fun b3 => ?_) | refine o_box (d := 4) rfl rfl rfl rfl (fun b4 => ?_) | refine o_box (d := 5) rfl rfl rfl rfl (fun b5 => ?_) | refine o_store TtOk rfl rfl rfl rfl rfl rfl rfl ⟨rfl, rfl⟩ rfl rfl rfl rfl rfl ?_ | refine o_build TtOk rfl rfl rfl rfl rfl rfl nq1 ?_ | refine a_condT rfl ?_ | refine a_condF rfl ?_ | (refine a_condP rfl (fun hc => ?_) (fun hc => ?_)) <;> (try (exfalso; omega)) | refine a_any 8 [] [] [] [0, 1, 2, 3, 4, 6, 9, 10, 12, 5, 7, 11, 13, 8, 14, 15, 16] (by kernel_rfl) (by kernel_rfl) (by kernel_rfl) rfl rfl rfl ?_ | (refine o_mkIface TtOk rfl rfl rfl rfl rfl rfl ?_) | refine o_callE rfl (ho) ⟨nqS, nqS, True.intro⟩ rfl ?_ | refine o_callE rfl (hck) ⟨nqS, True.intro⟩ rfl ?_ | refine o_callE rfl (hit) ⟨nqS, True.intro⟩ rfl ?_ | refine o_callE rfl (hhs) ⟨nqS, nqS, True.intro⟩ rfl ?_)
        all_goals
          refine end_all [] [] (.tup [.agg [x.A, y.A], .i .i64 11]) rfl ?_ ?_ (rle_tup2 (CLe.of_eq rfl) (CLe.of_eq rfl) rfl rfl) .nil ⟨rfl, rfl⟩ _ (.inl rfl)
          · exact nq1
          · exact ⟨trivial, trivial, trivial⟩
      by_cases huv : u = v
      · rw [if_pos ⟨rfl, huv⟩]
        have hui : (u : Int) = v := by omega
        repeat' (first | refine Awp.seq ?_ | refine Awp.region ?_ | refine Ops.nil (nqA ?_) | refine Awp.skip (nqA ?_) | refine Awp.ret (nqE ?_) | (refine o_calm rfl TtOk rfl rfl rfl ?_ (fun _ => ?_); exact nd) | refine o_alloc (d := 6) rfl TtOk rfl rfl rfl (fun b6 => ?_) | refine o_alloc (d := 8) rfl TtOk rfl rfl rfl (fun b8 => ?_) | refine o_alloc (d := 10) rfl TtOk rfl rfl rfl (fun b10 => ?_) | refine o_box (d := 3) rfl rfl rfl rfl (fun b3 => ?_) | refine o_box (d := 4) rfl rfl rfl rfl (fun b4 => ?_) | refine o_box (d := 5) rfl rfl rfl rfl (fun b5 => ?_) | refine o_store TtOk rfl rfl rfl rfl rfl rfl rfl ⟨rfl, rfl⟩ rfl rfl rfl rfl rfl ?_ | refine o_build TtOk rfl rfl rfl rfl rfl rfl nq1 ?_ | refine a_condF rfl ?_ | (refine a_condP rfl (fun hc => ?_) (fun hc => ?_)) <;> (try (exfalso; omega)) | (refine a_condN rfl (fun hc => ?_) (fun hc => ?_)) <;> (try (exfalso; omega)) | refine a_any 8 [] [] [] [0, 1, 2, 3, 4, 6, 9, 10, 12, 5, 7, 11, 13, 8, 14, 15, 16] (by kernel_rfl) (by kernel_rfl) (by kernel_rfl) rfl rfl rfl ?_ | (refine o_mkIface TtOk rfl rfl rfl rfl rfl rfl ?_) | refine o_callE rfl (ho) ⟨nqS, nqS, True.intro⟩ rfl ?_ | refine o_callE rfl (hck) ⟨nqS, True.intro⟩ rfl ?_ | refine o_callE rfl (hit) ⟨nqS, True.intro⟩ rfl ?_ | refine o_callE rfl (hhs) ⟨nqS, nqS, True.intro⟩ rfl ?_ | refine o_callE rfl (hb1) ⟨nqS, nqS, True.intro⟩ rfl ?_ | refine o_callE rfl (hb2) ⟨nqS, nqS, True.intro⟩ rfl ?_)
        all_goals
          refine end_all [] [] (.tup [.agg [x.A, y.A], .i .i64 0]) rfl ?_ ?_ (rle_tup2 (CLe.of_eq rfl) (CLe.of_eq rfl) rfl rfl) .nil ⟨rfl, rfl⟩ _ (.inl rfl)
          · exact nq1
          · exact ⟨trivial, trivial, trivial⟩
      · rw [if_neg (fun h => huv h.2)]
        have hui : ¬ (u : Int) = v := by omega
        repeat' (first | refine Awp.seq ?_ | refine Awp.region ?_ | refine Ops.nil (nqA ?_) | refine Awp.skip (nqA ?_) | refine Awp.ret (nqE ?_) | (refine o_calm rfl TtOk rfl rfl rfl ?_ (fun _ => ?_); exact nd) | refine o_alloc (d := 6) rfl TtOk rfl rfl rfl (fun b6 => ?_) | refine o_alloc (d := 8) rfl TtOk rfl rfl rfl (fun b8 => ?_) | refine o_alloc (d := 10) rfl TtOk rfl rfl rfl (fun b10 => ?_) | refine o_box (d := 3) rfl rfl rfl rfl (fun b3 => ?_) | refine o_box (d := 4) rfl rfl rfl rfl (fun b4 => ?_) | refine o_box (d := 5) rfl rfl rfl rfl (fun b5 => ?_) | refine o_store TtOk rfl rfl rfl rfl rfl rfl rfl ⟨rfl, rfl⟩ rfl rfl rfl rfl rfl ?_ | refine o_build TtOk rfl rfl rfl rfl rfl rfl nq1 ?_ | refine a_condF rfl ?_ | (refine a_condP rfl (fun hc => ?_) (fun hc => ?_)) <;> (try (exfalso; omega)) | (refine a_condN rfl (fun hc => ?_) (fun hc => ?_)) <;> (try (exfalso; omega)) | refine a_any 8 [] [] [] [0, 1, 2, 3, 4, 6, 9, 10, 12, 5, 7, 11, 13, 8, 14, 15, 16] (by kernel_rfl) (by kernel_rfl) (by kernel_rfl) rfl rfl rfl ?_ | (refine o_mkIface TtOk rfl rfl rfl rfl rfl rfl ?_) | refine o_callE rfl (ho) ⟨nqS, nqS, True.intro⟩ rfl ?_ | refine o_callE rfl (hck) ⟨nqS, True.intro⟩ rfl ?_ | refine o_callE rfl (hit) ⟨nqS, True.intro⟩ rfl ?_ | refine o_callE rfl (hhs) ⟨nqS, nqS, True.intro⟩ rfl ?_ | refine o_callE rfl (hb1) ⟨nqS, nqS, True.intro⟩ rfl ?_ | refine o_callE rfl (hb2) ⟨nqS, nqS, True.intro⟩ rfl ?_)
        all_goals
          refine end_all [] [] (.tup [.agg [x.A, y.A], .i .i64 11]) rfl ?_ ?_ (rle_tup2 (CLe.of_eq rfl) (CLe.of_eq rfl) rfl rfl) .nil ⟨rfl, rfl⟩ _ (.inl rfl)
          · exact nq1
          · exact ⟨trivial, trivial, trivial⟩
end Go.Proofs.YtcmgpkibjdbonaaGreat
set_option maxHeartbeats 4000000
namespace Go.Proofs.YtcmgpkibjdbonaaGreat
open Go Go.RowKit

/-- What a Reader holds. -/
structure RS where
  s : List UInt8
  p : Nat
  e : Int
def RS.ok (r : RS) : Prop := r.p ≤ r.s.length ∧ r.s.length ≤ 9223372036854775807
def rdA (r : RS) : AV := .agg [.s r.s, .i .i64 r.p, .i .i64 r.e]
def RS.take (r : RS) (n : Nat) : List UInt8 × RS :=
  if r.e ≠ 0 then ([], r) else if r.s.length - r.p < n then ([], ⟨r.s, r.p, 5⟩) else ((r.s.drop r.p).take n, ⟨r.s, r.p + n, 0⟩)
def RS.fail (r : RS) (x : Int) : RS := if r.e = 0 then ⟨r.s, r.p, x⟩ else r
end Go.Proofs.YtcmgpkibjdbonaaGreat
namespace Go.Proofs.YtcmgpkibjdbonaaGreat
open Go.RowKit

def byC (c : UInt8) : List Value := [.int .u8 (c.toNat : Int)]
end Go.Proofs.YtcmgpkibjdbonaaGreat
set_option maxHeartbeats 4000000
namespace Go.Proofs.YtcmgpkibjdbonaaGreat
open Go Go.RowKit

def be (l : List UInt8) : Nat := l.foldl (fun n c => 256 * n + c.toNat) 0
def badNum (sz : Nat) (l : List UInt8) : Bool := match l with
  | [] => false
  | c :: _ => c.toNat == 0 || sz == 8 && decide (127 < c.toNat)
def hd0 (l : List UInt8) : Nat := (l.headD 0).toNat
def RS.number (r : RS) : Nat × RS :=
  if (r.take 1).1 = [] then (0, (r.take 1).2) else
  if 8 < hd0 (r.take 1).1 then (0, (r.take 1).2.fail 4) else
  if badNum (hd0 (r.take 1).1) ((r.take 1).2.take (hd0 (r.take 1).1)).1 then (0, ((r.take 1).2.take (hd0 (r.take 1).1)).2.fail 4)
  else (be ((r.take 1).2.take (hd0 (r.take 1).1)).1, ((r.take 1).2.take (hd0 (r.take 1).1)).2)
end Go.Proofs.YtcmgpkibjdbonaaGreat
set_option maxHeartbeats 4000000
namespace Go.Proofs.YtcmgpkibjdbonaaGreat
open Go Go.RowKit

def RS.big (r : RS) (n : Nat) : RS := if r.e = 0 ∧ 65536 < n then r.fail 2 else r
def RS.text (r : RS) : List UInt8 × RS := (r.number.2.big r.number.1).take r.number.1
def RS.below (r : RS) (most : Int) : Nat × RS := if most ≤ (r.number.1 : Int) then (0, r.number.2.fail 2) else r.number
def RS.flag (r : RS) : Bool × RS :=
  if Op.bytesLess (r.take 1).1 [1] || (r.take 1).1 == [1] then ((r.take 1).1 == [1], (r.take 1).2) else (false, (r.take 1).2.fail 4)
def RS.done (r : RS) : Int := if r.e = 0 ∧ r.p < r.s.length then 3 else r.e
def RS.open (s : List UInt8) : RS := ⟨s, 0, if 65536 < s.length then 2 else 0⟩
end Go.Proofs.YtcmgpkibjdbonaaGreat
set_option maxHeartbeats 4000000
namespace Go.Proofs.YtcmgpkibjdbonaaGreat
open Go Go.RowKit

end Go.Proofs.YtcmgpkibjdbonaaGreat
set_option maxHeartbeats 8000000
namespace Go.Proofs.YtcmgpkibjdbonaaGreat
open Go Go.RowKit

theorem take_nil {r : RS} (hok : r.ok) {n : Nat} (hn : 0 < n) : (r.take n).1 = [] ↔ (r.take n).2.e ≠ 0 := by
  obtain ⟨h1, h2⟩ := hok
  unfold RS.take
  split
  · rename_i h; exact ⟨fun _ => h, fun _ => rfl⟩
  · split
    · exact ⟨fun _ => by show (5 : Int) ≠ 0; decide, fun _ => rfl⟩
    · refine ⟨fun h => ?_, fun h => absurd rfl h⟩
      have : ((r.s.drop r.p).take n).length = 0 := by rw [show (r.s.drop r.p).take n = [] from h]; rfl
      rw [List.length_take, List.length_drop] at this
      omega
end Go.Proofs.YtcmgpkibjdbonaaGreat
set_option maxHeartbeats 16000000
namespace Go.Proofs.YtcmgpkibjdbonaaGreat
open Go Go.RowKit

end Go.Proofs.YtcmgpkibjdbonaaGreat
set_option maxHeartbeats 16000000
namespace Go.Proofs.YtcmgpkibjdbonaaGreat
open Go Go.RowKit

def RS.label (r : RS) : List UInt8 × RS := ((r.take 32).1 ++ List.replicate (32 - (r.take 32).1.length) 0, (r.take 32).2)
end Go.Proofs.YtcmgpkibjdbonaaGreat
set_option maxHeartbeats 4000000
namespace Go.Proofs.YtcmgpkibjdbonaaGreat
open Go Go.RowKit

end Go.Proofs.YtcmgpkibjdbonaaGreat
set_option maxHeartbeats 4000000
namespace Go.Proofs.YtcmgpkibjdbonaaGreat
open Go Go.RowKit

/-- What a Writer holds: its bytes, its first error. -/
structure WS where
  bs : List UInt8
  e : Int
def WS.fail (s : WS) (x : Int) : WS := if s.e = 0 then { s with e := x } else s
def WS.put (s : WS) (l : List UInt8) : WS := { s with bs := s.bs ++ l }
def digits (n : Nat) : List UInt8 := if n = 0 then [] else digits (n / 256) ++ [UInt8.ofNat n]
termination_by n
decreasing_by omega
def numBytes (n : Nat) : List UInt8 := UInt8.ofNat (digits n).length :: digits n
def WS.number (s : WS) (n : Int) : WS := if n < 0 then s.fail 1 else s.put (numBytes n.toNat)

def wrA (v : Value) (s : WS) : AV := .agg [.own 1 v, .i .i64 s.e]
def wrO (b : Nat) (v : Value) (s : WS) : List HO := [.var b (wrA v s), .row v 5 1 (s.bs.map byA)]
end Go.Proofs.YtcmgpkibjdbonaaGreat
set_option maxHeartbeats 4000000
namespace Go.Proofs.YtcmgpkibjdbonaaGreat
open Go Go.RowKit

def WS.text (s : WS) (t : List UInt8) : WS := if 65536 < t.length then s.fail 2 else (s.number t.length).put t
def WS.done (s : WS) : List UInt8 × Int := if s.e ≠ 0 then ([], s.e) else if 65536 < s.bs.length then ([], 2) else (s.bs, 0)
end Go.Proofs.YtcmgpkibjdbonaaGreat
set_option maxHeartbeats 4000000
namespace Go.Proofs.YtcmgpkibjdbonaaGreat
open Go Go.RowKit

end Go.Proofs.YtcmgpkibjdbonaaGreat
namespace Go.Proofs.YtcmgpkibjdbonaaGreat
open Go Go.RowKit

structure Thg where
  k : Int
  n : Int
  s : List UInt8
  l : List UInt8
def thA (t : Thg) : AV := .agg [.i .i64 t.k, .i .i64 t.n, .s t.s, labA t.l]
def RS.rest (r : RS) : List UInt8 := r.s.drop r.p
def textBytes (s : List UInt8) : List UInt8 := numBytes s.length ++ s
/-! One spelling. -/
/-- The bytes of a thing. -/
def tBytes (t : Thg) : List UInt8 := if t.k = 1 then numBytes t.n.toNat else if t.k = 2 then textBytes t.s else if t.k = 3 then t.l else if t.k = 4 then [if 0 < t.n then 1 else 0] else []
def WS.thing (w : WS) (t : Thg) : WS := if t.k = 1 then w.number t.n else if t.k = 2 then w.text t.s else if t.k = 3 then w.put t.l else if t.k = 4 then w.put [if 0 < t.n then 1 else 0] else w
def WS.things (w : WS) (l : List Thg) : WS := l.foldl WS.thing w
/-- What is written without a fault. -/
def tOk (t : Thg) : Prop := (t.k = 1 → 0 ≤ t.n) ∧ (t.k = 2 → t.s.length ≤ 65536)
end Go.Proofs.YtcmgpkibjdbonaaGreat
set_option maxHeartbeats 8000000
set_option maxRecDepth 100000
namespace Go.Proofs.YtcmgpkibjdbonaaGreat
open Go Go.RowKit
def WS.itm (s : WS) (x : Itm) : WS := (((s.number x.n).put x.l).put x.s).number x.t
def RS.itm (r : RS) : Itm × RS := (⟨(r.number.1 : Nat), r.number.2.label.1, r.number.2.label.2.label.1, (r.number.2.label.2.label.2.number.1 : Nat)⟩, r.number.2.label.2.label.2.number.2)
def WS.lef (s : WS) (x : Lef) : WS := ((s.put x.l).put x.v).number x.t
def RS.lef (r : RS) : Lef × RS := (⟨r.label.1, r.label.2.label.1, (r.label.2.label.2.number.1 : Nat)⟩, r.label.2.label.2.number.2)
def w0 : WS := ⟨[], 0⟩
def lfW (x : Lef) : WS := (w0.put [0]).lef x
def inW (x y : Itm) : WS := ((w0.put [1]).itm x).itm y
/-- The bytes of a leaf, of an inner node; the error. -/
def lfBy (x : Lef) : List UInt8 × Int := if chkLf x ≠ 0 then ([], chkLf x) else (lfW x).done
def inBy (x y : Itm) : List UInt8 × Int := if chkN x y ≠ 0 then ([], chkN x y) else (inW x y).done
/-- What bytes are as a node: a leaf, two items, or nothing; the error. -/
inductive Nod where
  | no | lf (x : Lef) | inn (x y : Itm)
def Nod.A : Nod → AV
  | .no => .nili
  | .lf x => leafN x
  | .inn x y => innN x y
def Nod.chk : Nod → Int
  | .no => 3
  | .lf x => chkLf x
  | .inn x y => chkN x y
def nodR (s : List UInt8) : Nod × RS :=
  let f := (RS.open s).flag
  if f.1 = true then (.inn f.2.itm.1 f.2.itm.2.itm.1, f.2.itm.2.itm.2) else (.lf f.2.lef.1, f.2.lef.2)
def nodRd (s : List UInt8) : Nod × Int :=
  if (nodR s).2.done ≠ 0 then (.no, (nodR s).2.done) else if (nodR s).1.chk ≠ 0 then (.no, (nodR s).1.chk) else ((nodR s).1, 0)
end Go.Proofs.YtcmgpkibjdbonaaGreat
set_option maxHeartbeats 4000000
namespace Go.Proofs.YtcmgpkibjdbonaaGreat
open Go Go.RowKit
/-- The nodes upwards of an item, by the items beside the way. -/
def upsF : Itm → List Itm → List UInt8 → List Nod × Int
  | _, [], _ => ([], 0)
  | x, y :: r, lb => if upE x y lb ≠ 0 then ([], upE x y lb) else (.inn (upL x y) (upR x y) :: (upsF (innI (upL x y) (upR x y)) r lb).1, (upsF (innI (upL x y) (upR x y)) r lb).2)
/-- Nodes ahead of what is still to come. -/
def fin_ (acc : List Nod) (q : List Nod × Int) : List Nod × Int := if q.2 ≠ 0 then ([], q.2) else (acc ++ q.1, 0)
def ndsF (p : Prf) (lb : List UInt8) : List Nod × Int :=
  if 256 < p.path.length then ([], 2)
  else if p.e = 0 then (if p.path.length = 0 then ([], 0) else ([], 3))
  else if p.e = 1 then (if chkLf p.lf ≠ 0 then ([], chkLf p.lf) else fin_ [.lf p.lf] (upsF (leafI p.lf) p.path lb))
  else if p.e = 2 then (if chkN p.a p.b ≠ 0 then ([], chkN p.a p.b) else if hasP (innI p.a p.b).p lb = true then ([], 11) else fin_ [.inn p.a p.b] (upsF (innI p.a p.b) p.path lb))
  else ([], 1)
theorem fin_app (acc : List Nod) (n : Nod) (q : List Nod × Int) : fin_ (acc ++ [n]) q = fin_ acc (n :: q.1, q.2) := by
  unfold fin_
  by_cases h : q.2 ≠ 0
  · rw [if_pos h, if_pos h]
  · rw [if_neg h, if_neg h, List.append_assoc]; rfl
theorem upLR_ok {x y : Itm} (hx : x.ok) (hy : y.ok) : (upL x y).ok ∧ (upR x y).ok := by
  unfold upL upR
  split <;> exact ⟨‹_›, ‹_›⟩
end Go.Proofs.YtcmgpkibjdbonaaGreat
