/- law02.CodeCut walked. -/
import Derived.Test.YtcnkmfmdadmaaaaCodeLaw
namespace Go.Proofs.Ytcnkmfmdadmaaaa
open Go.RowKit
theorem WS.fail_e (s : WS) (x : Int) (h : s.e ≠ 0 ∨ x ≠ 0) : (s.fail x).e ≠ 0 := by
  unfold WS.fail; split
  · rcases h with h | h
    · contradiction
    · exact h
  · assumption
theorem WS.number_e (s : WS) (n : Int) (h : s.e ≠ 0) : (s.number n).e ≠ 0 := by
  unfold WS.number; split
  · exact WS.fail_e _ _ (.inl h)
  · exact h
theorem WS.text_e (s : WS) (t : ByteArray) (h : s.e ≠ 0) : (s.text t).e ≠ 0 := by
  unfold WS.text; split
  · exact WS.fail_e _ _ (.inl h)
  · exact WS.number_e _ _ h
def cutOut (n : Int) (s : ByteArray) : ByteArray × Int := (((WS.mk [] 0).number n).text s).done
theorem done_zero (s : WS) (h : s.done.2 = 0) : s.e = 0 ∧ s.bs.length ≤ 65536 ∧ s.done.1 = ⟨s.bs.toArray⟩ := by
  unfold WS.done at h ⊢
  by_cases he : s.e = 0
  · rw [if_neg (by simpa using he)] at h ⊢
    by_cases hb : 65536 < s.bs.length
    · rw [if_pos hb] at h; exact absurd h (by show ¬ ((2 : Int) = 0); omega)
    · rw [if_neg hb]; exact ⟨he, by omega, rfl⟩
  · rw [if_pos he] at h; exact absurd h he
theorem cutOut_good (n : Int) (s : ByteArray) (h : (cutOut n s).2 = 0) : 0 ≤ n ∧ s.size ≤ 65536 ∧ (numBytes n.toNat ++ textBytes s).length ≤ 65536 ∧ (cutOut n s).1 = ⟨(numBytes n.toNat ++ textBytes s).toArray⟩ := by
  unfold cutOut at h ⊢
  obtain ⟨h1, h2, h3⟩ := done_zero _ h
  have hn : 0 ≤ n := by
    rcases Int.lt_or_le n 0 with hn | hn
    · refine absurd h1 (WS.text_e _ _ ?_)
      unfold WS.number; rw [if_pos hn]; exact WS.fail_e _ _ (.inr (by omega))
    · exact hn
  have hs : s.size ≤ 65536 := by
    rcases Nat.lt_or_ge 65536 s.size with hs | hs
    · refine absurd h1 ?_
      unfold WS.text; rw [if_pos hs]; exact WS.fail_e _ _ (.inr (by omega))
    · exact hs
  have hb : (((WS.mk [] 0).number n).text s).bs = numBytes n.toNat ++ textBytes s := by
    unfold WS.text WS.number textBytes
    rw [if_neg (by omega), if_neg (by omega), if_neg (by omega)]
    show ([] ++ _ ++ _) ++ _ = _
    rw [List.nil_append, List.append_assoc, Int.toNat_natCast]
  rw [h3, hb]
  rw [hb] at h2
  exact ⟨hn, hs, h2, rfl⟩
theorem open_rest (l : List UInt8) (k : Nat) (hk : k ≤ 65536) : (RS.open ((⟨l.toArray⟩ : ByteArray).extract 0 k)).rest = l.take k ∧ (RS.open ((⟨l.toArray⟩ : ByteArray).extract 0 k)).e = 0 := by
  have h := extract_list ⟨l.toArray⟩ 0 k
  rw [Nat.zero_add] at h
  rw [h]
  constructor
  · show ((List.take k (List.drop 0 l))).drop 0 = _
    rw [List.drop_zero, List.drop_zero]
  · unfold RS.open
    simp only []
    rw [if_neg]
    rw [size_eq]
    show ¬ 65536 < (List.take k (List.drop 0 l)).length
    rw [List.length_take]; omega
theorem cut_done (n : Int) (hn : n < 9223372036854775808) (s : ByteArray) (h : (cutOut n s).2 = 0) (k : Nat) (hk : k < (cutOut n s).1.size) :
    ((RS.open ((cutOut n s).1.extract 0 k)).number.2.text.2).done = 5 := by
  obtain ⟨h0, hs, hl, ho⟩ := cutOut_good n s h
  rw [ho] at hk ⊢
  rw [size_eq] at hk
  have hk' : k < (numBytes n.toNat ++ textBytes s).length := hk
  obtain ⟨hr, he⟩ := open_rest (numBytes n.toNat ++ textBytes s) k (by omega)
  refine RS.done_of _ (cut_reads n.toNat (by omega) s hs _ he ((numBytes n.toNat ++ textBytes s).drop k) ?_ ?_)
  · intro e; have := congrArg List.length e; rw [List.length_drop] at this; simp only [List.length_nil] at this; omega
  · rw [hr, List.take_append_drop]

set_option maxRecDepth 100000 in
theorem codeCut_any (n : Int) (hn : n < 9223372036854775808) (s : ByteArray) (keep : Int) (w : World) :
    Calls Try.prog 7 #[.int .i64 n, .string s, .int .i64 keep] w fun e w' => e = .returned (.bool true) ∧ Below w.heap.size w w' := by
  have HC := Box.mk (cut_done n hn s)
  have HG := Box.mk (cutOut_good n s)
  have HN := Box.mk hn
  clear hn
  go_enter Try.func7, Try.ntmps7
  go_wp2_with fail
  have hw0 := IsW.new w
  have hb0 : Below w.heap.size w (w.alloc (.cells #[.slice none 0 0, .int .i64 0] 40)) := (Below.refl _ _).alloc (Nat.le_refl _) _
  refine (wnumber_any w.heap.size n HN.out _ _ (by simp) _ hw0).mono ?_
  rintro e w1 ⟨rfl, h1⟩
  have hb1 := hb0.trans (h1.below_ hb0.size (Nat.le_refl _) (by simp [Value.ownBlock]))
  clear hw0
  obtain ⟨v1, hw1, hm1, hv1⟩ := h1
  have hl1 : ((WS.mk [] 0).number n).bs.length ≤ 900000000000 := Nat.le_trans (WS.len_number _ _ HN.out) (by simp)
  go_wp2_with fail
  refine (wtext_any w.heap.size s v1 _ hl1 w1 hw1).mono ?_
  rintro e w2 ⟨rfl, h2⟩
  have hvB : ∀ k, v1.ownBlock = some k → w.heap.size ≤ k := by
    intro k hk
    rcases hv1 k hk with h | h
    · simp [Value.ownBlock] at h
    · exact Nat.le_trans hb0.size h
  have hb2 := hb1.trans (h2.below_ hb1.size (Nat.le_refl _) hvB)
  obtain ⟨v2, hw2, hm2, hv2⟩ := h2
  clear hw1 hm1 hv1 hm2 hv2 hvB hl1 hb1 hb0
  go_wp2_with fail
  refine (wdone_any w.heap.size v2 _ w2 hw2).mono ?_
  rintro e w3 ⟨rfl, h3⟩
  have hb3 := hb2.trans (h3.mono hb2.size)
  clear hw2 hb2 h3
  rw [show (((WS.mk [] 0).number n).text s).done = cutOut n s from rfl]
  generalize cutOut n s = d at HC HG ⊢
  obtain ⟨out, err⟩ := d
  have hcase : ((err == 0) = false ∧ ¬ err = 0) ∨ err = 0 ∧ keep < 0 ∨ err = 0 ∧ 0 ≤ keep ∧ (out.size : Int) ≤ keep ∨ err = 0 ∧ 0 ≤ keep ∧ keep < (out.size : Int) := by
    simp only [beq_eq_false_iff_ne]; omega
  rcases hcase with ⟨g1, g2⟩ | ⟨rfl, g2⟩ | ⟨rfl, g2, g3⟩ | ⟨rfl, g2, g3⟩
  case inr.inr.inr =>
    have hlen : out.size ≤ 65536 := by
      obtain ⟨_, _, h1, h2⟩ := HG.out rfl
      rw [show out = _ from h2, size_eq]; exact h1
    have hd := HC.out rfl keep.toNat (by show keep.toNat < out.size; omega)
    have HD := Box.mk hd
    have HLn := Box.mk hlen
    clear hd HC HG hlen
    go_wp2_with fail
    refine (ropen_any _ w3).mono ?_
    rintro e w4 ⟨rfl, hr4, h4⟩
    have hb4 := hb3.trans (h4.mono hb3.size)
    have hok4 := RS.ok_open (s := out.extract 0 keep.toNat) (by rw [ByteArray.size_extract]; have := HLn.out; unfold maxLen; omega)
    go_wp2_with fail
    refine (rnumber_any w3.heap.size _ hok4 w4 hr4).mono ?_
    rintro e w5 ⟨rfl, hr5, h5⟩
    have hok5 := RS.ok_number hok4
    have hb5 := hb4.trans (h5.to_below (B := w.heap.size) (by intro k hk h; have := hb3.size; omega) hb4.size)
    clear hb4 h4 hr4 h5 hok4
    go_wp2_with fail
    refine (rtext_any w3.heap.size _ hok5 w5 hr5).mono ?_
    rintro e w6 ⟨rfl, hr6, h6⟩
    have hb6 := hb5.trans (h6.to_below (B := w.heap.size) (by intro k hk h; have := hb3.size; omega) hb5.size)
    clear hb5 hr5 h6 hok5
    go_wp2_with fail
    refine (awake02_any w6).mono ?_
    rintro e w7 ⟨rfl, h7⟩
    have hr7 := hr6.below h7
    have hb7 := hb6.trans (h7.mono hb6.size)
    clear hr6 hb6 h7
    go_wp2_with fail
    refine (rdone_any w3.heap.size _ w7 hr7).mono ?_
    rintro e w8 ⟨rfl, h8⟩
    rw [HD.out]
    have hb8 := hb7.trans (h8.mono hb7.size)
    go_wp2
    go_ret
    exact ⟨rfl, hb8⟩
  all_goals
    go_wp2_with fail
    refine (awake02_any w3).mono ?_
    rintro e w4 ⟨rfl, h4⟩
    have hb4 := hb3.trans (h4.mono hb3.size)
    go_wp2
    go_ret
    exact ⟨rfl, hb4⟩
theorem int_lt {n : Int} (h : (Lit.int .i64 n).wf = true) : n < 9223372036854775808 := by
  simp [Lit.wf, IntKind.min, IntKind.max, IntKind.signed, IntKind.bits] at h; omega
end Go.Proofs.Ytcnkmfmdadmaaaa
