/- There is one spelling of entries: in plain Lean. -/
import Derived.Test.YtapbbifcipemfaaBP
set_option maxHeartbeats 4000000
namespace Go.Proofs.Ytapbbifcipemfaa
open Go Go.RowKit
def seqX : List UInt8 → List Etr → List UInt8
  | _, [] => []
  | last, x :: E => entX last x ++ seqX x.k E
theorem textN_seq (L : List Etr) : ∀ (m k : Nat), k + m = L.length → textN L L.length = textN L k ++ seqX (lastK L k) (L.drop k)
  | 0, k, h => by
    rw [show k = L.length by omega, List.drop_length]; exact (List.append_nil _).symm
  | m + 1, k, h => by
    have hk : k < L.length := by omega
    rw [textN_seq L m (k + 1) (by omega), textN_succ L k hk, entB_X, List.drop_eq_getElem_cons hk, lastK_succ L k hk, List.append_assoc]; rfl
theorem rest_of {r r' : RS} {a t : List UInt8} (h : r.rest = a ++ t) (h2 : r' = ⟨r.s, r.p + a.length, 0⟩) : r'.rest = t := by
  rw [h2, rest_add, h, List.drop_left]
theorem rdE_inv {r : RS} (hok : r.ok) (he : (rdE r).2.e = 0) : r.e = 0 ∧ (rdE r).2.ok ∧ r.rest = numBytes (rdE r).1.1 ++ (textBytes (rdE r).1.2.1 ++ ((if (rdE r).1.2.2.1 then 1 else 0) :: (if (rdE r).1.2.2.1 then [] else textBytes (rdE r).1.2.2.2))) ++ (rdE r).2.rest ∧ ((rdE r).1.2.2.1 = true → (rdE r).1.2.2.2 = []) := by
  have hok1 := RS.ok_number hok
  have hok2 := RS.ok_text hok1
  have hok3 := RS.ok_flag hok2
  have hok4 := RS.ok_text hok3
  have main : r.number.2.text.2.flag.2.e = 0 → r.e = 0 ∧ r.rest = numBytes r.number.1 ++ (textBytes r.number.2.text.1 ++ ((if r.number.2.text.2.flag.1 then 1 else 0) :: r.number.2.text.2.flag.2.rest)) := by
    intro h3
    obtain ⟨f1, t3, f2, f3⟩ := RS.flag_inv hok2 h3
    obtain ⟨g1, _, t2, g2, g3⟩ := RS.text_inv hok1 f1
    obtain ⟨n1, _, t1, n2, n3⟩ := RS.number_inv hok g1
    refine ⟨n1, ?_⟩
    have e1 := rest_of n2 n3
    have e2 := rest_of g2 g3
    have e3 : r.number.2.text.2.flag.2.rest = t3 := rest_of (a := [if r.number.2.text.2.flag.1 then 1 else 0]) (by rw [f2]; rfl) f3
    rw [n2, ← e1, g2, ← e2, f2, ← e3]
  unfold rdE at he ⊢
  cases hg : r.number.2.text.2.flag.1
  · rw [hg, if_neg (by decide)] at he
    rw [if_neg (by decide)]
    obtain ⟨v1, _, t4, v2, v3⟩ := RS.text_inv hok3 he
    obtain ⟨m1, m2⟩ := main v1
    rw [hg] at m2
    have e4 := rest_of v2 v3
    refine ⟨m1, hok4, ?_, fun h => by cases h⟩
    rw [m2, v2, ← e4]
    show _ = numBytes r.number.1 ++ (textBytes r.number.2.text.1 ++ (0 :: textBytes _)) ++ _
    rw [List.append_assoc, List.append_assoc]; rfl
  · rw [hg, if_pos rfl] at he
    rw [if_pos rfl]
    obtain ⟨m1, m2⟩ := main he
    rw [hg] at m2
    refine ⟨m1, hok3, ?_, fun _ => rfl⟩
    rw [m2]
    show _ = numBytes r.number.1 ++ (textBytes r.number.2.text.1 ++ [1]) ++ _
    rw [List.append_assoc, List.append_assoc]; rfl
theorem bloop_inv : ∀ (m : Nat) (r : RS) (last : List UInt8) (l0 : List Etr) (r' : RS) (l' : List Etr), r.ok → bloop m r last l0 = some (r', l') → r'.e = 0 → r.e = 0 ∧ ∃ E, l' = l0 ++ E ∧ E.length = m ∧ r.rest = seqX last E ++ r'.rest
  | 0, r, last, l0, r', l', hok, h, he => by
    have h : some (r, l0) = some (r', l') := h
    injection h with h
    injection h with h1 h2
    subst h1; subst h2
    exact ⟨he, [], (List.append_nil _).symm, rfl, rfl⟩
  | m + 1, r, last, l0, r', l', hok, h, he => by
    unfold bloop at h
    split at h
    · rename_i h1
      injection h with h
      injection h with h2 h3
      rw [h2] at h1
      have : r' = ⟨r'.s, r'.p, 0⟩ := by cases r'; simp at he; rw [he]
      rw [this] at h1
      exact absurd h1 (done0 _ _)
    · split at h
      · cases h
      · rename_i h1 h2
        split at h
        · cases h
        · rename_i h3
          have h3 : (rdE r).1.1 = cmn last (last.take (rdE r).1.1 ++ (rdE r).1.2.1) := Classical.byContradiction fun h4 => h3 h4
          have hrok : (rdE r).2.ok := by
            unfold rdE; split
            · exact RS.ok_flag (RS.ok_text (RS.ok_number hok))
            · exact RS.ok_text (RS.ok_flag (RS.ok_text (RS.ok_number hok)))
          obtain ⟨e1, E, hl, hE, hr⟩ := bloop_inv m _ _ _ r' l' hrok h he
          obtain ⟨i1, _, i3, i4⟩ := rdE_inv hok e1
          refine ⟨i1, ⟨last.take (rdE r).1.1 ++ (rdE r).1.2.1, (rdE r).1.2.2.2, (rdE r).1.2.2.1⟩ :: E, by rw [hl, List.append_assoc]; rfl, by rw [List.length_cons, hE], ?_⟩
          show r.rest = entX last ⟨last.take (rdE r).1.1 ++ (rdE r).1.2.1, (rdE r).1.2.2.2, (rdE r).1.2.2.1⟩ ++ seqX (last.take (rdE r).1.1 ++ (rdE r).1.2.1) E ++ r'.rest
          rw [List.append_assoc, ← hr, i3]
          congr 1
          unfold entX entH
          dsimp only
          rw [← h3]
          have hd : (last.take (rdE r).1.1 ++ (rdE r).1.2.1).drop (rdE r).1.1 = (rdE r).1.2.1 := by
            rw [List.drop_append_of_le_length (by rw [List.length_take]; omega), List.drop_eq_nil_of_le (by rw [List.length_take]; omega)]; rfl
          rw [hd, List.append_assoc, List.append_assoc]; rfl
theorem bread_one (t : List UInt8) (ht : t.length ≤ 2000) (l : List Etr) (n : Nat) (h : bread (sealWrap t) = (l, n, 0)) : checkN l = 0 ∧ textN l l.length = t ∧ n = 8 + t.length := by
  have hs := sopen_wrap t [] (by omega)
  rw [List.append_nil] at hs
  rw [bread_O, hs] at h
  unfold breadO at h
  rw [if_neg (fun h => h rfl)] at h
  dsimp only at h
  have ho : RS.open t = ⟨t, 0, 0⟩ := by unfold RS.open; rw [if_neg (by omega)]
  have hok0 := RS.ok_open (s := t) (by omega)
  have hbw : (RS.open t).below 257 = if (257 : Int) ≤ ((RS.open t).number.1 : Int) then (0, (RS.open t).number.2.fail 2) else ((RS.open t).number.1, (RS.open t).number.2) := rfl
  cases hb : bloop ((RS.open t).below 257).1 ((RS.open t).below 257).2 [] [] with
  | none => rw [hb] at h; injection h with _ h; injection h with _ h; exact absurd h (by decide)
  | some q =>
    obtain ⟨r', l'⟩ := q
    rw [hb] at h
    dsimp only at h
    split at h
    · rename_i h1; injection h with _ h; injection h with _ h; exact absurd h h1
    · rename_i h1
      split at h
      · rename_i h2; injection h with _ h; injection h with _ h; exact absurd h h2
      · rename_i h2
        injection h with h3 h4
        injection h4 with h4 _
        subst h3
        have hd : r'.done = 0 := Classical.byContradiction fun h5 => h1 h5
        have he : r'.e = 0 ∧ ¬ r'.p < r'.s.length := by
          unfold RS.done at hd
          split at hd
          · exact absurd hd (by decide)
          · rename_i h5; exact ⟨hd, fun h6 => h5 ⟨hd, h6⟩⟩
        by_cases hbig : (257 : Int) ≤ ((RS.open t).number.1 : Int)
        · rw [if_pos hbig] at hbw
          rw [hbw] at hb
          have hb : some ((RS.open t).number.2.fail 2, ([] : List Etr)) = some (r', l') := hb
          injection hb with hb
          injection hb with hb1 hb2
          have hf : ((RS.open t).number.2.fail 2).e = 0 := by rw [hb1]; exact he.1
          exact (RS.fail_inv (by decide) hf).elim
        · rw [if_neg hbig] at hbw
          rw [hbw] at hb
          dsimp only at hb
          obtain ⟨e1, E, hl, hE, hr⟩ := bloop_inv _ _ _ _ _ _ (RS.ok_number hok0) hb he.1
          have hl : l' = E := hl
          subst hl
          obtain ⟨_, _, t1, n2, n3⟩ := RS.number_inv hok0 e1
          have hr1 := rest_of n2 n3
          have hr' : r'.rest = [] := by unfold RS.rest; exact List.drop_eq_nil_of_le (by omega)
          rw [hr', List.append_nil, hr1] at hr
          have h0 : (RS.open t).rest = t := by rw [ho]; rfl
          rw [h0, hr, ← hE] at n2
          refine ⟨Classical.byContradiction fun h5 => h2 h5, ?_, h4.symm⟩
          rw [textN_seq l' l'.length 0 (by omega), n2]; rfl
end Go.Proofs.Ytapbbifcipemfaa
