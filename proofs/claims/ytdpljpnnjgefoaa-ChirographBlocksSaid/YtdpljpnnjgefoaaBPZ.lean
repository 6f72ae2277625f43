/- What block.Make writes, block.Read reads: in plain Lean. -/
import Derived.Test.YtdpljpnnjgefoaaB7
import Derived.Test.YtdpljpnnjgefoaaKFZ
set_option maxHeartbeats 4000000
namespace Go.Proofs.Ytdpljpnnjgefoaa
open Go Go.RowKit
theorem cmn_take : ∀ (a b : List UInt8), a.take (cmn a b) = b.take (cmn a b)
  | [], b => by simp [cmn]
  | a :: xs, [] => by simp [cmn]
  | a :: xs, b :: ys => by
    unfold cmn
    by_cases h : a = b
    · rw [if_pos h, h, List.take_succ_cons, List.take_succ_cons, cmn_take xs ys]
    · rw [if_neg h]; rfl
def entX (last : List UInt8) (x : Etr) : List UInt8 := entH last x ++ (if x.g then [] else txB x.v)
theorem entB_X (last : List UInt8) (x : Etr) (t : List UInt8) : entB last x t = t ++ entX last x := by
  unfold entB entX
  cases x.g
  · rw [if_neg (by decide), if_neg (by decide), List.append_assoc]
  · rw [if_pos rfl, if_pos rfl, List.append_nil]
def okE (x : Etr) : Prop := x.k.length ≤ 100 ∧ x.v.length ≤ 4000 ∧ (x.g = true → x.v = [])
theorem chkE_ok {p : Option (List UInt8)} {x : Etr} (h : chkE p x = 0) : okE x := by
  unfold chkE at h
  split at h
  · exact absurd h (by decide)
  · rename_i h1
    split at h
    · exact absurd h (by decide)
    · rename_i h2
      refine ⟨by omega, by omega, fun hg => List.eq_nil_of_length_eq_zero ?_⟩
      exact Classical.byContradiction fun h3 => h1 (.inr ⟨hg, by omega⟩)
theorem chkL_ok : ∀ (p : Option (List UInt8)) (l : List Etr), chkL p l = 0 → ∀ x ∈ l, okE x
  | _, [], _, x, hx => by cases hx
  | p, y :: r, h, x, hx => by
    unfold chkL at h
    split at h
    · rename_i h1; exact absurd h h1
    · rename_i h1
      rcases List.mem_cons.1 hx with rfl | hx
      · exact chkE_ok (Classical.byContradiction fun h2 => h1 h2)
      · exact chkL_ok _ r h x hx
theorem checkN_ok {l : List Etr} (h : checkN l = 0) : l.length ≤ 256 ∧ ∀ x ∈ l, okE x := by
  unfold checkN at h
  split at h
  · exact absurd h (by decide)
  · exact ⟨by omega, chkL_ok _ l h⟩
theorem rest_add (r : RS) (n : Nat) : (⟨r.s, r.p + n, 0⟩ : RS).rest = r.rest.drop n := by
  unfold RS.rest; rw [List.drop_drop]
theorem rdE_reads (r : RS) (he : r.e = 0) (last : List UInt8) (x : Etr) (hx : okE x) (t : List UInt8) (h : r.rest = entX last x ++ t) : rdE r = ((cmn last x.k, x.k.drop (cmn last x.k), x.g, x.v), ⟨r.s, r.p + (entX last x).length, 0⟩) := by
  obtain ⟨hk, hv, hg⟩ := hx
  have hc := (cmn_le last x.k).2
  have hX : entX last x = numBytes (cmn last x.k) ++ (textBytes (x.k.drop (cmn last x.k)) ++ ((if x.g then 1 else 0) :: (if x.g then [] else textBytes x.v))) := by
    unfold entX entH
    rw [List.append_assoc, List.append_assoc]; rfl
  generalize hcc : cmn last x.k = c at hX hc ⊢
  have hd : (x.k.drop c).length ≤ 65536 := by rw [List.length_drop]; omega
  generalize x.k.drop c = d at hX hd ⊢
  have h1 := RS.number_reads r he c (by omega) (textBytes d ++ ((if x.g then 1 else 0) :: (if x.g then [] else textBytes x.v)) ++ t) (by rw [h, hX, List.append_assoc])
  have e1 := rest_add r (numBytes c).length
  rw [h, hX, List.append_assoc, List.drop_left] at e1
  have h2 := RS.text_reads ⟨r.s, r.p + (numBytes c).length, 0⟩ rfl d hd (((if x.g then 1 else 0) :: (if x.g then [] else textBytes x.v)) ++ t) (by rw [e1, List.append_assoc])
  have e2 := rest_add ⟨r.s, r.p + (numBytes c).length, 0⟩ (textBytes d).length
  rw [e1, List.append_assoc, List.drop_left] at e2
  have h3 := RS.flag_reads ⟨r.s, r.p + (numBytes c).length + (textBytes d).length, 0⟩ rfl x.g ((if x.g then [] else textBytes x.v) ++ t) e2
  have e3 := rest_add ⟨r.s, r.p + (numBytes c).length + (textBytes d).length, 0⟩ 1
  rw [e2] at e3
  have hn : r.number.1 = c := by rw [h1]
  have hr1 : r.number.2 = ⟨r.s, r.p + (numBytes c).length, 0⟩ := by rw [h1]
  have hlen : (entX last x).length = (numBytes c).length + ((textBytes d).length + (1 + (if x.g then [] else textBytes x.v).length)) := by
    rw [hX, List.length_append, List.length_append, List.length_cons]; omega
  unfold rdE
  rw [hn, hr1, h2]
  show (if (RS.flag ⟨r.s, r.p + (numBytes c).length + (textBytes d).length, 0⟩).1 = true then _ else _) = _
  rw [h3, hlen]
  cases hgg : x.g
  · rw [hgg] at e3
    have h4 := RS.text_reads ⟨r.s, r.p + (numBytes c).length + (textBytes d).length + 1, 0⟩ rfl x.v (by omega) t e3
    show (if false = true then _ else ((c, d, false, (RS.text ⟨r.s, r.p + (numBytes c).length + (textBytes d).length + 1, 0⟩).1), (RS.text ⟨r.s, r.p + (numBytes c).length + (textBytes d).length + 1, 0⟩).2)) = _
    rw [if_neg (by decide), h4]
    show ((c, d, false, x.v), (⟨r.s, r.p + (numBytes c).length + (textBytes d).length + 1 + (textBytes x.v).length, 0⟩ : RS)) = ((c, d, false, x.v), ⟨r.s, r.p + ((numBytes c).length + ((textBytes d).length + (1 + (textBytes x.v).length))), 0⟩)
    congr 2; omega
  · rw [hg hgg]
    show ((c, d, true, []), (⟨r.s, r.p + (numBytes c).length + (textBytes d).length + 1, 0⟩ : RS)) = ((c, d, true, []), ⟨r.s, r.p + ((numBytes c).length + ((textBytes d).length + (1 + 0))), 0⟩)
    congr 2; omega
theorem textN_pre (L : List Etr) : ∀ (m k : Nat), k + m = L.length → ∃ t, textN L L.length = textN L k ++ t
  | 0, k, h => ⟨[], by rw [← h, Nat.add_zero, List.append_nil]⟩
  | m + 1, k, h => by
    obtain ⟨t, ht⟩ := textN_pre L m (k + 1) (by omega)
    exact ⟨entX (lastK L k) (L[k]'(by omega)) ++ t, by rw [ht, textN_succ L k (by omega), entB_X, List.append_assoc]⟩
theorem done0 (T : List UInt8) (p : Nat) : ¬ ((⟨T, p, 0⟩ : RS).done ≠ 0 ∧ (⟨T, p, 0⟩ : RS).done ≠ 3) := by
  unfold RS.done
  split
  · exact fun h => h.2 rfl
  · exact fun h => h.1 rfl
theorem bloop_reads (L : List Etr) (hok : ∀ x ∈ L, okE x) : ∀ (m k : Nat), k + m = L.length → bloop m ⟨textN L L.length, (textN L k).length, 0⟩ (lastK L k) (L.take k) = some (⟨textN L L.length, (textN L L.length).length, 0⟩, L)
  | 0, k, h => by
    rw [show k = L.length by omega, List.take_length]; rfl
  | m + 1, k, h => by
    have hk : k < L.length := by omega
    obtain ⟨t, ht⟩ := textN_pre L m (k + 1) (by omega)
    have hx := hok _ (List.getElem_mem hk)
    rw [textN_succ L k hk, entB_X, List.append_assoc] at ht
    have hr := rdE_reads ⟨textN L L.length, (textN L k).length, 0⟩ rfl (lastK L k) L[k] hx t (by
      unfold RS.rest
      show (textN L L.length).drop (textN L k).length = _
      rw [ht, List.drop_left])
    have ih := bloop_reads L hok m (k + 1) (by omega)
    have hlen : (textN L (k + 1)).length = (textN L k).length + (entX (lastK L k) L[k]).length := by rw [textN_succ L k hk, entB_X, List.length_append]
    have hls := lastK_succ L k hk
    have hcl := (cmn_le (lastK L k) L[k].k).1
    have hkey : (lastK L k).take (cmn (lastK L k) L[k].k) ++ L[k].k.drop (cmn (lastK L k) L[k].k) = L[k].k := by rw [cmn_take, List.take_append_drop]
    unfold bloop
    rw [hr]
    dsimp only
    rw [if_neg (done0 _ _), if_neg (by omega), hkey, if_neg (fun h => h rfl), ← hlen]
    rw [hls, List.take_succ_eq_append_getElem hk] at ih
    exact ih
theorem bread_back (L : List Etr) (hck : checkN L = 0) (hT : (textN L L.length).length ≤ 65536) (more : List UInt8) : bread (sealWrap (textN L L.length) ++ more) = (L, 8 + (textN L L.length).length, 0) := by
  obtain ⟨hl, hok⟩ := checkN_ok hck
  have hb := bloop_reads L hok L.length 0 (by omega)
  obtain ⟨t, ht⟩ := textN_pre L L.length 0 (by omega)
  rw [bread_O, sopen_wrap _ _ hT]
  have ho : RS.open (textN L L.length) = ⟨textN L L.length, 0, 0⟩ := by unfold RS.open; rw [if_neg (by omega)]
  have hn := RS.number_reads ⟨textN L L.length, 0, 0⟩ rfl L.length (by omega) t (by unfold RS.rest; exact ht)
  have hbw : (RS.open (textN L L.length)).below 257 = (L.length, ⟨textN L L.length, (textN L 0).length, 0⟩) := by
    rw [ho]
    unfold RS.below
    rw [hn, if_neg (by show ¬ (257 : Int) ≤ (L.length : Int); omega)]
    show (L.length, (⟨textN L L.length, 0 + (numBytes L.length).length, 0⟩ : RS)) = _
    rw [Nat.zero_add]; rfl
  unfold breadO
  rw [if_neg (fun h => h rfl)]
  dsimp only
  rw [hbw]
  have hb2 : bloop L.length ⟨textN L L.length, (textN L 0).length, 0⟩ [] [] = some (⟨textN L L.length, (textN L L.length).length, 0⟩, L) := hb
  dsimp only
  rw [hb2]
  dsimp only
  have hd : (⟨textN L L.length, (textN L L.length).length, 0⟩ : RS).done = 0 := by
    unfold RS.done; rw [if_neg (fun h => absurd h.2 (Nat.lt_irrefl _))]
  rw [if_neg (by rw [hd]; exact fun h => h rfl), if_neg (by rw [hck]; exact fun h => h rfl)]
end Go.Proofs.Ytdpljpnnjgefoaa
set_option maxHeartbeats 4000000
namespace Go.Proofs.Ytdpljpnnjgefoaa
open Go Go.RowKit
def seqX : List UInt8 → List Etr → List UInt8
  | _, [] => []
  | last, x :: E => entX last x ++ seqX x.k E
theorem rest_of {r r' : RS} {a t : List UInt8} (h : r.rest = a ++ t) (h2 : r' = ⟨r.s, r.p + a.length, 0⟩) : r'.rest = t := by
  rw [h2, rest_add, h, List.drop_left]
end Go.Proofs.Ytdpljpnnjgefoaa
