/- Proofs go as bytes and come back. No program in sight. -/
import Derived.Test.YtcmgpkibjdbonaaPF7
import Derived.Test.YtcmgpkibjdbonaaPF8
set_option maxHeartbeats 4000000
namespace Go.Proofs.Ytcmgpkibjdbonaa
open Go Go.RowKit
theorem at_done' {r : RS} {t : List UInt8} (h : r.at_ t) : r.done = 0 ∨ r.done = 3 := by
  unfold RS.done
  split
  · exact .inr rfl
  · exact .inl h.e
theorem at_text {r : RS} {t u : List UInt8} (hl : t.length ≤ 65536) (h : r.at_ (textBytes t ++ u)) : r.text.1 = t ∧ r.text.2.at_ u := by
  rw [RS.text_reads r h.e t hl u h.rest]
  obtain ⟨s, p, e⟩ := r
  exact ⟨rfl, at_step h.rest rfl⟩
theorem at_below {r : RS} {n m : Nat} {t : List UInt8} (hm : n < m) (hn : n < 9223372036854775808) (h : r.at_ (numBytes n ++ t)) : (r.below m).1 = n ∧ (r.below m).2.at_ t := by
  obtain ⟨a, b⟩ := at_num hn h
  unfold RS.below
  rw [if_neg (by rw [a]; omega)]
  exact ⟨a, b⟩
theorem good_n' {x : Itm} (h : goodI x = true) : 0 ≤ x.n ∧ x.n ≤ 256 := by
  unfold goodI goodP at h
  simp only [Bool.and_eq_true, decide_eq_true_eq] at h
  exact ⟨h.1.1, h.1.2.1⟩
theorem good_t' {x : Itm} (h : goodI x = true) : 0 ≤ x.t ∧ x.t ≤ 1073741824 := by
  unfold goodI at h
  simp only [Bool.and_eq_true, decide_eq_true_eq] at h
  exact h.2
theorem chkN_goods {x y : Itm} (h : chkN x y = 0) : goodI x = true ∧ goodI y = true := by
  unfold chkN at h
  split at h
  · rename_i hg; exact hg
  · cases h
def pathBy (path : List Itm) : List UInt8 := path.flatMap itmBy
theorem good_bnd {x : Itm} (h : goodI x = true) : 0 ≤ x.n ∧ x.n ≤ 256 ∧ 0 ≤ x.t ∧ x.t ≤ 1073741824 := by
  have a := good_n' h
  have b := good_t' h
  exact ⟨a.1, a.2, b.1, b.2⟩
theorem bysL_inv : ∀ (path : List Itm) (s : WS), s.e = 0 → (bysL s path).2 = 0 → (∀ x ∈ path, goodI x = true) ∧ (bysL s path).1 = s.bs ++ pathBy path ∧ (s.bs ++ pathBy path).length ≤ 65536
  | [], s, he, h => by
    unfold bysL at h ⊢
    unfold WS.done at h ⊢
    rw [if_neg (fun hh => hh he)] at h ⊢
    have hp : s.bs ++ pathBy [] = s.bs := List.append_nil _
    rw [hp]
    by_cases hl : 65536 < s.bs.length
    · rw [if_pos hl] at h; cases h
    · rw [if_neg hl]; exact ⟨(fun x hx => by cases hx), rfl, by omega⟩
  | x :: r, s, he, h => by
    rw [bysL] at h ⊢
    by_cases hg : goodI x = true
    · rw [if_pos hg] at h ⊢
      obtain ⟨b1, _, b3, _⟩ := good_bnd hg
      rw [WS.itm_put b1 b3] at h ⊢
      obtain ⟨i1, i2, i3⟩ := bysL_inv r (s.put (itmBy x)) he h
      have hb : (s.put (itmBy x)).bs ++ pathBy r = s.bs ++ pathBy (x :: r) := by
        show (s.bs ++ itmBy x) ++ pathBy r = s.bs ++ (itmBy x ++ pathBy r)
        rw [List.append_assoc]
      rw [hb] at i2 i3
      refine ⟨fun y hy => ?_, i2, i3⟩
      rcases List.mem_cons.1 hy with rfl | hy
      · exact hg
      · exact i1 y hy
    · rw [if_neg hg] at h; cases h
theorem bysL_fwd : ∀ (path : List Itm) (s : WS), s.e = 0 → (∀ x ∈ path, goodI x = true) → (s.bs ++ pathBy path).length ≤ 65536 → bysL s path = (s.bs ++ pathBy path, 0)
  | [], s, he, _, hl => by
    have hp : s.bs ++ pathBy [] = s.bs := List.append_nil _
    rw [hp] at hl ⊢
    unfold bysL WS.done
    rw [if_neg (fun hh => hh he), if_neg (by omega)]
  | x :: r, s, he, hg, hl => by
    have gx := hg x (List.mem_cons_self ..)
    obtain ⟨b1, _, b3, _⟩ := good_bnd gx
    have hb : (s.put (itmBy x)).bs ++ pathBy r = s.bs ++ pathBy (x :: r) := by
      show (s.bs ++ itmBy x) ++ pathBy r = s.bs ++ (itmBy x ++ pathBy r)
      rw [List.append_assoc]
    rw [bysL, if_pos gx, WS.itm_put b1 b3, bysL_fwd r (s.put (itmBy x)) he (fun y hy => hg y (List.mem_cons_of_mem _ hy)) (by rw [hb]; exact hl), hb]
theorem rdL_at : ∀ (path : List Itm) (e : Int) (lf : Lef) (a b : Itm) (p : List Itm) (r : RS), (∀ x ∈ path, x.ok ∧ goodI x = true) → r.at_ (pathBy path) → rdL e lf a b path.length p r = (⟨e, lf, a, b, p ++ path⟩, 0)
  | [], e, lf, a, b, p, r, _, h => by
    show rdL e lf a b 0 p r = _
    rw [rdL, if_neg (fun hh => hh (at_done h)), List.append_nil]
  | x :: q, e, lf, a, b, p, r, hg, h => by
    obtain ⟨ox, gx⟩ := hg x (List.mem_cons_self ..)
    obtain ⟨b1, b2, b3, b4⟩ := good_bnd gx
    have h : r.at_ (itmBy x ++ pathBy q) := h
    obtain ⟨c1, c2⟩ := at_itm ox ⟨b1, by omega⟩ ⟨b3, by omega⟩ h
    show rdL e lf a b (q.length + 1) p r = _
    rw [rdL, if_neg (fun hh => by rcases at_done' c2 with hd | hd; exact hh.1 hd; exact hh.2 hd), c1, if_pos gx, rdL_at q e lf a b (p ++ [x]) r.itm.2 (fun y hy => hg y (List.mem_cons_of_mem _ hy)) c2, List.append_assoc]; rfl
/-- A proof whose parts that are not its end's are none. -/
def cleanP (p : Prf) : Prf := ⟨p.e, if p.e = 1 then p.lf else lef0, if p.e = 2 then p.a else itm0, if p.e = 2 then p.b else itm0, p.path⟩
theorem ws_num (s : WS) (n : Nat) : s.number n = s.put (numBytes n) := by
  rw [put_num (by omega), Int.toNat_natCast]
theorem ws_text (s : WS) {t : List UInt8} (h : t.length ≤ 65536) : s.text t = s.put (textBytes t) := by
  unfold WS.text
  rw [if_neg (by omega), ws_num]
  show WS.mk ((s.bs ++ numBytes t.length) ++ t) s.e = WS.mk (s.bs ++ (numBytes t.length ++ t)) s.e
  rw [List.append_assoc]
theorem by_tail {s : WS} {path : List Itm} (he : s.e = 0) (h : (bysT s path).2 = 0) : path.length ≤ 256 ∧ (∀ x ∈ path, goodI x = true) ∧ (bysT s path).1 = s.bs ++ (numBytes path.length ++ pathBy path) ∧ (s.bs ++ (numBytes path.length ++ pathBy path)).length ≤ 65536 := by
  unfold bysT at h ⊢
  by_cases h256 : 256 < path.length
  · rw [if_pos h256] at h; cases h
  · rw [if_neg h256, ws_num] at h ⊢
    obtain ⟨i1, i2, i3⟩ := bysL_inv path (s.put (numBytes path.length)) he h
    have hb : (s.put (numBytes path.length)).bs ++ pathBy path = s.bs ++ (numBytes path.length ++ pathBy path) := List.append_assoc ..
    rw [hb] at i2 i3
    exact ⟨by omega, i1, i2, i3⟩
theorem rd_tail {path : List Itm} {r : RS} (e : Int) (lf : Lef) (a b : Itm) (hok : ∀ x ∈ path, x.ok) (hg : ∀ x ∈ path, goodI x = true) (hl : path.length ≤ 256) (h : r.at_ (numBytes path.length ++ pathBy path)) : rdT e lf a b r = (⟨e, lf, a, b, path⟩, 0) := by
  obtain ⟨c1, c2⟩ := at_below (m := 257) (by omega) (by omega) h
  unfold rdT
  rw [show (257 : Int) = ((257 : Nat) : Int) from rfl, c1, rdL_at path e lf a b [] _ (fun x hx => ⟨hok x hx, hg x hx⟩) c2]; rfl
theorem by_back {p : Prf} (hp : p.ok) (h : (bysP p).2 = 0) : prRd (bysP p).1 = (cleanP p, 0) := by
  obtain ⟨e, lf, a, b, path⟩ := p
  obtain ⟨olf, oa, ob, opa⟩ := hp
  dsimp only at olf oa ob opa
  unfold bysP at h ⊢
  dsimp only at h ⊢
  have hm : ∀ (r : RS), (r.below 3).1 = (r.below ((3 : Nat) : Int)).1 ∧ (r.below 3).2 = (r.below ((3 : Nat) : Int)).2 := fun r => ⟨rfl, rfl⟩
  by_cases h0 : e = 0
  · subst h0
    rw [if_pos rfl] at h ⊢
    have hw : w0.number 0 = w0.put (numBytes 0) := put_num (Int.le_refl _)
    rw [hw] at h ⊢
    obtain ⟨t1, t2, t3, t4⟩ := by_tail (s := w0.put (numBytes 0)) rfl h
    rw [t3]
    have ha := at_open t4
    obtain ⟨c1, c2⟩ := at_below (m := 3) (n := 0) (by decide) (by decide) ha
    unfold prRd
    dsimp only
    rw [(hm _).1, (hm _).2, c1, if_pos rfl, rd_tail 0 lef0 itm0 itm0 opa t2 t1 c2]; rfl
  rw [if_neg h0] at h ⊢
  by_cases h1 : e = 1
  · subst h1
    rw [if_pos rfl] at h ⊢
    by_cases hc : (lfBy lf).2 ≠ 0
    · rw [if_pos hc] at h; exact absurd h hc
    rw [if_neg hc] at h ⊢
    have hck : chkLf lf = 0 := by
      refine Classical.byContradiction fun hh => hc ?_
      unfold lfBy; rw [if_pos hh]; exact hh
    have hby := lf_by olf hck
    have hbk := lf_back olf hck
    have ht := chkLf_t hck
    have hln := lefBy_len olf (by omega) ht.1
    have hlt : (lfBy lf).1.length ≤ 65536 := by rw [hby, List.length_cons]; omega
    have hw : w0.number 1 = w0.put (numBytes 1) := put_num (by decide)
    rw [hw, ws_text _ hlt] at h ⊢
    obtain ⟨t1, t2, t3, t4⟩ := by_tail (s := (w0.put (numBytes 1)).put (textBytes (lfBy lf).1)) rfl h
    rw [t3]
    have ha := at_open t4
    have hb : ((w0.put (numBytes 1)).put (textBytes (lfBy lf).1)).bs ++ (numBytes path.length ++ pathBy path) = numBytes 1 ++ (textBytes (lfBy lf).1 ++ (numBytes path.length ++ pathBy path)) := List.append_assoc ..
    rw [hb] at ha ⊢
    obtain ⟨c1, c2⟩ := at_below (m := 3) (n := 1) (by decide) (by decide) ha
    obtain ⟨d1, d2⟩ := at_text hlt c2
    unfold prRd
    dsimp only
    rw [(hm _).1, (hm _).2, c1, if_neg (by decide), if_neg (fun hh => by rcases at_done' d2 with hd | hd; exact hh.1 hd; exact hh.2 hd), d1, hbk, if_neg (fun hh => hh rfl)]
    show (if (1 : Nat) = 1 then rdT 1 lf itm0 itm0 _ else (prf0, 3)) = _
    rw [if_pos rfl, rd_tail 1 lf itm0 itm0 opa t2 t1 d2]; rfl
  rw [if_neg h1] at h ⊢
  by_cases h2 : e = 2
  · subst h2
    rw [if_pos rfl] at h ⊢
    by_cases hc : (inBy a b).2 ≠ 0
    · rw [if_pos hc] at h; exact absurd h hc
    rw [if_neg hc] at h ⊢
    have hck : chkN a b = 0 := by
      refine Classical.byContradiction fun hh => hc ?_
      unfold inBy; rw [if_pos hh]; exact hh
    obtain ⟨hby, hbk⟩ := in_by oa ob hck
    obtain ⟨g1, g2⟩ := chkN_goods hck
    obtain ⟨x1, x2, x3, x4⟩ := good_bnd g1
    obtain ⟨y1, y2, y3, y4⟩ := good_bnd g2
    have lx := itmBy_len oa (by omega) (by omega) x1 x3
    have ly := itmBy_len ob (by omega) (by omega) y1 y3
    have hlt : (inBy a b).1.length ≤ 65536 := by rw [hby, List.length_cons, List.length_append]; omega
    have hw : w0.number 2 = w0.put (numBytes 2) := put_num (by decide)
    rw [hw, ws_text _ hlt] at h ⊢
    obtain ⟨t1, t2, t3, t4⟩ := by_tail (s := (w0.put (numBytes 2)).put (textBytes (inBy a b).1)) rfl h
    rw [t3]
    have ha := at_open t4
    have hb : ((w0.put (numBytes 2)).put (textBytes (inBy a b).1)).bs ++ (numBytes path.length ++ pathBy path) = numBytes 2 ++ (textBytes (inBy a b).1 ++ (numBytes path.length ++ pathBy path)) := List.append_assoc ..
    rw [hb] at ha ⊢
    obtain ⟨c1, c2⟩ := at_below (m := 3) (n := 2) (by decide) (by decide) ha
    obtain ⟨d1, d2⟩ := at_text hlt c2
    unfold prRd
    dsimp only
    rw [(hm _).1, (hm _).2, c1, if_neg (by decide), if_neg (fun hh => by rcases at_done' d2 with hd | hd; exact hh.1 hd; exact hh.2 hd), d1, hbk, if_neg (fun hh => hh rfl)]
    show (if (2 : Nat) = 2 then rdT 2 lef0 a b _ else (prf0, 3)) = _
    rw [if_pos rfl, rd_tail 2 lef0 a b opa t2 t1 d2]; rfl
  · rw [if_neg h2] at h; cases h
end Go.Proofs.Ytcmgpkibjdbonaa
set_option maxHeartbeats 4000000
namespace Go.Proofs.Ytcmgpkibjdbonaa
open Go Go.RowKit
theorem rest_of {r : RS} {L t : List UInt8} (n : Nat) (h : r.rest = L ++ t) (hn : n = L.length) : r.rest = L ++ (RS.mk r.s (r.p + n) 0).rest := by
  have h2 : (RS.mk r.s r.p 0).rest = L ++ t := h
  rw [RS.rest_step, h2, hn, List.drop_append_of_le_length (Nat.le_refl _), List.drop_length, List.nil_append, ← h]
theorem number_rest {r : RS} (hok : r.ok) (h : r.number.2.e = 0) : r.e = 0 ∧ r.number.1 < 9223372036854775808 ∧ r.rest = numBytes r.number.1 ++ r.number.2.rest := by
  obtain ⟨a, b, t, c, d⟩ := RS.number_inv hok h
  refine ⟨a, b, ?_⟩
  rw [d]; exact rest_of _ c rfl
theorem label_rest {r : RS} (hok : r.ok) (h : r.label.2.e = 0) : r.e = 0 ∧ r.rest = r.label.1 ++ r.label.2.rest := by
  obtain ⟨a, b, t, c, d⟩ := RS.label_inv hok h
  refine ⟨a, ?_⟩
  rw [d]; exact rest_of 32 c b.symm
theorem text_rest {r : RS} (hok : r.ok) (h : r.text.2.e = 0) : r.e = 0 ∧ r.text.1.length ≤ 65536 ∧ r.rest = textBytes r.text.1 ++ r.text.2.rest := by
  obtain ⟨a, b, t, c, d⟩ := RS.text_inv hok h
  refine ⟨a, b, ?_⟩
  rw [d]; exact rest_of _ c rfl
theorem flag_rest {r : RS} (hok : r.ok) (h : r.flag.2.e = 0) : r.e = 0 ∧ r.rest = [if r.flag.1 then 1 else 0] ++ r.flag.2.rest := by
  obtain ⟨a, t, c, d⟩ := RS.flag_inv hok h
  refine ⟨a, ?_⟩
  rw [d]; exact rest_of (L := [if r.flag.1 then 1 else 0]) 1 c rfl
theorem itm_rest {r : RS} (hok : r.ok) (h : r.itm.2.e = 0) : r.e = 0 ∧ r.rest = itmBy r.itm.1 ++ r.itm.2.rest ∧ 0 ≤ r.itm.1.n ∧ 0 ≤ r.itm.1.t := by
  have h : r.number.2.label.2.label.2.number.2.e = 0 := h
  have o1 := RS.ok_number hok
  have o2 := RS.ok_label o1
  have o3 := RS.ok_label o2
  obtain ⟨a1, _, a3⟩ := number_rest o3 h
  obtain ⟨b1, b3⟩ := label_rest o2 a1
  obtain ⟨c1, c3⟩ := label_rest o1 b1
  obtain ⟨d1, _, d3⟩ := number_rest hok c1
  refine ⟨d1, ?_, ?_, ?_⟩
  · rw [d3, c3, b3, a3]
    show _ = (((numBytes ((r.number.1 : Nat) : Int).toNat ++ r.number.2.label.1) ++ r.number.2.label.2.label.1) ++ numBytes ((r.number.2.label.2.label.2.number.1 : Nat) : Int).toNat) ++ r.number.2.label.2.label.2.number.2.rest
    rw [Int.toNat_natCast, Int.toNat_natCast, List.append_assoc, List.append_assoc, List.append_assoc]
  · show (0 : Int) ≤ ((r.number.1 : Nat) : Int); omega
  · show (0 : Int) ≤ ((r.number.2.label.2.label.2.number.1 : Nat) : Int); omega
theorem lef_rest {r : RS} (hok : r.ok) (h : r.lef.2.e = 0) : r.e = 0 ∧ r.rest = lefBy r.lef.1 ++ r.lef.2.rest := by
  have h : r.label.2.label.2.number.2.e = 0 := h
  have o2 := RS.ok_label hok
  have o3 := RS.ok_label o2
  obtain ⟨a1, _, a3⟩ := number_rest o3 h
  obtain ⟨b1, b3⟩ := label_rest o2 a1
  obtain ⟨c1, c3⟩ := label_rest hok b1
  refine ⟨c1, ?_⟩
  rw [c3, b3, a3]
  show _ = ((r.label.1 ++ r.label.2.label.1) ++ numBytes ((r.label.2.label.2.number.1 : Nat) : Int).toNat) ++ r.label.2.label.2.number.2.rest
  rw [Int.toNat_natCast, List.append_assoc, List.append_assoc]
theorem done_zero {r : RS} (h : r.done = 0) : r.e = 0 ∧ r.rest = [] := by
  unfold RS.done at h
  split at h
  · cases h
  · rename_i hh
    refine ⟨h, ?_⟩
    have : ¬ r.p < r.s.length := fun hp => hh ⟨h, hp⟩
    unfold RS.rest
    exact List.drop_of_length_le (by omega)
theorem rdL_inv : ∀ (k : Nat) (e : Int) (lf : Lef) (a b : Itm) (p : List Itm) (r : RS), r.ok → (rdL e lf a b k p r).2 = 0 → r.e = 0 ∧ ∃ path, path.length = k ∧ (∀ x ∈ path, x.ok ∧ goodI x = true) ∧ r.rest = pathBy path ∧ (rdL e lf a b k p r).1 = ⟨e, lf, a, b, p ++ path⟩
  | 0, e, lf, a, b, p, r, hok, h => by
    rw [rdL] at h ⊢
    by_cases hd : r.done ≠ 0
    · rw [if_pos hd] at h; exact absurd h hd
    · rw [if_neg hd]
      obtain ⟨a1, a2⟩ := done_zero (Decidable.not_not.1 hd)
      exact ⟨a1, [], rfl, (fun x hx => by cases hx), a2, by rw [List.append_nil]⟩
  | k + 1, e, lf, a, b, p, r, hok, h => by
    rw [rdL] at h ⊢
    by_cases hd : r.itm.2.done ≠ 0 ∧ r.itm.2.done ≠ 3
    · rw [if_pos hd] at h; exact absurd h hd.1
    rw [if_neg hd] at h ⊢
    by_cases hg : goodI r.itm.1 = true
    · rw [if_pos hg] at h ⊢
      obtain ⟨i1, path, i2, i3, i4, i5⟩ := rdL_inv k e lf a b (p ++ [r.itm.1]) r.itm.2 (RS.ok_itm hok) h
      obtain ⟨c1, c2, _, _⟩ := itm_rest hok i1
      refine ⟨c1, r.itm.1 :: path, by rw [List.length_cons, i2], fun x hx => ?_, ?_, ?_⟩
      · rcases List.mem_cons.1 hx with rfl | hx
        · exact ⟨itm_ok' r, hg⟩
        · exact i3 x hx
      · rw [c2, i4]; rfl
      · rw [i5, List.append_assoc]; rfl
    · rw [if_neg hg] at h; cases h
theorem below_inv {r : RS} {m : Nat} (hok : r.ok) (h : (r.below m).2.e = 0) : r.e = 0 ∧ (r.below m).1 < m ∧ r.rest = numBytes (r.below m).1 ++ (r.below m).2.rest := by
  unfold RS.below at h ⊢
  by_cases hm : (m : Int) ≤ (r.number.1 : Int)
  · rw [if_pos hm] at h; exact (RS.fail_inv (by decide) h).elim
  · rw [if_neg hm] at h ⊢
    obtain ⟨a, _, c⟩ := number_rest hok h
    exact ⟨a, by omega, c⟩
theorem rdT_inv {e : Int} {lf : Lef} {a b : Itm} {r : RS} (hok : r.ok) (h : (rdT e lf a b r).2 = 0) : r.e = 0 ∧ ∃ path, path.length ≤ 256 ∧ (∀ x ∈ path, x.ok ∧ goodI x = true) ∧ r.rest = numBytes path.length ++ pathBy path ∧ (rdT e lf a b r).1 = ⟨e, lf, a, b, path⟩ := by
  unfold rdT at h ⊢
  obtain ⟨i1, path, i2, i3, i4, i5⟩ := rdL_inv _ e lf a b [] _ (RS.ok_below hok 257) h
  obtain ⟨b1, b2, b3⟩ := below_inv (m := 257) hok i1
  have hx : ((257 : Nat) : Int) = 257 := rfl
  rw [hx] at b2 b3
  refine ⟨b1, path, by omega, i3, ?_, i5⟩
  rw [b3, i4, i2]
def nodBy : Nod → List UInt8
  | .no => []
  | .lf x => 0 :: lefBy x
  | .inn a b => 1 :: (itmBy a ++ itmBy b)
theorem nod_back {t : List UInt8} (ht : t.length ≤ 9223372036854775807) (h : (nodRd t).2 = 0) : nodBy (nodRd t).1 = t ∧ (nodRd t).1.chk = 0 := by
  have o0 := RS.ok_open ht
  have ho : (RS.open t).rest = t := by unfold RS.open RS.rest; rw [List.drop_zero]
  unfold nodRd at h ⊢
  by_cases hd : (nodR t).2.done ≠ 0
  · rw [if_pos hd] at h; exact absurd h hd
  rw [if_neg hd] at h ⊢
  by_cases hc : (nodR t).1.chk ≠ 0
  · rw [if_pos hc] at h; exact absurd h hc
  rw [if_neg hc]
  refine ⟨?_, Decidable.not_not.1 hc⟩
  obtain ⟨e1, e2⟩ := done_zero (Decidable.not_not.1 hd)
  clear h hd hc
  have o1 := RS.ok_flag o0
  unfold nodR at e1 e2 ⊢
  dsimp only at e1 e2 ⊢
  by_cases hf : (RS.open t).flag.1 = true
  · rw [if_pos hf] at e1 e2 ⊢
    obtain ⟨c1, c2, _, _⟩ := itm_rest (RS.ok_itm o1) e1
    obtain ⟨d1, d2, _, _⟩ := itm_rest o1 c1
    obtain ⟨f1, f2⟩ := flag_rest o0 d1
    show 1 :: (itmBy _ ++ itmBy _) = t
    refine Eq.trans ?_ ho
    rw [f2, hf, d2, c2]
    rw [show (RS.open t).flag.2.itm.2.itm.2.rest = [] from e2, List.append_nil]; rfl
  · rw [if_neg hf] at e1 e2 ⊢
    obtain ⟨d1, d2⟩ := lef_rest o1 e1
    obtain ⟨f1, f2⟩ := flag_rest o0 d1
    have hf : (RS.open t).flag.1 = false := by
      cases q : (RS.open t).flag.1 with
      | true => exact absurd q hf
      | false => rfl
    show 0 :: lefBy _ = t
    refine Eq.trans ?_ ho
    rw [f2, hf, d2]
    rw [show (RS.open t).flag.2.lef.2.rest = [] from e2, List.append_nil]; rfl
theorem rdN_lf (e : Nat) (x : Lef) (r : RS) : rdN e (.lf x) r = if e = 1 then rdT 1 x itm0 itm0 r else (prf0, 3) := rfl
theorem rdN_inn (e : Nat) (a b : Itm) (r : RS) : rdN e (.inn a b) r = if e = 2 then rdT 2 lef0 a b r else (prf0, 3) := rfl
theorem open_e {s : List UInt8} (h : (RS.open s).e = 0) : s.length ≤ 65536 := by
  unfold RS.open at h
  by_cases hl : 65536 < s.length
  · have h : (if 65536 < s.length then (2 : Int) else 0) = 0 := h
    rw [if_pos hl] at h; cases h
  · omega
theorem rd_by {s : List UInt8} (hs : s.length ≤ 9223372036854775807) (h : (prRd s).2 = 0) : bysP (prRd s).1 = (s, 0) ∧ (prRd s).1.ok ∧ (prRd s).1.path.length ≤ 256 := by
  have o0 := RS.ok_open hs
  have ho : (RS.open s).rest = s := by unfold RS.open RS.rest; rw [List.drop_zero]
  have hm : ∀ (r : RS), (r.below 3).1 = (r.below ((3 : Nat) : Int)).1 ∧ (r.below 3).2 = (r.below ((3 : Nat) : Int)).2 := fun r => ⟨rfl, rfl⟩
  unfold prRd at h ⊢
  dsimp only at h ⊢
  rw [(hm _).1, (hm _).2] at h ⊢
  have o1 : ((RS.open s).below ((3 : Nat) : Int)).2.ok := RS.ok_below o0 _
  have hbi := fun hh => below_inv (m := 3) o0 hh
  generalize (RS.open s).below ((3 : Nat) : Int) = q at h o1 hbi ⊢
  obtain ⟨e, r1⟩ := q
  dsimp only at h o1 hbi ⊢
  by_cases h0 : e = 0
  · subst h0
    rw [if_pos rfl] at h ⊢
    obtain ⟨i1, path, i2, i3, i4, i5⟩ := rdT_inv o1 h
    obtain ⟨b1, _, b3⟩ := hbi i1
    have hl := open_e b1
    rw [ho] at b3
    rw [i4] at b3
    have hp : (rdT 0 lef0 itm0 itm0 r1) = (⟨0, lef0, itm0, itm0, path⟩, 0) := Prod.ext i5 h
    rw [hp]
    refine ⟨?_, ⟨⟨rfl, rfl⟩, ⟨rfl, rfl⟩, ⟨rfl, rfl⟩, fun x hx => (i3 x hx).1⟩, i2⟩
    show bysT (w0.number 0) path = (s, 0)
    have hw : w0.number 0 = w0.put (numBytes 0) := put_num (Int.le_refl _)
    have hb : ((w0.put (numBytes 0)).put (numBytes path.length)).bs ++ pathBy path = s := by rw [b3]; exact List.append_assoc ..
    unfold bysT
    rw [if_neg (by omega), hw, ws_num, bysL_fwd path _ rfl (fun x hx => (i3 x hx).2) (by rw [hb]; exact hl), hb]
  rw [if_neg h0] at h ⊢
  by_cases hd : r1.text.2.done ≠ 0 ∧ r1.text.2.done ≠ 3
  · rw [if_pos hd] at h; exact absurd h hd.1
  rw [if_neg hd] at h ⊢
  by_cases hf : (nodRd r1.text.1).2 ≠ 0
  · rw [if_pos hf] at h; exact absurd h hf
  rw [if_neg hf] at h ⊢
  have hf := Decidable.not_not.1 hf
  have o2 := RS.ok_text o1
  have htl : r1.text.1.length ≤ 9223372036854775807 := by
    have h1 : r1.text.1.length ≤ r1.number.1 := take_len _ _
    have h2 := number_fits (r := r1)
    omega
  obtain ⟨n1, n2⟩ := nod_back htl hf
  have hnk := nodRd_ok r1.text.1
  have hti := fun hh => text_rest o1 hh
  generalize (nodRd r1.text.1).1 = nn at *
  rcases hnk with rfl | ⟨x, rfl, hx⟩ | ⟨u, v, rfl, hu, hv⟩
  · have h : (3 : Int) = 0 := h
    cases h
  · by_cases h1 : e = 1
    · subst h1
      have hp0 : rdN 1 (.lf x) r1.text.2 = rdT 1 x itm0 itm0 r1.text.2 := (rdN_lf _ _ _).trans (if_pos rfl)
      rw [hp0] at h ⊢
      obtain ⟨i1, path, i2, i3, i4, i5⟩ := rdT_inv o2 h
      obtain ⟨c1, c2, c3⟩ := hti i1
      obtain ⟨b1, _, b3⟩ := hbi c1
      have hl := open_e b1
      rw [ho, c3, i4] at b3
      have hp : (rdT 1 x itm0 itm0 r1.text.2) = (⟨1, x, itm0, itm0, path⟩, 0) := Prod.ext i5 h
      rw [hp]
      refine ⟨?_, ⟨hx, ⟨rfl, rfl⟩, ⟨rfl, rfl⟩, fun x hx => (i3 x hx).1⟩, i2⟩
      have hck : chkLf x = 0 := n2
      have hby : lfBy x = (r1.text.1, 0) := by rw [lf_by hx hck, ← n1]; rfl
      show (if (lfBy x).2 ≠ 0 then ([], (lfBy x).2) else bysT ((w0.number 1).text (lfBy x).1) path) = (s, 0)
      rw [hby, if_neg (fun hh => hh rfl)]
      have hw : w0.number 1 = w0.put (numBytes 1) := put_num (by decide)
      have hb : (((w0.put (numBytes 1)).put (textBytes r1.text.1)).put (numBytes path.length)).bs ++ pathBy path = s := by
        rw [b3]
        show ((numBytes 1 ++ textBytes r1.text.1) ++ numBytes path.length) ++ pathBy path = _
        rw [List.append_assoc, List.append_assoc]
      unfold bysT
      rw [if_neg (by omega), hw, ws_text _ c2, ws_num, bysL_fwd path _ rfl (fun x hx => (i3 x hx).2) (by rw [hb]; exact hl), hb]
    · have hp0 : rdN e (.lf x) r1.text.2 = (prf0, 3) := (rdN_lf _ _ _).trans (if_neg h1)
      rw [hp0] at h; cases h
  · by_cases h2 : e = 2
    · subst h2
      have hp0 : rdN 2 (.inn u v) r1.text.2 = rdT 2 lef0 u v r1.text.2 := (rdN_inn _ _ _ _).trans (if_pos rfl)
      rw [hp0] at h ⊢
      obtain ⟨i1, path, i2, i3, i4, i5⟩ := rdT_inv o2 h
      obtain ⟨c1, c2, c3⟩ := hti i1
      obtain ⟨b1, _, b3⟩ := hbi c1
      have hl := open_e b1
      rw [ho, c3, i4] at b3
      have hp : (rdT 2 lef0 u v r1.text.2) = (⟨2, lef0, u, v, path⟩, 0) := Prod.ext i5 h
      rw [hp]
      refine ⟨?_, ⟨⟨rfl, rfl⟩, hu, hv, fun x hx => (i3 x hx).1⟩, i2⟩
      have hck : chkN u v = 0 := n2
      have hby : inBy u v = (r1.text.1, 0) := by rw [(in_by hu hv hck).1, ← n1]; rfl
      show (if (inBy u v).2 ≠ 0 then ([], (inBy u v).2) else bysT ((w0.number 2).text (inBy u v).1) path) = (s, 0)
      rw [hby, if_neg (fun hh => hh rfl)]
      have hw : w0.number 2 = w0.put (numBytes 2) := put_num (by decide)
      have hb : (((w0.put (numBytes 2)).put (textBytes r1.text.1)).put (numBytes path.length)).bs ++ pathBy path = s := by
        rw [b3]
        show ((numBytes 2 ++ textBytes r1.text.1) ++ numBytes path.length) ++ pathBy path = _
        rw [List.append_assoc, List.append_assoc]
      unfold bysT
      rw [if_neg (by omega), hw, ws_text _ c2, ws_num, bysL_fwd path _ rfl (fun x hx => (i3 x hx).2) (by rw [hb]; exact hl), hb]
    · have hp0 : rdN e (.inn u v) r1.text.2 = (prf0, 3) := (rdN_inn _ _ _ _).trans (if_neg h2)
      rw [hp0] at h; cases h
end Go.Proofs.Ytcmgpkibjdbonaa
