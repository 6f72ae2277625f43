/- slices.Insert of an entry into a row that the function owns; its contract. -/
import Derived.Test.YtapbbifcipemfaaIN1
set_option maxHeartbeats 8000000
set_option maxRecDepth 100000
namespace Go.Proofs.Ytapbbifcipemfaa
open Go Go.RowKit
theorem shape_of_cell {w : World} {b o : Nat} {u : Value} (h : w.cell? ⟨b, o, none⟩ = some u) : ∃ t k, w.shape? b = some (t, k) ∧ k ≠ 0 := by
  unfold World.cell? at h
  split at h
  · rename_i c e q hq
    refine ⟨e, c.size, by unfold World.shape?; rw [hq], fun h0 => ?_⟩
    simp at h
    obtain ⟨h1, _⟩ := Array.getElem?_eq_some_iff.1 h
    omega
  · cases h
theorem Blk.shape {w : World} {g : Nat} {t : TypeId} {cs : Array Value} (h : Blk w g t cs) : w.shape? g = some (t, cs.size) := by
  unfold Blk at h; unfold World.shape?; rw [h]
theorem repA_take {w : World} {F : Nat → Prop} {sz : Nat} : ∀ (k : Nat) (xs : List AV) (cs : List Value), repA w F sz xs cs → repA w F sz (xs.take k) (cs.take (k * sz)) ∧ repA w F sz (xs.drop k) (cs.drop (k * sz))
  | 0, xs, cs, h => by simp only [List.take_zero, Nat.zero_mul, List.drop_zero, repA]; exact ⟨trivial, h⟩
  | k + 1, [], cs, h => by simp only [repA] at h; subst h; simp [repA]
  | k + 1, x :: xs, cs, h => by
    simp only [repA] at h
    obtain ⟨c1, c2, rfl, h1, h2, h3⟩ := h
    obtain ⟨i1, i2⟩ := repA_take k xs c2 h3
    have e : (k + 1) * sz = c1.length + k * sz := by rw [h2, Nat.add_mul]; omega
    rw [List.take_succ_cons, List.drop_succ_cons, e, List.take_length_add_append, List.drop_length_add_append]
    refine ⟨?_, i2⟩
    simp only [repA]
    exact ⟨c1, _, rfl, h1, h2, i1⟩
theorem repA_ins {w : World} {F : Nat → Prop} {sz : Nat} {xs : List AV} {cells : List Value} {x : AV} {cs : List Value} (h : repA w F sz xs cells) (hx : repC w F x cs) (hl : cs.length = sz) (i : Nat) :
    repA w F sz (xs.take i ++ x :: xs.drop i) (cells.take (i * sz) ++ (cs ++ cells.drop (i * sz))) := by
  obtain ⟨h1, h2⟩ := repA_take i xs cells h
  refine repA_append h1 ?_
  simp only [repA]
  exact ⟨cs, _, rfl, hx, hl, h2⟩
/-- What a row holds when cells were moved up and others laid between. -/
theorem moved_take (cur : Array Value) (cells cs : List Value) (p q : Nat) (hp : p + q = cells.length) (hcur : cells.length + cs.length ≤ cur.size) (ht : cur.toList.take p = cells.take p) :
    (setAll (setAll cur (p + cs.length) (cells.drop p)) p cs).toList.take (cells.length + cs.length) = cells.take p ++ (cs ++ cells.drop p) := by
  have hd : (cells.drop p).length = q := by rw [List.length_drop]; omega
  have hs1 : (setAll cur (p + cs.length) (cells.drop p)).size = cur.size := by
    have : ∀ (vs : List Value) (o : Nat) (arr : Array Value), (setAll arr o vs).size = arr.size := by
      intro vs
      induction vs with
      | nil => intro o arr; rfl
      | cons v r ih => intro o arr; show (setAll (arr.setIfInBounds o v) (o + 1) r).size = _; rw [ih, Array.size_setIfInBounds]
    exact this _ _ _
  apply List.ext_getElem?
  intro j
  rw [List.getElem?_take]
  have hlen : (cells.take p ++ (cs ++ cells.drop p)).length = cells.length + cs.length := by simp only [List.length_append, List.length_take, hd]; omega
  by_cases hj : j < cells.length + cs.length
  · rw [if_pos hj, Array.getElem?_toList, setAll_get _ _ _ _ (by rw [hs1]; omega)]
    by_cases h1 : j < p
    · rw [if_neg (by omega), setAll_get _ _ _ _ (by rw [hd]; omega), if_neg (by omega), List.getElem?_append_left (by rw [List.length_take]; omega), ← ht, List.getElem?_take, if_pos h1, Array.getElem?_toList]
    · rw [List.getElem?_append_right (by rw [List.length_take]; omega)]
      have e0 : (cells.take p).length = p := by rw [List.length_take]; omega
      rw [e0]
      by_cases h2 : j < p + cs.length
      · rw [if_pos ⟨by omega, h2⟩, List.getElem?_append_left (by omega)]
      · rw [if_neg (by omega), setAll_get _ _ _ _ (by rw [hd]; omega), if_pos (by rw [hd]; omega), List.getElem?_append_right (by omega), show j - (p + cs.length) = j - p - cs.length by omega]
  · rw [if_neg hj, List.getElem?_eq_none (by omega)]
theorem setAll_size : ∀ (vs : List Value) (o : Nat) (arr : Array Value), (setAll arr o vs).size = arr.size
  | [], _, _ => rfl
  | v :: r, o, arr => by show (setAll (arr.setIfInBounds o v) (o + 1) r).size = _; rw [setAll_size r, Array.size_setIfInBounds]
theorem moved_take2 (cur : Array Value) (cells cs : List Value) (p q : Nat) (hp : p + q = cells.length) (hcur : cells.length + cs.length ≤ cur.size) (ht : cur.toList.take p = cells.take p) :
    (setAll (setAll cur p cs) (p + cs.length) (cells.drop p)).toList.take (cells.length + cs.length) = cells.take p ++ (cs ++ cells.drop p) := by
  have hd : (cells.drop p).length = q := by rw [List.length_drop]; omega
  have hs1 : (setAll cur p cs).size = cur.size := setAll_size _ _ _
  apply List.ext_getElem?
  intro j
  rw [List.getElem?_take]
  have hlen : (cells.take p ++ (cs ++ cells.drop p)).length = cells.length + cs.length := by simp only [List.length_append, List.length_take, hd]; omega
  by_cases hj : j < cells.length + cs.length
  · rw [if_pos hj, Array.getElem?_toList, setAll_get _ _ _ _ (by rw [hs1]; omega)]
    by_cases h1 : j < p
    · rw [if_neg (by omega), setAll_get _ _ _ _ (by omega), if_neg (by omega), List.getElem?_append_left (by rw [List.length_take]; omega), ← ht, List.getElem?_take, if_pos h1, Array.getElem?_toList]
    · rw [List.getElem?_append_right (by rw [List.length_take]; omega)]
      have e0 : (cells.take p).length = p := by rw [List.length_take]; omega
      rw [e0]
      by_cases h2 : j < p + cs.length
      · rw [if_neg (by omega), setAll_get _ _ _ _ (by omega), if_pos ⟨by omega, h2⟩, List.getElem?_append_left (by omega)]
      · rw [if_pos (by rw [hd]; omega), List.getElem?_append_right (by omega), show j - (p + cs.length) = j - p - cs.length by omega]
  · rw [if_neg hj, List.getElem?_eq_none (by omega)]
theorem insert_mid (xs : List AV) (x : AV) (i : Nat) (v : Value) (hi : i < xs.length) (hl : xs.length ≤ 1000000) :
    Spec Try.prog 54 [.own 0 v, .i .i64 i, .sl 3 [x]] [.row v 42 3 xs] (fun r os => ∃ v', r = .own 0 v' ∧ os = [.row v' 42 3 (xs.take i ++ x :: xs.drop i)]) := by
  refine ⟨⟨_, Try.func54, by kernel_rfl, by kernel_rfl⟩, fun w vals F hF hO hV => ?_⟩
  obtain ⟨a, b, c, rfl⟩ : ∃ a b c, vals = [a, b, c] := by
    have := hV.1
    match vals, this with
    | [a, b, c], _ => exact ⟨a, b, c, rfl⟩
  have Ea := hV.2 0 _ _ rfl rfl
  have Eb := hV.2 1 _ _ rfl rfl
  have Ec := hV.2 2 _ _ rfl rfl
  rw [repV_own] at Ea
  rw [repV_i] at Eb
  rw [repV_sl] at Ec
  obtain ⟨rfl, _⟩ := Ea
  subst Eb
  obtain ⟨A, vc, rfl, _, _, hA⟩ := Ec
  obtain ⟨vb, voff, rfl, hFv, hrow⟩ := hA (by simp)
  simp only [repRow] at hrow
  obtain ⟨⟨cs, hcx, hcl, hcr⟩, _⟩ := hrow
  have hH := hO.ok _ (List.mem_singleton.2 rfl)
  obtain ⟨g, hg⟩ : ∃ g, a.ownBlock = some g := by
    obtain ⟨cells, h1, h2⟩ := hH
    rcases h2.2 with ⟨rfl, h0⟩ | ⟨g, cap, cur, rfl, _⟩
    · omega
    · exact ⟨g, rfl⟩
  obtain ⟨cells, cap, cur, h1, rfl, h3, h4, h5, h6, h7⟩ := row_block hH hg
  have hob : oblks [HO.row (.slice (some ⟨g, 0, none⟩) xs.length cap) 42 3 xs] = [g] := rfl
  have hne : vb ≠ g := fun e => (hF vb hFv).2 (by rw [hob, e]; simp)
  have hcll : cells.length = xs.length * 3 := repA_size 3 xs cells h1
  have h1c := repA_one 3 xs cells h1
  have h1v := repC_one x cs hcx
  have hcs : ∀ j u, cells[j]? = some u → w.cell? ⟨g, j, none⟩ = some u := fun j u hj => by
    rw [h3.cell, ← Array.getElem?_toList]
    rw [← h7, List.getElem?_take] at hj
    split at hj
    · exact hj
    · cases hj
  have hvs : ∀ j u, cs[j]? = some u → w.cell? ⟨vb, voff + j, none⟩ = some u := fun j u hj => hcr j u hj
  have hlc : xs.length * 3 ≤ cap * 3 := Nat.mul_le_mul_right 3 h4
  have hins := repA_ins h1 hcx hcl i
  have hnl : (xs.take i ++ x :: xs.drop i).length = xs.length + 1 := by simp; omega
  have hil : (cells.take (i * 3) ++ (cs ++ cells.drop (i * 3))).length = (xs.length + 1) * 3 := by simp only [List.length_append, List.length_take, List.length_drop]; omega
  by_cases hroom : xs.length + 1 ≤ cap
  · obtain ⟨tA, kA, hsa, hkA⟩ := shape_of_cell (hvs 0 _ (List.getElem?_eq_getElem (by omega)))
    refine (ins_shift g xs.length cap i vb voff 1 vc cells cs w hi (by decide) hroom (by unfold maxLen at h5; exact h5) hne hcll (by omega) hcs (fun j hj => by rw [h3.cell, Array.getElem?_eq_getElem (by omega)]; rfl) (fun j _ => h3.frozen j) hvs h1c h1v tA 42 kA cur.size hsa hkA h3.shape (by omega) (fun j => h3.frozen j)).mono fun e w' => ?_
    rintro ⟨rfl, rfl⟩
    have hb0 : Blk w.drew g 42 cur := h3
    have hb1 := Blk.setCells (cells.drop (i * 3)) ((i + 1) * 3) hb0
    have hb2 := Blk.setCells cs (i * 3) hb1
    have hm : Mod (· ∈ [g]) w ((w.drew.setCells g ((i + 1) * 3) (cells.drop (i * 3))).setCells g (i * 3) cs) :=
      Mod.setCells (fun _ => by simp) _ _ (Mod.setCells (fun _ => by simp) _ _ ((Mod.refl _ w).drew))
    generalize (w.drew.setCells g ((i + 1) * 3) (cells.drop (i * 3))).setCells g (i * 3) cs = w' at hb2 hm
    have hsz : (setAll (setAll cur ((i + 1) * 3) (cells.drop (i * 3))) (i * 3) cs).size = cap * 3 := by
      have : ∀ (vs : List Value) (o : Nat) (arr : Array Value), (setAll arr o vs).size = arr.size := by
        intro vs
        induction vs with
        | nil => intro o arr; rfl
        | cons v r ih => intro o arr; show (setAll (arr.setIfInBounds o v) (o + 1) r).size = _; rw [ih, Array.size_setIfInBounds]
      rw [this, this, h6]
    have htk := moved_take cur cells cs (i * 3) ((xs.length - i) * 3) (by omega) (by omega) (by rw [← h7, List.take_take, Nat.min_eq_left (by omega)])
    have hblt : g < w'.heap.size := hb2.lt
    have hFA : ∀ b, F b → FAfter w w' F [HO.row (.slice (some ⟨g, 0, none⟩) xs.length cap) 42 3 xs] [HO.row (.slice (some ⟨g, 0, none⟩) (xs.length + 1) cap) 42 3 (xs.take i ++ x :: xs.drop i)] b := fun b hb => ⟨Nat.lt_of_lt_of_le (hF b hb).1 hm.size, (hF b hb).2, .inl hb⟩
    have hsame : ∀ b, F b → w'.heap[b]? = w.heap[b]? := fun b hb => hm.block b (hF b hb).1 (fun he => (hF b hb).2 he)
    refine ⟨_, .own 0 (.slice (some ⟨g, 0, none⟩) (xs.length + 1) cap), [.row (.slice (some ⟨g, 0, none⟩) (xs.length + 1) cap) 42 3 (xs.take i ++ x :: xs.drop i)], rfl, ⟨_, rfl, rfl⟩, hm, ⟨fun o ho => ?_, by rw [show oblks [HO.row (.slice (some ⟨g, 0, none⟩) (xs.length + 1) cap) 42 3 (xs.take i ++ x :: xs.drop i)] = [g] from rfl]; simp, fun b hb => ?_⟩, fun b hb => .inl hb, repV_own.2 ⟨rfl, rfl⟩⟩
    · rw [List.mem_singleton.1 ho]
      refine ⟨cells.take (i * 3) ++ (cs ++ cells.drop (i * 3)), repA_mono hFA hsame _ _ _ hins, ?_⟩
      refine ⟨by rw [hil, hnl], .inr ⟨g, cap, _, by rw [hnl], Nat.zero_le _, hb2, by rw [hnl]; exact hroom, h5, hsz, ?_⟩⟩
      rw [hnl, ← htk, show i * 3 + cs.length = (i + 1) * 3 by omega, show cells.length + cs.length = (xs.length + 1) * 3 by omega]
    · have hb : b ∈ [g] := hb
      rw [List.mem_singleton.1 hb]; exact hblt
  · refine (ins_grow g xs.length cap i vb voff 1 vc cells cs w hi (by decide) h4 (by omega) (by omega) hcll (by omega) hcs hvs h1c h1v).mono fun e w' => ?_
    rintro ⟨G, ROW, rfl, hG1, hG2, hR1, hR2, rfl⟩
    have hb0 : Blk (w.alloc (.cells ROW 42)).drew w.heap.size 42 ROW := Blk.new w 42 ROW
    have hb1 := Blk.setCells cs (i * 3) hb0
    have hb1' : Blk ((w.alloc (.cells ROW 42)).drew.setCells w.heap.size (i * 3) cs).drew w.heap.size 42 (setAll ROW (i * 3) cs) := hb1
    have hb2 := Blk.setCells (cells.drop (i * 3)) ((i + 1) * 3) hb1'
    have hm : Mod None_ w ((((w.alloc (.cells ROW 42)).drew.setCells w.heap.size (i * 3) cs).drew).setCells w.heap.size ((i + 1) * 3) (cells.drop (i * 3))) :=
      Mod.setCells (fun h => absurd h (Nat.lt_irrefl _)) _ _ (Mod.drew (Mod.setCells (fun h => absurd h (Nat.lt_irrefl _)) _ _ (Mod.drew ((Mod.refl _ w).alloc _))))
    generalize (((w.alloc (.cells ROW 42)).drew.setCells w.heap.size (i * 3) cs).drew).setCells w.heap.size ((i + 1) * 3) (cells.drop (i * 3)) = w' at hb2 hm
    have hsz : (setAll (setAll ROW (i * 3) cs) ((i + 1) * 3) (cells.drop (i * 3))).size = G * 3 := by rw [setAll_size, setAll_size, hR1]
    have htk := moved_take2 ROW cells cs (i * 3) ((xs.length - i) * 3) (by omega) (by omega) hR2
    rw [show i * 3 + cs.length = (i + 1) * 3 by omega, show cells.length + cs.length = (xs.length + 1) * 3 by omega] at htk
    generalize setAll (setAll ROW (i * 3) cs) ((i + 1) * 3) (cells.drop (i * 3)) = cur2 at hb2 hsz htk
    have hblt : w.heap.size < w'.heap.size := hb2.lt
    have hFA : ∀ b, F b → FAfter w w' F [HO.row (.slice (some ⟨g, 0, none⟩) xs.length cap) 42 3 xs] [HO.row (.slice (some ⟨w.heap.size, 0, none⟩) (xs.length + 1) G) 42 3 (xs.take i ++ x :: xs.drop i)] b := fun b hb => ⟨Nat.lt_of_lt_of_le (hF b hb).1 hm.size, (fun hin => by
      have hin : b ∈ [w.heap.size] := hin
      have := (hF b hb).1
      rw [List.mem_singleton.1 hin] at this
      exact Nat.lt_irrefl _ this), .inl hb⟩
    have hsame : ∀ b, F b → w'.heap[b]? = w.heap[b]? := fun b hb => hm.block b (hF b hb).1 (fun he => he)
    refine ⟨_, .own 0 (.slice (some ⟨w.heap.size, 0, none⟩) (xs.length + 1) G), [.row (.slice (some ⟨w.heap.size, 0, none⟩) (xs.length + 1) G) 42 3 (xs.take i ++ x :: xs.drop i)], rfl, ⟨_, rfl, rfl⟩, hm.mono (fun _ _ h => h.elim), ⟨fun o ho => ?_, by rw [show oblks [HO.row (.slice (some ⟨w.heap.size, 0, none⟩) (xs.length + 1) G) 42 3 (xs.take i ++ x :: xs.drop i)] = [w.heap.size] from rfl]; simp, fun b hb => ?_⟩, fun b hb => ?_, repV_own.2 ⟨rfl, rfl⟩⟩
    · rw [List.mem_singleton.1 ho]
      refine ⟨cells.take (i * 3) ++ (cs ++ cells.drop (i * 3)), repA_mono hFA hsame _ _ _ hins, ?_⟩
      exact ⟨by rw [hil, hnl], .inr ⟨w.heap.size, G, cur2, by rw [hnl], Nat.zero_le _, hb2, by rw [hnl]; exact hG1, hG2, hsz, by rw [hnl]; exact htk⟩⟩
    · have hb : b ∈ [w.heap.size] := hb
      rw [List.mem_singleton.1 hb]; exact hblt
    · have hb : b ∈ [w.heap.size] := hb
      rw [List.mem_singleton.1 hb]; exact .inr (Nat.le_refl _)
end Go.Proofs.Ytapbbifcipemfaa
