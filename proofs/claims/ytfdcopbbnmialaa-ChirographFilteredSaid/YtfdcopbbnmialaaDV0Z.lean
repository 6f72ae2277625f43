/- What lies on a disk that lives and is sure of all its bytes: names and bytes, in any order. No program in sight. -/
import Derived.Test.YtfdcopbbnmialaaJ5Z
import Derived.Test.YtfdcopbbnmialaaJ6
import Derived.Test.YtfdcopbbnmialaaS3
set_option maxHeartbeats 4000000
namespace Go.Proofs.Ytfdcopbbnmialaa
open Go Go.RowKit
def keyL (L : List (List UInt8 × List UInt8)) : List (List UInt8) := L.map (·.1)
def usedL (L : List (List UInt8 × List UInt8)) : Nat := (L.map (·.2.length)).sum
def lkL : List (List UInt8 × List UInt8) → List UInt8 → Option (List UInt8)
  | [], _ => none
  | x :: r, nm => if x.1 = nm then some x.2 else lkL r nm
/-- Bytes go behind those of a name. -/
def putL : List (List UInt8 × List UInt8) → List UInt8 → List UInt8 → List (List UInt8 × List UInt8)
  | [], nm, b => [(nm, b)]
  | x :: r, nm, b => if x.1 = nm then (x.1, x.2 ++ b) :: r else x :: putL r nm b
theorem keyL_perm {L L' : List (List UInt8 × List UInt8)} (h : L.Perm L') : (keyL L).Perm (keyL L') := h.map _
theorem lkL_perm {L L' : List (List UInt8 × List UInt8)} (h : L.Perm L') (nd : (keyL L).Nodup) (nm : List UInt8) : lkL L nm = lkL L' nm := by
  induction h with
  | nil => rfl
  | cons x p ih =>
    unfold lkL
    rw [ih (List.nodup_cons.1 nd).2]
  | swap x y l =>
    have h1 : y.1 ≠ x.1 := fun e => (List.nodup_cons.1 nd).1 (by show y.1 ∈ x.1 :: List.map (·.1) l; rw [e]; exact List.mem_cons_self ..)
    simp only [lkL]
    by_cases a : y.1 = nm
    · by_cases b : x.1 = nm
      · exact absurd (a.trans b.symm) h1
      · rw [if_pos a, if_neg b, if_pos a]
    · by_cases b : x.1 = nm
      · rw [if_neg a, if_pos b, if_pos b]
      · rw [if_neg a, if_neg b, if_neg b, if_neg a]
  | trans p q ih1 ih2 => exact (ih1 nd).trans (ih2 ((keyL_perm p).nodup_iff.1 nd))
theorem putL_perm {L L' : List (List UInt8 × List UInt8)} (h : L.Perm L') (nd : (keyL L).Nodup) (nm b : List UInt8) : (putL L nm b).Perm (putL L' nm b) := by
  induction h with
  | nil => exact List.Perm.refl _
  | cons x p ih =>
    unfold putL
    by_cases a : x.1 = nm
    · rw [if_pos a, if_pos a]; exact p.cons _
    · rw [if_neg a, if_neg a]; exact (ih (List.nodup_cons.1 nd).2).cons _
  | swap x y l =>
    have h1 : y.1 ≠ x.1 := fun e => (List.nodup_cons.1 nd).1 (by show y.1 ∈ x.1 :: List.map (·.1) l; rw [e]; exact List.mem_cons_self ..)
    simp only [putL]
    by_cases a : y.1 = nm
    · by_cases b : x.1 = nm
      · exact absurd (a.trans b.symm) h1
      · rw [if_pos a, if_neg b, if_pos a]; exact List.Perm.swap ..
    · by_cases b : x.1 = nm
      · rw [if_neg a, if_pos b, if_pos b]; exact List.Perm.swap ..
      · rw [if_neg a, if_neg b, if_neg b, if_neg a]; exact List.Perm.swap ..
  | trans p q ih1 ih2 => exact (ih1 nd).trans (ih2 ((keyL_perm p).nodup_iff.1 nd))
theorem lkL_none {nm : List UInt8} : ∀ {L : List (List UInt8 × List UInt8)}, lkL L nm = none ↔ nm ∉ keyL L
  | [] => ⟨fun _ h => (by cases h), fun _ => rfl⟩
  | x :: r => by
    unfold lkL
    by_cases a : x.1 = nm
    · rw [if_pos a]; exact ⟨fun h => (by cases h), fun h => absurd (List.mem_cons.2 (.inl a.symm)) h⟩
    · rw [if_neg a, lkL_none]
      exact ⟨fun h hm => (List.mem_cons.1 hm).elim (fun e => a e.symm) h, fun h hm => h (List.mem_cons_of_mem _ hm)⟩
theorem putL_new {nm b : List UInt8} : ∀ {L : List (List UInt8 × List UInt8)}, nm ∉ keyL L → putL L nm b = L ++ [(nm, b)]
  | [], _ => rfl
  | x :: r, h => by
    unfold putL
    rw [if_neg (fun e => h (List.mem_cons.2 (.inl e.symm))), putL_new (fun hm => h (List.mem_cons_of_mem _ hm))]; rfl
theorem putL_mid {nm b v : List UInt8} {r : List (List UInt8 × List UInt8)} : ∀ {s : List (List UInt8 × List UInt8)}, nm ∉ keyL s → putL (s ++ (nm, v) :: r) nm b = s ++ (nm, v ++ b) :: r
  | [], _ => by show putL ((nm, v) :: r) nm b = _; unfold putL; rw [if_pos rfl]; rfl
  | x :: s, h => by
    show putL (x :: (s ++ (nm, v) :: r)) nm b = _
    unfold putL
    rw [if_neg (fun e => h (List.mem_cons.2 (.inl e.symm))), putL_mid (fun hm => h (List.mem_cons_of_mem _ hm))]; rfl
theorem usedL_cons (x : List UInt8 × List UInt8) (L : List (List UInt8 × List UInt8)) : usedL (x :: L) = x.2.length + usedL L := by unfold usedL; rw [List.map_cons, List.sum_cons]
theorem usedL_put {nm b : List UInt8} : ∀ {L : List (List UInt8 × List UInt8)}, usedL (putL L nm b) = usedL L + b.length
  | [] => by unfold putL; rw [usedL_cons]; show b.length + 0 = 0 + b.length; omega
  | x :: r => by
    unfold putL
    by_cases a : x.1 = nm
    · rw [if_pos a, usedL_cons, usedL_cons]
      show (x.2 ++ b).length + usedL r = _
      rw [List.length_append]; omega
    · rw [if_neg a, usedL_cons, usedL_cons, usedL_put]; omega
theorem usedL_perm {L L' : List (List UInt8 × List UInt8)} (h : L.Perm L') : usedL L = usedL L' := (h.map _).sum_nat
def fsL (D : Dsk) : List (List UInt8 × List UInt8) := D.fs.map (fun f => (f.nm, f.b))
/-- A disk that lives, with no fuse, sure of all, on which this lies. -/
structure Vw (D : Dsk) (L : List (List UInt8 × List UInt8)) : Prop where
  ok : D.ok
  dead : D.dead = false
  fuse : D.fuse = -1
  sure : ∀ f ∈ D.fs, f.sure = f.b.length
  pm : (fsL D).Perm L
theorem keys_fsL (D : Dsk) : keyL (fsL D) = D.fs.map (·.nm) := by unfold keyL fsL; rw [List.map_map]; rfl
theorem Vw.keys {D : Dsk} {L : List (List UInt8 × List UInt8)} (v : Vw D L) : (D.fs.map (·.nm)).Perm (keyL L) := by rw [← keys_fsL]; exact v.pm.map _
theorem Vw.nd {D : Dsk} {L : List (List UInt8 × List UInt8)} (v : Vw D L) : (keyL L).Nodup := v.keys.nodup_iff.1 v.ok.nd
theorem Vw.perm {D : Dsk} {L L' : List (List UInt8 × List UInt8)} (v : Vw D L) (h : L.Perm L') : Vw D L' := ⟨v.ok, v.dead, v.fuse, v.sure, v.pm.trans h⟩
theorem find_lk (nm : List UInt8) : ∀ l : List Fil, (l.find? (fun f => f.nm == nm)).map (·.b) = lkL (l.map (fun f => (f.nm, f.b))) nm
  | [] => rfl
  | f :: r => by
    rw [List.find?_cons, List.map_cons]
    unfold lkL
    by_cases h : f.nm = nm
    · rw [beq_iff_eq.2 h, if_pos h]; rfl
    · rw [beq_eq_false_iff_ne.2 h, if_neg h]; exact find_lk nm r
theorem Vw.get {D : Dsk} {L : List (List UInt8 × List UInt8)} (v : Vw D L) (nm : List UInt8) : (D.get nm).map (·.b) = lkL L nm :=
  (find_lk nm D.fs).trans (lkL_perm v.pm (by rw [keys_fsL]; exact v.ok.nd) nm)
theorem Vw.get_none {D : Dsk} {L : List (List UInt8 × List UInt8)} (v : Vw D L) (nm : List UInt8) : D.get nm = none ↔ lkL L nm = none := by
  rw [← v.get nm]
  cases D.get nm with
  | none => exact ⟨fun _ => rfl, fun _ => rfl⟩
  | some f => exact ⟨fun h => (by cases h), fun h => (by cases h)⟩
theorem usedF_fsL : ∀ l : List Fil, usedF l = usedL (l.map (fun f => (f.nm, f.b)))
  | [] => rfl
  | f :: r => by rw [usedF_cons, List.map_cons, usedL_cons, usedF_fsL r]
theorem Vw.used {D : Dsk} {L : List (List UInt8 × List UInt8)} (v : Vw D L) : D.used = usedL L := (usedF_fsL D.fs).trans (usedL_perm v.pm)
theorem Vw.len {D : Dsk} {L : List (List UInt8 × List UInt8)} (v : Vw D L) : D.fs.length = L.length := by
  have := v.pm.length_eq
  unfold fsL at this
  rw [List.length_map] at this; exact this
theorem Vw.rd {D : Dsk} {L : List (List UInt8 × List UInt8)} (v : Vw D L) (nm : List UInt8) : rdE D nm = match lkL L nm with | some b => (b, 0) | none => ([], 7) := by
  unfold rdE
  rw [if_neg (by rw [v.dead]; decide), ← v.get nm]
  cases D.get nm <;> rfl
theorem Vw.byt {D : Dsk} {L : List (List UInt8 × List UInt8)} (v : Vw D L) (nm : List UInt8) : D.byt nm = (lkL L nm).getD [] := by
  unfold Dsk.byt
  rw [← v.get nm]
  cases D.get nm <;> rfl
theorem sort_perm {l l' : List (List UInt8)} (h : l.Perm l') : sortN l = sortN l' := by
  have tot : ∀ a b : List UInt8, (decide (a ≤ b) || decide (b ≤ a)) = true := fun a b => by
    rw [Bool.or_eq_true, decide_eq_true_eq, decide_eq_true_eq]; exact List.le_total a b
  have tr : ∀ a b c : List UInt8, decide (a ≤ b) = true → decide (b ≤ c) = true → decide (a ≤ c) = true := fun a b c h1 h2 => decide_eq_true (List.le_trans (of_decide_eq_true h1) (of_decide_eq_true h2))
  have h1 := List.pairwise_mergeSort tr tot l
  have h2 := List.pairwise_mergeSort tr tot l'
  have hp : (sortN l).Perm (sortN l') := (List.mergeSort_perm ..).trans (h.trans (List.mergeSort_perm ..).symm)
  exact List.Perm.eq_of_pairwise (fun a b _ _ h3 h4 => List.le_antisymm (of_decide_eq_true h3) (of_decide_eq_true h4)) h1 h2 hp
theorem Vw.list {D : Dsk} {L : List (List UInt8 × List UInt8)} (v : Vw D L) : listN D = sortN (keyL L) := by
  unfold listN
  rw [if_neg (by rw [v.dead]; decide)]
  exact sort_perm v.keys
theorem Vw.appE {D : Dsk} {L : List (List UInt8 × List UInt8)} (v : Vw D L) {nm b : List UInt8} (hn : goodN nm = true) : appE D nm b = if D.room - (usedL L : Int) < b.length ∨ (lkL L nm = none ∧ 4096 ≤ L.length) then 9 else 0 := by
  unfold Go.Proofs.Ytfdcopbbnmialaa.appE
  rw [if_neg (by rw [v.dead]; decide), if_neg (by rw [hn]; decide), v.used, v.len, v.fuse, v.dead]
  have := v.get_none nm
  simp only [this]
  rfl
/-- Bytes that go safely behind those of a name: what lies there then. -/
theorem Vw.put {D : Dsk} {L : List (List UInt8 × List UInt8)} (v : Vw D L) {nm b : List UInt8} (q : Nat) (hn : goodN nm = true) (hE : Go.Proofs.Ytfdcopbbnmialaa.appE D nm b = 0) :
    synE (appD D nm b q) nm = 0 ∧ Vw (synD (appD D nm b q) nm) (putL L nm b) ∧ (synD (appD D nm b q) nm).room = D.room := by
  have hc : ¬ (D.dead = true ∨ goodN nm = false ∨ D.room - (D.used : Int) < b.length ∨ (D.get nm = none ∧ 4096 ≤ D.fs.length)) := by
    unfold Go.Proofs.Ytfdcopbbnmialaa.appE at hE
    rintro (h | h | h)
    · rw [v.dead] at h; cases h
    · rw [hn] at h; cases h
    · rw [if_neg (by rw [v.dead]; decide), if_neg (by rw [hn]; decide), if_pos h] at hE; cases hE
  have hok := (appD_ok (nm := nm) (b := b) (q := q) v.ok).1
  have hrm := (appD_ok (nm := nm) (b := b) (q := q) v.ok).2.2.1
  have hA : appD D nm b q = ⟨D.room, -1, false, appF D.fs D.clk q nm b, if D.get nm = none then D.clk + 1 else D.clk⟩ := by
    unfold appD
    rw [if_neg hc, v.fuse, v.dead]; rfl
  have hfs : (appD D nm b q).fs.map (fun f => (f.nm, f.b)) = putL (fsL D) nm b ∧ nm ∈ (appD D nm b q).fs.map (·.nm) ∧ ∀ f ∈ (appD D nm b q).fs, f.nm ≠ nm → f.sure = f.b.length := by
    rw [hA]
    dsimp only
    rcases app_cases (q := q) v.ok (.inr v.dead) hc with ⟨hg, hf⟩ | ⟨s, f, r, hg, hn2, hst, hf⟩
    · rw [hf]
      have hk : nm ∉ keyL (fsL D) := by rw [keys_fsL]; exact Go.Proofs.Ytfdcopbbnmialaa.get_none hg
      refine ⟨by rw [putL_new hk, List.map_append]; rfl, by rw [List.map_append]; exact List.mem_append_right _ (List.mem_cons_self ..), fun g hgm hne => ?_⟩
      rcases List.mem_append.1 hgm with h | h
      · exact v.sure g h
      · rw [List.mem_singleton.1 h] at hne; exact absurd rfl hne
    · rw [hf]
      have hk : nm ∉ keyL (s.map (fun f => (f.nm, f.b))) := by
        intro hm
        unfold keyL at hm
        rw [List.map_map] at hm
        obtain ⟨g, hgm, hge⟩ := List.mem_map.1 hm
        exact (nd_split hst v.ok.nd).1 g hgm (by rw [hn2]; exact hge)
      refine ⟨?_, ?_, fun g hgm hne => ?_⟩
      · unfold fsL
        rw [hst, List.map_append, List.map_cons, List.map_append, List.map_cons, hn2, putL_mid hk]
      · rw [List.map_append, List.map_cons, hn2]; exact List.mem_append_right _ (List.mem_cons_self ..)
      · have hall := v.sure
        rw [hst] at hall
        rcases List.mem_append.1 hgm with h | h
        · exact hall g (List.mem_append_left _ h)
        rcases List.mem_cons.1 h with h | h
        · subst h; exact absurd hn2 hne
        · exact hall g (List.mem_append_right _ (List.mem_cons_of_mem _ h))
  have hAd : (appD D nm b q).dead = false := by rw [hA]
  have hAf : (appD D nm b q).fuse = -1 := by rw [hA]
  generalize appD D nm b q = A at hok hrm hfs hAd hAf ⊢
  have hgt : ¬ (A.dead = false ∧ A.get nm = none) := fun h => Go.Proofs.Ytfdcopbbnmialaa.get_none h.2 hfs.2.1
  have hS : synD A nm = ⟨A.room, -1, false, synF A.fs nm, A.clk⟩ := by
    unfold synD
    rw [if_neg hgt, hAf, hAd]; rfl
  have hmap : ∀ {β : Type} (g : Fil → β), (∀ f : Fil, g ⟨f.nm, f.blk, f.born, f.b, f.b.length⟩ = g f) → (synF A.fs nm).map g = A.fs.map g := fun g hg => by
    unfold synF
    rw [List.map_map]
    refine List.map_congr_left (fun f _ => ?_)
    show g (if f.nm = nm then _ else f) = g f
    split
    · exact hg f
    · rfl
  have hmem : ∀ g ∈ synF A.fs nm, ∃ f ∈ A.fs, g.nm = f.nm ∧ g.born = f.born ∧ g.b = f.b ∧ (f.nm = nm → g.sure = g.b.length) ∧ (f.nm ≠ nm → g = f) := fun g hg => by
    unfold synF at hg
    obtain ⟨f, hf, rfl⟩ := List.mem_map.1 hg
    refine ⟨f, hf, ?_⟩
    by_cases h : f.nm = nm
    · rw [if_pos h]; exact ⟨rfl, rfl, rfl, fun _ => rfl, fun h2 => absurd h h2⟩
    · rw [if_neg h]; exact ⟨rfl, rfl, rfl, fun h2 => absurd h2 h, fun _ => rfl⟩
  have hsure : ∀ g ∈ synF A.fs nm, g.sure = g.b.length := fun g hg => by
    obtain ⟨f, hf, _, _, _, h1, h2⟩ := hmem g hg
    by_cases h : f.nm = nm
    · exact h1 h
    · rw [h2 h]; exact hfs.2.2 f hf h
  refine ⟨?_, ?_, by rw [hS]; exact hrm⟩
  · unfold synE
    rw [if_neg hgt, hAf, hAd]; rfl
  · rw [hS]
    refine ⟨⟨?_, ?_, ?_, ?_, ?_, hok.room⟩, rfl, rfl, hsure, ?_⟩
    · show ((synF A.fs nm).map (·.nm)).Nodup
      rw [hmap _ (fun _ => rfl)]; exact hok.nd
    · show ((synF A.fs nm).map (·.born)).Nodup
      rw [hmap _ (fun _ => rfl)]; exact hok.bn
    · intro g hg
      obtain ⟨f, hf, _, hb, _⟩ := hmem g hg
      rw [hb]; exact hok.lt f hf
    · intro g hg
      obtain ⟨f, hf, hb, _⟩ := hmem g hg
      rw [hb]; exact hok.nl f hf
    · intro g hg
      rw [hsure g hg]; exact Nat.le_refl _
    · show ((synF A.fs nm).map (fun f => (f.nm, f.b))).Perm _
      rw [hmap _ (fun _ => rfl), hfs.1]
      exact putL_perm v.pm (by rw [keys_fsL]; exact v.ok.nd) nm b
theorem Vw.full {D : Dsk} {L : List (List UInt8 × List UInt8)} (v : Vw D L) {nm b : List UInt8} (q : Nat) (hn : goodN nm = true) (hE : Go.Proofs.Ytfdcopbbnmialaa.appE D nm b ≠ 0) : appD D nm b q = D := by
  unfold appD
  by_cases hc : D.dead = true ∨ goodN nm = false ∨ D.room - (D.used : Int) < b.length ∨ (D.get nm = none ∧ 4096 ≤ D.fs.length)
  · rw [if_pos hc]
  · refine absurd ?_ hE
    unfold Go.Proofs.Ytfdcopbbnmialaa.appE
    rw [if_neg (fun h => hc (.inl h)), if_neg (fun h => hc (.inr (.inl h))), if_neg (fun h => hc (.inr (.inr h))), v.fuse, v.dead]; rfl
theorem new_vw (r : Int) (hr : r ≤ 1099511627776) : Vw (newD r) [] := by
  refine ⟨⟨List.nodup_nil, List.nodup_nil, fun _ h => (by cases h), fun _ h => (by cases h), fun _ h => (by cases h), ?_⟩, rfl, rfl, fun _ h => (by cases h), List.Perm.refl _⟩
  unfold newD
  dsimp only
  omega
end Go.Proofs.Ytfdcopbbnmialaa
set_option maxHeartbeats 8000000
set_option maxRecDepth 100000
namespace Go.Proofs.Ytfdcopbbnmialaa
open Go Go.RowKit
theorem ofNat_toNat (n : Nat) : (UInt8.ofNat n).toNat = n % 256 := UInt8.toNat_ofNat'
theorem sopen_wrap (T more : List UInt8) (h : T.length ≤ 65536) : sopen (sealWrap T ++ more) = (T, 8 + T.length, 0) := by
  have hx := crc_lt (sealHead T.length ++ T)
  have e : sealWrap T ++ more = 94 :: UInt8.ofNat (T.length / 65536) :: UInt8.ofNat (T.length / 256) :: UInt8.ofNat T.length :: UInt8.ofNat (crc (sealHead T.length ++ T) / 16777216) :: UInt8.ofNat (crc (sealHead T.length ++ T) / 65536) :: UInt8.ofNat (crc (sealHead T.length ++ T) / 256) :: UInt8.ofNat (crc (sealHead T.length ++ T)) :: (T ++ more) := by
    unfold sealWrap four
    rw [List.append_assoc, List.append_assoc]
    generalize crc (sealHead T.length ++ T) = x
    rfl
  have hn : n3 (UInt8.ofNat (T.length / 65536)) (UInt8.ofNat (T.length / 256)) (UInt8.ofNat T.length) = T.length := by
    unfold n3; rw [ofNat_toNat, ofNat_toNat, ofNat_toNat]; omega
  have ht : (T ++ more).take T.length = T := by rw [List.take_left]
  have hd : [94, UInt8.ofNat (T.length / 65536), UInt8.ofNat (T.length / 256), UInt8.ofNat T.length] = sealHead T.length := rfl
  rw [e]
  unfold sopen
  dsimp only
  rw [hn, ht, hd]
  generalize crc (sealHead T.length ++ T) = x at hx
  have h4 : n4 (UInt8.ofNat (x / 16777216)) (UInt8.ofNat (x / 65536)) (UInt8.ofNat (x / 256)) (UInt8.ofNat x) = x := by
    unfold n4; rw [ofNat_toNat, ofNat_toNat, ofNat_toNat, ofNat_toNat]; omega
  rw [h4, if_neg (by rintro (h1 | h1); exact h1 rfl; omega), if_neg (by rw [List.length_append]; omega), if_pos rfl]
end Go.Proofs.Ytfdcopbbnmialaa
