/- What a journal has: texts in segments, beside other files. No program in sight. -/
import Derived.Test.YtfdcopbbnmialaaDV0Z
set_option maxHeartbeats 4000000
namespace Go.Proofs.Ytfdcopbbnmialaa
open Go Go.RowKit
def frames (l : List (List UInt8)) : List UInt8 := (l.map sealWrap).flatten
def logL (l : List (Nat × List (List UInt8))) : List (List UInt8 × List UInt8) := l.map (fun p => (nameN p.1, frames p.2))
def addJ : List (Nat × List (List UInt8)) → Nat → List UInt8 → List (Nat × List (List UInt8))
  | [], now, s => [(now, [s])]
  | p :: r, now, s => if p.1 = now then (p.1, p.2 ++ [s]) :: r else p :: addJ r now s
def txtJ (l : List (Nat × List (List UInt8))) : List (List UInt8) := l.flatMap (·.2)
structure JOk (l : List (Nat × List (List UInt8))) (now : Nat) : Prop where
  rise : (l.map (·.1)).Pairwise (· < ·)
  le : ∀ p ∈ l, p.1 ≤ now
  tx : ∀ p ∈ l, ∀ t ∈ p.2, t.length ≤ 65536
  lim : now < 10000000000
theorem nameN_inj {n m : Nat} (hn : n < 10000000000) (hm : m < 10000000000) (h : nameN n = nameN m) : n = m := by
  have h1 := num_name hn
  rw [h, num_name hm] at h1
  exact (Option.some.inj h1).symm
theorem put_log {now : Nat} (hw : now < 10000000000) (s : List UInt8) : ∀ {l : List (Nat × List (List UInt8))}, (∀ p ∈ l, p.1 < 10000000000) → putL (logL l) (nameN now) (sealWrap s) = logL (addJ l now s)
  | [], _ => by
    show [(nameN now, sealWrap s)] = [(nameN now, frames [s])]
    unfold frames; simp
  | p :: r, h => by
    have hp := h p (List.mem_cons_self ..)
    show putL ((nameN p.1, frames p.2) :: logL r) _ _ = _
    unfold putL addJ
    by_cases a : p.1 = now
    · rw [if_pos a, if_pos (by rw [a])]
      show (nameN p.1, frames p.2 ++ sealWrap s) :: logL r = (nameN p.1, frames (p.2 ++ [s])) :: logL r
      unfold frames
      rw [List.map_append, List.flatten_append]; simp
    · rw [if_neg a, if_neg (fun e => a (nameN_inj hp hw e)), put_log hw s (fun q hq => h q (List.mem_cons_of_mem _ hq))]; rfl
theorem putL_left {nm b : List UInt8} {O : List (List UInt8 × List UInt8)} (h : nm ∉ keyL O) : ∀ {A : List (List UInt8 × List UInt8)}, (putL (A ++ O) nm b).Perm (putL A nm b ++ O)
  | [] => by
    show (putL O nm b).Perm ((nm, b) :: O)
    rw [putL_new h]
    exact List.perm_append_comm
  | x :: r => by
    show (putL (x :: (r ++ O)) nm b).Perm _
    unfold putL
    by_cases a : x.1 = nm
    · rw [if_pos a, if_pos a]; exact List.Perm.refl _
    · rw [if_neg a, if_neg a]; exact (putL_left h).cons x
theorem addJ_nums {now : Nat} {s : List UInt8} : ∀ {l : List (Nat × List (List UInt8))}, (addJ l now s).map (·.1) = if now ∈ l.map (·.1) then l.map (·.1) else l.map (·.1) ++ [now]
  | [] => rfl
  | p :: r => by
    unfold addJ
    by_cases a : p.1 = now
    · rw [if_pos a]
      show p.1 :: r.map (·.1) = if now ∈ p.1 :: r.map (·.1) then p.1 :: r.map (·.1) else p.1 :: r.map (·.1) ++ [now]
      rw [if_pos (List.mem_cons.2 (.inl a.symm))]
    · rw [if_neg a]
      show p.1 :: (addJ r now s).map (·.1) = if now ∈ p.1 :: r.map (·.1) then p.1 :: r.map (·.1) else p.1 :: r.map (·.1) ++ [now]
      rw [addJ_nums]
      by_cases c : now ∈ r.map (·.1)
      · rw [if_pos c, if_pos (List.mem_cons_of_mem _ c)]
      · rw [if_neg c, if_neg (fun hm => (List.mem_cons.1 hm).elim (fun e => a e.symm) c)]; rfl
theorem addJ_mem {now : Nat} {s : List UInt8} : ∀ {l : List (Nat × List (List UInt8))}, ∀ p ∈ addJ l now s, p ∈ l ∨ (p.1 = now ∧ ∀ t ∈ p.2, t = s ∨ ∃ q ∈ l, t ∈ q.2)
  | [], p, h => by
    rw [List.mem_singleton.1 h]
    exact .inr ⟨rfl, fun t ht => .inl (List.mem_singleton.1 ht)⟩
  | q :: r, p, h => by
    unfold addJ at h
    by_cases a : q.1 = now
    · rw [if_pos a] at h
      rcases List.mem_cons.1 h with h | h
      · subst h
        refine .inr ⟨a, fun t ht => ?_⟩
        rcases List.mem_append.1 ht with h | h
        · exact .inr ⟨q, List.mem_cons_self .., h⟩
        · exact .inl (List.mem_singleton.1 h)
      · exact .inl (List.mem_cons_of_mem _ h)
    · rw [if_neg a] at h
      rcases List.mem_cons.1 h with h | h
      · subst h; exact .inl (List.mem_cons_self ..)
      · rcases addJ_mem p h with h | ⟨h1, h2⟩
        · exact .inl (List.mem_cons_of_mem _ h)
        · exact .inr ⟨h1, fun t ht => (h2 t ht).imp id (fun ⟨u, hu, hut⟩ => ⟨u, List.mem_cons_of_mem _ hu, hut⟩)⟩
theorem addJ_txt {now : Nat} {s : List UInt8} : ∀ {l : List (Nat × List (List UInt8))}, (l.map (·.1)).Pairwise (· < ·) → (∀ p ∈ l, p.1 ≤ now) → txtJ (addJ l now s) = txtJ l ++ [s]
  | [], _, _ => rfl
  | p :: r, hr, hl => by
    rw [List.map_cons] at hr
    have h1 := List.pairwise_cons.1 hr
    unfold addJ
    by_cases a : p.1 = now
    · have hnil : r = [] := by
        cases r with
        | nil => rfl
        | cons q r =>
          have h2 := h1.1 q.1 (List.mem_cons_self ..)
          have h3 := hl q (List.mem_cons_of_mem _ (List.mem_cons_self ..))
          omega
      subst hnil
      rw [if_pos a]
      unfold txtJ; simp
    · rw [if_neg a]
      have ih := addJ_txt (s := s) h1.2 (fun q hq => hl q (List.mem_cons_of_mem _ hq))
      unfold txtJ at ih ⊢
      rw [List.flatMap_cons, ih, List.flatMap_cons, List.append_assoc]
theorem JOk.add {l : List (Nat × List (List UInt8))} {now : Nat} (k : JOk l now) {s : List UInt8} (hs : s.length ≤ 65536) : JOk (addJ l now s) now ∧ txtJ (addJ l now s) = txtJ l ++ [s] := by
  refine ⟨⟨?_, ?_, ?_, k.lim⟩, addJ_txt k.rise k.le⟩
  · rw [addJ_nums]
    by_cases c : now ∈ l.map (·.1)
    · rw [if_pos c]; exact k.rise
    · rw [if_neg c]
      refine List.pairwise_append.2 ⟨k.rise, List.pairwise_singleton .., fun a ha b hb => ?_⟩
      rw [List.mem_singleton.1 hb]
      obtain ⟨p, hp, rfl⟩ := List.mem_map.1 ha
      have h1 := k.le p hp
      have h2 : p.1 ≠ now := fun e => c (by rw [← e]; exact List.mem_map.2 ⟨p, hp, rfl⟩)
      show p.1 < now
      omega
  · intro p hp
    rcases addJ_mem p hp with h | ⟨h, _⟩
    · exact k.le p h
    · omega
  · intro p hp t ht
    rcases addJ_mem p hp with h | ⟨_, h⟩
    · exact k.tx p h t ht
    · rcases h t ht with h | ⟨q, hq, h⟩
      · subst h; exact hs
      · exact k.tx q hq t h
theorem sall_frames : ∀ (l : List (List UInt8)) (k : Nat), (∀ t ∈ l, t.length ≤ 65536) → l.length < k → (sallF k (frames l)).1 = l
  | [], k + 1, _, _ => by
    unfold sallF
    rw [if_neg (by rw [show frames [] = [] from rfl, sopen_short (by decide)]; decide)]
  | t :: r, k + 1, h, hk => by
    have hf : frames (t :: r) = sealWrap t ++ frames r := by unfold frames; rw [List.map_cons, List.flatten_cons]
    have ho := sopen_wrap t (frames r) (h t (List.mem_cons_self ..))
    have hw := sealWrap_len t
    have ih := sall_frames r k (fun u hu => h u (List.mem_cons_of_mem _ hu)) (by rw [List.length_cons] at hk; omega)
    unfold sallF
    rw [hf, ho, if_pos rfl]
    have hd : (sealWrap t ++ frames r).drop (8 + t.length) = frames r := by rw [show 8 + t.length = (sealWrap t).length by omega, List.drop_left]
    dsimp only
    rw [hd, ih]
theorem frames_len : ∀ l : List (List UInt8), l.length ≤ (frames l).length
  | [] => Nat.le_refl _
  | t :: r => by
    have hf : frames (t :: r) = sealWrap t ++ frames r := by unfold frames; rw [List.map_cons, List.flatten_cons]
    have hw := sealWrap_len t
    have := frames_len r
    rw [hf, List.length_append, List.length_cons]; omega
theorem sall_all (l : List (List UInt8)) (h : ∀ t ∈ l, t.length ≤ 65536) : (sall (frames l)).1 = l := sall_frames l _ h (by have := frames_len l; omega)
theorem lkL_left {O : List (List UInt8 × List UInt8)} {nm : List UInt8} : ∀ {A : List (List UInt8 × List UInt8)}, nm ∈ keyL A → lkL (A ++ O) nm = lkL A nm
  | [], h => by cases h
  | x :: r, h => by
    show lkL (x :: (r ++ O)) nm = _
    unfold lkL
    by_cases a : x.1 = nm
    · rw [if_pos a, if_pos a]
    · rw [if_neg a, if_neg a, lkL_left ((List.mem_cons.1 h).resolve_left (fun e => a e.symm))]
theorem lk_log : ∀ {l : List (Nat × List (List UInt8))}, (l.map (·.1)).Pairwise (· < ·) → (∀ p ∈ l, p.1 < 10000000000) → ∀ p ∈ l, lkL (logL l) (nameN p.1) = some (frames p.2)
  | [], _, _, p, h => by cases h
  | q :: r, hr, hl, p, h => by
    rw [List.map_cons] at hr
    have h1 := List.pairwise_cons.1 hr
    show lkL ((nameN q.1, frames q.2) :: logL r) _ = _
    unfold lkL
    rcases List.mem_cons.1 h with h | h
    · subst h; rw [if_pos rfl]
    · have h2 := h1.1 p.1 (List.mem_map.2 ⟨p, h, rfl⟩)
      rw [if_neg (fun e => by have := nameN_inj (hl q (List.mem_cons_self ..)) (hl p (List.mem_cons_of_mem _ h)) e; omega)]
      exact lk_log h1.2 (fun u hu => hl u (List.mem_cons_of_mem _ hu)) p h
theorem key_log (l : List (Nat × List (List UInt8))) : keyL (logL l) = (l.map (·.1)).map nameN := by
  unfold keyL logL
  rw [List.map_map, List.map_map]; rfl
theorem num_mono {s t : List UInt8} {n m : Nat} (h : s ≤ t) (hs : numN s = some n) (ht : numN t = some m) : n ≤ m := by
  obtain ⟨rfl, hn⟩ := name_num hs
  obtain ⟨rfl, hm⟩ := name_num ht
  refine Classical.byContradiction fun hc => ?_
  have h1 := nameN_lt (show m < n by omega) hn
  exact absurd h (List.not_le.2 h1)
theorem segN_sort (S : List (List UInt8)) (h : S.Pairwise (· ≤ ·)) : (segN S).Pairwise (· ≤ ·) := by
  unfold segN
  rw [List.pairwise_filterMap]
  refine h.imp ?_
  intro a b hab n hn m hm
  exact num_mono hab hn hm
theorem sortN_le (l : List (List UInt8)) : (sortN l).Pairwise (· ≤ ·) := by
  have tot : ∀ a b : List UInt8, (decide (a ≤ b) || decide (b ≤ a)) = true := fun a b => by
    rw [Bool.or_eq_true, decide_eq_true_eq, decide_eq_true_eq]; exact List.le_total a b
  have tr : ∀ a b c : List UInt8, decide (a ≤ b) = true → decide (b ≤ c) = true → decide (a ≤ c) = true := fun a b c h1 h2 => decide_eq_true (List.le_trans (of_decide_eq_true h1) (of_decide_eq_true h2))
  exact (List.pairwise_mergeSort tr tot l).imp (fun h => of_decide_eq_true h)
/-- The numbers of the segments that lie on a disk beside other files. -/
theorem seg_vw {D : Dsk} {l : List (Nat × List (List UInt8))} {O : List (List UInt8 × List UInt8)} (v : Vw D (logL l ++ O)) (hr : (l.map (·.1)).Pairwise (· < ·)) (hl : ∀ p ∈ l, p.1 < 10000000000) (hO : ∀ k ∈ keyL O, numN k = none) : segN (listN D) = l.map (·.1) := by
  rw [v.list]
  have hp : (segN (sortN (keyL (logL l ++ O)))).Perm (l.map (·.1)) := by
    refine ((List.mergeSort_perm ..).filterMap _).trans ?_
    have e : keyL (logL l ++ O) = (l.map (·.1)).map nameN ++ keyL O := by rw [← key_log]; unfold keyL; rw [List.map_append]
    rw [e, List.filterMap_append]
    have h1 := seg_names (l.map (·.1)) (fun n hn => by obtain ⟨p, hp, rfl⟩ := List.mem_map.1 hn; exact hl p hp)
    unfold segN at h1
    have h2 : List.filterMap numN (keyL O) = [] := List.filterMap_eq_nil_iff.2 hO
    rw [h1, h2, List.append_nil]
  exact List.Perm.eq_of_pairwise (fun a b _ _ h3 h4 => Nat.le_antisymm h3 h4) (segN_sort _ (sortN_le _)) (hr.imp Nat.le_of_lt) hp
def nxtJ (fm : Nat) (l : List (Nat × List (List UInt8))) : Nat := l.foldl (fun _ p => p.1 + 1) fm
theorem opn_fold (D : Dsk) (fm : Nat) : ∀ (l : List (Nat × List (List UInt8))) (a : List (List UInt8)) (n : Nat), (∀ p ∈ l, fm ≤ p.1 ∧ (sall (D.byt (nameN p.1))).1 = p.2) →
    (l.map (·.1)).foldl (fun a n => if n < fm then a else (a.1 ++ (sall (D.byt (nameN n))).1, n + 1)) (a, n) = (a ++ txtJ l, nxtJ n l)
  | [], a, n, _ => by show (a, n) = (a ++ [], n); rw [List.append_nil]
  | p :: r, a, n, h => by
    obtain ⟨h1, h2⟩ := h p (List.mem_cons_self ..)
    rw [List.map_cons, List.foldl_cons, if_neg (by omega), h2, opn_fold D fm r _ _ (fun q hq => h q (List.mem_cons_of_mem _ hq))]
    unfold txtJ nxtJ
    rw [List.flatMap_cons, List.append_assoc, List.foldl_cons]
/-- A journal that is opened has all its texts, and goes on behind them. -/
theorem opn_vw {D : Dsk} {l : List (Nat × List (List UInt8))} {O : List (List UInt8 × List UInt8)} {fm : Nat} (v : Vw D (logL l ++ O)) (hr : (l.map (·.1)).Pairwise (· < ·)) (hl : ∀ p ∈ l, p.1 < 10000000000) (hO : ∀ k ∈ keyL O, numN k = none)
    (tx : ∀ p ∈ l, ∀ t ∈ p.2, t.length ≤ 65536) (hf : ∀ p ∈ l, fm ≤ p.1) : opnS D fm (segN (listN D)) = (txtJ l, nxtJ fm l) := by
  rw [seg_vw v hr hl hO]
  unfold opnS
  rw [opn_fold D fm l [] fm (fun p hp => ⟨hf p hp, ?_⟩), List.nil_append]
  have hm : nameN p.1 ∈ keyL (logL l) := by rw [key_log]; exact List.mem_map.2 ⟨p.1, List.mem_map.2 ⟨p, hp, rfl⟩, rfl⟩
  rw [v.byt, lkL_left hm, lk_log hr hl p hp]
  exact sall_all _ (tx p hp)
theorem good_nameN (n : Nat) : goodN (nameN n) = true := by
  unfold goodN
  rw [nameN_len]
  have : nameN n ≠ [] := fun h => by have := nameN_len n; rw [h] at this; cases this
  simp [this]
/-- A text more in a journal: what lies there then. -/
theorem add_vw {D : Dsk} {l : List (Nat × List (List UInt8))} {O : List (List UInt8 × List UInt8)} {now : Nat} {s : List UInt8} (v : Vw D (logL l ++ O)) (hw : now < 10000000000) (hl : ∀ p ∈ l, p.1 < 10000000000) (hO : ∀ k ∈ keyL O, numN k = none) (q : Nat) (hs : s.length ≤ 65536) :
    if D.room - (usedL (logL l ++ O) : Int) < (s.length : Int) + 8 ∨ (now ∉ l.map (·.1) ∧ 4096 ≤ l.length + O.length) then addE D now s q = 9 ∧ addD D now s q = D
    else addE D now s q = 0 ∧ Vw (addD D now s q) (logL (addJ l now s) ++ O) ∧ (addD D now s q).room = D.room := by
  have hgn := good_nameN now
  have hap := v.appE (nm := nameN now) (b := sealWrap s) hgn
  have hwl := sealWrap_len s
  have hnO : nameN now ∉ keyL O := fun h => by have h1 := hO _ h; rw [num_name hw] at h1; cases h1
  have hlen : (logL l ++ O).length = l.length + O.length := by rw [List.length_append]; unfold logL; rw [List.length_map]
  have hnone : lkL (logL l ++ O) (nameN now) = none ↔ now ∉ l.map (·.1) := by
    rw [lkL_none]
    have e : keyL (logL l ++ O) = (l.map (·.1)).map nameN ++ keyL O := by rw [← key_log]; unfold keyL; rw [List.map_append]
    rw [e, List.mem_append]
    refine ⟨fun h hm => h (.inl (List.mem_map.2 ⟨_, hm, rfl⟩)), fun h hm => ?_⟩
    rcases hm with hm | hm
    · obtain ⟨n, hn, he⟩ := List.mem_map.1 hm
      obtain ⟨p, hp, rfl⟩ := List.mem_map.1 hn
      exact h (by rw [← nameN_inj (hl p hp) hw he]; exact hn)
    · exact hnO hm
  have hcond : (D.room - (usedL (logL l ++ O) : Int) < ((sealWrap s).length : Nat) ∨ (lkL (logL l ++ O) (nameN now) = none ∧ 4096 ≤ (logL l ++ O).length)) ↔ (D.room - (usedL (logL l ++ O) : Int) < (s.length : Int) + 8 ∨ (now ∉ l.map (·.1) ∧ 4096 ≤ l.length + O.length)) := by
    rw [hnone, hlen, hwl, show ((s.length + 8 : Nat) : Int) = (s.length : Int) + 8 by omega]
  by_cases hc : D.room - (usedL (logL l ++ O) : Int) < (s.length : Int) + 8 ∨ (now ∉ l.map (·.1) ∧ 4096 ≤ l.length + O.length)
  · rw [if_pos hc]
    rw [if_pos (hcond.2 hc)] at hap
    have hne : appE D (nameN now) (sealWrap s) ≠ 0 := by rw [hap]; decide
    unfold addE addD
    rw [if_neg (by omega), if_pos hne, if_neg (by omega), if_pos hne]
    exact ⟨hap, v.full q hgn hne⟩
  · rw [if_neg hc]
    rw [if_neg (fun h => hc (hcond.1 h))] at hap
    have hp := v.put q hgn hap
    unfold addE addD
    rw [if_neg (by omega), if_neg (by rw [hap]; exact fun h => h rfl), if_neg (by omega), if_neg (by rw [hap]; exact fun h => h rfl)]
    refine ⟨hp.1, ?_, hp.2.2⟩
    refine hp.2.1.perm ?_
    rw [← put_log hw s hl]
    exact putL_left hnO
end Go.Proofs.Ytfdcopbbnmialaa
