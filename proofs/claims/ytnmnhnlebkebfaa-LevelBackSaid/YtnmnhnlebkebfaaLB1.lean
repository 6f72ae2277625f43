/- level.Bytes, ref11.Text by rules. -/
import Derived.Test.YtnmnhnlebkebfaaL3
import Derived.Test.YtnmnhnlebkebfaaKW2Z
import Derived.Test.YtnmnhnlebkebfaaS2
set_option maxHeartbeats 8000000
set_option maxRecDepth 100000
namespace Go.Proofs.Ytnmnhnlebkebfaa
open Go Go.RowKit
theorem ws_number (bs : List UInt8) (n : Nat) : (⟨bs, 0⟩ : WS).number n = ⟨bs ++ numBytes n, 0⟩ := by unfold WS.number; rw [if_neg (by omega)]; rfl
theorem ws_numI (bs : List UInt8) (n : Int) (h : 0 ≤ n) : (⟨bs, 0⟩ : WS).number n = ⟨bs ++ numBytes n.toNat, 0⟩ := by
  have := ws_number bs n.toNat
  rwa [Int.toNat_of_nonneg h] at this
theorem ws_text (bs t : List UInt8) (h : t.length ≤ 65536) : (⟨bs, 0⟩ : WS).text t = ⟨bs ++ txB t, 0⟩ := by
  unfold WS.text; rw [if_neg (by omega), ws_number]
  unfold WS.put txB; rw [List.append_assoc]
theorem ws_done (bs : List UInt8) : (⟨bs, 0⟩ : WS).done = if 65536 < bs.length then ([], 2) else (bs, 0) := by
  unfold WS.done; rw [if_neg (fun h => h rfl)]
theorem txB_len (t : List UInt8) (h : t.length ≤ 1000000000) : (txB t).length ≤ 9 + t.length := by
  have := numBytes_len t.length (by omega)
  unfold txB; rw [List.length_append]; omega
/-- What is so of a state that is right. -/
def okF (f : Fl) : Prop := 0 ≤ f.num ∧ f.num ≤ 1073741824 ∧ 0 ≤ f.lev ∧ f.lev ≤ 1073741824 ∧ 0 ≤ f.size ∧ f.size ≤ 1073741824 ∧ f.first.length ≤ 100 ∧ f.last.length ≤ 100
theorem keyOk_len {s : List UInt8} (h : keyOk s = true) : s.length ≤ 100 := by
  unfold keyOk at h
  simp only [Bool.and_eq_true, decide_eq_true_eq] at h
  exact h.2
theorem lgo_ok (next : Int) (hn : next ≤ 1073741824) : ∀ (l pre : List Fl), lgo next pre l = 0 → ∀ f ∈ l, okF f
  | [], _, _, f, hf => by cases hf
  | x :: l, pre, h, f, hf => by
    rw [lgo] at h
    by_cases hc : fcode next pre x = 0
    · rw [if_neg (fun n => n hc)] at h
      rcases List.mem_cons.1 hf with rfl | hf
      · by_cases ha : argF next f
        · rw [fcode_arg ha] at hc; cases hc
        · by_cases hb : frmF pre f
          · rw [fcode_frm ha hb] at hc; cases hc
          · unfold argF at ha
            unfold frmF at hb
            have k1 : keyOk f.first = true := by
              cases hk : keyOk f.first
              · exact absurd (.inl hk) hb
              · rfl
            have k2 : keyOk f.last = true := by
              cases hk : keyOk f.last
              · exact absurd (.inr (.inl hk)) hb
              · rfl
            exact ⟨by omega, by omega, by omega, by omega, by omega, by omega, keyOk_len k1, keyOk_len k2⟩
      · exact lgo_ok next hn l _ h f hf
    · rw [if_pos hc] at h
      exact absurd h hc
theorem lcheck_ok {s : Stt} (h : lcheck s = 0) : 0 ≤ s.next ∧ s.next ≤ 1073741824 ∧ 0 ≤ s.log ∧ s.log ≤ 1073741824 ∧ ∀ f ∈ s.fs, okF f := by
  unfold lcheck at h
  split at h
  · cases h
  · rename_i hh
    unfold headBad at hh
    split at h
    · cases h
    · exact ⟨by omega, by omega, by omega, by omega, lgo_ok _ (by omega) _ _ h⟩
/-- The bytes of a file, of a state. -/
def fileB (f : Fl) : List UInt8 := (((numBytes f.num.toNat ++ numBytes f.lev.toNat) ++ numBytes f.size.toNat) ++ txB f.first) ++ txB f.last
def textL (l : List Fl) : List UInt8 := (l.map fileB).flatten
def hdrS (s : Stt) : List UInt8 := (numBytes s.next.toNat ++ numBytes s.log.toNat) ++ numBytes s.fs.length
def textS (s : Stt) (k : Nat) : List UInt8 := hdrS s ++ textL (s.fs.take k)
theorem textS_zero (s : Stt) : textS s 0 = hdrS s := List.append_nil _
theorem textS_succ (s : Stt) (k : Nat) (h : k < s.fs.length) : textS s (k + 1) = textS s k ++ fileB s.fs[k] := by
  unfold textS textL
  rw [List.take_succ_eq_append_getElem h, List.map_append, List.flatten_append, ← List.append_assoc]
  show _ ++ [fileB s.fs[k]].flatten = _
  rw [List.flatten_cons, List.flatten_nil, List.append_nil]
theorem fileB_len {f : Fl} (h : okF f) : (fileB f).length ≤ 245 := by
  obtain ⟨h1, h2, h3, h4, h5, h6, h7, h8⟩ := h
  have a1 := numBytes_len f.num.toNat (by omega)
  have a2 := numBytes_len f.lev.toNat (by omega)
  have a3 := numBytes_len f.size.toNat (by omega)
  have a4 := txB_len f.first (by omega)
  have a5 := txB_len f.last (by omega)
  unfold fileB
  simp only [List.length_append]
  omega
theorem textS_len {s : Stt} (h : lcheck s = 0) (hl : s.fs.length ≤ 40) : ∀ k, k ≤ s.fs.length → (textS s k).length ≤ 27 + 245 * k
  | 0, _ => by
    obtain ⟨h1, h2, h3, h4, _⟩ := lcheck_ok h
    have a1 := numBytes_len s.next.toNat (by omega)
    have a2 := numBytes_len s.log.toNat (by omega)
    have a3 := numBytes_len s.fs.length (by omega)
    rw [textS_zero]; unfold hdrS
    simp only [List.length_append]
    omega
  | k + 1, hk => by
    have ih := textS_len h hl k (by omega)
    have hf := fileB_len ((lcheck_ok h).2.2.2.2 s.fs[k] (List.getElem_mem (by omega)))
    rw [textS_succ s k (by omega), List.length_append]
    omega
def bytesS (s : Stt) : List UInt8 × Int := if lcheck s ≠ 0 then ([], lcheck s) else (sealWrap (textS s s.fs.length), 0)
theorem lbytes_spec (s : Stt) (hl : s.fs.length ≤ 40) : Spec Try.prog 28 [eSt s] [] (fun v os => v = .tup [.s (bytesS s).1, .i .i64 (bytesS s).2] ∧ os = []) := by
  refine spec_of TtOk [] Try.func28 rfl Try.ntmps28 (by kernel_rfl) rfl rfl (fun C => ?_) rfl
  have hck := lcheck_spec s
  have hb : bytesS s = if lcheck s ≠ 0 then ([], lcheck s) else (sealWrap (textS s s.fs.length), 0) := rfl
  generalize bytesS s = q at hb ⊢
  unfold eSt at *
  by_cases h0 : lcheck s = 0
  · rw [h0] at hck
    rw [if_neg (fun h => h h0)] at hb
    obtain ⟨n1, n2, n3, n4, hok⟩ := lcheck_ok h0
    repeat' (first
      | refine Awp.seq ?_
      | refine Awp.block ?_
      | refine Awp.region ?_
      | (refine Ops.nil ?_; show Awp _ _ _ _ _)
      | (refine Ops.nil ?_; show Exists _)
      | (refine Ops.nil ?_; show endK _ _ _ _ _)
      | (refine Awp.skip ?_; show Awp _ _ _ _ _)
      | (refine Awp.skip ?_; show endK _ _ _ _ _)
      | (refine Awp.skip ?_; show Exists _)
      | (refine Awp.exit ?_; show Awp _ _ _ _ _)
      | (refine Awp.exit ?_; show Exists _)
      | (refine Awp.exit ?_; show endK _ _ _ _ _)
      | (refine Awp.ret ?_; show endK _ _ _ _ _)
      | (refine o_add rfl rfl rfl rfl ?_ ?_; omega)
      | refine o_len rfl TtOk rfl rfl rfl (fun _ => ?_)
      | refine o_lenOwn rfl TtOk rfl rfl rfl rfl (fun _ => ?_)
      | (refine o_calm rfl TtOk rfl rfl rfl ?_ (fun _ => ?_); first | exact True.intro | exact ⟨rfl, rfl, rfl, rfl⟩ | exact ⟨rfl, True.intro⟩ | exact ⟨rfl, rfl⟩ | exact ⟨rfl, rfl, rfl⟩ | exact rfl | exact ⟨fun h0 => by cases h0, rfl⟩ | exact (fun h0 => by cases h0) | exact ⟨rfl, by omega⟩ | exact ⟨Nat.succ_ne_zero _, rfl⟩ | omega)
      | refine o_alloc (d := 5) rfl TtOk rfl rfl rfl (fun b5 => ?_)
      | refine o_alloc (d := 7) rfl TtOk rfl rfl rfl (fun b7 => ?_)
      | refine o_box (d := 1) rfl rfl rfl rfl (fun b1 => ?_)
      | refine o_store TtOk rfl rfl rfl rfl rfl rfl rfl ⟨rfl, rfl⟩ rfl rfl rfl rfl rfl ?_
      | (refine o_index rfl TtOk rfl rfl rfl rfl rfl rfl ?_ (getq_nat ?_) ?_; omega; omega)
      | (refine o_indexOwn TtOk rfl rfl rfl rfl rfl rfl rfl rfl _ rfl ?_ (fun bO hbO => ?_); (simp only [List.length_map]; omega))
      | (refine o_loadRow TtOk rfl rfl rfl rfl rfl (by assumption) (getq_map (List.getElem?_eq_getElem ?_)) rfl rfl (by first | exact Nat.add_zero _ | rfl) ⟨rfl, rfl⟩ ?_; omega)
      | (refine o_calm rfl TtOk rfl rfl rfl ?_ (fun _ => ?_); (show List.length _ + List.length _ ≤ 9223372036854775807; (try simp only [List.length_append, List.length_cons, List.length_nil]); omega))
      | (refine o_storeRow TtOk rfl rfl rfl rfl rfl rfl (by assumption) (getq_map (List.getElem?_eq_getElem ?_)) rfl rfl (by first | exact Nat.add_zero _ | rfl) ⟨rfl, rfl⟩ rfl rfl ?_; omega)
      | refine a_condT rfl ?_
      | refine a_condF rfl ?_
      | (refine a_condP rfl (fun hc => ?_) (fun hc => ?_)) <;> (try (exfalso; omega))
      | (refine a_condI rfl (fun hc => ?_) (fun hc => ?_)) <;> (try (exfalso; omega))
      | (refine a_condN rfl (fun hc => ?_) (fun hc => ?_)) <;> (try (exfalso; omega))
      | (refine Awp.cond rfl (fun hc => ?_) (fun hc => ?_))
      | (refine o_call0 rfl (hck) ⟨SLe.of_eq rfl, True.intro⟩ rfl ?_; rintro _ _ ⟨rfl, rfl⟩; refine ⟨rfl, ?_⟩))
    refine Ops.weaken [] (S' := ⟨59, [(16, .i .i64 s.next), (5, .ptr 5 b5 [] 0), (1, .ptr 77 b1 [] 0)], [(5, .var b5 (wrA (.slice none 0 0) ⟨[], 0⟩)), (1, .row (.slice none 0 0) 5 1 []), (77, .var b1 (.agg [.i .i64 s.next, .i .i64 s.log, .sl 5 (s.fs.map eF)]))]⟩) ⟨rfl, ⟨sle_i rfl, sle_ptr, sle_ptr, True.intro⟩, HLe.cons 5 rfl (HOLe.var (CLe.agg (.cons CLe.nilown (.cons (CLe.refl _) .nil)))) (.none (HLe.cons 1 rfl (HOLe.refl _) .nil))⟩ ?_
    have hw : ∀ (bs : List UInt8) (n : Int), 0 ≤ n → n ≤ 1073741824 → bs.length ≤ 100000 → ∀ v, Spec Try.prog 57 [.ptr 0 b5 [] 0, .i .i64 n] (wrO b5 v ⟨bs, 0⟩) (fun r os => r = .tup [] ∧ ∃ v', os = wrO b5 v' ⟨bs ++ numBytes n.toNat, 0⟩) := fun bs n k1 k2 k3 v => by
      have h := wnumber_spec b5 n (by omega) v ⟨bs, 0⟩ (by show bs.length ≤ _; omega)
      rw [ws_numI _ _ k1] at h; exact h
    have ht : ∀ (bs t : List UInt8), t.length ≤ 100 → bs.length ≤ 100000 → ∀ v, Spec Try.prog 58 [.ptr 0 b5 [] 0, .s t] (wrO b5 v ⟨bs, 0⟩) (fun r os => r = .tup [] ∧ ∃ v', os = wrO b5 v' ⟨bs ++ txB t, 0⟩) := fun bs t k1 k2 v => by
      have h := wtext_spec b5 t v ⟨bs, 0⟩ (by show bs.length ≤ _; omega)
      rw [ws_text _ _ (by omega)] at h; exact h
    have a1 := numBytes_len s.next.toNat (by omega)
    have a2 := numBytes_len s.log.toNat (by omega)
    have hw1 := hw [] s.next n1 n2 (by decide)
    have hw2 := hw (numBytes s.next.toNat) s.log n3 n4 (by omega)
    have hw3 := hw (numBytes s.next.toNat ++ numBytes s.log.toNat) s.fs.length (by omega) (by omega) (by rw [List.length_append]; omega)
    rw [show ([] : List UInt8) ++ numBytes s.next.toNat = numBytes s.next.toNat from rfl] at hw1
    rw [show ((numBytes s.next.toNat ++ numBytes s.log.toNat) ++ numBytes ((s.fs.length : Int)).toNat : List UInt8) = textS s 0 from (textS_zero s).symm] at hw3
    repeat' (first
      | refine Awp.seq ?_
      | refine Awp.block ?_
      | refine Awp.region ?_
      | (refine Ops.nil ?_; show Awp _ _ _ _ _)
      | (refine Ops.nil ?_; show Exists _)
      | (refine Ops.nil ?_; show endK _ _ _ _ _)
      | (refine Awp.skip ?_; show Awp _ _ _ _ _)
      | (refine Awp.skip ?_; show endK _ _ _ _ _)
      | (refine Awp.skip ?_; show Exists _)
      | (refine Awp.exit ?_; show Awp _ _ _ _ _)
      | (refine Awp.exit ?_; show Exists _)
      | (refine Awp.exit ?_; show endK _ _ _ _ _)
      | (refine Awp.ret ?_; show endK _ _ _ _ _)
      | (refine o_add rfl rfl rfl rfl ?_ ?_; omega)
      | refine o_len rfl TtOk rfl rfl rfl (fun _ => ?_)
      | refine o_lenOwn rfl TtOk rfl rfl rfl rfl (fun _ => ?_)
      | (refine o_calm rfl TtOk rfl rfl rfl ?_ (fun _ => ?_); first | exact True.intro | exact ⟨rfl, rfl, rfl, rfl⟩ | exact ⟨rfl, True.intro⟩ | exact ⟨rfl, rfl⟩ | exact ⟨rfl, rfl, rfl⟩ | exact rfl | exact ⟨fun h0 => by cases h0, rfl⟩ | exact (fun h0 => by cases h0) | exact ⟨rfl, by omega⟩ | exact ⟨Nat.succ_ne_zero _, rfl⟩ | omega)
      | refine o_alloc (d := 5) rfl TtOk rfl rfl rfl (fun b5 => ?_)
      | refine o_alloc (d := 7) rfl TtOk rfl rfl rfl (fun b7 => ?_)
      | refine o_box (d := 1) rfl rfl rfl rfl (fun b1 => ?_)
      | refine o_store TtOk rfl rfl rfl rfl rfl rfl rfl ⟨rfl, rfl⟩ rfl rfl rfl rfl rfl ?_
      | (refine o_index rfl TtOk rfl rfl rfl rfl rfl rfl ?_ (getq_nat ?_) ?_; omega; omega)
      | (refine o_indexOwn TtOk rfl rfl rfl rfl rfl rfl rfl rfl _ rfl ?_ (fun bO hbO => ?_); (simp only [List.length_map]; omega))
      | (refine o_loadRow TtOk rfl rfl rfl rfl rfl (by assumption) (getq_map (List.getElem?_eq_getElem ?_)) rfl rfl (by first | exact Nat.add_zero _ | rfl) ⟨rfl, rfl⟩ ?_; omega)
      | (refine o_calm rfl TtOk rfl rfl rfl ?_ (fun _ => ?_); (show List.length _ + List.length _ ≤ 9223372036854775807; (try simp only [List.length_append, List.length_cons, List.length_nil]); omega))
      | (refine o_storeRow TtOk rfl rfl rfl rfl rfl rfl (by assumption) (getq_map (List.getElem?_eq_getElem ?_)) rfl rfl (by first | exact Nat.add_zero _ | rfl) ⟨rfl, rfl⟩ rfl rfl ?_; omega)
      | refine a_condT rfl ?_
      | refine a_condF rfl ?_
      | (refine a_condP rfl (fun hc => ?_) (fun hc => ?_)) <;> (try (exfalso; omega))
      | (refine a_condI rfl (fun hc => ?_) (fun hc => ?_)) <;> (try (exfalso; omega))
      | (refine a_condN rfl (fun hc => ?_) (fun hc => ?_)) <;> (try (exfalso; omega))
      | (refine Awp.cond rfl (fun hc => ?_) (fun hc => ?_))
      | (refine o_callPR rfl rfl rfl rfl rfl (hw1 _) ⟨sle_ptr, SLe.of_eq rfl, True.intro⟩ (HOLe.refl _) (HOLe.refl _) rfl rfl ?_; rintro _ _ ⟨rfl, wv, rfl⟩; refine ⟨_, _, rfl, _, rfl, ?_⟩)
      | (refine o_callPR rfl rfl rfl rfl rfl (hw2 _) ⟨sle_ptr, SLe.of_eq rfl, True.intro⟩ (HOLe.refl _) (HOLe.refl _) rfl rfl ?_; rintro _ _ ⟨rfl, wv, rfl⟩; refine ⟨_, _, rfl, _, rfl, ?_⟩)
      | (refine o_callPR rfl rfl rfl rfl rfl (hw3 _) ⟨sle_ptr, SLe.of_eq rfl, True.intro⟩ (HOLe.refl _) (HOLe.refl _) rfl rfl ?_; rintro _ _ ⟨rfl, wv, rfl⟩; refine ⟨_, _, rfl, _, rfl, ?_⟩))
    refine Awp.loop (fun q : Nat × Value => ⟨59, [(28, .i .i64 q.1), (27, .i .i64 s.fs.length), (26, .sl 5 (s.fs.map eF)), (5, .ptr 5 b5 [] 0)], [(5, .var b5 (wrA q.2 ⟨textS s q.1, 0⟩)), (1, .row q.2 5 1 ((textS s q.1).map byA))]⟩) (fun q => q.1 ≤ s.fs.length) (fun q => s.fs.length - q.1) [] (0, wv) (Nat.zero_le _) ?_ ?_
    · exact ⟨rfl, ⟨sle_i rfl, sle_i rfl, sle_sl rfl, sle_ptr, True.intro⟩, HLe.cons 5 rfl (HOLe.refl _) (HLe.cons 1 rfl (HOLe.refl _) .nil)⟩
    clear hw1 hw2 hw3
    rintro ⟨k, v⟩ hk
    dsimp only at hk ⊢
    by_cases hlt : k < s.fs.length
    · clear a1 a2
      have hf := hok s.fs[k] (List.getElem_mem hlt)
      obtain ⟨f1, f2, f3, f4, f5, f6, f7, f8⟩ := hf
      have hTl := textS_len h0 hl k hk
      have hsu := textS_succ s k hlt
      have hfB : fileB s.fs[k] = (((numBytes s.fs[k].num.toNat ++ numBytes s.fs[k].lev.toNat) ++ numBytes s.fs[k].size.toNat) ++ txB s.fs[k].first) ++ txB s.fs[k].last := rfl
      have a1 := numBytes_len s.fs[k].num.toNat (by omega)
      have a2 := numBytes_len s.fs[k].lev.toNat (by omega)
      have a3 := numBytes_len s.fs[k].size.toNat (by omega)
      have a4 := txB_len s.fs[k].first (by omega)
      have a5 := txB_len s.fs[k].last (by omega)
      generalize textS s k = T at hTl hsu ⊢
      have w1 := hw T s.fs[k].num f1 f2 (by omega)
      have w2 := hw (T ++ numBytes s.fs[k].num.toNat) s.fs[k].lev f3 f4 (by rw [List.length_append]; omega)
      have w3 := hw ((T ++ numBytes s.fs[k].num.toNat) ++ numBytes s.fs[k].lev.toNat) s.fs[k].size f5 f6 (by simp only [List.length_append]; omega)
      have w4 := ht (((T ++ numBytes s.fs[k].num.toNat) ++ numBytes s.fs[k].lev.toNat) ++ numBytes s.fs[k].size.toNat) s.fs[k].first f7 (by simp only [List.length_append]; omega)
      have w5 := ht ((((T ++ numBytes s.fs[k].num.toNat) ++ numBytes s.fs[k].lev.toNat) ++ numBytes s.fs[k].size.toNat) ++ txB s.fs[k].first) s.fs[k].last f8 (by simp only [List.length_append]; omega)
      generalize numBytes s.fs[k].num.toNat = N1 at w1 w2 w3 w4 w5 hfB
      generalize numBytes s.fs[k].lev.toNat = N2 at w2 w3 w4 w5 hfB
      generalize numBytes s.fs[k].size.toNat = N3 at w3 w4 w5 hfB
      generalize txB s.fs[k].first = X1 at w4 w5 hfB
      generalize txB s.fs[k].last = X2 at w5 hfB
      repeat' (first
        | refine Awp.seq ?_
        | refine Awp.block ?_
        | refine Awp.region ?_
        | (refine Ops.nil ?_; show Awp _ _ _ _ _)
        | (refine Ops.nil ?_; show Exists _)
        | (refine Ops.nil ?_; show endK _ _ _ _ _)
        | (refine Awp.skip ?_; show Awp _ _ _ _ _)
        | (refine Awp.skip ?_; show endK _ _ _ _ _)
        | (refine Awp.skip ?_; show Exists _)
        | (refine Awp.exit ?_; show Awp _ _ _ _ _)
        | (refine Awp.exit ?_; show Exists _)
        | (refine Awp.exit ?_; show endK _ _ _ _ _)
        | (refine Awp.ret ?_; show endK _ _ _ _ _)
        | (refine o_add rfl rfl rfl rfl ?_ ?_; omega)
        | refine o_len rfl TtOk rfl rfl rfl (fun _ => ?_)
        | refine o_lenOwn rfl TtOk rfl rfl rfl rfl (fun _ => ?_)
        | (refine o_calm rfl TtOk rfl rfl rfl ?_ (fun _ => ?_); first | exact True.intro | exact ⟨rfl, rfl, rfl, rfl⟩ | exact ⟨rfl, True.intro⟩ | exact ⟨rfl, rfl⟩ | exact ⟨rfl, rfl, rfl⟩ | exact rfl | exact ⟨fun h0 => by cases h0, rfl⟩ | exact (fun h0 => by cases h0) | exact ⟨rfl, by omega⟩ | exact ⟨Nat.succ_ne_zero _, rfl⟩ | omega)
        | refine o_alloc (d := 5) rfl TtOk rfl rfl rfl (fun b5 => ?_)
        | refine o_alloc (d := 7) rfl TtOk rfl rfl rfl (fun b7 => ?_)
        | refine o_box (d := 1) rfl rfl rfl rfl (fun b1 => ?_)
        | refine o_store TtOk rfl rfl rfl rfl rfl rfl rfl ⟨rfl, rfl⟩ rfl rfl rfl rfl rfl ?_
        | (refine o_index rfl TtOk rfl rfl rfl rfl rfl rfl ?_ (getq_nat ?_) ?_; omega; omega)
        | (refine o_indexOwn TtOk rfl rfl rfl rfl rfl rfl rfl rfl _ rfl ?_ (fun bO hbO => ?_); (simp only [List.length_map]; omega))
        | (refine o_loadRow TtOk rfl rfl rfl rfl rfl (by assumption) (getq_map (List.getElem?_eq_getElem ?_)) rfl rfl (by first | exact Nat.add_zero _ | rfl) ⟨rfl, rfl⟩ ?_; omega)
        | (refine o_calm rfl TtOk rfl rfl rfl ?_ (fun _ => ?_); (show List.length _ + List.length _ ≤ 9223372036854775807; (try simp only [List.length_append, List.length_cons, List.length_nil]); omega))
        | (refine o_storeRow TtOk rfl rfl rfl rfl rfl rfl (by assumption) (getq_map (List.getElem?_eq_getElem ?_)) rfl rfl (by first | exact Nat.add_zero _ | rfl) ⟨rfl, rfl⟩ rfl rfl ?_; omega)
        | refine a_condT rfl ?_
        | refine a_condF rfl ?_
        | (refine a_condP rfl (fun hc => ?_) (fun hc => ?_)) <;> (try (exfalso; omega))
        | (refine a_condI rfl (fun hc => ?_) (fun hc => ?_)) <;> (try (exfalso; omega))
        | (refine a_condN rfl (fun hc => ?_) (fun hc => ?_)) <;> (try (exfalso; omega))
        | (refine Awp.cond rfl (fun hc => ?_) (fun hc => ?_))
        | (refine o_callPR rfl rfl rfl rfl rfl (w1 _) ⟨sle_ptr, SLe.of_eq rfl, True.intro⟩ (HOLe.refl _) (HOLe.refl _) rfl rfl ?_; rintro _ _ ⟨rfl, wv, rfl⟩; refine ⟨_, _, rfl, _, rfl, ?_⟩)
        | (refine o_callPR rfl rfl rfl rfl rfl (w2 _) ⟨sle_ptr, SLe.of_eq rfl, True.intro⟩ (HOLe.refl _) (HOLe.refl _) rfl rfl ?_; rintro _ _ ⟨rfl, wv, rfl⟩; refine ⟨_, _, rfl, _, rfl, ?_⟩)
        | (refine o_callPR rfl rfl rfl rfl rfl (w3 _) ⟨sle_ptr, SLe.of_eq rfl, True.intro⟩ (HOLe.refl _) (HOLe.refl _) rfl rfl ?_; rintro _ _ ⟨rfl, wv, rfl⟩; refine ⟨_, _, rfl, _, rfl, ?_⟩)
        | (refine o_callPR rfl rfl rfl rfl rfl (w4 _) ⟨sle_ptr, SLe.of_eq rfl, True.intro⟩ (HOLe.refl _) (HOLe.refl _) rfl rfl ?_; rintro _ _ ⟨rfl, wv, rfl⟩; refine ⟨_, _, rfl, _, rfl, ?_⟩)
        | (refine o_callPR rfl rfl rfl rfl rfl (w5 _) ⟨sle_ptr, SLe.of_eq rfl, True.intro⟩ (HOLe.refl _) (HOLe.refl _) rfl rfl ?_; rintro _ _ ⟨rfl, wv, rfl⟩; refine ⟨_, _, rfl, _, rfl, ?_⟩))
      refine ⟨(k + 1, wv), [], by show k + 1 ≤ s.fs.length; omega, by show s.fs.length - (k + 1) < s.fs.length - k; omega, rfl, ⟨sle_i (by show (k : Int) + 1 = ((k + 1 : Nat) : Int); omega), sle_i rfl, sle_sl rfl, sle_ptr, True.intro⟩, HLe.cons 5 rfl (HOLe.var (CLe.of_eq ?_)) (HLe.cons 1 rfl (HOLe.row ?_) .nil)⟩
      · rw [hsu, hfB]; simp only [List.append_assoc]
      · rw [hsu, hfB]; simp only [List.append_assoc]
    have hkl : k = s.fs.length := by omega
    subst hkl
    have hTl := textS_len h0 hl s.fs.length (Nat.le_refl _)
    generalize textS s s.fs.length = T at hTl hb ⊢
    have hdn : ∀ v, Spec Try.prog 59 [.ptr 0 b5 [] 0] (wrO b5 v ⟨T, 0⟩) (fun r os => r = .tup [.s T, .i .i64 0] ∧ ∃ v', os = wrO b5 v' ⟨T, 0⟩) := fun v => by
      have h := wdone_spec b5 v ⟨T, 0⟩
      rw [ws_done, if_neg (by omega)] at h
      exact h
    have hwr := wrap_spec T (by omega)
    have hsw : swrap T = (sealWrap T, 0) := by unfold swrap; rw [if_neg (by omega)]
    rw [hsw] at hwr
    subst hb
    generalize sealWrap T = S at hwr ⊢
    repeat' (first
      | refine Awp.seq ?_
      | refine Awp.block ?_
      | refine Awp.region ?_
      | (refine Ops.nil ?_; show Awp _ _ _ _ _)
      | (refine Ops.nil ?_; show Exists _)
      | (refine Ops.nil ?_; show endK _ _ _ _ _)
      | (refine Awp.skip ?_; show Awp _ _ _ _ _)
      | (refine Awp.skip ?_; show endK _ _ _ _ _)
      | (refine Awp.skip ?_; show Exists _)
      | (refine Awp.exit ?_; show Awp _ _ _ _ _)
      | (refine Awp.exit ?_; show Exists _)
      | (refine Awp.exit ?_; show endK _ _ _ _ _)
      | (refine Awp.ret ?_; show endK _ _ _ _ _)
      | (refine o_add rfl rfl rfl rfl ?_ ?_; omega)
      | refine o_len rfl TtOk rfl rfl rfl (fun _ => ?_)
      | refine o_lenOwn rfl TtOk rfl rfl rfl rfl (fun _ => ?_)
      | (refine o_calm rfl TtOk rfl rfl rfl ?_ (fun _ => ?_); first | exact True.intro | exact ⟨rfl, rfl, rfl, rfl⟩ | exact ⟨rfl, True.intro⟩ | exact ⟨rfl, rfl⟩ | exact ⟨rfl, rfl, rfl⟩ | exact rfl | exact ⟨fun h0 => by cases h0, rfl⟩ | exact (fun h0 => by cases h0) | exact ⟨rfl, by omega⟩ | exact ⟨Nat.succ_ne_zero _, rfl⟩ | omega)
      | refine o_alloc (d := 5) rfl TtOk rfl rfl rfl (fun b5 => ?_)
      | refine o_alloc (d := 7) rfl TtOk rfl rfl rfl (fun b7 => ?_)
      | refine o_box (d := 1) rfl rfl rfl rfl (fun b1 => ?_)
      | refine o_store TtOk rfl rfl rfl rfl rfl rfl rfl ⟨rfl, rfl⟩ rfl rfl rfl rfl rfl ?_
      | (refine o_index rfl TtOk rfl rfl rfl rfl rfl rfl ?_ (getq_nat ?_) ?_; omega; omega)
      | (refine o_indexOwn TtOk rfl rfl rfl rfl rfl rfl rfl rfl _ rfl ?_ (fun bO hbO => ?_); (simp only [List.length_map]; omega))
      | (refine o_loadRow TtOk rfl rfl rfl rfl rfl (by assumption) (getq_map (List.getElem?_eq_getElem ?_)) rfl rfl (by first | exact Nat.add_zero _ | rfl) ⟨rfl, rfl⟩ ?_; omega)
      | (refine o_calm rfl TtOk rfl rfl rfl ?_ (fun _ => ?_); (show List.length _ + List.length _ ≤ 9223372036854775807; (try simp only [List.length_append, List.length_cons, List.length_nil]); omega))
      | (refine o_storeRow TtOk rfl rfl rfl rfl rfl rfl (by assumption) (getq_map (List.getElem?_eq_getElem ?_)) rfl rfl (by first | exact Nat.add_zero _ | rfl) ⟨rfl, rfl⟩ rfl rfl ?_; omega)
      | refine a_condT rfl ?_
      | refine a_condF rfl ?_
      | (refine a_condP rfl (fun hc => ?_) (fun hc => ?_)) <;> (try (exfalso; omega))
      | (refine a_condI rfl (fun hc => ?_) (fun hc => ?_)) <;> (try (exfalso; omega))
      | (refine a_condN rfl (fun hc => ?_) (fun hc => ?_)) <;> (try (exfalso; omega))
      | (refine Awp.cond rfl (fun hc => ?_) (fun hc => ?_))
      | (refine o_call0 rfl (hwr) ⟨SLe.of_eq rfl, True.intro⟩ rfl ?_; rintro _ _ ⟨rfl, rfl⟩; refine ⟨rfl, ?_⟩)
      | (refine o_callPR rfl rfl rfl rfl rfl (hdn _) ⟨sle_ptr, True.intro⟩ (HOLe.refl _) (HOLe.refl _) rfl rfl ?_; rintro _ _ ⟨rfl, wv, rfl⟩; refine ⟨_, _, rfl, _, rfl, ?_⟩))
    refine end_all [] [] (.tup [.s S, .i .i64 0]) rfl ?_ ?_ (rle_tup2 (CLe.refl _) (CLe.refl _) rfl rfl) .nil ⟨rfl, rfl⟩ _ (.inl rfl)
    · repeat' (first | exact True.intro | exact rfl | refine ⟨?_, ?_⟩)
    · exact ⟨trivial, trivial, trivial⟩
  · rw [if_pos h0] at hb
    generalize lcheck s = c at hck hb h0
    subst hb
    repeat' (first
      | refine Awp.seq ?_
      | refine Awp.block ?_
      | refine Awp.region ?_
      | (refine Ops.nil ?_; show Awp _ _ _ _ _)
      | (refine Ops.nil ?_; show Exists _)
      | (refine Ops.nil ?_; show endK _ _ _ _ _)
      | (refine Awp.skip ?_; show Awp _ _ _ _ _)
      | (refine Awp.skip ?_; show endK _ _ _ _ _)
      | (refine Awp.skip ?_; show Exists _)
      | (refine Awp.exit ?_; show Awp _ _ _ _ _)
      | (refine Awp.exit ?_; show Exists _)
      | (refine Awp.exit ?_; show endK _ _ _ _ _)
      | (refine Awp.ret ?_; show endK _ _ _ _ _)
      | (refine o_add rfl rfl rfl rfl ?_ ?_; omega)
      | refine o_len rfl TtOk rfl rfl rfl (fun _ => ?_)
      | refine o_lenOwn rfl TtOk rfl rfl rfl rfl (fun _ => ?_)
      | (refine o_calm rfl TtOk rfl rfl rfl ?_ (fun _ => ?_); first | exact True.intro | exact ⟨rfl, rfl, rfl, rfl⟩ | exact ⟨rfl, True.intro⟩ | exact ⟨rfl, rfl⟩ | exact ⟨rfl, rfl, rfl⟩ | exact rfl | exact ⟨fun h0 => by cases h0, rfl⟩ | exact (fun h0 => by cases h0) | exact ⟨rfl, by omega⟩ | exact ⟨Nat.succ_ne_zero _, rfl⟩ | omega)
      | refine o_alloc (d := 5) rfl TtOk rfl rfl rfl (fun b5 => ?_)
      | refine o_alloc (d := 7) rfl TtOk rfl rfl rfl (fun b7 => ?_)
      | refine o_box (d := 1) rfl rfl rfl rfl (fun b1 => ?_)
      | refine o_store TtOk rfl rfl rfl rfl rfl rfl rfl ⟨rfl, rfl⟩ rfl rfl rfl rfl rfl ?_
      | (refine o_index rfl TtOk rfl rfl rfl rfl rfl rfl ?_ (getq_nat ?_) ?_; omega; omega)
      | (refine o_indexOwn TtOk rfl rfl rfl rfl rfl rfl rfl rfl _ rfl ?_ (fun bO hbO => ?_); (simp only [List.length_map]; omega))
      | (refine o_loadRow TtOk rfl rfl rfl rfl rfl (by assumption) (getq_map (List.getElem?_eq_getElem ?_)) rfl rfl (by first | exact Nat.add_zero _ | rfl) ⟨rfl, rfl⟩ ?_; omega)
      | (refine o_calm rfl TtOk rfl rfl rfl ?_ (fun _ => ?_); (show List.length _ + List.length _ ≤ 9223372036854775807; (try simp only [List.length_append, List.length_cons, List.length_nil]); omega))
      | (refine o_storeRow TtOk rfl rfl rfl rfl rfl rfl (by assumption) (getq_map (List.getElem?_eq_getElem ?_)) rfl rfl (by first | exact Nat.add_zero _ | rfl) ⟨rfl, rfl⟩ rfl rfl ?_; omega)
      | refine a_condT rfl ?_
      | refine a_condF rfl ?_
      | (refine a_condP rfl (fun hc => ?_) (fun hc => ?_)) <;> (try (exfalso; omega))
      | (refine a_condI rfl (fun hc => ?_) (fun hc => ?_)) <;> (try (exfalso; omega))
      | (refine a_condN rfl (fun hc => ?_) (fun hc => ?_)) <;> (try (exfalso; omega))
      | (refine Awp.cond rfl (fun hc => ?_) (fun hc => ?_))
      | (refine o_call0 rfl (hck) ⟨SLe.of_eq rfl, True.intro⟩ rfl ?_; rintro _ _ ⟨rfl, rfl⟩; refine ⟨rfl, ?_⟩))
    refine end_all [] [] (.tup [.s [], .i .i64 c]) rfl ?_ ?_ (rle_tup2 (CLe.refl _) (CLe.refl _) rfl rfl) .nil ⟨rfl, rfl⟩ _ (.inl rfl)
    · repeat' (first | exact True.intro | exact rfl | refine ⟨?_, ?_⟩)
    · exact ⟨trivial, trivial, trivial⟩
theorem rtext11_spec (s : Stt) (h0 : lcheck s = 0) (hl : s.fs.length ≤ 40) : Spec Try.prog 30 [eSt s] [] (fun v os => v = .s (textS s s.fs.length) ∧ os = []) := by
  refine spec_of TtOk [] Try.func30 rfl Try.ntmps30 (by kernel_rfl) rfl rfl (fun C => ?_) rfl
  obtain ⟨n1, n2, n3, n4, hok⟩ := lcheck_ok h0
  have hd : ∀ (n : Int), 0 ≤ n → n ≤ 1073741824 → Spec Try.prog 63 [.i .i64 n] [] (fun v os => v = .s (numBytes n.toNat) ∧ os = []) := fun n k1 k2 => by
    have h := dnumber_spec n.toNat (by omega)
    rwa [Int.toNat_of_nonneg k1] at h
  have a1 := numBytes_len s.next.toNat (by omega)
  have a2 := numBytes_len s.log.toNat (by omega)
  have a3 := numBytes_len s.fs.length (by omega)
  have d1 := hd s.next n1 n2
  have d2 := hd s.log n3 n4
  have d3 := hd s.fs.length (by omega) (by omega)
  rw [Int.toNat_natCast] at d3
  have hz : textS s 0 = (numBytes s.next.toNat ++ numBytes s.log.toNat) ++ numBytes s.fs.length := textS_zero s
  generalize numBytes s.next.toNat = M1 at a1 d1 hz
  generalize numBytes s.log.toNat = M2 at a2 d2 hz
  generalize numBytes s.fs.length = M3 at a3 d3 hz
  unfold eSt
  repeat' (first
    | refine Awp.seq ?_
    | refine Awp.block ?_
    | refine Awp.region ?_
    | (refine Ops.nil ?_; show Awp _ _ _ _ _)
    | (refine Ops.nil ?_; show Exists _)
    | (refine Ops.nil ?_; show endK _ _ _ _ _)
    | (refine Awp.skip ?_; show Awp _ _ _ _ _)
    | (refine Awp.skip ?_; show endK _ _ _ _ _)
    | (refine Awp.skip ?_; show Exists _)
    | (refine Awp.exit ?_; show Awp _ _ _ _ _)
    | (refine Awp.exit ?_; show Exists _)
    | (refine Awp.exit ?_; show endK _ _ _ _ _)
    | (refine Awp.ret ?_; show endK _ _ _ _ _)
    | (refine o_add rfl rfl rfl rfl ?_ ?_; omega)
    | refine o_len rfl TtOk rfl rfl rfl (fun _ => ?_)
    | refine o_lenOwn rfl TtOk rfl rfl rfl rfl (fun _ => ?_)
    | (refine o_calm rfl TtOk rfl rfl rfl ?_ (fun _ => ?_); first | exact True.intro | exact ⟨rfl, rfl, rfl, rfl⟩ | exact ⟨rfl, True.intro⟩ | exact ⟨rfl, rfl⟩ | exact ⟨rfl, rfl, rfl⟩ | exact rfl | exact ⟨fun h0 => by cases h0, rfl⟩ | exact (fun h0 => by cases h0) | exact ⟨rfl, by omega⟩ | exact ⟨Nat.succ_ne_zero _, rfl⟩ | omega)
    | refine o_alloc (d := 5) rfl TtOk rfl rfl rfl (fun b5 => ?_)
    | refine o_box (d := 1) rfl rfl rfl rfl (fun b1 => ?_)
    | refine o_store TtOk rfl rfl rfl rfl rfl rfl rfl ⟨rfl, rfl⟩ rfl rfl rfl rfl rfl ?_
    | (refine o_index rfl TtOk rfl rfl rfl rfl rfl rfl ?_ (getq_nat ?_) ?_; omega; omega)
    | (refine o_indexOwn TtOk rfl rfl rfl rfl rfl rfl rfl rfl _ rfl ?_ (fun bO hbO => ?_); (simp only [List.length_map]; omega))
    | (refine o_loadRow TtOk rfl rfl rfl rfl rfl (by assumption) (getq_map (List.getElem?_eq_getElem ?_)) rfl rfl (by first | exact Nat.add_zero _ | rfl) ⟨rfl, rfl⟩ ?_; omega)
    | (refine o_calm rfl TtOk rfl rfl rfl ?_ (fun _ => ?_); (show List.length _ + List.length _ ≤ 9223372036854775807; (try simp only [List.length_append, List.length_cons, List.length_nil]); omega))
    | (refine o_storeRow TtOk rfl rfl rfl rfl rfl rfl (by assumption) (getq_map (List.getElem?_eq_getElem ?_)) rfl rfl (by first | exact Nat.add_zero _ | rfl) ⟨rfl, rfl⟩ rfl rfl ?_; omega)
    | refine a_condT rfl ?_
    | refine a_condF rfl ?_
    | (refine a_condP rfl (fun hc => ?_) (fun hc => ?_)) <;> (try (exfalso; omega))
    | (refine a_condI rfl (fun hc => ?_) (fun hc => ?_)) <;> (try (exfalso; omega))
    | (refine a_condN rfl (fun hc => ?_) (fun hc => ?_)) <;> (try (exfalso; omega))
    | (refine Awp.cond rfl (fun hc => ?_) (fun hc => ?_))
    | refine a_any 1 [] [] [] [0, 3, 7, 1, 4, 8, 9, 2, 5, 6, 10, 11, 12] (by kernel_rfl) (by kernel_rfl) (by kernel_rfl) rfl rfl rfl ?_
    | refine a_any 5 [] [] [] [0, 1, 4, 8, 12, 16, 2, 5, 9, 13, 17, 3, 6, 7, 10, 11, 14, 15, 18, 19, 20, 21] (by kernel_rfl) (by kernel_rfl) (by kernel_rfl) rfl rfl rfl ?_
    | (refine o_call0 rfl (d1) ⟨SLe.of_eq rfl, True.intro⟩ rfl ?_; rintro _ _ ⟨rfl, rfl⟩; refine ⟨rfl, ?_⟩)
    | (refine o_call0 rfl (d2) ⟨SLe.of_eq rfl, True.intro⟩ rfl ?_; rintro _ _ ⟨rfl, rfl⟩; refine ⟨rfl, ?_⟩)
    | (refine o_call0 rfl (d3) ⟨SLe.of_eq rfl, True.intro⟩ rfl ?_; rintro _ _ ⟨rfl, rfl⟩; refine ⟨rfl, ?_⟩))
  refine Awp.loop (fun q : Nat => ⟨48, [(21, .i .i64 q), (20, .i .i64 s.fs.length), (19, .sl 5 (s.fs.map eF)), (3, .s (textS s q))], []⟩) (fun q => q ≤ s.fs.length) (fun q => s.fs.length - q) [] 0 (Nat.zero_le _) ?_ ?_
  · exact ⟨rfl, ⟨sle_i rfl, sle_i rfl, sle_sl rfl, sle_s hz.symm, True.intro⟩, .nil⟩
  clear a1 a2 a3 d1 d2 d3 hz
  intro k hk
  by_cases hlt : k < s.fs.length
  · skip
    have hf := hok s.fs[k] (List.getElem_mem hlt)
    obtain ⟨f1, f2, f3, f4, f5, f6, f7, f8⟩ := hf
    have hTl := textS_len h0 hl k hk
    have hsu := textS_succ s k hlt
    have hfB : fileB s.fs[k] = (((numBytes s.fs[k].num.toNat ++ numBytes s.fs[k].lev.toNat) ++ numBytes s.fs[k].size.toNat) ++ txB s.fs[k].first) ++ txB s.fs[k].last := rfl
    have a1 := numBytes_len s.fs[k].num.toNat (by omega)
    have a2 := numBytes_len s.fs[k].lev.toNat (by omega)
    have a3 := numBytes_len s.fs[k].size.toNat (by omega)
    have a4 := txB_len s.fs[k].first (by omega)
    have a5 := txB_len s.fs[k].last (by omega)
    generalize textS s k = T at hTl hsu ⊢
    have w1 := hd s.fs[k].num f1 f2
    have w2 := hd s.fs[k].lev f3 f4
    have w3 := hd s.fs[k].size f5 f6
    have w4 := dtext_spec s.fs[k].first (by omega)
    have w5 := dtext_spec s.fs[k].last (by omega)
    generalize numBytes s.fs[k].num.toNat = N1 at a1 w1 hfB
    generalize numBytes s.fs[k].lev.toNat = N2 at a2 w2 hfB
    generalize numBytes s.fs[k].size.toNat = N3 at a3 w3 hfB
    generalize txB s.fs[k].first = X1 at a4 w4 hfB
    generalize txB s.fs[k].last = X2 at a5 w5 hfB
    repeat' (first
      | refine Awp.seq ?_
      | refine Awp.block ?_
      | refine Awp.region ?_
      | (refine Ops.nil ?_; show Awp _ _ _ _ _)
      | (refine Ops.nil ?_; show Exists _)
      | (refine Ops.nil ?_; show endK _ _ _ _ _)
      | (refine Awp.skip ?_; show Awp _ _ _ _ _)
      | (refine Awp.skip ?_; show endK _ _ _ _ _)
      | (refine Awp.skip ?_; show Exists _)
      | (refine Awp.exit ?_; show Awp _ _ _ _ _)
      | (refine Awp.exit ?_; show Exists _)
      | (refine Awp.exit ?_; show endK _ _ _ _ _)
      | (refine Awp.ret ?_; show endK _ _ _ _ _)
      | (refine o_add rfl rfl rfl rfl ?_ ?_; omega)
      | refine o_len rfl TtOk rfl rfl rfl (fun _ => ?_)
      | refine o_lenOwn rfl TtOk rfl rfl rfl rfl (fun _ => ?_)
      | (refine o_calm rfl TtOk rfl rfl rfl ?_ (fun _ => ?_); first | exact True.intro | exact ⟨rfl, rfl, rfl, rfl⟩ | exact ⟨rfl, True.intro⟩ | exact ⟨rfl, rfl⟩ | exact ⟨rfl, rfl, rfl⟩ | exact rfl | exact ⟨fun h0 => by cases h0, rfl⟩ | exact (fun h0 => by cases h0) | exact ⟨rfl, by omega⟩ | exact ⟨Nat.succ_ne_zero _, rfl⟩ | omega)
      | refine o_alloc (d := 5) rfl TtOk rfl rfl rfl (fun b5 => ?_)
      | refine o_box (d := 1) rfl rfl rfl rfl (fun b1 => ?_)
      | refine o_store TtOk rfl rfl rfl rfl rfl rfl rfl ⟨rfl, rfl⟩ rfl rfl rfl rfl rfl ?_
      | (refine o_index rfl TtOk rfl rfl rfl rfl rfl rfl ?_ (getq_nat ?_) ?_; omega; omega)
      | (refine o_indexOwn TtOk rfl rfl rfl rfl rfl rfl rfl rfl _ rfl ?_ (fun bO hbO => ?_); (simp only [List.length_map]; omega))
      | (refine o_loadRow TtOk rfl rfl rfl rfl rfl (by assumption) (getq_map (List.getElem?_eq_getElem ?_)) rfl rfl (by first | exact Nat.add_zero _ | rfl) ⟨rfl, rfl⟩ ?_; omega)
      | (refine o_calm rfl TtOk rfl rfl rfl ?_ (fun _ => ?_); (show List.length _ + List.length _ ≤ 9223372036854775807; (try simp only [List.length_append, List.length_cons, List.length_nil]); omega))
      | (refine o_storeRow TtOk rfl rfl rfl rfl rfl rfl (by assumption) (getq_map (List.getElem?_eq_getElem ?_)) rfl rfl (by first | exact Nat.add_zero _ | rfl) ⟨rfl, rfl⟩ rfl rfl ?_; omega)
      | refine a_condT rfl ?_
      | refine a_condF rfl ?_
      | (refine a_condP rfl (fun hc => ?_) (fun hc => ?_)) <;> (try (exfalso; omega))
      | (refine a_condI rfl (fun hc => ?_) (fun hc => ?_)) <;> (try (exfalso; omega))
      | (refine a_condN rfl (fun hc => ?_) (fun hc => ?_)) <;> (try (exfalso; omega))
      | (refine Awp.cond rfl (fun hc => ?_) (fun hc => ?_))
      | refine a_any 1 [] [] [] [0, 3, 7, 1, 4, 8, 9, 2, 5, 6, 10, 11, 12] (by kernel_rfl) (by kernel_rfl) (by kernel_rfl) rfl rfl rfl ?_
      | refine a_any 5 [] [] [] [0, 1, 4, 8, 12, 16, 2, 5, 9, 13, 17, 3, 6, 7, 10, 11, 14, 15, 18, 19, 20, 21] (by kernel_rfl) (by kernel_rfl) (by kernel_rfl) rfl rfl rfl ?_
      | (refine o_call0 rfl (w1) ⟨SLe.of_eq rfl, True.intro⟩ rfl ?_; rintro _ _ ⟨rfl, rfl⟩; refine ⟨rfl, ?_⟩)
      | (refine o_call0 rfl (w2) ⟨SLe.of_eq rfl, True.intro⟩ rfl ?_; rintro _ _ ⟨rfl, rfl⟩; refine ⟨rfl, ?_⟩)
      | (refine o_call0 rfl (w3) ⟨SLe.of_eq rfl, True.intro⟩ rfl ?_; rintro _ _ ⟨rfl, rfl⟩; refine ⟨rfl, ?_⟩)
      | (refine o_call0 rfl (w4) ⟨SLe.of_eq rfl, True.intro⟩ rfl ?_; rintro _ _ ⟨rfl, rfl⟩; refine ⟨rfl, ?_⟩)
      | (refine o_call0 rfl (w5) ⟨SLe.of_eq rfl, True.intro⟩ rfl ?_; rintro _ _ ⟨rfl, rfl⟩; refine ⟨rfl, ?_⟩))
    refine ⟨k + 1, [], hlt, by show s.fs.length - (k + 1) < s.fs.length - k; omega, rfl, ⟨sle_i rfl, sle_i rfl, sle_sl rfl, sle_s ?_, True.intro⟩, .nil⟩
    rw [hsu, hfB]
  · have hkl : k = s.fs.length := by omega
    subst hkl
    repeat' (first
      | refine Awp.seq ?_
      | refine Awp.block ?_
      | refine Awp.region ?_
      | (refine Ops.nil ?_; show Awp _ _ _ _ _)
      | (refine Ops.nil ?_; show Exists _)
      | (refine Ops.nil ?_; show endK _ _ _ _ _)
      | (refine Awp.skip ?_; show Awp _ _ _ _ _)
      | (refine Awp.skip ?_; show endK _ _ _ _ _)
      | (refine Awp.skip ?_; show Exists _)
      | (refine Awp.exit ?_; show Awp _ _ _ _ _)
      | (refine Awp.exit ?_; show Exists _)
      | (refine Awp.exit ?_; show endK _ _ _ _ _)
      | (refine Awp.ret ?_; show endK _ _ _ _ _)
      | (refine o_add rfl rfl rfl rfl ?_ ?_; omega)
      | refine o_len rfl TtOk rfl rfl rfl (fun _ => ?_)
      | refine o_lenOwn rfl TtOk rfl rfl rfl rfl (fun _ => ?_)
      | (refine o_calm rfl TtOk rfl rfl rfl ?_ (fun _ => ?_); first | exact True.intro | exact ⟨rfl, rfl, rfl, rfl⟩ | exact ⟨rfl, True.intro⟩ | exact ⟨rfl, rfl⟩ | exact ⟨rfl, rfl, rfl⟩ | exact rfl | exact ⟨fun h0 => by cases h0, rfl⟩ | exact (fun h0 => by cases h0) | exact ⟨rfl, by omega⟩ | exact ⟨Nat.succ_ne_zero _, rfl⟩ | omega)
      | refine o_alloc (d := 5) rfl TtOk rfl rfl rfl (fun b5 => ?_)
      | refine o_box (d := 1) rfl rfl rfl rfl (fun b1 => ?_)
      | refine o_store TtOk rfl rfl rfl rfl rfl rfl rfl ⟨rfl, rfl⟩ rfl rfl rfl rfl rfl ?_
      | (refine o_index rfl TtOk rfl rfl rfl rfl rfl rfl ?_ (getq_nat ?_) ?_; omega; omega)
      | (refine o_indexOwn TtOk rfl rfl rfl rfl rfl rfl rfl rfl _ rfl ?_ (fun bO hbO => ?_); (simp only [List.length_map]; omega))
      | (refine o_loadRow TtOk rfl rfl rfl rfl rfl (by assumption) (getq_map (List.getElem?_eq_getElem ?_)) rfl rfl (by first | exact Nat.add_zero _ | rfl) ⟨rfl, rfl⟩ ?_; omega)
      | (refine o_calm rfl TtOk rfl rfl rfl ?_ (fun _ => ?_); (show List.length _ + List.length _ ≤ 9223372036854775807; (try simp only [List.length_append, List.length_cons, List.length_nil]); omega))
      | (refine o_storeRow TtOk rfl rfl rfl rfl rfl rfl (by assumption) (getq_map (List.getElem?_eq_getElem ?_)) rfl rfl (by first | exact Nat.add_zero _ | rfl) ⟨rfl, rfl⟩ rfl rfl ?_; omega)
      | refine a_condT rfl ?_
      | refine a_condF rfl ?_
      | (refine a_condP rfl (fun hc => ?_) (fun hc => ?_)) <;> (try (exfalso; omega))
      | (refine a_condI rfl (fun hc => ?_) (fun hc => ?_)) <;> (try (exfalso; omega))
      | (refine a_condN rfl (fun hc => ?_) (fun hc => ?_)) <;> (try (exfalso; omega))
      | (refine Awp.cond rfl (fun hc => ?_) (fun hc => ?_))
      | refine a_any 1 [] [] [] [0, 3, 7, 1, 4, 8, 9, 2, 5, 6, 10, 11, 12] (by kernel_rfl) (by kernel_rfl) (by kernel_rfl) rfl rfl rfl ?_
      | refine a_any 5 [] [] [] [0, 1, 4, 8, 12, 16, 2, 5, 9, 13, 17, 3, 6, 7, 10, 11, 14, 15, 18, 19, 20, 21] (by kernel_rfl) (by kernel_rfl) (by kernel_rfl) rfl rfl rfl ?_)
    exact end_tmp rfl rfl rfl [] [] (CLe.of_eq rfl) .nil ⟨rfl, rfl⟩ _ (.inl rfl)
end Go.Proofs.Ytnmnhnlebkebfaa
