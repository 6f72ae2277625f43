/- What was written is read again: level.Bytes and level.Read, in plain Lean. -/
import Derived.Test.YtnmnhnlebkebfaaL14Z
set_option maxHeartbeats 8000000
set_option maxRecDepth 100000
namespace Go.Proofs.Ytnmnhnlebkebfaa
open Go Go.RowKit
def RS.rest (r : RS) : List UInt8 := r.s.drop r.p
theorem RS.rest_len (r : RS) : r.rest.length = r.s.length - r.p := by unfold RS.rest; rw [List.length_drop]
theorem RS.take_ok (r : RS) (he : r.e = 0) (n : Nat) (h : n ≤ r.rest.length) : r.take n = (r.rest.take n, ⟨r.s, r.p + n, 0⟩) := by
  rw [RS.rest_len] at h
  unfold RS.take RS.rest
  rw [if_neg (by simpa using he), if_neg (by omega)]
theorem RS.rest_step (s : List UInt8) (p n : Nat) (e : Int) : (RS.mk s (p + n) e).rest = (RS.mk s p 0).rest.drop n := by unfold RS.rest; rw [List.drop_drop]
theorem be_digits (n : Nat) : be (digits n) = n := by
  induction n using Nat.strongRecOn with
  | _ n ih =>
    by_cases h : n = 0
    · subst h; rw [digits_zero]; rfl
    · rw [digits_pos h, be_snoc, ih (n / 256) (by omega), UInt8.toNat_ofNat']; omega
theorem digits_head (n : Nat) (h : n ≠ 0) : ∃ c l, digits n = c :: l ∧ c.toNat ≠ 0 := by
  induction n using Nat.strongRecOn with
  | _ n ih =>
    rw [digits_pos h]
    by_cases h0 : n / 256 = 0
    · rw [h0, digits_zero]; exact ⟨_, [], rfl, by rw [UInt8.toNat_ofNat']; omega⟩
    · obtain ⟨c, l, e, hc⟩ := ih (n / 256) (by omega) h0
      rw [e]; exact ⟨c, l ++ [_], rfl, hc⟩
theorem be_ge (c : UInt8) (l : List UInt8) : c.toNat * 256 ^ l.length ≤ be (c :: l) := by
  rw [be_cons]; omega
theorem badNum_digits (n : Nat) (hn : n < 9223372036854775808) : badNum (digits n).length (digits n) = false := by
  by_cases h : n = 0
  · subst h; rw [digits_zero]; rfl
  · obtain ⟨c, l, e, hc⟩ := digits_head n h
    have hb := be_ge c l
    rw [← e, be_digits] at hb
    rw [e]
    unfold badNum
    simp only [Bool.or_eq_false_iff, beq_eq_false_iff_ne, Bool.and_eq_false_imp, beq_iff_eq, decide_eq_false_iff_not, Nat.not_lt]
    refine ⟨hc, fun h8 => ?_⟩
    have hl : l.length = 7 := by simp at h8; omega
    rw [hl] at hb
    omega
theorem numBytes_cons (n : Nat) (hn : n < 9223372036854775808) : ∃ c, numBytes n = c :: digits n ∧ c.toNat = (digits n).length := ⟨_, rfl, by
  have := digits_le 8 n (by omega)
  rw [UInt8.toNat_ofNat']; omega⟩
theorem RS.number_reads (r : RS) (he : r.e = 0) (n : Nat) (hn : n < 9223372036854775808) (t : List UInt8) (h : r.rest = numBytes n ++ t) : r.number = (n, ⟨r.s, r.p + (numBytes n).length, 0⟩) := by
  obtain ⟨c, hc, hcl⟩ := numBytes_cons n hn
  have h8 := digits_le 8 n (by omega)
  rw [hc] at h
  have h1 : r.take 1 = ([c], ⟨r.s, r.p + 1, 0⟩) := by rw [RS.take_ok r he 1 (by rw [h]; simp), h]; rfl
  have hr : (RS.mk r.s (r.p + 1) 0).rest = digits n ++ t := by
    rw [RS.rest_step]; show r.rest.drop 1 = _; rw [h]; rfl
  have h2 : (RS.mk r.s (r.p + 1) 0).take c.toNat = (digits n, ⟨r.s, r.p + 1 + (digits n).length, 0⟩) := by
    rw [hcl, RS.take_ok _ rfl _ (by rw [hr]; simp), hr, List.take_left]
  unfold RS.number
  rw [h1]
  have hb0 : hd0 [c] = c.toNat := rfl
  simp only [hb0]
  rw [if_neg (by simp), if_neg (by omega), h2]
  simp only []
  rw [if_neg (by rw [hcl, badNum_digits n hn]; simp), be_digits, hc, List.length_cons]
  rw [show r.p + 1 + (digits n).length = r.p + ((digits n).length + 1) by omega]
def textBytes (s : List UInt8) : List UInt8 := numBytes s.length ++ s
theorem RS.text_reads (r : RS) (he : r.e = 0) (s : List UInt8) (hs : s.length ≤ 65536) (t : List UInt8) (h : r.rest = textBytes s ++ t) : r.text = (s, ⟨r.s, r.p + (textBytes s).length, 0⟩) := by
  unfold textBytes at h ⊢
  rw [List.append_assoc] at h
  have h1 := RS.number_reads r he s.length (by omega) _ h
  have hr : (RS.mk r.s (r.p + (numBytes s.length).length) 0).rest = s ++ t := by
    rw [RS.rest_step]; show r.rest.drop _ = _; rw [h, List.drop_left]
  have h2 : (RS.mk r.s (r.p + (numBytes s.length).length) 0).take s.length = (s, ⟨r.s, r.p + (numBytes s.length).length + s.length, 0⟩) := by
    rw [RS.take_ok _ rfl _ (by rw [hr, List.length_append]; omega), hr, List.take_left]
  unfold RS.text RS.big
  rw [h1]
  simp only []
  rw [if_neg (by omega), h2, List.length_append, Nat.add_assoc]
theorem ofNat_toNat (n : Nat) : (UInt8.ofNat n).toNat = n % 256 := UInt8.toNat_ofNat'
theorem sopen_wrap (T more : List UInt8) (h : T.length ≤ 65536) : sopen (sealWrap T ++ more) = (T, 8 + T.length, 0) := by
  have hx := crc_lt (sealHead T.length ++ T)
  have e : sealWrap T ++ more = 94 :: UInt8.ofNat (T.length / 65536) :: UInt8.ofNat (T.length / 256) :: UInt8.ofNat T.length :: UInt8.ofNat (crc (sealHead T.length ++ T) / 16777216) :: UInt8.ofNat (crc (sealHead T.length ++ T) / 65536) :: UInt8.ofNat (crc (sealHead T.length ++ T) / 256) :: UInt8.ofNat (crc (sealHead T.length ++ T)) :: (T ++ more) := by
    unfold sealWrap four
    rw [List.append_assoc, List.append_assoc]
    generalize crc (sealHead T.length ++ T) = x
    rfl
  have hn : n3 (UInt8.ofNat (T.length / 65536)) (UInt8.ofNat (T.length / 256)) (UInt8.ofNat T.length) = T.length := by
    unfold n3; rw [ofNat_toNat, ofNat_toNat, ofNat_toNat]; omega
  have ht : (T ++ more).take T.length = T := by rw [List.take_left]
  have hd : [94, UInt8.ofNat (T.length / 65536), UInt8.ofNat (T.length / 256), UInt8.ofNat T.length] = sealHead T.length := rfl
  rw [e]
  unfold sopen
  dsimp only
  rw [hn, ht, hd]
  generalize crc (sealHead T.length ++ T) = x at hx
  have h4 : n4 (UInt8.ofNat (x / 16777216)) (UInt8.ofNat (x / 65536)) (UInt8.ofNat (x / 256)) (UInt8.ofNat x) = x := by
    unfold n4; rw [ofNat_toNat, ofNat_toNat, ofNat_toNat, ofNat_toNat]; omega
  rw [h4, if_neg (by rintro (h1 | h1); exact h1 rfl; omega), if_neg (by rw [List.length_append]; omega), if_pos rfl]
theorem num_step (r : RS) (he : r.e = 0) (n : Nat) (hn : n < 9223372036854775808) (t : List UInt8) (h : r.rest = numBytes n ++ t) : ∃ r', r.number = (n, r') ∧ r'.e = 0 ∧ r'.rest = t ∧ r'.s = r.s ∧ r'.p = r.p + (numBytes n).length := by
  refine ⟨_, RS.number_reads r he n hn t h, rfl, ?_, rfl, rfl⟩
  rw [RS.rest_step]; show r.rest.drop _ = _; rw [h, List.drop_left]
theorem txt_step (r : RS) (he : r.e = 0) (s : List UInt8) (hs : s.length ≤ 65536) (t : List UInt8) (h : r.rest = txB s ++ t) : ∃ r', r.text = (s, r') ∧ r'.e = 0 ∧ r'.rest = t ∧ r'.s = r.s ∧ r'.p = r.p + (txB s).length := by
  refine ⟨_, RS.text_reads r he s hs t h, rfl, ?_, rfl, rfl⟩
  rw [RS.rest_step]; show r.rest.drop _ = _; rw [h]; exact List.drop_left
theorem rdF_reads (r : RS) (he : r.e = 0) (f : Fl) (hf : okF f) (t : List UInt8) (h : r.rest = fileB f ++ t) : ∃ r', rdF r = (f, r') ∧ r'.e = 0 ∧ r'.rest = t ∧ r'.s = r.s ∧ r'.p = r.p + (fileB f).length := by
  obtain ⟨f1, f2, f3, f4, f5, f6, f7, f8⟩ := hf
  unfold fileB at h
  simp only [List.append_assoc] at h
  obtain ⟨r1, h1, e1, t1, s1, p1⟩ := num_step r he _ (by omega) _ h
  obtain ⟨r2, h2, e2, t2, s2, p2⟩ := num_step r1 e1 _ (by omega) _ t1
  obtain ⟨r3, h3, e3, t3, s3, p3⟩ := num_step r2 e2 _ (by omega) _ t2
  obtain ⟨r4, h4, e4, t4, s4, p4⟩ := txt_step r3 e3 _ (by omega) _ t3
  obtain ⟨r5, h5, e5, t5, s5, p5⟩ := txt_step r4 e4 _ (by omega) _ t4
  refine ⟨r5, ?_, e5, t5, by rw [s5, s4, s3, s2, s1], ?_⟩
  · unfold rdF
    rw [h1]; dsimp only
    rw [h2]; dsimp only
    rw [h3]; dsimp only
    rw [h4]; dsimp only
    rw [h5]; dsimp only
    rw [Int.toNat_of_nonneg f1, Int.toNat_of_nonneg f3, Int.toNat_of_nonneg f5]
  · unfold fileB
    simp only [List.length_append]
    omega
theorem textL_drop (L : List Fl) (k : Nat) (h : k < L.length) : textL (L.drop k) = fileB L[k] ++ textL (L.drop (k + 1)) := by
  rw [List.drop_eq_getElem_cons h]; rfl
theorem lrl_reads (L : List Fl) (hok : ∀ f ∈ L, okF f) : ∀ (m k : Nat), k + m = L.length → ∀ r : RS, r.e = 0 → r.rest = textL (L.drop k) → ∃ r', lrl m r (L.take k) = (r', L) ∧ r'.e = 0 ∧ r'.rest = [] ∧ r'.s = r.s ∧ r'.p = r.p + (textL (L.drop k)).length
  | 0, k, h, r, he, hr => by
    have hd : L.drop k = [] := List.drop_eq_nil_iff.2 (by omega)
    rw [hd] at hr ⊢
    exact ⟨r, by rw [show k = L.length by omega, List.take_length]; rfl, he, hr, rfl, rfl⟩
  | m + 1, k, h, r, he, hr => by
    have hk : k < L.length := by omega
    rw [textL_drop L k hk] at hr
    obtain ⟨r1, h1, e1, t1, s1, p1⟩ := rdF_reads r he L[k] (hok _ (List.getElem_mem hk)) _ hr
    obtain ⟨r2, h2, e2, t2, s2, p2⟩ := lrl_reads L hok m (k + 1) (by omega) r1 e1 t1
    refine ⟨r2, ?_, e2, t2, by rw [s2, s1], ?_⟩
    · rw [lrl, h1]
      dsimp only
      rw [if_neg (fun n => n e1), ← List.take_succ_eq_append_getElem hk]
      exact h2
    · rw [textL_drop L k hk, List.length_append]; omega
theorem wrap_len (T : List UInt8) : (sealWrap T).length = 8 + T.length := by
  unfold sealWrap; rw [List.length_append, List.length_append, four_len, head_len]
theorem lread_eq {s : List UInt8} {t : List UInt8} {sz nx lg c : Nat} {q1 q2 r0 r : RS} {l : List Fl} (h : sopen s = (t, sz, 0)) (hsz : sz = s.length) (h1 : (RS.open t).number = (nx, q1)) (h2 : q1.number = (lg, q2)) (h3 : q2.below 1001 = (c, r0)) (h4 : lrl c r0 [] = (r, l)) (hd : r.done = 0)
    (hk : lcheck ⟨nx, lg, l⟩ = 0) : lread s = (⟨nx, lg, l⟩, 0) := by
  unfold lread
  rw [h]
  dsimp only
  rw [if_neg (fun n => n rfl), if_neg (fun n => n hsz), h1]
  dsimp only
  rw [h2]
  dsimp only
  rw [h3]
  dsimp only
  rw [h4]
  dsimp only
  rw [if_neg (fun n => n hd), if_neg (fun n => n hk)]
theorem lread_back (s : Stt) (h0 : lcheck s = 0) (hl : s.fs.length ≤ 40) : lread (sealWrap (textS s s.fs.length)) = (s, 0) := by
  obtain ⟨n1, n2, n3, n4, hok⟩ := lcheck_ok h0
  have hTl := textS_len h0 hl s.fs.length (Nat.le_refl _)
  have hT : textS s s.fs.length = numBytes s.next.toNat ++ (numBytes s.log.toNat ++ (numBytes s.fs.length ++ textL s.fs)) := by
    unfold textS hdrS
    rw [List.take_length]; simp only [List.append_assoc]
  have ho : RS.open (textS s s.fs.length) = ⟨textS s s.fs.length, 0, 0⟩ := by unfold RS.open; rw [if_neg (by omega)]
  have hw := sopen_wrap (textS s s.fs.length) [] (by omega)
  rw [List.append_nil] at hw
  obtain ⟨r1, h1, e1, t1, s1, p1⟩ := num_step ⟨textS s s.fs.length, 0, 0⟩ rfl s.next.toNat (by omega) _ (show RS.rest ⟨textS s s.fs.length, 0, 0⟩ = _ from hT)
  obtain ⟨r2, h2, e2, t2, s2, p2⟩ := num_step r1 e1 _ (by omega) _ t1
  obtain ⟨r3, h3, e3, t3, s3, p3⟩ := num_step r2 e2 _ (by omega) _ t2
  obtain ⟨r4, h4, e4, t4, s4, p4⟩ := lrl_reads s.fs hok s.fs.length 0 (by omega) r3 e3 t3
  have hb : r2.below 1001 = (s.fs.length, r3) := by
    unfold RS.below; rw [h3, if_neg (by show ¬ (1001 : Int) ≤ (s.fs.length : Int); omega)]
  have hd : r4.done = 0 := by
    have hlen := congrArg List.length t4
    rw [RS.rest_len, List.length_nil] at hlen
    unfold RS.done
    rw [if_neg (fun h => by omega)]
    exact e4
  have hs : (⟨(s.next.toNat : Nat), (s.log.toNat : Nat), s.fs⟩ : Stt) = s := by
    rw [Int.toNat_of_nonneg n1, Int.toNat_of_nonneg n3]
  have := lread_eq hw (wrap_len _).symm (by rw [ho]; exact h1) h2 hb h4 hd (by rw [hs]; exact h0)
  rw [this, hs]
theorem lread_more (T : List UInt8) (hT : T.length ≤ 65536) (c : UInt8) : lread (sealWrap T ++ [c]) = (zS, 3) := by
  unfold lread
  rw [sopen_wrap T [c] hT]
  dsimp only
  rw [if_neg (fun n => n rfl), if_pos (by rw [List.length_append, wrap_len]; show 8 + T.length ≠ 8 + T.length + 1; omega)]
theorem levelBack_spec (s : Stt) (hl : s.fs.length ≤ 9223372036854775807) :
    Spec Try.prog 8 [eSt s] [] (fun v os => v = .b true ∧ os = []) := by
  refine spec_of TtOk [] Try.func8 rfl Try.ntmps8 (by kernel_rfl) rfl rfl (fun C => ?_) rfl
  have ho := of_spec11 s hl
  have hl2 : (of11 s).fs.length ≤ 40 := files11_len _ _
  generalize of11 s = t at ho hl2
  have ht := told_spec t (by omega)
  have hck := lcheck_spec t
  have hby := lbytes_spec t hl2
  have hsm := rsame11_spec t (by omega)
  have haw := awake11_spec
  have hbs : bytesS t = if lcheck t ≠ 0 then ([], lcheck t) else (sealWrap (textS t t.fs.length), 0) := rfl
  by_cases h0 : lcheck t = 0
  · have hTl := textS_len h0 hl2 t.fs.length (Nat.le_refl _)
    have hwl := wrap_len (textS t t.fs.length)
    rw [if_neg (fun h => h h0)] at hbs
    rw [hbs] at hby
    have hr1 := lread_spec (sealWrap (textS t t.fs.length)) (by omega)
    rw [lread_back t h0 hl2] at hr1
    have hr2 := lread_spec (sealWrap (textS t t.fs.length) ++ [120]) (by rw [List.length_append]; show _ + 1 ≤ _; omega)
    rw [lread_more _ (by omega)] at hr2
    generalize sealWrap (textS t t.fs.length) = W at hby hr1 hr2 hwl
    repeat' (first
      | refine Awp.seq ?_
      | refine Awp.region ?_
      | (refine Ops.nil ?_; show Awp _ _ _ _ _)
      | (refine Ops.nil ?_; show Exists _)
      | (refine Ops.nil ?_; show endK _ _ _ _ _)
      | (refine Awp.skip ?_; show Awp _ _ _ _ _)
      | (refine Awp.skip ?_; show endK _ _ _ _ _)
      | (refine Awp.skip ?_; show Exists _)
      | (refine Awp.ret ?_; show endK _ _ _ _ _)
      | refine o_noT rfl rfl rfl ?_
      | refine o_noU rfl rfl rfl ?_
      | refine o_noF rfl rfl rfl ?_
      | (refine o_add rfl rfl rfl rfl ?_ ?_; omega)
      | (refine o_calm rfl TtOk rfl rfl rfl ?_ (fun _ => ?_); first | exact True.intro | exact ⟨rfl, rfl, rfl, rfl⟩ | exact ⟨rfl, True.intro⟩ | exact ⟨rfl, rfl⟩ | exact ⟨rfl, rfl, rfl⟩ | exact rfl | exact ⟨fun h0 => by cases h0, rfl⟩ | exact (fun h0 => by cases h0) | exact ⟨rfl, by omega⟩ | exact ⟨Nat.succ_ne_zero _, rfl⟩ | omega)
      | refine o_alloc (d := 5) rfl TtOk rfl rfl rfl (fun b5 => ?_)
      | refine o_alloc (d := 7) rfl TtOk rfl rfl rfl (fun b7 => ?_)
      | refine o_box (d := 1) rfl rfl rfl rfl (fun b1 => ?_)
      | refine o_store TtOk rfl rfl rfl rfl rfl rfl rfl ⟨rfl, rfl⟩ rfl rfl rfl rfl rfl ?_
      | (refine o_calm rfl TtOk rfl rfl rfl ?_ (fun _ => ?_); (show List.length _ + List.length _ ≤ 9223372036854775807; (try simp only [List.length_append, List.length_cons, List.length_nil]); omega))
      | refine o_eqNil TtOk rfl rfl rfl rfl rfl ?_
      | refine o_eqArr8 TtOk rfl rfl rfl rfl rfl rfl (by kernel_rfl) ?_
      | (fail_if_success (refine o_isLit rfl (by first | exact .inl rfl | exact .inr rfl) ?_)); (refine o_splitP rfl rfl (fun hc => ?_) (fun hc => ?_) <;> try (exfalso; omega))
      | (fail_if_success (refine o_isLit rfl (by first | exact .inl rfl | exact .inr rfl) ?_)); (refine o_splitI rfl rfl (fun hc => ?_) (fun hc => ?_) <;> try (exfalso; omega))
      | (fail_if_success (refine o_isLit rfl (by first | exact .inl rfl | exact .inr rfl) ?_)); (refine o_splitN rfl rfl (fun hc => ?_) (fun hc => ?_) <;> try (exfalso; omega))
      | (fail_if_success (refine o_isLit rfl (by first | exact .inl rfl | exact .inr rfl) ?_)); (refine o_split rfl rfl (fun hc => ?_) (fun hc => ?_))
      | refine a_condT rfl ?_
      | refine a_condF rfl ?_
      | (refine a_condP rfl (fun hc => ?_) (fun hc => ?_)) <;> (try (exfalso; omega))
      | (refine a_condI rfl (fun hc => ?_) (fun hc => ?_)) <;> (try (exfalso; omega))
      | (refine a_condN rfl (fun hc => ?_) (fun hc => ?_)) <;> (try (exfalso; omega))
      | (refine Awp.cond rfl (fun hc => ?_) (fun hc => ?_))
      | refine a_any 7 [] [] [] [0, 1, 2, 3, 4, 5, 6, 8, 7, 9, 10, 11, 12, 13, 14, 15, 16] (by kernel_rfl) (by kernel_rfl) (by kernel_rfl) rfl rfl rfl ?_
      | (refine o_call0 rfl (ho) ⟨SLe.of_eq rfl, True.intro⟩ rfl ?_; rintro _ _ ⟨rfl, rfl⟩; refine ⟨rfl, ?_⟩)
      | (refine o_call0 rfl (hby) ⟨SLe.of_eq rfl, True.intro⟩ rfl ?_; rintro _ _ ⟨rfl, rfl⟩; refine ⟨rfl, ?_⟩)
      | (refine o_call0 rfl (haw) True.intro rfl ?_; rintro _ _ ⟨rfl, rfl⟩; refine ⟨rfl, ?_⟩)
      | (refine o_call0 rfl (hr1) ⟨SLe.of_eq rfl, True.intro⟩ rfl ?_; rintro _ _ ⟨rfl, rfl⟩; refine ⟨rfl, ?_⟩)
      | (refine o_call0 rfl (hr2) ⟨SLe.of_eq rfl, True.intro⟩ rfl ?_; rintro _ _ ⟨rfl, rfl⟩; refine ⟨rfl, ?_⟩)
      | (refine o_call0 rfl (ht) ⟨SLe.of_eq rfl, True.intro⟩ rfl ?_; rintro _ _ ⟨rfl, rfl⟩; refine ⟨rfl, ?_⟩)
      | (refine o_call0 rfl (hsm) ⟨SLe.of_eq rfl, SLe.of_eq rfl, True.intro⟩ rfl ?_; rintro _ _ ⟨rfl, rfl⟩; refine ⟨rfl, ?_⟩))
    all_goals exact end_tmp rfl rfl rfl [] [] (CLe.of_eq rfl) .nil ⟨rfl, rfl⟩ _ (.inl rfl)
  · rw [if_pos h0] at hbs
    rw [hbs] at hby
    generalize lcheck t = c at hck hby h0
    repeat' (first
      | refine Awp.seq ?_
      | refine Awp.region ?_
      | (refine Ops.nil ?_; show Awp _ _ _ _ _)
      | (refine Ops.nil ?_; show Exists _)
      | (refine Ops.nil ?_; show endK _ _ _ _ _)
      | (refine Awp.skip ?_; show Awp _ _ _ _ _)
      | (refine Awp.skip ?_; show endK _ _ _ _ _)
      | (refine Awp.skip ?_; show Exists _)
      | (refine Awp.ret ?_; show endK _ _ _ _ _)
      | refine o_noT rfl rfl rfl ?_
      | refine o_noU rfl rfl rfl ?_
      | refine o_noF rfl rfl rfl ?_
      | (refine o_add rfl rfl rfl rfl ?_ ?_; omega)
      | (refine o_calm rfl TtOk rfl rfl rfl ?_ (fun _ => ?_); first | exact True.intro | exact ⟨rfl, rfl, rfl, rfl⟩ | exact ⟨rfl, True.intro⟩ | exact ⟨rfl, rfl⟩ | exact ⟨rfl, rfl, rfl⟩ | exact rfl | exact ⟨fun h0 => by cases h0, rfl⟩ | exact (fun h0 => by cases h0) | exact ⟨rfl, by omega⟩ | exact ⟨Nat.succ_ne_zero _, rfl⟩ | omega)
      | refine o_alloc (d := 5) rfl TtOk rfl rfl rfl (fun b5 => ?_)
      | refine o_alloc (d := 7) rfl TtOk rfl rfl rfl (fun b7 => ?_)
      | refine o_box (d := 1) rfl rfl rfl rfl (fun b1 => ?_)
      | refine o_store TtOk rfl rfl rfl rfl rfl rfl rfl ⟨rfl, rfl⟩ rfl rfl rfl rfl rfl ?_
      | (refine o_calm rfl TtOk rfl rfl rfl ?_ (fun _ => ?_); (show List.length _ + List.length _ ≤ 9223372036854775807; (try simp only [List.length_append, List.length_cons, List.length_nil]); omega))
      | refine o_eqNil TtOk rfl rfl rfl rfl rfl ?_
      | refine o_eqArr8 TtOk rfl rfl rfl rfl rfl rfl (by kernel_rfl) ?_
      | (fail_if_success (refine o_isLit rfl (by first | exact .inl rfl | exact .inr rfl) ?_)); (refine o_splitP rfl rfl (fun hc => ?_) (fun hc => ?_) <;> try (exfalso; omega))
      | (fail_if_success (refine o_isLit rfl (by first | exact .inl rfl | exact .inr rfl) ?_)); (refine o_splitI rfl rfl (fun hc => ?_) (fun hc => ?_) <;> try (exfalso; omega))
      | (fail_if_success (refine o_isLit rfl (by first | exact .inl rfl | exact .inr rfl) ?_)); (refine o_splitN rfl rfl (fun hc => ?_) (fun hc => ?_) <;> try (exfalso; omega))
      | (fail_if_success (refine o_isLit rfl (by first | exact .inl rfl | exact .inr rfl) ?_)); (refine o_split rfl rfl (fun hc => ?_) (fun hc => ?_))
      | refine a_condT rfl ?_
      | refine a_condF rfl ?_
      | (refine a_condP rfl (fun hc => ?_) (fun hc => ?_)) <;> (try (exfalso; omega))
      | (refine a_condI rfl (fun hc => ?_) (fun hc => ?_)) <;> (try (exfalso; omega))
      | (refine a_condN rfl (fun hc => ?_) (fun hc => ?_)) <;> (try (exfalso; omega))
      | (refine Awp.cond rfl (fun hc => ?_) (fun hc => ?_))
      | refine a_any 7 [] [] [] [0, 1, 2, 3, 4, 5, 6, 8, 7, 9, 10, 11, 12, 13, 14, 15, 16] (by kernel_rfl) (by kernel_rfl) (by kernel_rfl) rfl rfl rfl ?_
      | (refine o_call0 rfl (ho) ⟨SLe.of_eq rfl, True.intro⟩ rfl ?_; rintro _ _ ⟨rfl, rfl⟩; refine ⟨rfl, ?_⟩)
      | (refine o_call0 rfl (hby) ⟨SLe.of_eq rfl, True.intro⟩ rfl ?_; rintro _ _ ⟨rfl, rfl⟩; refine ⟨rfl, ?_⟩)
      | (refine o_call0 rfl (haw) True.intro rfl ?_; rintro _ _ ⟨rfl, rfl⟩; refine ⟨rfl, ?_⟩)
      | (refine o_call0 rfl (hck) ⟨SLe.of_eq rfl, True.intro⟩ rfl ?_; rintro _ _ ⟨rfl, rfl⟩; refine ⟨rfl, ?_⟩))
    all_goals refine end_tmp rfl rfl rfl [] [] (CLe.of_eq ?_) .nil ⟨rfl, rfl⟩ _ (.inl rfl)
    all_goals (show AV.b (c == c) = AV.b true; rw [beq_self_eq_true])
end Go.Proofs.Ytnmnhnlebkebfaa
