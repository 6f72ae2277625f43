/- ref10.Make by rules. -/
import Derived.Test.YtdpljpnnjgefoaaT2
set_option maxHeartbeats 16000000
set_option maxRecDepth 100000
namespace Go.Proofs.Ytdpljpnnjgefoaa
open Go Go.RowKit
def leK (a b : List UInt8) : Bool := Op.bytesLess a b || a == b
def hdK (g : List Etr) : List UInt8 := (g[0]?.map (·.k)).getD []
def lsK (g : List Etr) : List UInt8 := (g[g.length - 1]?.map (·.k)).getD []
theorem hdK_eq {g : List Etr} (h : 0 < g.length) : hdK g = g[0].k := by unfold hdK; rw [List.getElem?_eq_getElem h]; rfl
theorem lsK_eq {g : List Etr} (h : g.length - 1 < g.length) : lsK g = g[g.length - 1].k := by unfold lsK; rw [List.getElem?_eq_getElem h]; rfl
theorem grp_mem (size : Int) : ∀ (l g : List Etr) (n : Nat), g.length ≤ 255 → ∀ h ∈ grp size l g n, 0 < h.length ∧ h.length ≤ 256 ∧ ∀ e ∈ h, e ∈ g ∨ e ∈ l
  | [], _, _, _, h, hh => by cases hh
  | x :: r, g, n, hg, h, hh => by
    unfold grp at hh
    split at hh
    · rcases List.mem_cons.1 hh with rfl | hh
      · refine ⟨by simp, by simp; omega, fun e he => ?_⟩
        rcases List.mem_append.1 he with he | he
        · exact .inl he
        · exact .inr (List.mem_cons.2 (.inl (List.mem_singleton.1 he)))
      · obtain ⟨h1, h2, h3⟩ := grp_mem size r [] 0 (by decide) h hh
        refine ⟨h1, h2, fun e he => ?_⟩
        rcases h3 e he with h4 | h4
        · cases h4
        · exact .inr (List.mem_cons_of_mem _ h4)
    · rename_i hc
      obtain ⟨h1, h2, h3⟩ := grp_mem size r (g ++ [x]) _ (by rw [List.length_append]; show g.length + 1 ≤ 255; omega) h hh
      refine ⟨h1, h2, fun e he => ?_⟩
      rcases h3 e he with h4 | h4
      · rcases List.mem_append.1 h4 with h4 | h4
        · exact .inl h4
        · exact .inr (List.mem_cons.2 (.inl (List.mem_singleton.1 h4)))
      · exact .inr (List.mem_cons_of_mem _ h4)
theorem grp_len (size : Int) : ∀ (l g : List Etr) (n : Nat), (grp size l g n).length ≤ l.length
  | [], _, _ => Nat.le_refl _
  | x :: r, g, n => by
    unfold grp
    split
    · exact Nat.succ_le_succ (grp_len size r [] 0)
    · exact Nat.le_succ_of_le (grp_len size r _ _)
def tblk : List (List Etr) → List UInt8 → List UInt8 → List UInt8 → (List UInt8 × List UInt8) × Int
  | [], idx, text, _ => ((idx, text), 0)
  | g :: r, idx, text, last => if (make9 g).2 ≠ 0 then (([], []), (make9 g).2) else if leK (hdK g) last = true then (([], []), 3) else tblk r (idx ++ (numBytes text.length ++ txB (lsK g))) (text ++ (make9 g).1) (lsK g)
def three (n : Nat) : List UInt8 := [UInt8.ofNat (n / 65536), UInt8.ofNat (n / 256), UInt8.ofNat n]
theorem three_row (n : Nat) : [AV.i .u8 (IntKind.u8.wrap ((n : Int) / 65536)), AV.i .u8 (IntKind.u8.wrap ((n : Int) / 256)), AV.i .u8 (IntKind.u8.wrap (n : Int))] = (three n).map byA := by
  rw [show (n : Int) / 65536 = ((n / 65536 : Nat) : Int) from rfl, show (n : Int) / 256 = ((n / 256 : Nat) : Int) from rfl, byA_nat, byA_nat, byA_nat]; rfl
def footB (l : List Etr) (text : List UInt8) : List UInt8 := ((numBytes text.length ++ txB (filB l)) ++ numBytes l.length) ++ txB (hdK l)
def tout (l : List Etr) (idx text : List UInt8) : List UInt8 := ((text ++ sealWrap idx) ++ sealWrap (footB l text)) ++ three (sealWrap (footB l text)).length
def tmk (l : List Etr) (size : Int) : List UInt8 × Int :=
  if size < 1 ∨ 16384 < size then ([], 1) else if l.length = 0 then ([], 3) else
    if (tblk (grp size l [] 0) (numBytes (grp size l [] 0).length) [] []).2 ≠ 0 then ([], (tblk (grp size l [] 0) (numBytes (grp size l [] 0).length) [] []).2)
    else (tout l (tblk (grp size l [] 0) (numBytes (grp size l [] 0).length) [] []).1.1 (tblk (grp size l [] 0) (numBytes (grp size l [] 0).length) [] []).1.2, 0)
theorem tblk_step (G : List (List Etr)) (i : Nat) (h : i < G.length) (idx text last : List UInt8) : tblk (G.drop i) idx text last =
    if (make9 G[i]).2 ≠ 0 then (([], []), (make9 G[i]).2) else if leK (hdK G[i]) last = true then (([], []), 3) else tblk (G.drop (i + 1)) (idx ++ (numBytes text.length ++ txB (lsK G[i]))) (text ++ (make9 G[i]).1) (lsK G[i]) := by
  rw [List.drop_eq_getElem_cons h]; rfl
theorem make9_len (g : List Etr) : (make9 g).1.length ≤ 65544 := by
  unfold make9
  split
  · exact Nat.zero_le _
  · split
    · exact Nat.zero_le _
    · show (sealWrap _).length ≤ _
      unfold sealWrap
      rw [List.length_append, List.length_append, head_len, four_len]; omega
theorem filB_len (l : List Etr) (hl : l.length ≤ 300) : (filB l).length ≤ 1000 := by
  have h1 := mkF_len (keyL l) 10
  have h2 : nbOf (keyL l).length 10 ≤ 400 := by unfold nbOf keyL; rw [List.length_map]; omega
  have h3 := txB_len (mkF (keyL l) 10) (by omega)
  have h4 := numBytes_len 7 (by decide)
  unfold filB; rw [List.length_append]; omega
theorem sealWrap_len (t : List UInt8) : (sealWrap t).length = 8 + t.length := by
  unfold sealWrap
  rw [List.length_append, List.length_append, head_len, four_len]
theorem hdK_len (g : List Etr) (hm : ∀ e ∈ g, e.k.length ≤ 110 ∧ e.v.length ≤ 4010) : (hdK g).length ≤ 110 := by
  by_cases h : 0 < g.length
  · rw [hdK_eq h]; exact (hm _ (List.getElem_mem h)).1
  · have : g = [] := List.length_eq_zero_iff.1 (by omega)
    subst this; exact Nat.zero_le _
theorem lsK_len (g : List Etr) (hm : ∀ e ∈ g, e.k.length ≤ 110 ∧ e.v.length ≤ 4010) : (lsK g).length ≤ 110 := by
  by_cases h : g.length - 1 < g.length
  · rw [lsK_eq h]; exact (hm _ (List.getElem_mem h)).1
  · have : g = [] := List.length_eq_zero_iff.1 (by omega)
    subst this; exact Nat.zero_le _
theorem footB_len (l : List Etr) (text : List UInt8) (hl : l.length ≤ 300) (hm : ∀ e ∈ l, e.k.length ≤ 110 ∧ e.v.length ≤ 4010) (ht : text.length < 9223372036854775808) : (footB l text).length ≤ 2000 := by
  have h1 := filB_len l hl
  have h2 := numBytes_len text.length ht
  have h3 := numBytes_len l.length (by omega)
  have h4 := hdK_len l hm
  have h5 := txB_len (filB l) (by omega)
  have h6 := txB_len (hdK l) (by omega)
  unfold footB
  rw [List.length_append, List.length_append, List.length_append]; omega
theorem rtmake_spec (l : List Etr) (size : Int) (hl : l.length ≤ 300) (hm : ∀ e ∈ l, e.k.length ≤ 110 ∧ e.v.length ≤ 4010) : Spec Try.prog 14 [.sl 3 (l.map eA), .i .i64 size] [] (fun v os => v = .tup [.s (tmk l size).1, .i .i64 (tmk l size).2] ∧ os = []) := by
  refine spec_of TtOk [] Try.func14 rfl Try.ntmps14 (by kernel_rfl) rfl rfl (fun C => ?_) rfl
  have hgs := rgroups_spec l size hl hm
  have hgm := grp_mem size l [] 0 (by decide)
  have hgl := grp_len size l [] 0
  have htm : tmk l size = if size < 1 ∨ 16384 < size then ([], 1) else if l.length = 0 then ([], 3) else
    if (tblk (grp size l [] 0) (numBytes (grp size l [] 0).length) [] []).2 ≠ 0 then ([], (tblk (grp size l [] 0) (numBytes (grp size l [] 0).length) [] []).2)
    else (tout l (tblk (grp size l [] 0) (numBytes (grp size l [] 0).length) [] []).1.1 (tblk (grp size l [] 0) (numBytes (grp size l [] 0).length) [] []).1.2, 0) := rfl
  generalize tmk l size = q at htm ⊢
  generalize grp size l [] 0 = G at hgs hgm hgl htm
  have hn1 := dnumber_spec G.length (by omega)
  have hnl1 := numBytes_len G.length (by omega)
  obtain ⟨R, hR⟩ : ∃ R, tblk G (numBytes G.length) [] [] = R := ⟨_, rfl⟩
  rw [hR] at htm
  generalize numBytes G.length = nG at hn1 hnl1 hR
  repeat' (first | refine Awp.seq ?_ | refine Awp.block ?_ | refine Awp.region ?_ | (refine Ops.nil ?_; show Awp _ _ _ _ _) | (refine Ops.nil ?_; show Exists _) | (refine Ops.nil ?_; show endK _ _ _ _ _) | (refine Awp.skip ?_; show Awp _ _ _ _ _) | (refine Awp.skip ?_; show endK _ _ _ _ _) | (refine Awp.skip ?_; show Exists _) | (refine Awp.exit ?_; show Awp _ _ _ _ _) | (refine Awp.exit ?_; show Exists _) | (refine Awp.exit ?_; show endK _ _ _ _ _) | (refine Awp.ret ?_; show endK _ _ _ _ _) | refine o_offT rfl rfl rfl (by first | exact .inl rfl | exact .inr rfl) ?_ | refine o_offU rfl rfl rfl (by first | exact .inl rfl | exact .inr rfl) ?_ | refine o_offF rfl rfl rfl (by first | exact .inl rfl | exact .inr rfl) ?_ | (refine o_add rfl rfl rfl rfl ?_ ?_; omega) | (refine o_sub rfl rfl rfl rfl ?_ ?_; omega) | (refine o_quo rfl rfl rfl rfl ?_ ?_ ?_; omega; omega) | refine o_len rfl TtOk rfl rfl rfl (fun _ => ?_) | refine o_lenOwn rfl TtOk rfl rfl rfl rfl (fun _ => ?_) | refine o_convB rfl TtOk rfl rfl rfl rfl ?_ | (refine o_conv64 rfl TtOk rfl rfl rfl rfl ?_ ?_; omega) | (refine o_calm rfl TtOk rfl rfl rfl ?_ (fun _ => ?_); first | exact True.intro | exact ⟨rfl, rfl, rfl, rfl⟩ | exact ⟨rfl, True.intro⟩ | exact ⟨rfl, rfl⟩ | exact ⟨rfl, rfl, rfl⟩ | exact rfl | exact ⟨fun h0 => by cases h0, rfl⟩ | exact (fun h0 => by cases h0) | exact ⟨rfl, by omega⟩ | exact ⟨Nat.succ_ne_zero _, rfl⟩ | omega) | (refine o_index rfl TtOk rfl rfl rfl rfl rfl rfl ?_ (getq_nat ?_) ?_; omega; omega) | (refine o_indexOwn TtOk rfl rfl rfl rfl rfl rfl rfl rfl _ rfl ?_ (fun bO hbO => ?_); (simp only [List.length_map]; omega)) | (refine o_loadRow TtOk rfl rfl rfl rfl rfl (by assumption) (getq_map (List.getElem?_eq_getElem ?_)) rfl rfl (by first | exact Nat.add_zero _ | rfl) ⟨rfl, rfl⟩ ?_; omega) | (refine o_calm rfl TtOk rfl rfl rfl ?_ (fun _ => ?_); (show List.length _ + List.length _ ≤ 9223372036854775807; (try simp only [List.length_append, List.length_cons, List.length_nil]); omega)) | (refine o_storeRow TtOk rfl rfl rfl rfl rfl rfl (by assumption) (getq_map (List.getElem?_eq_getElem ?_)) rfl rfl (by first | exact Nat.add_zero _ | rfl) ⟨rfl, rfl⟩ rfl rfl ?_; omega) | refine o_buildSlice TtOk rfl rfl rfl rfl rfl rfl rfl rfl rfl rfl rfl (by repeat' (first | exact True.intro | exact rfl | refine ⟨?_, ?_⟩)) (fun _ => ?_) | refine o_eqNil TtOk rfl rfl rfl rfl rfl ?_ | refine o_eqArr8 TtOk rfl rfl rfl rfl rfl rfl (by kernel_rfl) ?_ | refine o_toBytes TtOk rfl rfl rfl rfl rfl rfl ?_ | (fail_if_success (refine o_isLit rfl (by first | exact .inl rfl | exact .inr rfl) ?_)); (refine o_splitP rfl rfl (fun hc => ?_) (fun hc => ?_) <;> try (exfalso; omega)) | (fail_if_success (refine o_isLit rfl (by first | exact .inl rfl | exact .inr rfl) ?_)); (refine o_splitI rfl rfl (fun hc => ?_) (fun hc => ?_) <;> try (exfalso; omega)) | (fail_if_success (refine o_isLit rfl (by first | exact .inl rfl | exact .inr rfl) ?_)); (refine o_splitN rfl rfl (fun hc => ?_) (fun hc => ?_) <;> try (exfalso; omega)) | (fail_if_success (refine o_isLit rfl (by first | exact .inl rfl | exact .inr rfl) ?_)); (refine o_split rfl rfl (fun hc => ?_) (fun hc => ?_)) | refine a_condT rfl ?_ | refine a_condF rfl ?_ | (refine a_condP rfl (fun hc => ?_) (fun hc => ?_)) <;> (try (exfalso; omega)) | (refine a_condI rfl (fun hc => ?_) (fun hc => ?_)) <;> (try (exfalso; omega)) | (refine a_condN rfl (fun hc => ?_) (fun hc => ?_)) <;> (try (exfalso; omega)) | (refine Awp.cond rfl (fun hc => ?_) (fun hc => ?_)) | refine o_toString TtOk rfl rfl rfl rfl rfl (by first | exact True.intro | exact rfl) rfl rfl rfl rfl ?_ | refine a_any 21 [] [] [] [0, 1, 3, 7, 8, 11, 12, 13, 14, 2, 4, 5, 6, 9, 10, 15, 16, 17] (by kernel_rfl) (by kernel_rfl) (by kernel_rfl) rfl rfl rfl ?_ | (refine Ops.nil ?_; show AnyT _ _ _ _ _ _ _ _ _ _) | refine a_anyT 25 [] [] [] (by kernel_rfl) (by kernel_rfl) (n := 22) (listed := [false, false, false, false, false, false, false, false, false, false, false, false, false, false, false, false, false, false, false, false, false, false].toArray) rfl (by kernel_rfl) ?_ | refine t_path (n := 22) (listed := [false, false, false, false, false, false, false, false, false, false, false, false, false, false, false, false, false, false, false, false, false, false].toArray) [0, 1, 4, 6, 7, 8, 9, 10, 11, 12, 13, 14, 15, 16] 8 [true, true, false, false, true, false, true, true, true, true, true, true, true, true, true, true, true, false, false, false, false, false] (by kernel_rfl) rfl rfl rfl (by kernel_rfl) ?_ | refine t_two (n := 8) (listed := [true, true, false, false, true, false, true, true, true, true, true, true, true, true, true, true, true, false, false, false, false, false].toArray) 2 17 [true, true, true, false, true, false, true, true, true, true, true, true, true, true, true, true, true, false, false, false, false, false] [true, true, false, false, true, false, true, true, true, true, true, true, true, true, true, true, true, true, false, false, false, false] rfl (by kernel_rfl) rfl rfl (by kernel_rfl) (by kernel_rfl) ?_ ?_ | refine t_path (n := 7) (listed := [true, true, true, false, true, false, true, true, true, true, true, true, true, true, true, true, true, false, false, false, false, false].toArray) [3, 5, 17, 18, 19, 20, 21] 0 [true, true, true, true, true, true, true, true, true, true, true, true, true, true, true, true, true, true, true, true, true, true] (by kernel_rfl) rfl rfl rfl (by kernel_rfl) ?_ | refine t_fin (n := 0) (listed := [true, true, true, true, true, true, true, true, true, true, true, true, true, true, true, true, true, true, true, true, true, true].toArray) (by kernel_rfl) ?_ | refine t_path (n := 7) (listed := [true, true, false, false, true, false, true, true, true, true, true, true, true, true, true, true, true, true, false, false, false, false].toArray) [18, 2, 3, 5, 19, 20, 21] 0 [true, true, true, true, true, true, true, true, true, true, true, true, true, true, true, true, true, true, true, true, true, true] (by kernel_rfl) rfl rfl rfl (by kernel_rfl) ?_ | (refine o_call0 rfl (hgs) ⟨SLe.of_eq rfl, SLe.of_eq rfl, True.intro⟩ rfl ?_; rintro _ _ ⟨rfl, rfl⟩; refine ⟨rfl, ?_⟩) | (refine o_call0 rfl (hn1) ⟨SLe.of_eq rfl, True.intro⟩ rfl ?_; rintro _ _ ⟨rfl, rfl⟩; refine ⟨rfl, ?_⟩))
  · rw [if_pos (by omega)] at htm; subst htm
    refine end_all [] [] (.tup [.s [], .i .i64 1]) rfl ?_ ?_ (rle_tup2 (CLe.refl _) (CLe.refl _) rfl rfl) .nil ⟨rfl, rfl⟩ _ (.inl rfl)
    · repeat' (first | exact True.intro | exact rfl | refine ⟨?_, ?_⟩)
    · exact ⟨trivial, trivial, trivial⟩
  · rw [if_pos (by omega)] at htm; subst htm
    refine end_all [] [] (.tup [.s [], .i .i64 1]) rfl ?_ ?_ (rle_tup2 (CLe.refl _) (CLe.refl _) rfl rfl) .nil ⟨rfl, rfl⟩ _ (.inl rfl)
    · repeat' (first | exact True.intro | exact rfl | refine ⟨?_, ?_⟩)
    · exact ⟨trivial, trivial, trivial⟩
  · rw [if_neg (by omega), if_pos (by omega)] at htm; subst htm
    refine end_all [] [] (.tup [.s [], .i .i64 3]) rfl ?_ ?_ (rle_tup2 (CLe.refl _) (CLe.refl _) rfl rfl) .nil ⟨rfl, rfl⟩ _ (.inl rfl)
    · repeat' (first | exact True.intro | exact rfl | refine ⟨?_, ?_⟩)
    · exact ⟨trivial, trivial, trivial⟩
  rw [if_neg (by omega), if_neg (by omega)] at htm
  have hlp : 0 < l.length := by omega
  refine Awp.loop (fun q : Nat × List UInt8 × List UInt8 × List UInt8 => ⟨120, [(36, .i .i64 q.1), (35, .i .i64 G.length), (34, .sl 1 (G.map grA)), (8, .s q.2.1), (7, .s q.2.2.1), (9, .s q.2.2.2), (0, .sl 3 (l.map eA))], []⟩)
    (fun q => q.1 ≤ G.length ∧ q.2.1.length ≤ 9 + 130 * q.1 ∧ q.2.2.1.length ≤ 65544 * q.1 ∧ q.2.2.2.length ≤ 110 ∧ tblk (G.drop q.1) q.2.1 q.2.2.1 q.2.2.2 = R) (fun q => G.length - q.1) [] (0, nG, [], []) ⟨Nat.zero_le _, by show nG.length ≤ 9 + 130 * 0; omega, Nat.zero_le _, Nat.zero_le _, hR⟩ ?_ ?_
  · exact ⟨rfl, ⟨sle_i rfl, sle_i rfl, sle_sl rfl, sle_s rfl, sle_s rfl, sle_s rfl, sle_sl rfl, True.intro⟩, .nil⟩
  rintro ⟨i, idx, text, last⟩ ⟨hi, hxl, htl, hll, hst⟩
  dsimp only at hi hxl htl hll hst ⊢
  by_cases hlt : i < G.length
  · rw [tblk_step G i hlt] at hst
    have hxg := hgm _ (List.getElem_mem hlt)
    obtain ⟨hg0, hg1, hg2⟩ := hxg
    have hg2 : ∀ e ∈ G[i], e.k.length ≤ 110 ∧ e.v.length ≤ 4010 := fun e he => hm e ((hg2 e he).resolve_left (fun h => by cases h))
    have hmk9 := rmake9_spec G[i] (by omega) hg2
    have hml := make9_len G[i]
    have hll2 := lsK_len G[i] hg2
    rw [hdK_eq hg0] at hst
    have hle := lsK_eq (show G[i].length - 1 < G[i].length by omega)
    generalize lsK G[i] = ls at hst hll2 hle
    generalize make9 G[i] = b at hmk9 hml hst
    obtain ⟨b, e⟩ := b
    dsimp only at hmk9 hml hst
    have hnt := dnumber_spec text.length (by omega)
    have hntl := numBytes_len text.length (by omega)
    have htx := dtext_spec ls (by omega)
    have htxl := txB_len ls (by omega)
    generalize numBytes text.length = nt at hnt hntl hst
    generalize txB ls = tx at htx htxl hst
    have hlt1 : G[i].length - 1 < G[i].length := by omega
    repeat' (first | refine Awp.seq ?_ | refine Awp.block ?_ | refine Awp.region ?_ | (refine Ops.nil ?_; show Awp _ _ _ _ _) | (refine Ops.nil ?_; show Exists _) | (refine Ops.nil ?_; show endK _ _ _ _ _) | (refine Awp.skip ?_; show Awp _ _ _ _ _) | (refine Awp.skip ?_; show endK _ _ _ _ _) | (refine Awp.skip ?_; show Exists _) | (refine Awp.exit ?_; show Awp _ _ _ _ _) | (refine Awp.exit ?_; show Exists _) | (refine Awp.exit ?_; show endK _ _ _ _ _) | (refine Awp.ret ?_; show endK _ _ _ _ _) | refine o_offT rfl rfl rfl (by first | exact .inl rfl | exact .inr rfl) ?_ | refine o_offU rfl rfl rfl (by first | exact .inl rfl | exact .inr rfl) ?_ | refine o_offF rfl rfl rfl (by first | exact .inl rfl | exact .inr rfl) ?_ | (refine o_add rfl rfl rfl rfl ?_ ?_; omega) | (refine o_sub rfl rfl rfl rfl ?_ ?_; omega) | (refine o_quo rfl rfl rfl rfl ?_ ?_ ?_; omega; omega) | refine o_len rfl TtOk rfl rfl rfl (fun _ => ?_) | refine o_lenOwn rfl TtOk rfl rfl rfl rfl (fun _ => ?_) | refine o_convB rfl TtOk rfl rfl rfl rfl ?_ | (refine o_conv64 rfl TtOk rfl rfl rfl rfl ?_ ?_; omega) | (refine o_calm rfl TtOk rfl rfl rfl ?_ (fun _ => ?_); first | exact True.intro | exact ⟨rfl, rfl, rfl, rfl⟩ | exact ⟨rfl, True.intro⟩ | exact ⟨rfl, rfl⟩ | exact ⟨rfl, rfl, rfl⟩ | exact rfl | exact ⟨fun h0 => by cases h0, rfl⟩ | exact (fun h0 => by cases h0) | exact ⟨rfl, by omega⟩ | exact ⟨Nat.succ_ne_zero _, rfl⟩ | omega) | (refine o_index rfl TtOk rfl rfl rfl rfl rfl rfl ?_ (getq_nat ?_) ?_; omega; omega) | (refine o_indexOwn TtOk rfl rfl rfl rfl rfl rfl rfl rfl _ rfl ?_ (fun bO hbO => ?_); (simp only [List.length_map]; omega)) | (refine o_loadRow TtOk rfl rfl rfl rfl rfl (by assumption) (getq_map (List.getElem?_eq_getElem ?_)) rfl rfl (by first | exact Nat.add_zero _ | rfl) ⟨rfl, rfl⟩ ?_; omega) | (refine o_calm rfl TtOk rfl rfl rfl ?_ (fun _ => ?_); (show List.length _ + List.length _ ≤ 9223372036854775807; (try simp only [List.length_append, List.length_cons, List.length_nil]); omega)) | (refine o_storeRow TtOk rfl rfl rfl rfl rfl rfl (by assumption) (getq_map (List.getElem?_eq_getElem ?_)) rfl rfl (by first | exact Nat.add_zero _ | rfl) ⟨rfl, rfl⟩ rfl rfl ?_; omega) | refine o_buildSlice TtOk rfl rfl rfl rfl rfl rfl rfl rfl rfl rfl rfl (by repeat' (first | exact True.intro | exact rfl | refine ⟨?_, ?_⟩)) (fun _ => ?_) | refine o_eqNil TtOk rfl rfl rfl rfl rfl ?_ | refine o_eqArr8 TtOk rfl rfl rfl rfl rfl rfl (by kernel_rfl) ?_ | refine o_toBytes TtOk rfl rfl rfl rfl rfl rfl ?_ | (fail_if_success (refine o_isLit rfl (by first | exact .inl rfl | exact .inr rfl) ?_)); (refine o_splitP rfl rfl (fun hc => ?_) (fun hc => ?_) <;> try (exfalso; omega)) | (fail_if_success (refine o_isLit rfl (by first | exact .inl rfl | exact .inr rfl) ?_)); (refine o_splitI rfl rfl (fun hc => ?_) (fun hc => ?_) <;> try (exfalso; omega)) | (fail_if_success (refine o_isLit rfl (by first | exact .inl rfl | exact .inr rfl) ?_)); (refine o_splitN rfl rfl (fun hc => ?_) (fun hc => ?_) <;> try (exfalso; omega)) | (fail_if_success (refine o_isLit rfl (by first | exact .inl rfl | exact .inr rfl) ?_)); (refine o_split rfl rfl (fun hc => ?_) (fun hc => ?_)) | refine a_condT rfl ?_ | refine a_condF rfl ?_ | (refine a_condP rfl (fun hc => ?_) (fun hc => ?_)) <;> (try (exfalso; omega)) | (refine a_condI rfl (fun hc => ?_) (fun hc => ?_)) <;> (try (exfalso; omega)) | (refine a_condN rfl (fun hc => ?_) (fun hc => ?_)) <;> (try (exfalso; omega)) | (refine Awp.cond rfl (fun hc => ?_) (fun hc => ?_)) | refine o_toString TtOk rfl rfl rfl rfl rfl (by first | exact True.intro | exact rfl) rfl rfl rfl rfl ?_ | refine a_any 21 [] [] [] [0, 1, 3, 7, 8, 11, 12, 13, 14, 2, 4, 5, 6, 9, 10, 15, 16, 17] (by kernel_rfl) (by kernel_rfl) (by kernel_rfl) rfl rfl rfl ?_ | (refine Ops.nil ?_; show AnyT _ _ _ _ _ _ _ _ _ _) | refine a_anyT 25 [] [] [] (by kernel_rfl) (by kernel_rfl) (n := 22) (listed := [false, false, false, false, false, false, false, false, false, false, false, false, false, false, false, false, false, false, false, false, false, false].toArray) rfl (by kernel_rfl) ?_ | refine t_path (n := 22) (listed := [false, false, false, false, false, false, false, false, false, false, false, false, false, false, false, false, false, false, false, false, false, false].toArray) [0, 1, 4, 6, 7, 8, 9, 10, 11, 12, 13, 14, 15, 16] 8 [true, true, false, false, true, false, true, true, true, true, true, true, true, true, true, true, true, false, false, false, false, false] (by kernel_rfl) rfl rfl rfl (by kernel_rfl) ?_ | refine t_two (n := 8) (listed := [true, true, false, false, true, false, true, true, true, true, true, true, true, true, true, true, true, false, false, false, false, false].toArray) 2 17 [true, true, true, false, true, false, true, true, true, true, true, true, true, true, true, true, true, false, false, false, false, false] [true, true, false, false, true, false, true, true, true, true, true, true, true, true, true, true, true, true, false, false, false, false] rfl (by kernel_rfl) rfl rfl (by kernel_rfl) (by kernel_rfl) ?_ ?_ | refine t_path (n := 7) (listed := [true, true, true, false, true, false, true, true, true, true, true, true, true, true, true, true, true, false, false, false, false, false].toArray) [3, 5, 17, 18, 19, 20, 21] 0 [true, true, true, true, true, true, true, true, true, true, true, true, true, true, true, true, true, true, true, true, true, true] (by kernel_rfl) rfl rfl rfl (by kernel_rfl) ?_ | refine t_fin (n := 0) (listed := [true, true, true, true, true, true, true, true, true, true, true, true, true, true, true, true, true, true, true, true, true, true].toArray) (by kernel_rfl) ?_ | refine t_path (n := 7) (listed := [true, true, false, false, true, false, true, true, true, true, true, true, true, true, true, true, true, true, false, false, false, false].toArray) [18, 2, 3, 5, 19, 20, 21] 0 [true, true, true, true, true, true, true, true, true, true, true, true, true, true, true, true, true, true, true, true, true, true] (by kernel_rfl) rfl rfl rfl (by kernel_rfl) ?_ | (refine o_index rfl TtOk rfl rfl rfl rfl rfl rfl ?_ (getq_as (G[i].length-1) ?_ hlt1) ?_; omega; omega) | (rw [← hle]) | (refine o_call0 rfl (hmk9) ⟨SLe.of_eq rfl, True.intro⟩ rfl ?_; rintro _ _ ⟨rfl, rfl⟩; refine ⟨rfl, ?_⟩) | (refine o_call0 rfl (hnt) ⟨SLe.of_eq rfl, True.intro⟩ rfl ?_; rintro _ _ ⟨rfl, rfl⟩; refine ⟨rfl, ?_⟩) | (refine o_call0 rfl (htx) ⟨SLe.of_eq rfl, True.intro⟩ rfl ?_; rintro _ _ ⟨rfl, rfl⟩; refine ⟨rfl, ?_⟩))
    · rw [if_pos hc] at hst; subst hst
      rw [if_pos hc] at htm; subst htm
      refine end_all [] [] (.tup [.s [], .i .i64 e]) rfl ?_ ?_ (rle_tup2 (CLe.refl _) (CLe.refl _) rfl rfl) .nil ⟨rfl, rfl⟩ _ (.inl rfl)
      · repeat' (first | exact True.intro | exact rfl | refine ⟨?_, ?_⟩)
      · exact ⟨trivial, trivial, trivial⟩
    · rw [if_neg (show ¬ e ≠ 0 by omega), if_pos (show leK G[i][0].k last = true from hc)] at hst; subst hst
      rw [if_pos (by decide)] at htm; subst htm
      refine end_all [] [] (.tup [.s [], .i .i64 3]) rfl ?_ ?_ (rle_tup2 (CLe.refl _) (CLe.refl _) rfl rfl) .nil ⟨rfl, rfl⟩ _ (.inl rfl)
      · repeat' (first | exact True.intro | exact rfl | refine ⟨?_, ?_⟩)
      · exact ⟨trivial, trivial, trivial⟩
    · rw [if_neg (show ¬ e ≠ 0 by omega), if_neg (by unfold leK; rw [hc]; decide)] at hst
      exact ⟨(i + 1, idx ++ (nt ++ tx), text ++ b, ls), [], ⟨hlt, by rw [List.length_append, List.length_append]; omega, by rw [List.length_append]; omega, hll2, hst⟩, by show G.length - (i + 1) < G.length - i; omega, rfl, ⟨sle_i (by omega), sle_i rfl, sle_sl rfl, sle_s rfl, sle_s rfl, sle_s rfl, sle_sl rfl, True.intro⟩, .nil⟩
  · have hil : i = G.length := by omega
    subst hil
    rw [List.drop_length] at hst
    have hst : ((idx, text), 0) = R := hst
    subst hst
    rw [if_neg (fun h => h rfl)] at htm
    dsimp only at htm
    unfold tout footB at htm
    have hf1 := dnumber_spec text.length (by omega)
    have hf2 := rfilter_spec l hl hm
    have hf3 := dtext_spec (filB l) (by have := filB_len l hl; omega)
    have hf4 := dnumber_spec l.length (by omega)
    have hf5 := dtext_spec (hdK l) (by have := hdK_len l hm; omega)
    have hfl := footB_len l text hl hm (by omega)
    unfold footB at hfl
    rw [hdK_eq hlp] at htm hf5 hfl
    have hfx := hfl
    rw [List.length_append, List.length_append, List.length_append] at hfx
    generalize numBytes text.length = f1 at htm hf1 hfl hfx
    generalize filB l = f2 at htm hf2 hf3 hfl hfx
    generalize txB f2 = f3 at htm hf3 hfl hfx
    generalize numBytes l.length = f4 at htm hf4 hfl hfx
    generalize txB l[0].k = f5 at htm hf5 hfl hfx
    have hw1 := rwrap_spec idx (by omega)
    have hw2 := rwrap_spec (((f1 ++ f3) ++ f4) ++ f5) (by omega)
    have hwl1 := sealWrap_len idx
    have hwl2 := sealWrap_len (((f1 ++ f3) ++ f4) ++ f5)
    generalize sealWrap idx = s1 at htm hw1 hwl1
    generalize sealWrap (((f1 ++ f3) ++ f4) ++ f5) = s2 at htm hw2 hwl2
    have h3l : (three s2.length).length = 3 := rfl
    repeat' (first | refine Awp.seq ?_ | refine Awp.block ?_ | refine Awp.region ?_ | (refine Ops.nil ?_; show Awp _ _ _ _ _) | (refine Ops.nil ?_; show Exists _) | (refine Ops.nil ?_; show endK _ _ _ _ _) | (refine Awp.skip ?_; show Awp _ _ _ _ _) | (refine Awp.skip ?_; show endK _ _ _ _ _) | (refine Awp.skip ?_; show Exists _) | (refine Awp.exit ?_; show Awp _ _ _ _ _) | (refine Awp.exit ?_; show Exists _) | (refine Awp.exit ?_; show endK _ _ _ _ _) | (refine Awp.ret ?_; show endK _ _ _ _ _) | refine o_offT rfl rfl rfl (by first | exact .inl rfl | exact .inr rfl) ?_ | refine o_offU rfl rfl rfl (by first | exact .inl rfl | exact .inr rfl) ?_ | refine o_offF rfl rfl rfl (by first | exact .inl rfl | exact .inr rfl) ?_ | (refine o_add rfl rfl rfl rfl ?_ ?_; omega) | (refine o_sub rfl rfl rfl rfl ?_ ?_; omega) | (refine o_quo rfl rfl rfl rfl ?_ ?_ ?_; omega; omega) | refine o_len rfl TtOk rfl rfl rfl (fun _ => ?_) | refine o_lenOwn rfl TtOk rfl rfl rfl rfl (fun _ => ?_) | refine o_convB rfl TtOk rfl rfl rfl rfl ?_ | (refine o_conv64 rfl TtOk rfl rfl rfl rfl ?_ ?_; omega) | (refine o_calm rfl TtOk rfl rfl rfl ?_ (fun _ => ?_); first | exact True.intro | exact ⟨rfl, rfl, rfl, rfl⟩ | exact ⟨rfl, True.intro⟩ | exact ⟨rfl, rfl⟩ | exact ⟨rfl, rfl, rfl⟩ | exact rfl | exact ⟨fun h0 => by cases h0, rfl⟩ | exact (fun h0 => by cases h0) | exact ⟨rfl, by omega⟩ | exact ⟨Nat.succ_ne_zero _, rfl⟩ | omega) | (refine o_index rfl TtOk rfl rfl rfl rfl rfl rfl ?_ (getq_nat ?_) ?_; omega; omega) | (refine o_indexOwn TtOk rfl rfl rfl rfl rfl rfl rfl rfl _ rfl ?_ (fun bO hbO => ?_); (simp only [List.length_map]; omega)) | (refine o_loadRow TtOk rfl rfl rfl rfl rfl (by assumption) (getq_map (List.getElem?_eq_getElem ?_)) rfl rfl (by first | exact Nat.add_zero _ | rfl) ⟨rfl, rfl⟩ ?_; omega) | (refine o_calm rfl TtOk rfl rfl rfl ?_ (fun _ => ?_); (show List.length _ + List.length _ ≤ 9223372036854775807; (try simp only [List.length_append, List.length_cons, List.length_nil]); omega)) | (refine o_storeRow TtOk rfl rfl rfl rfl rfl rfl (by assumption) (getq_map (List.getElem?_eq_getElem ?_)) rfl rfl (by first | exact Nat.add_zero _ | rfl) ⟨rfl, rfl⟩ rfl rfl ?_; omega) | refine o_buildSlice TtOk rfl rfl rfl rfl rfl rfl rfl rfl rfl rfl rfl (by repeat' (first | exact True.intro | exact rfl | refine ⟨?_, ?_⟩)) (fun _ => ?_) | refine o_eqNil TtOk rfl rfl rfl rfl rfl ?_ | refine o_eqArr8 TtOk rfl rfl rfl rfl rfl rfl (by kernel_rfl) ?_ | refine o_toBytes TtOk rfl rfl rfl rfl rfl rfl ?_ | (fail_if_success (refine o_isLit rfl (by first | exact .inl rfl | exact .inr rfl) ?_)); (refine o_splitP rfl rfl (fun hc => ?_) (fun hc => ?_) <;> try (exfalso; omega)) | (fail_if_success (refine o_isLit rfl (by first | exact .inl rfl | exact .inr rfl) ?_)); (refine o_splitI rfl rfl (fun hc => ?_) (fun hc => ?_) <;> try (exfalso; omega)) | (fail_if_success (refine o_isLit rfl (by first | exact .inl rfl | exact .inr rfl) ?_)); (refine o_splitN rfl rfl (fun hc => ?_) (fun hc => ?_) <;> try (exfalso; omega)) | (fail_if_success (refine o_isLit rfl (by first | exact .inl rfl | exact .inr rfl) ?_)); (refine o_split rfl rfl (fun hc => ?_) (fun hc => ?_)) | refine a_condT rfl ?_ | refine a_condF rfl ?_ | (refine a_condP rfl (fun hc => ?_) (fun hc => ?_)) <;> (try (exfalso; omega)) | (refine a_condI rfl (fun hc => ?_) (fun hc => ?_)) <;> (try (exfalso; omega)) | (refine a_condN rfl (fun hc => ?_) (fun hc => ?_)) <;> (try (exfalso; omega)) | (refine Awp.cond rfl (fun hc => ?_) (fun hc => ?_)) | refine o_toString TtOk rfl rfl rfl rfl rfl (by first | exact True.intro | exact rfl) rfl rfl rfl rfl ?_ | refine a_any 21 [] [] [] [0, 1, 3, 7, 8, 11, 12, 13, 14, 2, 4, 5, 6, 9, 10, 15, 16, 17] (by kernel_rfl) (by kernel_rfl) (by kernel_rfl) rfl rfl rfl ?_ | (refine Ops.nil ?_; show AnyT _ _ _ _ _ _ _ _ _ _) | refine a_anyT 25 [] [] [] (by kernel_rfl) (by kernel_rfl) (n := 22) (listed := [false, false, false, false, false, false, false, false, false, false, false, false, false, false, false, false, false, false, false, false, false, false].toArray) rfl (by kernel_rfl) ?_ | refine t_path (n := 22) (listed := [false, false, false, false, false, false, false, false, false, false, false, false, false, false, false, false, false, false, false, false, false, false].toArray) [0, 1, 4, 6, 7, 8, 9, 10, 11, 12, 13, 14, 15, 16] 8 [true, true, false, false, true, false, true, true, true, true, true, true, true, true, true, true, true, false, false, false, false, false] (by kernel_rfl) rfl rfl rfl (by kernel_rfl) ?_ | refine t_two (n := 8) (listed := [true, true, false, false, true, false, true, true, true, true, true, true, true, true, true, true, true, false, false, false, false, false].toArray) 2 17 [true, true, true, false, true, false, true, true, true, true, true, true, true, true, true, true, true, false, false, false, false, false] [true, true, false, false, true, false, true, true, true, true, true, true, true, true, true, true, true, true, false, false, false, false] rfl (by kernel_rfl) rfl rfl (by kernel_rfl) (by kernel_rfl) ?_ ?_ | refine t_path (n := 7) (listed := [true, true, true, false, true, false, true, true, true, true, true, true, true, true, true, true, true, false, false, false, false, false].toArray) [3, 5, 17, 18, 19, 20, 21] 0 [true, true, true, true, true, true, true, true, true, true, true, true, true, true, true, true, true, true, true, true, true, true] (by kernel_rfl) rfl rfl rfl (by kernel_rfl) ?_ | refine t_fin (n := 0) (listed := [true, true, true, true, true, true, true, true, true, true, true, true, true, true, true, true, true, true, true, true, true, true].toArray) (by kernel_rfl) ?_ | refine t_path (n := 7) (listed := [true, true, false, false, true, false, true, true, true, true, true, true, true, true, true, true, true, true, false, false, false, false].toArray) [18, 2, 3, 5, 19, 20, 21] 0 [true, true, true, true, true, true, true, true, true, true, true, true, true, true, true, true, true, true, true, true, true, true] (by kernel_rfl) rfl rfl rfl (by kernel_rfl) ?_ | (refine o_toString TtOk rfl rfl rfl rfl rfl (by first | exact True.intro | exact rfl) rfl rfl rfl (s := three s2.length) (three_row _) ?_) | (refine o_call0 rfl (hf1) ⟨SLe.of_eq rfl, True.intro⟩ rfl ?_; rintro _ _ ⟨rfl, rfl⟩; refine ⟨rfl, ?_⟩) | (refine o_call0 rfl (hf2) ⟨SLe.of_eq rfl, True.intro⟩ rfl ?_; rintro _ _ ⟨rfl, rfl⟩; refine ⟨rfl, ?_⟩) | (refine o_call0 rfl (hf3) ⟨SLe.of_eq rfl, True.intro⟩ rfl ?_; rintro _ _ ⟨rfl, rfl⟩; refine ⟨rfl, ?_⟩) | (refine o_call0 rfl (hf4) ⟨SLe.of_eq rfl, True.intro⟩ rfl ?_; rintro _ _ ⟨rfl, rfl⟩; refine ⟨rfl, ?_⟩) | (refine o_call0 rfl (hf5) ⟨SLe.of_eq rfl, True.intro⟩ rfl ?_; rintro _ _ ⟨rfl, rfl⟩; refine ⟨rfl, ?_⟩) | (refine o_call0 rfl (hw1) ⟨SLe.of_eq rfl, True.intro⟩ rfl ?_; rintro _ _ ⟨rfl, rfl⟩; refine ⟨rfl, ?_⟩) | (refine o_call0 rfl (hw2) ⟨SLe.of_eq rfl, True.intro⟩ rfl ?_; rintro _ _ ⟨rfl, rfl⟩; refine ⟨rfl, ?_⟩))
    all_goals
      subst htm
      refine end_all [] [] (.tup [.s (((text ++ s1) ++ s2) ++ three s2.length), .i .i64 0]) rfl ?_ ?_ (rle_tup2 (CLe.refl _) (CLe.refl _) rfl rfl) .nil ⟨rfl, rfl⟩ _ (.inl rfl)
      · repeat' (first | exact True.intro | exact rfl | refine ⟨?_, ?_⟩)
      · exact ⟨trivial, trivial, trivial⟩
end Go.Proofs.Ytdpljpnnjgefoaa
