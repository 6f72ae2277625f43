/- table.Table.footer, table.Open by rules: of bytes that were made. -/
import Derived.Test.YtdpljpnnjgefoaaT8
import Derived.Test.YtdpljpnnjgefoaaT4
import Derived.Test.YtdpljpnnjgefoaaKIZ
import Derived.Test.YtdpljpnnjgefoaaB7
set_option maxHeartbeats 16000000
set_option maxRecDepth 100000
namespace Go.Proofs.Ytdpljpnnjgefoaa
open Go Go.RowKit
theorem three_n3 (n : Nat) (h : n < 16777216) : n3 (UInt8.ofNat (n / 65536)) (UInt8.ofNat (n / 256)) (UInt8.ofNat n) = n := by
  unfold n3; rw [ofNat_toNat, ofNat_toNat, ofNat_toNat]; omega
theorem getq_c {α : Type} {xs : List α} {i : Int} {x : α} (m : Nat) (h : i = m) (hq : xs[m]? = some x) : xs[i.toNat]? = some x := by subst h; exact hq
theorem app3 (A : List UInt8) (a b c : UInt8) : (A ++ [a, b, c])[A.length]? = some a ∧ (A ++ [a, b, c])[A.length + 1]? = some b ∧ (A ++ [a, b, c])[A.length + 2]? = some c := by
  refine ⟨?_, ?_, ?_⟩
  · rw [List.getElem?_append_right (Nat.le_refl _), Nat.sub_self]; rfl
  · rw [List.getElem?_append_right (by omega), show A.length + 1 - A.length = 1 by omega]; rfl
  · rw [List.getElem?_append_right (by omega), show A.length + 2 - A.length = 2 by omega]; rfl
def tbT (l : List Etr) (ps : List Part) (s : List UInt8) : Tab := ⟨s, ps, 7, mkF (keyL l) 10, l.length, hdK l⟩
/-- What the end of a table says, read. -/
theorem foot_reads (l : List Etr) (text : List UInt8) (hl : l.length ≤ 300) (hm : ∀ e ∈ l, e.k.length ≤ 110 ∧ e.v.length ≤ 4010) (ht : text.length ≤ 100000000) :
    (RS.open (footB l text)).ok ∧ ∃ r1 r2 r3 r4, (RS.open (footB l text)).number = (text.length, r1) ∧ r1.ok ∧ r1.text = (filB l, r2) ∧ r2.ok ∧ r2.number = (l.length, r3) ∧ r3.ok ∧ r3.text = (hdK l, r4) ∧ r4.done = 0 := by
  have hfl := footB_len l text hl hm (by omega)
  have hok0 := RS.ok_open (s := footB l text) (by omega)
  have hr0 : RS.open (footB l text) = ⟨footB l text, 0, 0⟩ := by unfold RS.open; rw [if_neg (by omega)]
  have hrr : (RS.open (footB l text)).rest = numBytes text.length ++ (txB (filB l) ++ (numBytes l.length ++ (txB (hdK l) ++ []))) := by
    rw [hr0]; show footB l text = _; unfold footB; rw [List.append_nil, List.append_assoc, List.append_assoc]
  have h1 := filB_len l hl
  have h2 := hdK_len l hm
  obtain ⟨r1, a1, b1, c1, d1⟩ := num_at (by rw [hr0]) hok0 (by omega) hrr
  obtain ⟨r2, a2, b2, c2, d2⟩ := txt_at b1 c1 (by omega) d1
  obtain ⟨r3, a3, b3, c3, d3⟩ := num_at b2 c2 (by omega) d2
  obtain ⟨r4, a4, b4, c4, d4⟩ := txt_at b3 c3 (by omega) d3
  exact ⟨hok0, r1, r2, r3, r4, a1, c1, a2, c2, a3, c3, a4, done_end b4 d4⟩
theorem tfooter_spec (b : Nat) (l : List Etr) (text : List UInt8) (ps : List Part) (hl : l.length ≤ 300) (hm : ∀ e ∈ l, e.k.length ≤ 110 ∧ e.v.length ≤ 4010) (ht : text.length ≤ 90000000)
    (hp : PsOk ps text.length) (hc : ps.length ≤ l.length) (hil : (numBytes ps.length ++ psB ps).length ≤ 65536) (s : List UInt8) (hs : s = tout l (numBytes ps.length ++ psB ps) text) :
    Spec Try.prog 39 [.ptr 0 b [] 0] [.var b (.agg [.s s, .nil, flA 0 [], .i .i64 0, .s []])] (fun v os => v = .tup [.i .i64 text.length, .i .i64 0] ∧ ∃ vp, os = [.var b (.agg [.s s, .own 1 vp, flA (7 : Nat) (mkF (keyL l) 10), .i .i64 l.length, .s (hdK l)]), .row vp 81 2 (ps.map partA)]) := by
  refine spec_of TtOk [(0, .var b (.agg [.s s, .nil, flA 0 [], .i .i64 0, .s []]))] Try.func39 rfl Try.ntmps39 (by kernel_rfl) rfl rfl (fun C => ?_) rfl
  have hfl := footB_len l text hl hm (by omega)
  obtain ⟨ok0, r1, r2, r3, r4, n1, ok1, n2, ok2, n3', ok3, n4, dn⟩ := foot_reads l text hl hm (by omega)
  have hix := fun b => tindex_spec b s (mkF (keyL l) 10) (hdK l) 7 l.length text.length ps hp hc (by omega) (by omega) hil
  have hwl1 := sealWrap_len (numBytes ps.length ++ psB ps)
  have hwl2 := sealWrap_len (footB l text)
  generalize hI : numBytes ps.length ++ psB ps = idx at *
  have ho1 := sopen_wrap (footB l text) [] (by omega)
  have ho2 := sopen_wrap idx [] (by omega)
  rw [List.append_nil] at ho1 ho2
  unfold tout at hs
  have hfr := fread_fbytes (fil_good l hl)
  rw [fil_bytes l hl] at hfr
  have hfs := fread_spec (filB l) (by have := filB_len l hl; omega)
  rw [hfr] at hfs
  dsimp only at hfs
  generalize footB l text = ft at *
  generalize mkF (keyL l) 10 = F at *
  generalize filB l = fB at *
  generalize hdK l = hK at *
  have hS1 := sopen_spec (sealWrap ft) (by omega)
  have hS2 := sopen_spec (sealWrap idx) (by omega)
  rw [ho1] at hS1
  rw [ho2] at hS2
  dsimp only at hS1 hS2
  have hRO := ropen_spec ft
  have hN1 := fun b => rnumber_spec b (RS.open ft) ok0
  rw [n1] at hN1
  have hT1 := fun b => rtext_spec b r1 ok1
  rw [n2] at hT1
  have hN2 := fun b => rnumber_spec b r2 ok2
  rw [n3'] at hN2
  have hT2 := fun b => rtext_spec b r3 ok3
  rw [n4] at hT2
  have hD := fun b => rdone_spec b r4
  rw [dn] at hD
  dsimp only at hN1 hT1 hN2 hT2 hD
  generalize RS.open ft = r0 at hRO hN1
  generalize sealWrap ft = SF at *
  generalize sealWrap idx = SI at *
  have hsl : s.length = text.length + SI.length + SF.length + 3 := by rw [hs]; simp [three, Nat.add_assoc]
  have hthree := three_n3 SF.length (by omega)
  have hAl : (text ++ SI ++ SF).length = text.length + SI.length + SF.length := by rw [List.length_append, List.length_append]
  obtain ⟨g0, g1, g2⟩ := app3 (text ++ SI ++ SF) (UInt8.ofNat (SF.length / 65536)) (UInt8.ofNat (SF.length / 256)) (UInt8.ofNat SF.length)
  have hs3 : s = (text ++ SI ++ SF) ++ [UInt8.ofNat (SF.length / 65536), UInt8.ofNat (SF.length / 256), UInt8.ofNat SF.length] := hs
  rw [← hs3, hAl] at g0 g1 g2
  clear hs3
  have c1 : (s.take (text.length + SI.length + SF.length)).drop (text.length + SI.length) = SF := by
    rw [hs, List.take_append_of_le_length (by simp; omega), List.take_of_length_le (by simp; omega), List.drop_append_of_le_length (by simp), List.drop_of_length_le (by simp)]; rfl
  have c2 : (s.take (text.length + SI.length)).drop text.length = SI := by
    rw [hs, List.append_assoc, List.append_assoc, ← List.append_assoc text, List.take_append_of_le_length (by simp), List.take_of_length_le (by simp), List.drop_left]
  clear hs
  generalize UInt8.ofNat (SF.length / 65536) = x0 at *
  generalize UInt8.ofNat (SF.length / 256) = x1 at *
  generalize UInt8.ofNat SF.length = x2 at *
  have hn3 := n3_eq x0 x1 x2
  rw [hthree] at hn3
  clear hthree ho1 ho2 hfr n1 n2 n3' n4 dn hAl
  repeat' (first | (rw [hn3]) | refine Awp.seq ?_ | refine Awp.region ?_ | (refine Ops.nil ?_; show Awp _ _ _ _ _) | (refine Ops.nil ?_; show Exists _) | (refine Ops.nil ?_; show endK _ _ _ _ _) | (refine Awp.skip ?_; show Awp _ _ _ _ _) | (refine Awp.skip ?_; show endK _ _ _ _ _) | (refine Awp.skip ?_; show Exists _) | (refine Awp.ret ?_; show endK _ _ _ _ _) | (refine o_add rfl rfl rfl rfl ?_ ?_; omega) | (refine o_sub rfl rfl rfl rfl ?_ ?_; omega) | refine o_len rfl TtOk rfl rfl rfl (fun _ => ?_) | refine o_lenOwn rfl TtOk rfl rfl rfl rfl (fun _ => ?_) | refine o_convB rfl TtOk rfl rfl rfl rfl ?_ | (refine o_conv64 rfl TtOk rfl rfl rfl rfl ?_ ?_; omega) | (refine o_calm rfl TtOk rfl rfl rfl ?_ (fun _ => ?_); first | exact True.intro | exact ⟨rfl, rfl, rfl, rfl⟩ | exact ⟨rfl, True.intro⟩ | exact ⟨rfl, rfl⟩ | exact ⟨rfl, rfl, rfl⟩ | exact rfl | exact ⟨fun h0 => by cases h0, rfl⟩ | exact (fun h0 => by cases h0) | exact ⟨rfl, by omega⟩ | exact ⟨Nat.succ_ne_zero _, rfl⟩ | omega) | refine o_store TtOk rfl rfl rfl rfl rfl rfl rfl ⟨rfl, rfl⟩ rfl rfl rfl rfl rfl ?_ | (refine o_indexStr TtOk rfl rfl rfl rfl rfl ?_ (getq_nat ?_) ?_; omega; omega) | (refine o_calm rfl TtOk rfl rfl rfl ?_ (fun _ => ?_); (show List.length _ + List.length _ ≤ 9223372036854775807; (try simp only [List.length_append, List.length_cons, List.length_nil]); omega)) | refine o_sliceCp TtOk rfl rfl rfl rfl rfl rfl ?_ | refine o_toBytes TtOk rfl rfl rfl rfl rfl rfl ?_ | refine a_condT rfl ?_ | refine a_condF rfl ?_ | (refine a_condP rfl (fun hc => ?_) (fun hc => ?_)) <;> (try (exfalso; omega)) | (refine a_condI rfl (fun hc => ?_) (fun hc => ?_)) <;> (try (exfalso; omega)) | (refine a_condN rfl (fun hc => ?_) (fun hc => ?_)) <;> (try (exfalso; omega)) | (refine Awp.cond rfl (fun hc => ?_) (fun hc => ?_)) | refine o_toString TtOk rfl rfl rfl rfl rfl (by first | exact True.intro | exact rfl) rfl rfl rfl rfl ?_ | (refine a_any 4 [] [] [] [0, 1, 2, 4, 8, 9, 10, 12, 13, 18, 19, 20, 22, 23, 3, 5, 6, 7, 11, 14, 15, 16, 17, 21, 24, 25, 26, 27] (by kernel_rfl) (by kernel_rfl) (by kernel_rfl) rfl rfl rfl ?_; (try dsimp only [List.getElem_toArray, List.getElem_cons_zero, List.getElem_cons_succ])) | (refine o_indexStr TtOk rfl rfl rfl rfl rfl ?_ (getq_c (text.length+SI.length+SF.length) ?_ g0) ?_; omega; omega) | (refine o_indexStr TtOk rfl rfl rfl rfl rfl ?_ (getq_c (text.length+SI.length+SF.length+1) ?_ g1) ?_; omega; omega) | (refine o_indexStr TtOk rfl rfl rfl rfl rfl ?_ (getq_c (text.length+SI.length+SF.length+2) ?_ g2) ?_; omega; omega) | (refine o_sliceStr TtOk rfl (text.length+SI.length) (text.length+SI.length+SF.length) rfl rfl rfl (bnd_some rfl ?_) (bnd_some rfl ?_) ?_ ?_ ?_; omega; omega; omega; omega; rw [c1]) | (refine o_sliceStr TtOk rfl text.length (text.length+SI.length) rfl rfl rfl (bnd_some rfl ?_) (bnd_some rfl ?_) ?_ ?_ ?_; omega; omega; omega; omega; rw [c2]) | (refine o_callN rfl hRO ⟨SLe.of_eq rfl, True.intro⟩ rfl (fun bN => ?_)) | (refine o_call [] [0] [0, 1] rfl (hix _) ⟨sle_ptr, SLe.of_eq rfl, SLe.of_eq rfl, True.intro⟩ rfl ⟨HOLe.refl _, True.intro⟩ rfl rfl ?_; rintro _ _ ⟨rfl, vp, rfl⟩; refine ⟨_, rfl, rfl, ?_⟩) | (refine o_call0 rfl (hS1) ⟨SLe.of_eq rfl, True.intro⟩ rfl ?_; rintro _ _ ⟨rfl, rfl⟩; refine ⟨rfl, ?_⟩) | (refine o_call0 rfl (hS2) ⟨SLe.of_eq rfl, True.intro⟩ rfl ?_; rintro _ _ ⟨rfl, rfl⟩; refine ⟨rfl, ?_⟩) | (refine o_call0 rfl (hfs) ⟨SLe.of_eq rfl, True.intro⟩ rfl ?_; rintro _ _ ⟨rfl, rfl⟩; refine ⟨rfl, ?_⟩) | (refine o_callP rfl rfl rfl rfl (hN1 _) ⟨sle_ptr, True.intro⟩ (HOLe.refl _) rfl rfl ?_; rintro _ _ ⟨rfl, rfl⟩; refine ⟨_, rfl, _, rfl, ?_⟩) | (refine o_callP rfl rfl rfl rfl (hT1 _) ⟨sle_ptr, True.intro⟩ (HOLe.refl _) rfl rfl ?_; rintro _ _ ⟨rfl, rfl⟩; refine ⟨_, rfl, _, rfl, ?_⟩) | (refine o_callP rfl rfl rfl rfl (hN2 _) ⟨sle_ptr, True.intro⟩ (HOLe.refl _) rfl rfl ?_; rintro _ _ ⟨rfl, rfl⟩; refine ⟨_, rfl, _, rfl, ?_⟩) | (refine o_callP rfl rfl rfl rfl (hT2 _) ⟨sle_ptr, True.intro⟩ (HOLe.refl _) rfl rfl ?_; rintro _ _ ⟨rfl, rfl⟩; refine ⟨_, rfl, _, rfl, ?_⟩) | (refine o_callP rfl rfl rfl rfl (hD _) ⟨sle_ptr, True.intro⟩ (HOLe.refl _) rfl rfl ?_; rintro _ _ ⟨rfl, rfl⟩; refine ⟨_, rfl, _, rfl, ?_⟩))
  refine end_all [] [(0, _), (1, _)] (.tup [.i .i64 text.length, .i .i64 0]) rfl ?_ ?_ (rle_tup2 (CLe.refl _) (CLe.refl _) rfl rfl) (HLe.same rfl (HOLe.refl _) (HLe.same rfl (HOLe.refl _) .nil)) ⟨rfl, vp, rfl⟩ _ (.inl rfl)
  · repeat' (first | exact True.intro | exact rfl | refine ⟨?_, ?_⟩)
  · exact ⟨trivial, trivial, trivial⟩
theorem topen_spec (l : List Etr) (text : List UInt8) (ps : List Part) (hl : l.length ≤ 300) (hm : ∀ e ∈ l, e.k.length ≤ 110 ∧ e.v.length ≤ 4010) (ht : text.length ≤ 90000000)
    (hp : PsOk ps text.length) (hc : ps.length ≤ l.length) (hil : (numBytes ps.length ++ psB ps).length ≤ 65536) (s : List UInt8) (hs : s = tout l (numBytes ps.length ++ psB ps) text) :
    Spec Try.prog 11 [.s s] [] (fun v os => v = .tup [.cp (tabA (tbT l ps s)), .i .i64 0] ∧ os = []) := by
  refine spec_of TtOk [] Try.func11 rfl Try.ntmps11 (by kernel_rfl) rfl rfl (fun C => ?_) rfl
  have hft := fun b => tfooter_spec b l text ps hl hm ht hp hc hil s hs
  have hT : tabA (tbT l ps s) = .agg [.s s, .sl 2 (ps.map partA), flA (7 : Nat) (mkF (keyL l) 10), .i .i64 l.length, .s (hdK l)] := rfl
  rw [hT]
  generalize mkF (keyL l) 10 = F at hft ⊢
  generalize hdK l = hK at hft ⊢
  repeat' (first | refine Awp.seq ?_ | refine Awp.region ?_ | (refine Ops.nil ?_; show Awp _ _ _ _ _) | (refine Ops.nil ?_; show Exists _) | (refine Ops.nil ?_; show endK _ _ _ _ _) | (refine Awp.skip ?_; show Awp _ _ _ _ _) | (refine Awp.skip ?_; show endK _ _ _ _ _) | (refine Awp.skip ?_; show Exists _) | (refine Awp.ret ?_; show endK _ _ _ _ _) | (refine o_calm rfl TtOk rfl rfl rfl ?_ (fun _ => ?_); first | exact True.intro | exact ⟨rfl, rfl, rfl, rfl⟩ | exact ⟨rfl, True.intro⟩ | exact ⟨rfl, rfl⟩ | exact ⟨rfl, rfl, rfl⟩ | exact rfl | exact ⟨fun h0 => by cases h0, rfl⟩ | exact (fun h0 => by cases h0) | exact ⟨rfl, by omega⟩ | exact ⟨Nat.succ_ne_zero _, rfl⟩ | omega) | refine o_box (d := 9) rfl rfl rfl rfl (fun b9 => ?_) | refine o_build TtOk rfl rfl rfl rfl rfl rfl (by repeat' (first | exact True.intro | exact rfl | refine ⟨?_, ?_⟩)) ?_ | refine o_buildArr0 TtOk rfl rfl rfl rfl ?_ | refine a_condT rfl ?_ | refine a_condF rfl ?_ | (refine a_condP rfl (fun hc => ?_) (fun hc => ?_)) <;> (try (exfalso; omega)) | (refine a_condI rfl (fun hc => ?_) (fun hc => ?_)) <;> (try (exfalso; omega)) | (refine a_condN rfl (fun hc => ?_) (fun hc => ?_)) <;> (try (exfalso; omega)) | (refine Awp.cond rfl (fun hc => ?_) (fun hc => ?_)))
  refine o_call [] [9] [9, 1] rfl (hft _) ⟨sle_ptr, True.intro⟩ rfl ⟨HOLe.var (CLe.agg (.cons (CLe.refl _) (.cons (CLe.refl _) (.cons (CLe.agg (.cons (CLe.refl _) (.cons CLe.nilsl .nil))) (.cons (CLe.refl _) (.cons (CLe.refl _) .nil)))))), True.intro⟩ rfl rfl ?_
  rintro _ _ ⟨rfl, vp, rfl⟩; refine ⟨_, rfl, rfl, ?_⟩
  refine Ops.weaken [1] (S' := ⟨19, [(12, .tup [.i .i64 text.length, .i .i64 0]), (4, .ptr 9 b9 [] 0)], [(9, .var b9 (.agg [.s s, .sl 2 (ps.map partA), flA (7 : Nat) F, .i .i64 l.length, .s hK]))]⟩) ⟨rfl, ⟨SLe.of_eq rfl, sle_ptr, True.intro⟩, HLe.cons 9 rfl (HOLe.var (CLe.agg (.cons (CLe.refl _) (.cons (CLe.fz (.head _)) (.cons (CLe.refl _) (.cons (CLe.refl _) (.cons (CLe.refl _) .nil))))))) .nil⟩ ?_
  repeat' (first | (refine a_freezeV 9 4 rfl rfl rfl ?_) | refine Awp.seq ?_ | refine Awp.region ?_ | (refine Ops.nil ?_; show Awp _ _ _ _ _) | (refine Ops.nil ?_; show Exists _) | (refine Ops.nil ?_; show endK _ _ _ _ _) | (refine Awp.skip ?_; show Awp _ _ _ _ _) | (refine Awp.skip ?_; show endK _ _ _ _ _) | (refine Awp.skip ?_; show Exists _) | (refine Awp.ret ?_; show endK _ _ _ _ _) | (refine o_calm rfl TtOk rfl rfl rfl ?_ (fun _ => ?_); first | exact True.intro | exact ⟨rfl, rfl, rfl, rfl⟩ | exact ⟨rfl, True.intro⟩ | exact ⟨rfl, rfl⟩ | exact ⟨rfl, rfl, rfl⟩ | exact rfl | exact ⟨fun h0 => by cases h0, rfl⟩ | exact (fun h0 => by cases h0) | exact ⟨rfl, by omega⟩ | exact ⟨Nat.succ_ne_zero _, rfl⟩ | omega) | refine o_box (d := 9) rfl rfl rfl rfl (fun b9 => ?_) | refine o_build TtOk rfl rfl rfl rfl rfl rfl (by repeat' (first | exact True.intro | exact rfl | refine ⟨?_, ?_⟩)) ?_ | refine o_buildArr0 TtOk rfl rfl rfl rfl ?_ | refine a_condT rfl ?_ | refine a_condF rfl ?_ | (refine a_condP rfl (fun hc => ?_) (fun hc => ?_)) <;> (try (exfalso; omega)) | (refine a_condI rfl (fun hc => ?_) (fun hc => ?_)) <;> (try (exfalso; omega)) | (refine a_condN rfl (fun hc => ?_) (fun hc => ?_)) <;> (try (exfalso; omega)) | (refine Awp.cond rfl (fun hc => ?_) (fun hc => ?_)))
  refine end_all [] [] (.tup [.cp (.agg [.s s, .sl 2 (ps.map partA), flA (7 : Nat) F, .i .i64 l.length, .s hK]), .i .i64 0]) rfl ?_ ?_ (rle_tup2 (CLe.refl _) (CLe.refl _) rfl rfl) .nil ⟨rfl, rfl⟩ _ (.inl rfl)
  · repeat' (first | exact True.intro | exact rfl | refine ⟨?_, ?_⟩)
  · exact ⟨trivial, trivial, trivial⟩
end Go.Proofs.Ytdpljpnnjgefoaa
