/- journal.Open by rules. -/
import Derived.Test.YtfdcopbbnmialaaJ2Z
import Derived.Test.YtfdcopbbnmialaaJ3
import Derived.Test.YtfdcopbbnmialaaDK4
set_option maxHeartbeats 16000000
set_option maxRecDepth 100000
namespace Go.Proofs.Ytfdcopbbnmialaa
open Go Go.RowKit
theorem sallF_len : ∀ (k : Nat) (s : List UInt8), 8 * (sallF k s).1.length ≤ s.length
  | 0, s => by unfold sallF; exact Nat.zero_le _
  | k + 1, s => by
    unfold sallF
    split
    · next h =>
      have h1 := sopen_ok h
      have h2 := sallF_len k (s.drop (sopen s).2.1)
      rw [List.length_drop] at h2
      show 8 * (_ :: _).length ≤ _
      rw [List.length_cons]
      omega
    · exact Nat.zero_le _
/-- The bytes of a file. -/
def Dsk.byt (D : Dsk) (nm : List UInt8) : List UInt8 := match D.get nm with | some f => f.b | none => []
/-- A journal that is opened: what is read of segments, and which one takes the next texts. -/
def opnS (D : Dsk) (fm : Nat) (l : List Nat) : List (List UInt8) × Nat := l.foldl (fun a n => if n < fm then a else (a.1 ++ (sall (D.byt (nameN n))).1, n + 1)) ([], fm)
def jouO (bd bj now : Nat) : HO := .var bj (.agg [.ptr 0 bd [] 0, .i .i64 now])
theorem seg_get {D : Dsk} (hd : D.dead = false) {n : Nat} (h : n ∈ segN (listN D)) : (∃ f, D.get (nameN n) = some f ∧ f ∈ D.fs) ∧ n < 10000000000 := by
  unfold segN at h
  obtain ⟨s, hs, hn⟩ := List.mem_filterMap.1 h
  obtain ⟨rfl, hlt⟩ := name_num hn
  refine ⟨?_, hlt⟩
  unfold listN at hs
  rw [if_neg (by rw [hd]; decide)] at hs
  have h1 : nameN n ∈ D.fs.map (·.nm) := (List.mergeSort_perm _ _).mem_iff.1 hs
  obtain ⟨f, hf, hfn⟩ := List.mem_map.1 h1
  cases hg : D.get (nameN n) with
  | some g => exact ⟨g, rfl, (get_mem hg).1⟩
  | none =>
    have := List.find?_eq_none.1 hg f hf
    exact absurd (beq_iff_eq.2 hfn) this
theorem usedF_mem : ∀ {l : List Fil} {f : Fil}, f ∈ l → f.b.length ≤ usedF l
  | g :: r, f, h => by
    rw [usedF_cons]
    rcases List.mem_cons.1 h with rfl | h
    · omega
    · have := usedF_mem h; omega
theorem segN_len (l : List (List UInt8)) : (segN l).length ≤ l.length := List.length_filterMap_le ..
theorem step_bd {a b i K : Nat} (h1 : 8 * a ≤ i * K) (h2 : 8 * b ≤ K) : 8 * (a + b) ≤ (i + 1) * K := by
  rw [Nat.add_mul i 1 K]; omega
theorem jopen_spec (bd bm : Nat) (D : Dsk) (fm : Nat) (ok : D.ok) (hl : D.fs.length ≤ 100000) (hu : D.used ≤ 100000000) (hfm : fm ≤ 1073741824) (hdd : D.dead = false) : Spec Try.prog 5 [.ptr 0 bd [] 0, .i .i64 fm] (dskL bd bm D) (fun v os => ∃ bj, v = .tup [.ptr 3 bj [] 0, .sl 1 ((opnS D fm (segN (listN D))).1.map AV.s), .i .i64 0] ∧ os = dskL bd bm D ++ [jouO bd bj (opnS D fm (segN (listN D))).2]) := by
  have hsg := segs_spec bd bm D ok (by omega)
  have hdead := dead_spec bd D.room D.fuse (.map (some bm)) D.dead
  have hrd := fun n => dread_spec bd bm D (nameN n) (by omega) (by rw [nameN_len]; decide)
  have hmem := fun n => @seg_get D hdd n
  have hL : dskL bd bm D = [.var bd (.agg [.i .i64 D.room, .own 1 (.map (some bm)), .i .i64 D.fuse, .b D.dead]), .obj bm (mpO D.es D.clk), grpL (D.fs.map Fil.O)] := rfl
  have hll : (segN (listN D)).length ≤ 100000 := by
    refine Nat.le_trans (segN_len _) ?_
    unfold listN
    split
    · exact Nat.zero_le _
    · unfold sortN; rw [List.length_mergeSort, List.length_map]; exact hl
  have hby : ∀ n, (D.byt (nameN n)).length ≤ 100000000 := fun n => by
    unfold Dsk.byt
    cases hg : D.get (nameN n) with
    | none => exact Nat.zero_le _
    | some f => exact Nat.le_trans (usedF_mem (get_mem hg).1) hu
  have hrd2 : ∀ n ∈ segN (listN D), rdE D (nameN n) = (D.byt (nameN n), 0) := fun n hn => by
    obtain ⟨⟨f, hg, _⟩, _⟩ := hmem n hn
    unfold rdE Dsk.byt
    rw [if_neg (by rw [hdd]; decide), hg]
  have hlt : ∀ n ∈ segN (listN D), n < 10000000000 := fun n hn => (hmem n hn).2
  rw [hL] at hsg hrd ⊢
  rw [hdd] at hdead hsg hrd ⊢
  have hopn : ∀ (l : List Nat) (n : Nat), opnS D fm (l ++ [n]) = if n < fm then opnS D fm l else ((opnS D fm l).1 ++ (sall (D.byt (nameN n))).1, n + 1) := fun l n => by
    unfold opnS
    rw [List.foldl_append]; rfl
  have hop0 : opnS D fm [] = ([], fm) := rfl
  generalize segN (listN D) = L at hsg hll hrd2 hlt ⊢
  refine spec_of TtOk [(0, .var bd (.agg [.i .i64 D.room, .own 1 (.map (some bm)), .i .i64 D.fuse, .b false])), (1, .obj bm (mpO D.es D.clk)), (2, grpL (D.fs.map Fil.O))] Try.func5 rfl Try.ntmps5 (by kernel_rfl) rfl rfl (fun C => ?_) rfl
  repeat' (first | refine Awp.seq ?_ | refine Awp.block ?_ | refine Awp.region ?_ | (refine Ops.nil ?_; show Awp _ _ _ _ _) | (refine Awp.skip ?_; show Awp _ _ _ _ _) | refine o_len rfl TtOk rfl rfl rfl (fun _ => ?_) | (refine o_calm rfl TtOk rfl rfl rfl ?_ (fun _ => ?_); first | exact True.intro | exact ⟨rfl, rfl, rfl, rfl⟩ | exact ⟨rfl, True.intro⟩ | exact ⟨rfl, rfl⟩ | exact ⟨rfl, rfl, rfl⟩ | exact rfl | exact ⟨fun h0 => by cases h0, rfl⟩ | exact (fun h0 => by cases h0) | exact ⟨rfl, by omega⟩ | exact ⟨Nat.succ_ne_zero _, rfl⟩ | omega) | refine o_box (d := 26) rfl rfl rfl rfl (fun b26 => ?_) | refine o_build TtOk rfl rfl rfl rfl rfl rfl (by repeat' (first | exact True.intro | exact rfl | refine ⟨?_, ?_⟩)) ?_ | refine a_condF rfl ?_ | (refine a_condP rfl (fun hc => ?_) (fun hc => ?_)) <;> (try (exfalso; omega)) | (refine o_call [] [0] [0] rfl hdead ⟨sle_ptr, True.intro⟩ rfl ⟨HOLe.refl _, True.intro⟩ rfl rfl ?_; rintro _ _ ⟨rfl, rfl⟩; refine ⟨_, rfl, rfl, ?_⟩) | (refine o_call [] [0, 1, 2] [0, 1, 2] rfl hsg ⟨sle_ptr, True.intro⟩ rfl ⟨HOLe.refl _, HOLe.refl _, HOLe.refl _, True.intro⟩ rfl rfl ?_; rintro _ _ ⟨rfl, rfl⟩; refine ⟨_, rfl, rfl, ?_⟩))
  refine Awp.loop (fun q : Nat × Value => ⟨63, [(30, .i .i64 q.1), (29, .i .i64 L.length), (28, .sl 1 (L.map natA)), (8, .own 8 q.2), (7, .ptr 26 b26 [] 0), (0, .ptr 0 bd [] 0), (1, .i .i64 fm)], [(0, .var bd (.agg [.i .i64 D.room, .own 1 (.map (some bm)), .i .i64 D.fuse, .b false])), (1, .obj bm (mpO D.es D.clk)), (2, grpL (D.fs.map Fil.O)), (26, .var b26 (.agg [.ptr 0 bd [] 0, .i .i64 ((opnS D fm (L.take q.1)).2 : Nat)])), (8, .row q.2 9 1 ((opnS D fm (L.take q.1)).1.map AV.s))]⟩) (fun q => q.1 ≤ L.length ∧ 8 * (opnS D fm (L.take q.1)).1.length ≤ q.1 * 100000000) (fun q => L.length - q.1) [] (0, .slice none 0 0) ⟨Nat.zero_le _, by rw [List.take_zero, hop0]; exact Nat.zero_le _⟩ ?_ ?_
  · exact ⟨rfl, ⟨sle_i rfl, sle_i rfl, sle_sl rfl, sle_nilown, sle_ptr, sle_ptr, sle_i rfl, True.intro⟩, HLe.cons 0 rfl (HOLe.refl _) (HLe.cons 1 rfl (HOLe.refl _) (HLe.cons 2 rfl (HOLe.refl _) (HLe.cons 26 rfl (HOLe.refl _) (HLe.none .nil))))⟩
  rintro ⟨i, v⟩ ⟨hi, hln⟩
  dsimp only at hi hln ⊢
  by_cases hlt2 : i < L.length
  · have htk : L.take (i + 1) = L.take i ++ [L[i]] := by rw [List.take_succ_eq_append_getElem hlt2]
    have hop1 := hopn (L.take i) L[i]
    rw [← htk] at hop1
    have hnl := hlt _ (List.getElem_mem hlt2)
    have hr := hrd L[i]
    rw [hrd2 _ (List.getElem_mem hlt2)] at hr
    have hnm := name_spec L[i] hnl
    have hal := sall_spec (D.byt (nameN L[i])) (by have := hby L[i]; omega)
    have hbl := hby L[i]
    have hsl := sallF_len ((D.byt (nameN L[i])).length + 1) (D.byt (nameN L[i]))
    have hse : sall (D.byt (nameN L[i])) = sallF ((D.byt (nameN L[i])).length + 1) (D.byt (nameN L[i])) := rfl
    rw [← hse] at hsl
    generalize sall (D.byt (nameN L[i])) = A at hop1 hal hsl
    generalize D.byt (nameN L[i]) = B at hr hal hbl hsl
    obtain ⟨ts, at'⟩ := A
    dsimp only at hop1 hal hsl
    generalize hO : opnS D fm (L.take i) = O at hln hop1 ⊢
    obtain ⟨out, now⟩ := O
    dsimp only at hln hop1 ⊢
    have hb1 : 8 * out.length ≤ (i + 1) * 100000000 := step_bd (b := 0) hln (Nat.zero_le _)
    have hla : (out ++ ts).length = out.length + ts.length := List.length_append
    have hb2 : 8 * (out ++ ts).length ≤ (i + 1) * 100000000 := hla ▸ step_bd hln (Nat.le_trans hsl hbl)
    by_cases hf : L[i] < fm
    · rw [if_pos hf] at hop1
      repeat' (first | refine Awp.seq ?_ | refine Awp.block ?_ | refine Awp.region ?_ | (refine Ops.nil ?_; show Awp _ _ _ _ _) | (refine Ops.nil ?_; show Exists _) | (refine Awp.skip ?_; show Awp _ _ _ _ _) | (refine Awp.exit ?_; show Awp _ _ _ _ _) | (refine o_add rfl rfl rfl rfl ?_ ?_; omega) | (refine o_calm rfl TtOk rfl rfl rfl ?_ (fun _ => ?_); first | exact True.intro | exact ⟨rfl, rfl, rfl, rfl⟩ | exact ⟨rfl, True.intro⟩ | exact ⟨rfl, rfl⟩ | exact ⟨rfl, rfl, rfl⟩ | exact rfl | exact ⟨fun h0 => by cases h0, rfl⟩ | exact (fun h0 => by cases h0) | exact ⟨rfl, by omega⟩ | exact ⟨Nat.succ_ne_zero _, rfl⟩ | omega) | (refine o_index rfl TtOk rfl rfl rfl rfl rfl rfl ?_ (getq_nat ?_) ?_; omega; omega) | (refine a_condP rfl (fun hc => ?_) (fun hc => ?_)) <;> (try (exfalso; omega)))
      exact ⟨(i + 1, v), [], ⟨by show i + 1 ≤ L.length; omega, by show 8 * (opnS D fm (L.take (i + 1))).1.length ≤ (i + 1) * 100000000; rw [hop1]; exact hb1⟩, by show L.length - (i + 1) < L.length - i; omega, rfl, ⟨sle_i (by show (i : Int) + 1 = ((i + 1 : Nat) : Int); omega), sle_i rfl, sle_sl rfl, sle_own, sle_ptr, sle_ptr, sle_i rfl, True.intro⟩, by rw [hop1]; exact HLe.cons 0 rfl (HOLe.refl _) (HLe.cons 1 rfl (HOLe.refl _) (HLe.cons 2 rfl (HOLe.refl _) (HLe.cons 26 rfl (HOLe.refl _) (HLe.cons 8 rfl (HOLe.refl _) .nil))))⟩
    · rw [if_neg hf] at hop1
      repeat' (first | refine Awp.seq ?_ | refine Awp.block ?_ | refine Awp.region ?_ | (refine Ops.nil ?_; show Awp _ _ _ _ _) | (refine Ops.nil ?_; show Exists _) | (refine Awp.skip ?_; show Awp _ _ _ _ _) | (refine o_add rfl rfl rfl rfl ?_ ?_; omega) | (refine o_calm rfl TtOk rfl rfl rfl ?_ (fun _ => ?_); first | exact True.intro | exact ⟨rfl, rfl, rfl, rfl⟩ | exact ⟨rfl, True.intro⟩ | exact ⟨rfl, rfl⟩ | exact ⟨rfl, rfl, rfl⟩ | exact rfl | exact ⟨fun h0 => by cases h0, rfl⟩ | exact (fun h0 => by cases h0) | exact ⟨rfl, by omega⟩ | exact ⟨Nat.succ_ne_zero _, rfl⟩ | omega) | refine o_store TtOk rfl rfl rfl rfl rfl rfl rfl ⟨rfl, rfl⟩ rfl rfl rfl rfl rfl ?_ | (refine o_index rfl TtOk rfl rfl rfl rfl rfl rfl ?_ (getq_nat ?_) ?_; omega; omega) | (refine o_append TtOk rfl rfl rfl rfl rfl rfl rfl rfl rfl (by first | exact True.intro | exact rfl) rfl rfl (fun _ => rfl) ?_ ?_ (fun _ => ?_); ((repeat' (first | rw [List.length_append] | rw [List.length_map] | rw [List.length_cons] | rw [List.length_nil] | rw [List.length_take] | rw [List.length_drop])) <;> omega); ((repeat' (first | rw [List.length_append] | rw [List.length_map] | rw [List.length_cons] | rw [List.length_nil] | rw [List.length_take] | rw [List.length_drop])) <;> omega)) | refine a_condF rfl ?_ | (refine a_condP rfl (fun hc => ?_) (fun hc => ?_)) <;> (try (exfalso; omega)) | (refine o_call [] [0, 1, 2] [0, 1, 2] rfl hr ⟨sle_ptr, SLe.of_eq rfl, True.intro⟩ rfl ⟨HOLe.refl _, HOLe.refl _, HOLe.refl _, True.intro⟩ rfl rfl ?_; rintro _ _ ⟨rfl, rfl⟩; refine ⟨_, rfl, rfl, ?_⟩) | (refine o_call0 rfl (hnm) ⟨SLe.of_eq rfl, True.intro⟩ rfl ?_; rintro _ _ ⟨rfl, rfl⟩; refine ⟨rfl, ?_⟩) | (refine o_call0 rfl (hal) ⟨SLe.of_eq rfl, True.intro⟩ rfl ?_; rintro _ _ ⟨rfl, rfl⟩; refine ⟨rfl, ?_⟩))
      exact ⟨(i + 1, _), [], ⟨by show i + 1 ≤ L.length; omega, by show 8 * (opnS D fm (L.take (i + 1))).1.length ≤ (i + 1) * 100000000; rw [hop1]; exact hb2⟩, by show L.length - (i + 1) < L.length - i; omega, rfl, ⟨sle_i (by show (i : Int) + 1 = ((i + 1 : Nat) : Int); omega), sle_i rfl, sle_sl rfl, sle_own, sle_ptr, sle_ptr, sle_i rfl, True.intro⟩, by rw [hop1, List.map_append]; exact HLe.cons 0 rfl (HOLe.refl _) (HLe.cons 1 rfl (HOLe.refl _) (HLe.cons 2 rfl (HOLe.refl _) (HLe.cons 26 rfl (HOLe.refl _) (HLe.cons 8 rfl (HOLe.refl _) .nil))))⟩
  · have hS : L.take i = L := List.take_of_length_le (by omega)
    rw [hS] at hln ⊢
    repeat' (first | refine Awp.seq ?_ | refine Awp.region ?_ | (refine Ops.nil ?_; show Awp _ _ _ _ _) | (refine Awp.exit ?_; show Awp _ _ _ _ _) | (refine Awp.ret ?_; show endK _ _ _ _ _) | (refine o_calm rfl TtOk rfl rfl rfl ?_ (fun _ => ?_); first | exact True.intro | exact ⟨rfl, rfl, rfl, rfl⟩ | exact ⟨rfl, True.intro⟩ | exact ⟨rfl, rfl⟩ | exact ⟨rfl, rfl, rfl⟩ | exact rfl | exact ⟨fun h0 => by cases h0, rfl⟩ | exact (fun h0 => by cases h0) | exact ⟨rfl, by omega⟩ | exact ⟨Nat.succ_ne_zero _, rfl⟩ | omega) | (refine a_condP rfl (fun hc => ?_) (fun hc => ?_)) <;> (try (exfalso; omega)))
    all_goals
      refine end_all [8] [(0, _), (1, _), (2, _), (3, _)] (.tup [.ptr 3 b26 [] 0, .sl 1 ((opnS D fm L).1.map AV.s), .i .i64 0]) rfl ?_ ?_ (rle_tup3 CLe.ptr (CLe.fz (.head _)) (CLe.of_eq rfl) rfl rfl rfl) (HLe.cons 0 rfl (HOLe.refl _) (HLe.cons 1 rfl (HOLe.refl _) (HLe.cons 2 rfl (HOLe.refl _) (HLe.cons 26 rfl (HOLe.refl _) .nil)))) ⟨b26, rfl, rfl⟩ _ (.inl rfl)
      · repeat' (first | exact True.intro | exact rfl | refine ⟨?_, ?_⟩)
      · exact ⟨trivial, trivial, trivial, trivial⟩
end Go.Proofs.Ytfdcopbbnmialaa
