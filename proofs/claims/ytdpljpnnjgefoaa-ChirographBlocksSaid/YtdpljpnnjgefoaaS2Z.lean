/- seal.Wrap, ref04.four, ref04.Wrap by rules. -/
import Derived.Test.YtdpljpnnjgefoaaB2Z
import Derived.Test.YtdpljpnnjgefoaaKWZ
set_option maxHeartbeats 4000000
set_option maxRecDepth 100000
namespace Go.Proofs.Ytdpljpnnjgefoaa
open Go Go.RowKit
theorem shrI64 (n : Nat) {k : Nat} (hk : k ≤ 64) : (n : Int).fdiv (2 ^ (min ((k : Int)).toNat (IntKind.bits .i64))) = ((n / 2 ^ k : Nat) : Int) := by
  rw [show min ((k : Int)).toNat (IntKind.bits .i64) = k by rw [show IntKind.bits .i64 = 64 from rfl]; omega, fdiv_pow]
theorem four_row (x : Nat) : [AV.i .u8 (IntKind.u8.wrap ((x : Int).fdiv (2 ^ (min (Int.toNat 24) (IntKind.bits .u32))))), AV.i .u8 (IntKind.u8.wrap ((x : Int).fdiv (2 ^ (min (Int.toNat 16) (IntKind.bits .u32))))), AV.i .u8 (IntKind.u8.wrap ((x : Int).fdiv (2 ^ (min (Int.toNat 8) (IntKind.bits .u32))))), AV.i .u8 (IntKind.u8.wrap (x : Int))] = (four x).map byA := by
  have e1 : (x : Int).fdiv (2 ^ (min (Int.toNat 24) (IntKind.bits .u32))) = ((x / 16777216 : Nat) : Int) := shr32 x (k := 24) (by decide)
  have e2 : (x : Int).fdiv (2 ^ (min (Int.toNat 16) (IntKind.bits .u32))) = ((x / 65536 : Nat) : Int) := shr32 x (k := 16) (by decide)
  have e3 : (x : Int).fdiv (2 ^ (min (Int.toNat 8) (IntKind.bits .u32))) = ((x / 256 : Nat) : Int) := shr32 x (k := 8) (by decide)
  rw [e1, e2, e3, byA_nat, byA_nat, byA_nat, byA_nat]; rfl
theorem head_row (x : Nat) : [AV.i .u8 94, AV.i .u8 (IntKind.u8.wrap ((x : Int).fdiv (2 ^ (min (Int.toNat 16) (IntKind.bits .i64))))), AV.i .u8 (IntKind.u8.wrap ((x : Int).fdiv (2 ^ (min (Int.toNat 8) (IntKind.bits .i64))))), AV.i .u8 (IntKind.u8.wrap (x : Int))] = (sealHead x).map byA := by
  have e2 : (x : Int).fdiv (2 ^ (min (Int.toNat 16) (IntKind.bits .i64))) = ((x / 65536 : Nat) : Int) := shrI64 x (k := 16) (by decide)
  have e3 : (x : Int).fdiv (2 ^ (min (Int.toNat 8) (IntKind.bits .i64))) = ((x / 256 : Nat) : Int) := shrI64 x (k := 8) (by decide)
  rw [e2, e3, byA_nat, byA_nat, byA_nat]; rfl
theorem head_len (n : Nat) : (sealHead n).length = 4 := rfl
theorem four_len (n : Nat) : (four n).length = 4 := rfl
def swrap (s : List UInt8) : List UInt8 × Int := if 65536 < s.length then ([], 2) else (sealWrap s, 0)
theorem wrap_spec (s : List UInt8) (hs : s.length ≤ 1000000000) : Spec Try.prog 27 [.s s] [] (fun v os => v = .tup [.s (swrap s).1, .i .i64 (swrap s).2] ∧ os = []) := by
  refine spec_of TtOk [] Try.func27 rfl Try.ntmps27 (by kernel_rfl) rfl rfl (fun C => ?_) rfl
  have hwr : sealWrap s = sealHead s.length ++ four (crc (sealHead s.length ++ s)) ++ s := rfl
  have hhl := head_len s.length
  have hck := check_spec (sealHead s.length ++ s) (by rw [List.length_append]; omega)
  have hfl := four_len (crc (sealHead s.length ++ s))
  have hcl := crc_lt (sealHead s.length ++ s)
  repeat' (first | refine Awp.seq ?_ | refine Awp.region ?_ | (refine Ops.nil ?_; show Awp _ _ _ _ _) | (refine Ops.nil ?_; show Exists _) | (refine Ops.nil ?_; show endK _ _ _ _ _) | (refine Awp.skip ?_; show Awp _ _ _ _ _) | (refine Awp.skip ?_; show endK _ _ _ _ _) | (refine Awp.skip ?_; show Exists _) | (refine Awp.ret ?_; show endK _ _ _ _ _) | (refine o_add rfl rfl rfl rfl ?_ ?_; omega) | refine o_len rfl TtOk rfl rfl rfl (fun _ => ?_) | refine o_lenOwn rfl TtOk rfl rfl rfl rfl (fun _ => ?_) | refine o_convB rfl TtOk rfl rfl rfl rfl ?_ | (refine o_conv64 rfl TtOk rfl rfl rfl rfl ?_ ?_; omega) | (refine o_calm rfl TtOk rfl rfl rfl ?_ (fun _ => ?_); first | exact True.intro | exact ⟨rfl, rfl, rfl, rfl⟩ | exact ⟨rfl, True.intro⟩ | exact ⟨rfl, rfl⟩ | exact ⟨rfl, rfl, rfl⟩ | exact rfl | exact ⟨fun h0 => by cases h0, rfl⟩ | exact (fun h0 => by cases h0) | exact ⟨rfl, by omega⟩ | exact ⟨Nat.succ_ne_zero _, rfl⟩ | omega) | (refine o_calm rfl TtOk rfl rfl rfl ?_ (fun _ => ?_); (show List.length _ + List.length _ ≤ 9223372036854775807; (try simp only [List.length_append, List.length_cons, List.length_nil]); omega)) | refine o_buildSlice TtOk rfl rfl rfl rfl rfl rfl rfl rfl rfl rfl rfl (by repeat' (first | exact True.intro | exact rfl | refine ⟨?_, ?_⟩)) (fun _ => ?_) | (refine o_append TtOk rfl rfl rfl rfl rfl rfl rfl rfl rfl (by first | exact True.intro | exact rfl) rfl rfl (fun _ => rfl) ?_ ?_ (fun _ => ?_); (simp only [List.length_map, List.length_cons, List.length_nil, List.length_append, List.length_take, List.length_drop]; omega); (simp only [List.length_map, List.length_cons, List.length_nil, List.length_append, List.length_take, List.length_drop]; omega)) | (refine o_appendStr TtOk rfl rfl rfl rfl rfl rfl rfl rfl rfl (fun _ => rfl) ?_ (fun _ => ?_); (simp only [List.length_map, List.length_cons, List.length_nil, List.length_append, List.length_take, List.length_drop]; omega)) | refine o_toBytes TtOk rfl rfl rfl rfl rfl rfl ?_ | refine a_condT rfl ?_ | refine a_condF rfl ?_ | (refine a_condP rfl (fun hc => ?_) (fun hc => ?_)) <;> (try (exfalso; omega)) | (refine a_condI rfl (fun hc => ?_) (fun hc => ?_)) <;> (try (exfalso; omega)) | (refine a_condN rfl (fun hc => ?_) (fun hc => ?_)) <;> (try (exfalso; omega)) | (refine Awp.cond rfl (fun hc => ?_) (fun hc => ?_)) | refine o_toString TtOk rfl rfl rfl rfl rfl (by first | exact True.intro | exact rfl) rfl rfl rfl rfl ?_)
  · have hsw : swrap s = ([], 2) := by unfold swrap; rw [if_pos (by omega)]
    rw [hsw]
    refine end_all [] [] (.tup [.s [], .i .i64 2]) rfl ?_ ?_ (rle_tup2 (CLe.refl _) (CLe.refl _) rfl rfl) .nil ⟨rfl, rfl⟩ _ (.inl rfl)
    · repeat' (first | exact True.intro | exact rfl | refine ⟨?_, ?_⟩)
    · exact ⟨trivial, trivial, trivial⟩
  · have hsw : swrap s = (sealWrap s, 0) := by unfold swrap; rw [if_neg (by omega)]
    rw [hsw, hwr, head_row]
    generalize sealHead s.length = hd at hhl hck hfl hcl ⊢
    generalize crc (hd ++ s) = x at hck hfl hcl ⊢
    repeat' (first | refine Awp.seq ?_ | refine Awp.region ?_ | (refine Ops.nil ?_; show Awp _ _ _ _ _) | (refine Ops.nil ?_; show Exists _) | (refine Ops.nil ?_; show endK _ _ _ _ _) | (refine Awp.skip ?_; show Awp _ _ _ _ _) | (refine Awp.skip ?_; show endK _ _ _ _ _) | (refine Awp.skip ?_; show Exists _) | (refine Awp.ret ?_; show endK _ _ _ _ _) | (refine o_add rfl rfl rfl rfl ?_ ?_; omega) | refine o_len rfl TtOk rfl rfl rfl (fun _ => ?_) | refine o_lenOwn rfl TtOk rfl rfl rfl rfl (fun _ => ?_) | refine o_convB rfl TtOk rfl rfl rfl rfl ?_ | (refine o_conv64 rfl TtOk rfl rfl rfl rfl ?_ ?_; omega) | (refine o_calm rfl TtOk rfl rfl rfl ?_ (fun _ => ?_); first | exact True.intro | exact ⟨rfl, rfl, rfl, rfl⟩ | exact ⟨rfl, True.intro⟩ | exact ⟨rfl, rfl⟩ | exact ⟨rfl, rfl, rfl⟩ | exact rfl | exact ⟨fun h0 => by cases h0, rfl⟩ | exact (fun h0 => by cases h0) | exact ⟨rfl, by omega⟩ | exact ⟨Nat.succ_ne_zero _, rfl⟩ | omega) | (refine o_calm rfl TtOk rfl rfl rfl ?_ (fun _ => ?_); (show List.length _ + List.length _ ≤ 9223372036854775807; (try simp only [List.length_append, List.length_cons, List.length_nil]); omega)) | refine o_buildSlice TtOk rfl rfl rfl rfl rfl rfl rfl rfl rfl rfl rfl (by repeat' (first | exact True.intro | exact rfl | refine ⟨?_, ?_⟩)) (fun _ => ?_) | (refine o_append TtOk rfl rfl rfl rfl rfl rfl rfl rfl rfl (by first | exact True.intro | exact rfl) rfl rfl (fun _ => rfl) ?_ ?_ (fun _ => ?_); (simp only [List.length_map, List.length_cons, List.length_nil, List.length_append, List.length_take, List.length_drop]; omega); (simp only [List.length_map, List.length_cons, List.length_nil, List.length_append, List.length_take, List.length_drop]; omega)) | (refine o_appendStr TtOk rfl rfl rfl rfl rfl rfl rfl rfl rfl (fun _ => rfl) ?_ (fun _ => ?_); (simp only [List.length_map, List.length_cons, List.length_nil, List.length_append, List.length_take, List.length_drop]; omega)) | refine o_toBytes TtOk rfl rfl rfl rfl rfl rfl ?_ | refine a_condT rfl ?_ | refine a_condF rfl ?_ | (refine a_condP rfl (fun hc => ?_) (fun hc => ?_)) <;> (try (exfalso; omega)) | (refine a_condI rfl (fun hc => ?_) (fun hc => ?_)) <;> (try (exfalso; omega)) | (refine a_condN rfl (fun hc => ?_) (fun hc => ?_)) <;> (try (exfalso; omega)) | (refine Awp.cond rfl (fun hc => ?_) (fun hc => ?_)) | refine o_toString TtOk rfl rfl rfl rfl rfl (by first | exact True.intro | exact rfl) rfl rfl rfl rfl ?_ | (refine o_call0 rfl (hck) ⟨SLe.of_eq rfl, True.intro⟩ rfl ?_; rintro _ _ ⟨rfl, rfl⟩; refine ⟨rfl, ?_⟩))
    rw [four_row, ← List.map_append]
    generalize four x = fr at hfl ⊢
    have hhf : (hd ++ fr).length = 8 := by rw [List.length_append]; omega
    generalize hd ++ fr = hf at hhf ⊢
    repeat' (first | refine Awp.seq ?_ | refine Awp.region ?_ | (refine Ops.nil ?_; show Awp _ _ _ _ _) | (refine Ops.nil ?_; show Exists _) | (refine Ops.nil ?_; show endK _ _ _ _ _) | (refine Awp.skip ?_; show Awp _ _ _ _ _) | (refine Awp.skip ?_; show endK _ _ _ _ _) | (refine Awp.skip ?_; show Exists _) | (refine Awp.ret ?_; show endK _ _ _ _ _) | (refine o_add rfl rfl rfl rfl ?_ ?_; omega) | refine o_len rfl TtOk rfl rfl rfl (fun _ => ?_) | refine o_lenOwn rfl TtOk rfl rfl rfl rfl (fun _ => ?_) | refine o_convB rfl TtOk rfl rfl rfl rfl ?_ | (refine o_conv64 rfl TtOk rfl rfl rfl rfl ?_ ?_; omega) | (refine o_calm rfl TtOk rfl rfl rfl ?_ (fun _ => ?_); first | exact True.intro | exact ⟨rfl, rfl, rfl, rfl⟩ | exact ⟨rfl, True.intro⟩ | exact ⟨rfl, rfl⟩ | exact ⟨rfl, rfl, rfl⟩ | exact rfl | exact ⟨fun h0 => by cases h0, rfl⟩ | exact (fun h0 => by cases h0) | exact ⟨rfl, by omega⟩ | exact ⟨Nat.succ_ne_zero _, rfl⟩ | omega) | (refine o_calm rfl TtOk rfl rfl rfl ?_ (fun _ => ?_); (show List.length _ + List.length _ ≤ 9223372036854775807; (try simp only [List.length_append, List.length_cons, List.length_nil]); omega)) | refine o_buildSlice TtOk rfl rfl rfl rfl rfl rfl rfl rfl rfl rfl rfl (by repeat' (first | exact True.intro | exact rfl | refine ⟨?_, ?_⟩)) (fun _ => ?_) | (refine o_append TtOk rfl rfl rfl rfl rfl rfl rfl rfl rfl (by first | exact True.intro | exact rfl) rfl rfl (fun _ => rfl) ?_ ?_ (fun _ => ?_); (simp only [List.length_map, List.length_cons, List.length_nil, List.length_append, List.length_take, List.length_drop]; omega); (simp only [List.length_map, List.length_cons, List.length_nil, List.length_append, List.length_take, List.length_drop]; omega)) | (refine o_appendStr TtOk rfl rfl rfl rfl rfl rfl rfl rfl rfl (fun _ => rfl) ?_ (fun _ => ?_); (simp only [List.length_map, List.length_cons, List.length_nil, List.length_append, List.length_take, List.length_drop]; omega)) | refine o_toBytes TtOk rfl rfl rfl rfl rfl rfl ?_ | refine a_condT rfl ?_ | refine a_condF rfl ?_ | (refine a_condP rfl (fun hc => ?_) (fun hc => ?_)) <;> (try (exfalso; omega)) | (refine a_condI rfl (fun hc => ?_) (fun hc => ?_)) <;> (try (exfalso; omega)) | (refine a_condN rfl (fun hc => ?_) (fun hc => ?_)) <;> (try (exfalso; omega)) | (refine Awp.cond rfl (fun hc => ?_) (fun hc => ?_)) | refine o_toString TtOk rfl rfl rfl rfl rfl (by first | exact True.intro | exact rfl) rfl rfl rfl rfl ?_)
    refine end_all [] [] (.tup [.s (hf ++ s), .i .i64 0]) rfl ?_ ?_ (rle_tup2 (CLe.refl _) (CLe.refl _) rfl rfl) .nil ⟨rfl, rfl⟩ _ (.inl rfl)
    · repeat' (first | exact True.intro | exact rfl | refine ⟨?_, ?_⟩)
    · exact ⟨trivial, trivial, trivial⟩
end Go.Proofs.Ytdpljpnnjgefoaa
set_option maxHeartbeats 8000000
set_option maxRecDepth 100000
namespace Go.Proofs.Ytdpljpnnjgefoaa
open Go Go.RowKit
def lastK (l : List Etr) (k : Nat) : List UInt8 := (prevAt l k).getD []
theorem lastK_succ (l : List Etr) (k : Nat) (h : k < l.length) : lastK l (k + 1) = l[k].k := by
  show ((l[k]?).map _).getD [] = _
  rw [List.getElem?_eq_getElem h]; rfl
def entH (last : List UInt8) (x : Etr) : List UInt8 := (numBytes (cmn last x.k) ++ txB (x.k.drop (cmn last x.k))) ++ [if x.g then 1 else 0]
def entB (last : List UInt8) (x : Etr) (t : List UInt8) : List UInt8 := if x.g then t ++ entH last x else (t ++ entH last x) ++ txB x.v
def textN (l : List Etr) : Nat → List UInt8
  | 0 => numBytes l.length
  | k + 1 => match l[k]? with
    | some x => entB (lastK l k) x (textN l k)
    | none => []
theorem textN_succ (l : List Etr) (k : Nat) (h : k < l.length) : textN l (k + 1) = entB (lastK l k) l[k] (textN l k) := by
  show (match l[k]? with | some x => _ | none => _) = _
  rw [List.getElem?_eq_getElem h]
theorem txB_len (t : List UInt8) (h : t.length < 9223372036854775808) : (txB t).length ≤ 9 + t.length := by
  unfold txB; rw [List.length_append]; have := numBytes_len t.length h; omega
theorem entH_len (last : List UInt8) (x : Etr) (hx : x.k.length ≤ 110) : (entH last x).length ≤ 129 := by
  have h0 := (cmn_le last x.k).2
  have h1 := numBytes_len (cmn last x.k) (by omega)
  have h2 := txB_len (x.k.drop (cmn last x.k)) (by rw [List.length_drop]; omega)
  rw [List.length_drop] at h2
  unfold entH
  rw [List.length_append, List.length_append, List.length_singleton]; omega
theorem textN_len (l : List Etr) (hm : ∀ e ∈ l, e.k.length ≤ 110 ∧ e.v.length ≤ 4010) (hl : l.length ≤ 300) : ∀ k, k ≤ l.length → (textN l k).length ≤ 9 + 4200 * k
  | 0, _ => numBytes_len l.length (by omega)
  | k + 1, h => by
    have ih := textN_len l hm hl k (by omega)
    have hx := hm _ (List.getElem_mem (show k < l.length by omega))
    rw [textN_succ l k (by omega)]
    have h1 := entH_len (lastK l k) l[k] hx.1
    have h2 := txB_len l[k].v (by omega)
    unfold entB
    split
    · rw [List.length_append]; omega
    · rw [List.length_append, List.length_append]; omega
def make9 (l : List Etr) : List UInt8 × Int :=
  if checkN l ≠ 0 then ([], checkN l) else if 65536 < (textN l l.length).length then ([], 2) else (sealWrap (textN l l.length), 0)
end Go.Proofs.Ytdpljpnnjgefoaa
set_option maxHeartbeats 8000000
set_option maxRecDepth 100000
namespace Go.Proofs.Ytdpljpnnjgefoaa
open Go Go.RowKit
theorem ws_number (bs : List UInt8) (n : Nat) : (⟨bs, 0⟩ : WS).number n = ⟨bs ++ numBytes n, 0⟩ := by unfold WS.number; rw [if_neg (by omega)]; rfl
theorem ws_text (bs t : List UInt8) (h : t.length ≤ 65536) : (⟨bs, 0⟩ : WS).text t = ⟨bs ++ txB t, 0⟩ := by
  unfold WS.text; rw [if_neg (by omega), ws_number]
  unfold WS.put txB; rw [List.append_assoc]
theorem ws_done (bs : List UInt8) : (⟨bs, 0⟩ : WS).done = if 65536 < bs.length then ([], 2) else (bs, 0) := by
  unfold WS.done; rw [if_neg (fun h => h rfl)]
theorem bmake_spec (l : List Etr) (hl : l.length ≤ 300) (hm : ∀ e ∈ l, e.k.length ≤ 110 ∧ e.v.length ≤ 4010) : Spec Try.prog 7 [.sl 3 (l.map eA)] [] (fun v os => v = .tup [.s (make9 l).1, .i .i64 (make9 l).2] ∧ os = []) := by
  refine spec_of TtOk [] Try.func7 rfl Try.ntmps7 (by kernel_rfl) rfl rfl (fun C => ?_) rfl
  have hck := check_spec9 l (by omega) (fun e he => ⟨Nat.le_trans (hm e he).1 (by decide), Nat.le_trans (hm e he).2 (by decide)⟩)
  have hmk : make9 l = if checkN l ≠ 0 then ([], checkN l) else if 65536 < (textN l l.length).length then ([], 2) else (sealWrap (textN l l.length), 0) := rfl
  generalize make9 l = q at hmk ⊢
  generalize checkN l = ck at hck hmk
  repeat' (first | refine Awp.seq ?_ | refine Awp.block ?_ | refine Awp.region ?_ | (refine Ops.nil ?_; show Awp _ _ _ _ _) | (refine Ops.nil ?_; show Exists _) | (refine Ops.nil ?_; show endK _ _ _ _ _) | (refine Awp.skip ?_; show Awp _ _ _ _ _) | (refine Awp.skip ?_; show endK _ _ _ _ _) | (refine Awp.skip ?_; show Exists _) | (refine Awp.exit ?_; show Awp _ _ _ _ _) | (refine Awp.exit ?_; show Exists _) | (refine Awp.exit ?_; show endK _ _ _ _ _) | (refine Awp.ret ?_; show endK _ _ _ _ _) | (refine o_add rfl rfl rfl rfl ?_ ?_; omega) | refine o_len rfl TtOk rfl rfl rfl (fun _ => ?_) | refine o_lenOwn rfl TtOk rfl rfl rfl rfl (fun _ => ?_) | (refine o_calm rfl TtOk rfl rfl rfl ?_ (fun _ => ?_); first | exact True.intro | exact ⟨rfl, rfl, rfl, rfl⟩ | exact ⟨rfl, True.intro⟩ | exact ⟨rfl, rfl⟩ | exact ⟨rfl, rfl, rfl⟩ | exact rfl | exact ⟨fun h0 => by cases h0, rfl⟩ | exact (fun h0 => by cases h0) | exact ⟨rfl, by omega⟩ | exact ⟨Nat.succ_ne_zero _, rfl⟩ | omega) | refine o_alloc (d := 5) rfl TtOk rfl rfl rfl (fun b5 => ?_) | refine o_alloc (d := 8) rfl TtOk rfl rfl rfl (fun b8 => ?_) | refine o_store TtOk rfl rfl rfl rfl rfl rfl rfl ⟨rfl, rfl⟩ rfl rfl rfl rfl rfl ?_ | (refine o_index rfl TtOk rfl rfl rfl rfl rfl rfl ?_ (getq_nat ?_) ?_; omega; omega) | (refine o_indexOwn TtOk rfl rfl rfl rfl rfl rfl rfl rfl _ rfl ?_ (fun bO hbO => ?_); (simp only [List.length_map]; omega)) | (refine o_loadRow TtOk rfl rfl rfl rfl rfl (by assumption) (getq_map (List.getElem?_eq_getElem ?_)) rfl rfl (by first | exact Nat.add_zero _ | rfl) ⟨rfl, rfl⟩ ?_; omega) | (refine o_calm rfl TtOk rfl rfl rfl ?_ (fun _ => ?_); (show List.length _ + List.length _ ≤ 9223372036854775807; (try simp only [List.length_append, List.length_cons, List.length_nil]); omega)) | (refine o_storeRow TtOk rfl rfl rfl rfl rfl rfl (by assumption) (getq_map (List.getElem?_eq_getElem ?_)) rfl rfl (by first | exact Nat.add_zero _ | rfl) ⟨rfl, rfl⟩ rfl rfl ?_; omega) | refine o_sliceCp TtOk rfl rfl rfl rfl rfl rfl ?_ | refine a_condT rfl ?_ | refine a_condF rfl ?_ | (refine a_condP rfl (fun hc => ?_) (fun hc => ?_)) <;> (try (exfalso; omega)) | (refine a_condI rfl (fun hc => ?_) (fun hc => ?_)) <;> (try (exfalso; omega)) | (refine a_condN rfl (fun hc => ?_) (fun hc => ?_)) <;> (try (exfalso; omega)) | (refine Awp.cond rfl (fun hc => ?_) (fun hc => ?_)) | (refine o_call0 rfl (hck) ⟨SLe.of_eq rfl, True.intro⟩ rfl ?_; rintro _ _ ⟨rfl, rfl⟩; refine ⟨rfl, ?_⟩))
  · rw [if_pos hc] at hmk; subst hmk
    refine end_all [] [] (.tup [.s [], .i .i64 ck]) rfl ?_ ?_ (rle_tup2 (CLe.refl _) (CLe.refl _) rfl rfl) .nil ⟨rfl, rfl⟩ _ (.inl rfl)
    · repeat' (first | exact True.intro | exact rfl | refine ⟨?_, ?_⟩)
    · exact ⟨trivial, trivial, trivial⟩
  rw [if_neg (by omega)] at hmk
  refine Ops.weaken [] (S' := ⟨60, [(18, .i .i64 l.length), (5, .ptr 5 b5 [] 0), (0, .sl 3 (l.map eA))], [(5, .var b5 (wrA (.slice none 0 0) ⟨[], 0⟩)), (1, .row (.slice none 0 0) 5 1 [])]⟩) ⟨rfl, ⟨sle_i rfl, sle_ptr, sle_sl rfl, True.intro⟩, HLe.cons 5 rfl (HOLe.var (CLe.agg (.cons CLe.nilown (.cons (CLe.refl _) .nil)))) (.none .nil)⟩ ?_
  have hw0 : ∀ v, Spec Try.prog 22 [.ptr 0 b5 [] 0, .i .i64 (l.length : Int)] (wrO b5 v ⟨[], 0⟩) (fun r os => r = .tup [] ∧ ∃ v', os = wrO b5 v' ⟨numBytes l.length, 0⟩) := fun v => by
    have h := wnumber_spec b5 l.length (by omega) v ⟨[], 0⟩ (by decide)
    rw [ws_number] at h; exact h
  repeat' (first | refine Awp.seq ?_ | refine Awp.block ?_ | refine Awp.region ?_ | (refine Ops.nil ?_; show Awp _ _ _ _ _) | (refine Ops.nil ?_; show Exists _) | (refine Ops.nil ?_; show endK _ _ _ _ _) | (refine Awp.skip ?_; show Awp _ _ _ _ _) | (refine Awp.skip ?_; show endK _ _ _ _ _) | (refine Awp.skip ?_; show Exists _) | (refine Awp.exit ?_; show Awp _ _ _ _ _) | (refine Awp.exit ?_; show Exists _) | (refine Awp.exit ?_; show endK _ _ _ _ _) | (refine Awp.ret ?_; show endK _ _ _ _ _) | (refine o_add rfl rfl rfl rfl ?_ ?_; omega) | refine o_len rfl TtOk rfl rfl rfl (fun _ => ?_) | refine o_lenOwn rfl TtOk rfl rfl rfl rfl (fun _ => ?_) | (refine o_calm rfl TtOk rfl rfl rfl ?_ (fun _ => ?_); first | exact True.intro | exact ⟨rfl, rfl, rfl, rfl⟩ | exact ⟨rfl, True.intro⟩ | exact ⟨rfl, rfl⟩ | exact ⟨rfl, rfl, rfl⟩ | exact rfl | exact ⟨fun h0 => by cases h0, rfl⟩ | exact (fun h0 => by cases h0) | exact ⟨rfl, by omega⟩ | exact ⟨Nat.succ_ne_zero _, rfl⟩ | omega) | refine o_alloc (d := 5) rfl TtOk rfl rfl rfl (fun b5 => ?_) | refine o_alloc (d := 8) rfl TtOk rfl rfl rfl (fun b8 => ?_) | refine o_store TtOk rfl rfl rfl rfl rfl rfl rfl ⟨rfl, rfl⟩ rfl rfl rfl rfl rfl ?_ | (refine o_index rfl TtOk rfl rfl rfl rfl rfl rfl ?_ (getq_nat ?_) ?_; omega; omega) | (refine o_indexOwn TtOk rfl rfl rfl rfl rfl rfl rfl rfl _ rfl ?_ (fun bO hbO => ?_); (simp only [List.length_map]; omega)) | (refine o_loadRow TtOk rfl rfl rfl rfl rfl (by assumption) (getq_map (List.getElem?_eq_getElem ?_)) rfl rfl (by first | exact Nat.add_zero _ | rfl) ⟨rfl, rfl⟩ ?_; omega) | (refine o_calm rfl TtOk rfl rfl rfl ?_ (fun _ => ?_); (show List.length _ + List.length _ ≤ 9223372036854775807; (try simp only [List.length_append, List.length_cons, List.length_nil]); omega)) | (refine o_storeRow TtOk rfl rfl rfl rfl rfl rfl (by assumption) (getq_map (List.getElem?_eq_getElem ?_)) rfl rfl (by first | exact Nat.add_zero _ | rfl) ⟨rfl, rfl⟩ rfl rfl ?_; omega) | refine o_sliceCp TtOk rfl rfl rfl rfl rfl rfl ?_ | refine a_condT rfl ?_ | refine a_condF rfl ?_ | (refine a_condP rfl (fun hc => ?_) (fun hc => ?_)) <;> (try (exfalso; omega)) | (refine a_condI rfl (fun hc => ?_) (fun hc => ?_)) <;> (try (exfalso; omega)) | (refine a_condN rfl (fun hc => ?_) (fun hc => ?_)) <;> (try (exfalso; omega)) | (refine Awp.cond rfl (fun hc => ?_) (fun hc => ?_)) | (refine o_callPR rfl rfl rfl rfl rfl (hw0 _) ⟨sle_ptr, SLe.of_eq rfl, True.intro⟩ (HOLe.refl _) (HOLe.refl _) rfl rfl ?_; rintro _ _ ⟨rfl, wv, rfl⟩; refine ⟨_, _, rfl, _, rfl, ?_⟩))
  refine Awp.loop (fun q : Nat × Value => ⟨60, [(22, .i .i64 q.1), (21, .i .i64 l.length), (20, .sl 3 (l.map eA)), (6, .s (lastK l q.1)), (5, .ptr 5 b5 [] 0)], [(5, .var b5 (wrA q.2 ⟨textN l q.1, 0⟩)), (1, .row q.2 5 1 ((textN l q.1).map byA))]⟩) (fun q => q.1 ≤ l.length) (fun q => l.length - q.1) [] (0, wv) (Nat.zero_le _) ?_ ?_
  · exact ⟨rfl, ⟨sle_i rfl, sle_i rfl, sle_sl rfl, sle_s rfl, sle_ptr, True.intro⟩, HLe.cons 5 rfl (HOLe.refl _) (HLe.cons 1 rfl (HOLe.refl _) .nil)⟩
  rintro ⟨k, v⟩ hk
  dsimp only at hk ⊢
  by_cases hlt : k < l.length
  · have hx := hm _ (List.getElem_mem hlt)
    have hTl := textN_len l hm hl k hk
    have hsu := textN_succ l k hlt
    have hls := lastK_succ l k hlt
    have hll : (lastK l k).length ≤ 110 := by
      rcases k with _ | m
      · exact Nat.zero_le _
      · rw [lastK_succ l m (by omega)]; exact (hm _ (List.getElem_mem _)).1
    generalize textN l k = T at hTl hsu ⊢
    have hcl := (cmn_le (lastK l k) l[k].k).2
    have hcm := shared_spec (lastK l k) l[k].k (by omega) (by omega)
    have hen : entH (lastK l k) l[k] = (numBytes (cmn (lastK l k) l[k].k) ++ txB (l[k].k.drop (cmn (lastK l k) l[k].k))) ++ [if l[k].g then 1 else 0] := rfl
    have heb : entB (lastK l k) l[k] T = if l[k].g then T ++ entH (lastK l k) l[k] else (T ++ entH (lastK l k) l[k]) ++ txB l[k].v := rfl
    generalize cmn (lastK l k) l[k].k = c at hcl hcm hen
    have hnl := numBytes_len c (by omega)
    have htl := txB_len (l[k].k.drop c) (by rw [List.length_drop]; omega)
    have htvl := txB_len l[k].v (by omega)
    have hdl : (l[k].k.drop c).length ≤ 110 := by rw [List.length_drop]; omega
    have hw1 : ∀ v, Spec Try.prog 22 [.ptr 0 b5 [] 0, .i .i64 (c : Int)] (wrO b5 v ⟨T, 0⟩) (fun r os => r = .tup [] ∧ ∃ v', os = wrO b5 v' ⟨T ++ numBytes c, 0⟩) := fun v => by
      have h := wnumber_spec b5 c (by omega) v ⟨T, 0⟩ (by show T.length ≤ _; omega)
      rw [ws_number] at h; exact h
    have hw2 : ∀ v, Spec Try.prog 24 [.ptr 0 b5 [] 0, .s (l[k].k.drop c)] (wrO b5 v ⟨T ++ numBytes c, 0⟩) (fun r os => r = .tup [] ∧ ∃ v', os = wrO b5 v' ⟨(T ++ numBytes c) ++ txB (l[k].k.drop c), 0⟩) := fun v => by
      have h := wtext_spec b5 (l[k].k.drop c) v ⟨T ++ numBytes c, 0⟩ (by show (T ++ numBytes c).length ≤ _; rw [List.length_append]; omega)
      rw [ws_text _ _ (by omega)] at h; exact h
    have hw3 : ∀ v, Spec Try.prog 25 [.ptr 0 b5 [] 0, .b l[k].g] (wrO b5 v ⟨(T ++ numBytes c) ++ txB (l[k].k.drop c), 0⟩) (fun r os => r = .tup [] ∧ ∃ v', os = wrO b5 v' ⟨T ++ entH (lastK l k) l[k], 0⟩) := fun v => by
      have h := wflag_spec b5 l[k].g v ⟨(T ++ numBytes c) ++ txB (l[k].k.drop c), 0⟩ (by show ((T ++ numBytes c) ++ txB (l[k].k.drop c)).length ≤ _; rw [List.length_append, List.length_append]; omega)
      rw [hen, ← List.append_assoc, ← List.append_assoc]; exact h
    have hhl := entH_len (lastK l k) l[k] hx.1
    have hw4 : ∀ v, Spec Try.prog 24 [.ptr 0 b5 [] 0, .s l[k].v] (wrO b5 v ⟨T ++ entH (lastK l k) l[k], 0⟩) (fun r os => r = .tup [] ∧ ∃ v', os = wrO b5 v' ⟨(T ++ entH (lastK l k) l[k]) ++ txB l[k].v, 0⟩) := fun v => by
      have h := wtext_spec b5 l[k].v v ⟨T ++ entH (lastK l k) l[k], 0⟩ (by show (T ++ entH (lastK l k) l[k]).length ≤ _; rw [List.length_append]; omega)
      rw [ws_text _ _ (by omega)] at h; exact h
    generalize entH (lastK l k) l[k] = E at hw3 hw4 heb
    repeat' (first | refine Awp.seq ?_ | refine Awp.block ?_ | refine Awp.region ?_ | (refine Ops.nil ?_; show Awp _ _ _ _ _) | (refine Ops.nil ?_; show Exists _) | (refine Ops.nil ?_; show endK _ _ _ _ _) | (refine Awp.skip ?_; show Awp _ _ _ _ _) | (refine Awp.skip ?_; show endK _ _ _ _ _) | (refine Awp.skip ?_; show Exists _) | (refine Awp.exit ?_; show Awp _ _ _ _ _) | (refine Awp.exit ?_; show Exists _) | (refine Awp.exit ?_; show endK _ _ _ _ _) | (refine Awp.ret ?_; show endK _ _ _ _ _) | (refine o_add rfl rfl rfl rfl ?_ ?_; omega) | refine o_len rfl TtOk rfl rfl rfl (fun _ => ?_) | refine o_lenOwn rfl TtOk rfl rfl rfl rfl (fun _ => ?_) | (refine o_calm rfl TtOk rfl rfl rfl ?_ (fun _ => ?_); first | exact True.intro | exact ⟨rfl, rfl, rfl, rfl⟩ | exact ⟨rfl, True.intro⟩ | exact ⟨rfl, rfl⟩ | exact ⟨rfl, rfl, rfl⟩ | exact rfl | exact ⟨fun h0 => by cases h0, rfl⟩ | exact (fun h0 => by cases h0) | exact ⟨rfl, by omega⟩ | exact ⟨Nat.succ_ne_zero _, rfl⟩ | omega) | refine o_alloc (d := 5) rfl TtOk rfl rfl rfl (fun b5 => ?_) | refine o_alloc (d := 8) rfl TtOk rfl rfl rfl (fun b8 => ?_) | refine o_store TtOk rfl rfl rfl rfl rfl rfl rfl ⟨rfl, rfl⟩ rfl rfl rfl rfl rfl ?_ | (refine o_index rfl TtOk rfl rfl rfl rfl rfl rfl ?_ (getq_nat ?_) ?_; omega; omega) | (refine o_indexOwn TtOk rfl rfl rfl rfl rfl rfl rfl rfl _ rfl ?_ (fun bO hbO => ?_); (simp only [List.length_map]; omega)) | (refine o_loadRow TtOk rfl rfl rfl rfl rfl (by assumption) (getq_map (List.getElem?_eq_getElem ?_)) rfl rfl (by first | exact Nat.add_zero _ | rfl) ⟨rfl, rfl⟩ ?_; omega) | (refine o_calm rfl TtOk rfl rfl rfl ?_ (fun _ => ?_); (show List.length _ + List.length _ ≤ 9223372036854775807; (try simp only [List.length_append, List.length_cons, List.length_nil]); omega)) | (refine o_storeRow TtOk rfl rfl rfl rfl rfl rfl (by assumption) (getq_map (List.getElem?_eq_getElem ?_)) rfl rfl (by first | exact Nat.add_zero _ | rfl) ⟨rfl, rfl⟩ rfl rfl ?_; omega) | refine o_sliceCp TtOk rfl rfl rfl rfl rfl rfl ?_ | refine a_condT rfl ?_ | refine a_condF rfl ?_ | (refine a_condP rfl (fun hc => ?_) (fun hc => ?_)) <;> (try (exfalso; omega)) | (refine a_condI rfl (fun hc => ?_) (fun hc => ?_)) <;> (try (exfalso; omega)) | (refine a_condN rfl (fun hc => ?_) (fun hc => ?_)) <;> (try (exfalso; omega)) | (refine Awp.cond rfl (fun hc => ?_) (fun hc => ?_)) | (refine o_sliceStr TtOk rfl c l[k].k.length rfl rfl rfl (bnd_some rfl rfl) bnd_none hcl (Nat.le_refl _) ?_; rw [List.take_length]) | (refine o_call0 rfl (hcm) ⟨SLe.of_eq rfl, SLe.of_eq rfl, True.intro⟩ rfl ?_; rintro _ _ ⟨rfl, rfl⟩; refine ⟨rfl, ?_⟩) | (refine o_callPR rfl rfl rfl rfl rfl (hw1 _) ⟨sle_ptr, SLe.of_eq rfl, True.intro⟩ (HOLe.refl _) (HOLe.refl _) rfl rfl ?_; rintro _ _ ⟨rfl, wv, rfl⟩; refine ⟨_, _, rfl, _, rfl, ?_⟩) | (refine o_callPR rfl rfl rfl rfl rfl (hw2 _) ⟨sle_ptr, SLe.of_eq rfl, True.intro⟩ (HOLe.refl _) (HOLe.refl _) rfl rfl ?_; rintro _ _ ⟨rfl, wv, rfl⟩; refine ⟨_, _, rfl, _, rfl, ?_⟩) | (refine o_callPR rfl rfl rfl rfl rfl (hw3 _) ⟨sle_ptr, SLe.of_eq rfl, True.intro⟩ (HOLe.refl _) (HOLe.refl _) rfl rfl ?_; rintro _ _ ⟨rfl, wv, rfl⟩; refine ⟨_, _, rfl, _, rfl, ?_⟩) | (refine o_callPR rfl rfl rfl rfl rfl (hw4 _) ⟨sle_ptr, SLe.of_eq rfl, True.intro⟩ (HOLe.refl _) (HOLe.refl _) rfl rfl ?_; rintro _ _ ⟨rfl, wv, rfl⟩; refine ⟨_, _, rfl, _, rfl, ?_⟩))
    · have hg : l[k].g = false := by simpa using hc
      refine ⟨(k + 1, wv), [], by show k + 1 ≤ l.length; omega, by show l.length - (k + 1) < l.length - k; omega, rfl, ⟨sle_i (by show (k : Int) + 1 = ((k + 1 : Nat) : Int); omega), sle_i rfl, sle_sl rfl, sle_s hls.symm, sle_ptr, True.intro⟩, HLe.cons 5 rfl (HOLe.var (CLe.of_eq rfl)) (HLe.cons 1 rfl (HOLe.row ?_) .nil)⟩
      rw [hsu, heb, hg]; rfl
    · have hg : l[k].g = true := by simpa using hc
      refine ⟨(k + 1, wv), [], by show k + 1 ≤ l.length; omega, by show l.length - (k + 1) < l.length - k; omega, rfl, ⟨sle_i (by show (k : Int) + 1 = ((k + 1 : Nat) : Int); omega), sle_i rfl, sle_sl rfl, sle_s hls.symm, sle_ptr, True.intro⟩, HLe.cons 5 rfl (HOLe.var (CLe.of_eq rfl)) (HLe.cons 1 rfl (HOLe.row ?_) .nil)⟩
      rw [hsu, heb, hg]; rfl
  · have hkl : k = l.length := by omega
    subst hkl
    have hd := wdone_spec b5
    generalize textN l l.length = T at hmk ⊢
    have hdn : ∀ v, Spec Try.prog 26 [.ptr 0 b5 [] 0] (wrO b5 v ⟨T, 0⟩) (fun r os => r = .tup [.s (if 65536 < T.length then [] else T), .i .i64 (if 65536 < T.length then 2 else 0)] ∧ ∃ v', os = wrO b5 v' ⟨T, 0⟩) := fun v => by
      have h := wdone_spec b5 v ⟨T, 0⟩
      rw [ws_done] at h
      split
      · rename_i h1; rw [if_pos h1] at h; exact h
      · rename_i h1; rw [if_neg h1] at h; exact h
    by_cases hT : 65536 < T.length
    · rw [if_pos hT, if_pos hT] at hdn
      rw [if_pos hT] at hmk
      subst hmk
      repeat' (first | refine Awp.seq ?_ | refine Awp.block ?_ | refine Awp.region ?_ | (refine Ops.nil ?_; show Awp _ _ _ _ _) | (refine Ops.nil ?_; show Exists _) | (refine Ops.nil ?_; show endK _ _ _ _ _) | (refine Awp.skip ?_; show Awp _ _ _ _ _) | (refine Awp.skip ?_; show endK _ _ _ _ _) | (refine Awp.skip ?_; show Exists _) | (refine Awp.exit ?_; show Awp _ _ _ _ _) | (refine Awp.exit ?_; show Exists _) | (refine Awp.exit ?_; show endK _ _ _ _ _) | (refine Awp.ret ?_; show endK _ _ _ _ _) | (refine o_add rfl rfl rfl rfl ?_ ?_; omega) | refine o_len rfl TtOk rfl rfl rfl (fun _ => ?_) | refine o_lenOwn rfl TtOk rfl rfl rfl rfl (fun _ => ?_) | (refine o_calm rfl TtOk rfl rfl rfl ?_ (fun _ => ?_); first | exact True.intro | exact ⟨rfl, rfl, rfl, rfl⟩ | exact ⟨rfl, True.intro⟩ | exact ⟨rfl, rfl⟩ | exact ⟨rfl, rfl, rfl⟩ | exact rfl | exact ⟨fun h0 => by cases h0, rfl⟩ | exact (fun h0 => by cases h0) | exact ⟨rfl, by omega⟩ | exact ⟨Nat.succ_ne_zero _, rfl⟩ | omega) | refine o_alloc (d := 5) rfl TtOk rfl rfl rfl (fun b5 => ?_) | refine o_alloc (d := 8) rfl TtOk rfl rfl rfl (fun b8 => ?_) | refine o_store TtOk rfl rfl rfl rfl rfl rfl rfl ⟨rfl, rfl⟩ rfl rfl rfl rfl rfl ?_ | (refine o_index rfl TtOk rfl rfl rfl rfl rfl rfl ?_ (getq_nat ?_) ?_; omega; omega) | (refine o_indexOwn TtOk rfl rfl rfl rfl rfl rfl rfl rfl _ rfl ?_ (fun bO hbO => ?_); (simp only [List.length_map]; omega)) | (refine o_loadRow TtOk rfl rfl rfl rfl rfl (by assumption) (getq_map (List.getElem?_eq_getElem ?_)) rfl rfl (by first | exact Nat.add_zero _ | rfl) ⟨rfl, rfl⟩ ?_; omega) | (refine o_calm rfl TtOk rfl rfl rfl ?_ (fun _ => ?_); (show List.length _ + List.length _ ≤ 9223372036854775807; (try simp only [List.length_append, List.length_cons, List.length_nil]); omega)) | (refine o_storeRow TtOk rfl rfl rfl rfl rfl rfl (by assumption) (getq_map (List.getElem?_eq_getElem ?_)) rfl rfl (by first | exact Nat.add_zero _ | rfl) ⟨rfl, rfl⟩ rfl rfl ?_; omega) | refine o_sliceCp TtOk rfl rfl rfl rfl rfl rfl ?_ | refine a_condT rfl ?_ | refine a_condF rfl ?_ | (refine a_condP rfl (fun hc => ?_) (fun hc => ?_)) <;> (try (exfalso; omega)) | (refine a_condI rfl (fun hc => ?_) (fun hc => ?_)) <;> (try (exfalso; omega)) | (refine a_condN rfl (fun hc => ?_) (fun hc => ?_)) <;> (try (exfalso; omega)) | (refine Awp.cond rfl (fun hc => ?_) (fun hc => ?_)) | (refine o_callPR rfl rfl rfl rfl rfl (hdn _) ⟨sle_ptr, True.intro⟩ (HOLe.refl _) (HOLe.refl _) rfl rfl ?_; rintro _ _ ⟨rfl, wv, rfl⟩; refine ⟨_, _, rfl, _, rfl, ?_⟩))
      refine end_all [] [] (.tup [.s [], .i .i64 2]) rfl ?_ ?_ (rle_tup2 (CLe.refl _) (CLe.refl _) rfl rfl) .nil ⟨rfl, rfl⟩ _ (.inl rfl)
      · repeat' (first | exact True.intro | exact rfl | refine ⟨?_, ?_⟩)
      · exact ⟨trivial, trivial, trivial⟩
    · rw [if_neg hT, if_neg hT] at hdn
      rw [if_neg hT] at hmk
      subst hmk
      have hwr := wrap_spec T (by omega)
      have hsw : swrap T = (sealWrap T, 0) := by unfold swrap; rw [if_neg hT]
      rw [hsw] at hwr
      generalize sealWrap T = S at hwr ⊢
      repeat' (first | refine Awp.seq ?_ | refine Awp.block ?_ | refine Awp.region ?_ | (refine Ops.nil ?_; show Awp _ _ _ _ _) | (refine Ops.nil ?_; show Exists _) | (refine Ops.nil ?_; show endK _ _ _ _ _) | (refine Awp.skip ?_; show Awp _ _ _ _ _) | (refine Awp.skip ?_; show endK _ _ _ _ _) | (refine Awp.skip ?_; show Exists _) | (refine Awp.exit ?_; show Awp _ _ _ _ _) | (refine Awp.exit ?_; show Exists _) | (refine Awp.exit ?_; show endK _ _ _ _ _) | (refine Awp.ret ?_; show endK _ _ _ _ _) | (refine o_add rfl rfl rfl rfl ?_ ?_; omega) | refine o_len rfl TtOk rfl rfl rfl (fun _ => ?_) | refine o_lenOwn rfl TtOk rfl rfl rfl rfl (fun _ => ?_) | (refine o_calm rfl TtOk rfl rfl rfl ?_ (fun _ => ?_); first | exact True.intro | exact ⟨rfl, rfl, rfl, rfl⟩ | exact ⟨rfl, True.intro⟩ | exact ⟨rfl, rfl⟩ | exact ⟨rfl, rfl, rfl⟩ | exact rfl | exact ⟨fun h0 => by cases h0, rfl⟩ | exact (fun h0 => by cases h0) | exact ⟨rfl, by omega⟩ | exact ⟨Nat.succ_ne_zero _, rfl⟩ | omega) | refine o_alloc (d := 5) rfl TtOk rfl rfl rfl (fun b5 => ?_) | refine o_alloc (d := 8) rfl TtOk rfl rfl rfl (fun b8 => ?_) | refine o_store TtOk rfl rfl rfl rfl rfl rfl rfl ⟨rfl, rfl⟩ rfl rfl rfl rfl rfl ?_ | (refine o_index rfl TtOk rfl rfl rfl rfl rfl rfl ?_ (getq_nat ?_) ?_; omega; omega) | (refine o_indexOwn TtOk rfl rfl rfl rfl rfl rfl rfl rfl _ rfl ?_ (fun bO hbO => ?_); (simp only [List.length_map]; omega)) | (refine o_loadRow TtOk rfl rfl rfl rfl rfl (by assumption) (getq_map (List.getElem?_eq_getElem ?_)) rfl rfl (by first | exact Nat.add_zero _ | rfl) ⟨rfl, rfl⟩ ?_; omega) | (refine o_calm rfl TtOk rfl rfl rfl ?_ (fun _ => ?_); (show List.length _ + List.length _ ≤ 9223372036854775807; (try simp only [List.length_append, List.length_cons, List.length_nil]); omega)) | (refine o_storeRow TtOk rfl rfl rfl rfl rfl rfl (by assumption) (getq_map (List.getElem?_eq_getElem ?_)) rfl rfl (by first | exact Nat.add_zero _ | rfl) ⟨rfl, rfl⟩ rfl rfl ?_; omega) | refine o_sliceCp TtOk rfl rfl rfl rfl rfl rfl ?_ | refine a_condT rfl ?_ | refine a_condF rfl ?_ | (refine a_condP rfl (fun hc => ?_) (fun hc => ?_)) <;> (try (exfalso; omega)) | (refine a_condI rfl (fun hc => ?_) (fun hc => ?_)) <;> (try (exfalso; omega)) | (refine a_condN rfl (fun hc => ?_) (fun hc => ?_)) <;> (try (exfalso; omega)) | (refine Awp.cond rfl (fun hc => ?_) (fun hc => ?_)) | (refine o_call0 rfl (hwr) ⟨SLe.of_eq rfl, True.intro⟩ rfl ?_; rintro _ _ ⟨rfl, rfl⟩; refine ⟨rfl, ?_⟩) | (refine o_callPR rfl rfl rfl rfl rfl (hdn _) ⟨sle_ptr, True.intro⟩ (HOLe.refl _) (HOLe.refl _) rfl rfl ?_; rintro _ _ ⟨rfl, wv, rfl⟩; refine ⟨_, _, rfl, _, rfl, ?_⟩))
      refine end_all [] [] (.tup [.s S, .i .i64 0]) rfl ?_ ?_ (rle_tup2 (CLe.refl _) (CLe.refl _) rfl rfl) .nil ⟨rfl, rfl⟩ _ (.inl rfl)
      · repeat' (first | exact True.intro | exact rfl | refine ⟨?_, ?_⟩)
      · exact ⟨trivial, trivial, trivial⟩
end Go.Proofs.Ytdpljpnnjgefoaa
