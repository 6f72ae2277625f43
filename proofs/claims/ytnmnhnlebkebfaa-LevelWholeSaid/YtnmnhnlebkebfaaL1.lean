/- Level: files, their order, level.Check by rules. -/
import Derived.Test.YtnmnhnlebkebfaaV20
import Derived.Test.YtnmnhnlebkebfaaLO
import Derived.Test.YtnmnhnlebkebfaaHW
import Derived.Test.YtnmnhnlebkebfaaTypes
set_option maxHeartbeats 8000000
namespace Go.Proofs.Ytnmnhnlebkebfaa
open Go Go.RowKit
structure Fl where
  num : Int
  lev : Int
  size : Int
  first : List UInt8
  last : List UInt8
def eF (f : Fl) : AV := .agg [.i .i64 f.num, .i .i64 f.lev, .i .i64 f.size, .s f.first, .s f.last]
structure Stt where
  next : Int
  log : Int
  fs : List Fl
def eSt (s : Stt) : AV := .agg [.i .i64 s.next, .i .i64 s.log, .sl 5 (s.fs.map eF)]
def cmpI (a b : Int) : Int := if a < b then -1 else if b < a then 1 else 0
def aheadF (a b : Fl) : Bool := if a.lev ≠ b.lev then decide (a.lev < b.lev) else if a.lev = 0 then decide (b.num < a.num) else Op.bytesLess a.first b.first
def ordF (a b : Fl) : Int := if a.lev ≠ b.lev ∨ a.lev = 0 then (if cmpI a.lev b.lev ≠ 0 then cmpI a.lev b.lev else cmpI b.num a.num) else cmpS a.first b.first
theorem cmpI_neg {a b : Int} : cmpI a b < 0 ↔ a < b := by unfold cmpI; split <;> (try split) <;> omega
theorem cmpI_zero {a b : Int} : cmpI a b = 0 ↔ a = b := by unfold cmpI; split <;> (try split) <;> omega
theorem ordF_ahead (a b : Fl) : ordF a b < 0 ↔ aheadF a b = true := by
  unfold ordF aheadF
  by_cases h : a.lev = b.lev
  · have g1 : ¬ (a.lev ≠ b.lev) := fun n => n h
    by_cases h0 : a.lev = 0
    · have g2 : a.lev ≠ b.lev ∨ a.lev = 0 := .inr h0
      have g3 : ¬ (cmpI a.lev b.lev ≠ 0) := fun n => n (cmpI_zero.2 h)
      rw [if_pos g2, if_neg g1, if_pos h0, if_neg g3, cmpI_neg]; simp
    · have g2 : ¬ (a.lev ≠ b.lev ∨ a.lev = 0) := fun n => n.elim g1 h0
      rw [if_neg g2, if_neg g1, if_neg h0, cmpS_neg]
  · have g2 : a.lev ≠ b.lev ∨ a.lev = 0 := .inl h
    have g3 : cmpI a.lev b.lev ≠ 0 := fun n => h (cmpI_zero.1 n)
    rw [if_pos g2, if_pos h, if_pos g3, cmpI_neg]; simp
def keyOk (s : List UInt8) : Bool := !(s == []) && decide (s.length ≤ 100)
def argF (next : Int) (f : Fl) : Prop := f.num < 0 ∨ next ≤ f.num ∨ f.lev < 0 ∨ 4 ≤ f.lev ∨ f.size < 0 ∨ 1073741824 < f.size
def frmF (pre : List Fl) (f : Fl) : Prop := keyOk f.first = false ∨ keyOk f.last = false ∨ Op.bytesLess f.last f.first = true ∨ (pre.map Fl.num).contains f.num = true
def afterF (a f : Fl) : Prop := aheadF a f = false ∨ (a.lev = f.lev ∧ 0 < f.lev ∧ Op.bytesLess a.last f.first = false)
instance (next : Int) (f : Fl) : Decidable (argF next f) := by unfold argF; infer_instance
instance (pre : List Fl) (f : Fl) : Decidable (frmF pre f) := by unfold frmF; infer_instance
instance (a f : Fl) : Decidable (afterF a f) := by unfold afterF; infer_instance
def seqF (pre : List Fl) (f : Fl) : Int := match pre.getLast? with
  | none => 0
  | some a => if afterF a f then 3 else 0
def fcode (next : Int) (pre : List Fl) (f : Fl) : Int := if argF next f then 1 else if frmF pre f then 3 else seqF pre f
def lgo (next : Int) : List Fl → List Fl → Int
  | _, [] => 0
  | pre, f :: r => if fcode next pre f ≠ 0 then fcode next pre f else lgo next (pre ++ [f]) r
def headBad (s : Stt) : Prop := s.next < 0 ∨ 1073741824 < s.next ∨ s.log < 0 ∨ 1073741824 < s.log
instance (s : Stt) : Decidable (headBad s) := by unfold headBad; infer_instance
def lcheck (s : Stt) : Int := if headBad s then 1 else if 1000 < s.fs.length then 2 else lgo s.next [] s.fs
theorem lgo_at (next : Int) (l : List Fl) (k : Nat) (h : k < l.length) : lgo next (l.take k) (l.drop k) = if fcode next (l.take k) l[k] ≠ 0 then fcode next (l.take k) l[k] else lgo next (l.take (k + 1)) (l.drop (k + 1)) := by
  rw [List.drop_eq_getElem_cons h, lgo, List.take_succ_eq_append_getElem h]
theorem seqF_succ (l : List Fl) (k : Nat) (hk : 0 < k) (h : k ≤ l.length) (f : Fl) : seqF (l.take k) f = if afterF (l[k - 1]'(by omega)) f then 3 else 0 := by
  unfold seqF
  have : (l.take k).getLast? = some (l[k - 1]'(by omega)) := by
    rw [List.getLast?_eq_getElem?, List.length_take, Nat.min_eq_left h, List.getElem?_take, if_pos (by omega), List.getElem?_eq_getElem (by omega)]
  rw [this]
theorem nani_spec (a : Int) : Spec Try.prog 76 [.i .i64 a] [] (fun v os => v = .b false ∧ os = []) := by
  refine spec_of TtOk [] Try.func76 rfl Try.ntmps76 (by kernel_rfl) rfl rfl (fun C => ?_) rfl
  repeat' (first | refine Awp.seq ?_ | refine Awp.region ?_ | (refine Ops.nil ?_; show Awp _ _ _ _ _) | (refine Ops.nil ?_; show Exists _) | (refine Ops.nil ?_; show endK _ _ _ _ _) | (refine Awp.ret ?_; show endK _ _ _ _ _) | (refine o_calm rfl TtOk rfl rfl rfl ?_ (fun _ => ?_); first | exact True.intro | exact ⟨rfl, rfl, rfl, rfl⟩ | exact ⟨rfl, True.intro⟩ | exact ⟨rfl, rfl⟩ | exact ⟨rfl, rfl, rfl⟩ | exact rfl | exact ⟨fun h0 => by cases h0, rfl⟩ | exact (fun h0 => by cases h0) | exact ⟨rfl, by omega⟩ | exact ⟨Nat.succ_ne_zero _, rfl⟩ | omega))
  refine end_tmp rfl rfl rfl [] [] (CLe.of_eq ?_) .nil ⟨rfl, rfl⟩ _ (.inl rfl)
  show AV.b (a != a) = AV.b false
  rw [bne_self_eq_false]
theorem comparei_spec (a b : Int) : Spec Try.prog 37 [.i .i64 a, .i .i64 b] [] (fun v os => v = .i .i64 (cmpI a b) ∧ os = []) := by
  refine spec_of TtOk [] Try.func37 rfl Try.ntmps37 (by kernel_rfl) rfl rfl (fun C => ?_) rfl
  have h1 := nani_spec a
  have h2 := nani_spec b
  have hc0 : cmpI a b = if a < b then -1 else if b < a then 1 else 0 := rfl
  generalize cmpI a b = r at hc0 ⊢
  repeat' (first | refine Awp.seq ?_ | refine Awp.region ?_ | (refine Ops.nil ?_; show Awp _ _ _ _ _) | (refine Ops.nil ?_; show Exists _) | (refine Ops.nil ?_; show endK _ _ _ _ _) | (refine Awp.skip ?_; show Awp _ _ _ _ _) | (refine Awp.skip ?_; show endK _ _ _ _ _) | (refine Awp.skip ?_; show Exists _) | (refine Awp.ret ?_; show endK _ _ _ _ _) | (refine o_calm rfl TtOk rfl rfl rfl ?_ (fun _ => ?_); first | exact True.intro | exact ⟨rfl, rfl, rfl, rfl⟩ | exact ⟨rfl, True.intro⟩ | exact ⟨rfl, rfl⟩ | exact ⟨rfl, rfl, rfl⟩ | exact rfl | exact ⟨fun h0 => by cases h0, rfl⟩ | exact (fun h0 => by cases h0) | exact ⟨rfl, by omega⟩ | exact ⟨Nat.succ_ne_zero _, rfl⟩ | omega) | refine a_condT rfl ?_ | refine a_condF rfl ?_ | (refine a_condP rfl (fun hc => ?_) (fun hc => ?_)) <;> (try (exfalso; omega)) | (refine a_condI rfl (fun hc => ?_) (fun hc => ?_)) <;> (try (exfalso; omega)) | (refine a_condN rfl (fun hc => ?_) (fun hc => ?_)) <;> (try (exfalso; omega)) | (refine Awp.cond rfl (fun hc => ?_) (fun hc => ?_)) | (refine o_call0 rfl (h1) ⟨SLe.of_eq rfl, True.intro⟩ rfl ?_; rintro _ _ ⟨rfl, rfl⟩; refine ⟨rfl, ?_⟩) | (refine o_call0 rfl (h2) ⟨SLe.of_eq rfl, True.intro⟩ rfl ?_; rintro _ _ ⟨rfl, rfl⟩; refine ⟨rfl, ?_⟩))
  all_goals refine end_tmp rfl rfl rfl [] [] (CLe.of_eq ?_) .nil ⟨rfl, rfl⟩ _ (.inl rfl)
  all_goals refine congrArg (AV.i .i64) ?_
  all_goals (rw [hc0]; split <;> (try split) <;> omega)
theorem or_spec (a b : Int) : Spec Try.prog 80 [.sl 1 ([a, b].map (AV.i .i64))] [] (fun v os => v = .i .i64 (if a ≠ 0 then a else b) ∧ os = []) := by
  refine spec_of TtOk [] Try.func80 rfl Try.ntmps80 (by kernel_rfl) rfl rfl (fun C => ?_) rfl
  repeat' (first | refine Awp.seq ?_ | refine Awp.block ?_ | refine Awp.region ?_ | (refine Ops.nil ?_; show Awp _ _ _ _ _) | (refine Ops.nil ?_; show Exists _) | (refine Ops.nil ?_; show endK _ _ _ _ _) | (refine Awp.skip ?_; show Awp _ _ _ _ _) | (refine Awp.skip ?_; show endK _ _ _ _ _) | (refine Awp.skip ?_; show Exists _) | (refine Awp.exit ?_; show Awp _ _ _ _ _) | (refine Awp.exit ?_; show Exists _) | (refine Awp.exit ?_; show endK _ _ _ _ _) | (refine Awp.ret ?_; show endK _ _ _ _ _) | (refine o_add rfl rfl rfl rfl ?_ ?_; omega) | refine o_len rfl TtOk rfl rfl rfl (fun _ => ?_) | refine o_lenOwn rfl TtOk rfl rfl rfl rfl (fun _ => ?_) | (refine o_calm rfl TtOk rfl rfl rfl ?_ (fun _ => ?_); first | exact True.intro | exact ⟨rfl, rfl, rfl, rfl⟩ | exact ⟨rfl, True.intro⟩ | exact ⟨rfl, rfl⟩ | exact ⟨rfl, rfl, rfl⟩ | exact rfl | exact ⟨fun h0 => by cases h0, rfl⟩ | exact (fun h0 => by cases h0) | exact ⟨rfl, by omega⟩ | exact ⟨Nat.succ_ne_zero _, rfl⟩ | omega) | (refine o_index rfl TtOk rfl rfl rfl rfl rfl rfl ?_ (getq_nat ?_) ?_; omega; omega) | (refine o_indexOwn TtOk rfl rfl rfl rfl rfl rfl rfl rfl _ rfl ?_ (fun bO hbO => ?_); (simp only [List.length_map]; omega)) | (refine o_loadRow TtOk rfl rfl rfl rfl rfl (by assumption) (getq_map (List.getElem?_eq_getElem ?_)) rfl rfl (by first | exact Nat.add_zero _ | rfl) ⟨rfl, rfl⟩ ?_; omega) | (refine o_calm rfl TtOk rfl rfl rfl ?_ (fun _ => ?_); (show List.length _ + List.length _ ≤ 9223372036854775807; (try simp only [List.length_append, List.length_cons, List.length_nil]); omega)) | (refine o_storeRow TtOk rfl rfl rfl rfl rfl rfl (by assumption) (getq_map (List.getElem?_eq_getElem ?_)) rfl rfl (by first | exact Nat.add_zero _ | rfl) ⟨rfl, rfl⟩ rfl rfl ?_; omega) | refine a_condT rfl ?_ | refine a_condF rfl ?_ | (refine a_condP rfl (fun hc => ?_) (fun hc => ?_)) <;> (try (exfalso; omega)) | (refine a_condI rfl (fun hc => ?_) (fun hc => ?_)) <;> (try (exfalso; omega)) | (refine a_condN rfl (fun hc => ?_) (fun hc => ?_)) <;> (try (exfalso; omega)) | (refine Awp.cond rfl (fun hc => ?_) (fun hc => ?_)))
  refine Awp.loop (fun i : Nat => ⟨18, [(8, .i .i64 i), (7, .i .i64 2), (6, .sl 1 ([a, b].map (AV.i .i64))), (3, .i .i64 0)], []⟩) (fun i => i ≤ 2 ∧ (1 ≤ i → a = 0) ∧ (2 ≤ i → b = 0)) (fun i => 2 - i) [] 0 ⟨by omega, fun h => by omega, fun h => by omega⟩ ?_ ?_
  · exact ⟨rfl, ⟨sle_i rfl, sle_i rfl, sle_sl rfl, sle_i rfl, True.intro⟩, .nil⟩
  rintro i ⟨hi, ha, hb⟩
  have hl : [a, b].length = 2 := rfl
  rcases i with _ | _ | _ | i
  · repeat' (first | refine Awp.seq ?_ | refine Awp.block ?_ | refine Awp.region ?_ | (refine Ops.nil ?_; show Awp _ _ _ _ _) | (refine Ops.nil ?_; show Exists _) | (refine Ops.nil ?_; show endK _ _ _ _ _) | (refine Awp.skip ?_; show Awp _ _ _ _ _) | (refine Awp.skip ?_; show endK _ _ _ _ _) | (refine Awp.skip ?_; show Exists _) | (refine Awp.exit ?_; show Awp _ _ _ _ _) | (refine Awp.exit ?_; show Exists _) | (refine Awp.exit ?_; show endK _ _ _ _ _) | (refine Awp.ret ?_; show endK _ _ _ _ _) | (refine o_add rfl rfl rfl rfl ?_ ?_; omega) | refine o_len rfl TtOk rfl rfl rfl (fun _ => ?_) | refine o_lenOwn rfl TtOk rfl rfl rfl rfl (fun _ => ?_) | (refine o_calm rfl TtOk rfl rfl rfl ?_ (fun _ => ?_); first | exact True.intro | exact ⟨rfl, rfl, rfl, rfl⟩ | exact ⟨rfl, True.intro⟩ | exact ⟨rfl, rfl⟩ | exact ⟨rfl, rfl, rfl⟩ | exact rfl | exact ⟨fun h0 => by cases h0, rfl⟩ | exact (fun h0 => by cases h0) | exact ⟨rfl, by omega⟩ | exact ⟨Nat.succ_ne_zero _, rfl⟩ | omega) | (refine o_index rfl TtOk rfl rfl rfl rfl rfl rfl ?_ (getq_nat ?_) ?_; omega; omega) | (refine o_indexOwn TtOk rfl rfl rfl rfl rfl rfl rfl rfl _ rfl ?_ (fun bO hbO => ?_); (simp only [List.length_map]; omega)) | (refine o_loadRow TtOk rfl rfl rfl rfl rfl (by assumption) (getq_map (List.getElem?_eq_getElem ?_)) rfl rfl (by first | exact Nat.add_zero _ | rfl) ⟨rfl, rfl⟩ ?_; omega) | (refine o_calm rfl TtOk rfl rfl rfl ?_ (fun _ => ?_); (show List.length _ + List.length _ ≤ 9223372036854775807; (try simp only [List.length_append, List.length_cons, List.length_nil]); omega)) | (refine o_storeRow TtOk rfl rfl rfl rfl rfl rfl (by assumption) (getq_map (List.getElem?_eq_getElem ?_)) rfl rfl (by first | exact Nat.add_zero _ | rfl) ⟨rfl, rfl⟩ rfl rfl ?_; omega) | refine a_condT rfl ?_ | refine a_condF rfl ?_ | (refine a_condP rfl (fun hc => ?_) (fun hc => ?_)) <;> (try (exfalso; omega)) | (refine a_condI rfl (fun hc => ?_) (fun hc => ?_)) <;> (try (exfalso; omega)) | (refine a_condN rfl (fun hc => ?_) (fun hc => ?_)) <;> (try (exfalso; omega)) | (refine Awp.cond rfl (fun hc => ?_) (fun hc => ?_)))
    · have hc : ¬ a = 0 := hc
      rw [if_pos hc]
      exact end_tmp rfl rfl rfl [] [] (CLe.of_eq rfl) .nil ⟨rfl, rfl⟩ _ (.inl rfl)
    · exact ⟨1, [], ⟨by omega, fun _ => (hc : a = 0), fun h => by omega⟩, by omega, rfl, ⟨sle_i rfl, sle_i rfl, sle_sl rfl, sle_i rfl, True.intro⟩, .nil⟩
  · have ha := ha (by omega)
    repeat' (first | refine Awp.seq ?_ | refine Awp.block ?_ | refine Awp.region ?_ | (refine Ops.nil ?_; show Awp _ _ _ _ _) | (refine Ops.nil ?_; show Exists _) | (refine Ops.nil ?_; show endK _ _ _ _ _) | (refine Awp.skip ?_; show Awp _ _ _ _ _) | (refine Awp.skip ?_; show endK _ _ _ _ _) | (refine Awp.skip ?_; show Exists _) | (refine Awp.exit ?_; show Awp _ _ _ _ _) | (refine Awp.exit ?_; show Exists _) | (refine Awp.exit ?_; show endK _ _ _ _ _) | (refine Awp.ret ?_; show endK _ _ _ _ _) | (refine o_add rfl rfl rfl rfl ?_ ?_; omega) | refine o_len rfl TtOk rfl rfl rfl (fun _ => ?_) | refine o_lenOwn rfl TtOk rfl rfl rfl rfl (fun _ => ?_) | (refine o_calm rfl TtOk rfl rfl rfl ?_ (fun _ => ?_); first | exact True.intro | exact ⟨rfl, rfl, rfl, rfl⟩ | exact ⟨rfl, True.intro⟩ | exact ⟨rfl, rfl⟩ | exact ⟨rfl, rfl, rfl⟩ | exact rfl | exact ⟨fun h0 => by cases h0, rfl⟩ | exact (fun h0 => by cases h0) | exact ⟨rfl, by omega⟩ | exact ⟨Nat.succ_ne_zero _, rfl⟩ | omega) | (refine o_index rfl TtOk rfl rfl rfl rfl rfl rfl ?_ (getq_nat ?_) ?_; omega; omega) | (refine o_indexOwn TtOk rfl rfl rfl rfl rfl rfl rfl rfl _ rfl ?_ (fun bO hbO => ?_); (simp only [List.length_map]; omega)) | (refine o_loadRow TtOk rfl rfl rfl rfl rfl (by assumption) (getq_map (List.getElem?_eq_getElem ?_)) rfl rfl (by first | exact Nat.add_zero _ | rfl) ⟨rfl, rfl⟩ ?_; omega) | (refine o_calm rfl TtOk rfl rfl rfl ?_ (fun _ => ?_); (show List.length _ + List.length _ ≤ 9223372036854775807; (try simp only [List.length_append, List.length_cons, List.length_nil]); omega)) | (refine o_storeRow TtOk rfl rfl rfl rfl rfl rfl (by assumption) (getq_map (List.getElem?_eq_getElem ?_)) rfl rfl (by first | exact Nat.add_zero _ | rfl) ⟨rfl, rfl⟩ rfl rfl ?_; omega) | refine a_condT rfl ?_ | refine a_condF rfl ?_ | (refine a_condP rfl (fun hc => ?_) (fun hc => ?_)) <;> (try (exfalso; omega)) | (refine a_condI rfl (fun hc => ?_) (fun hc => ?_)) <;> (try (exfalso; omega)) | (refine a_condN rfl (fun hc => ?_) (fun hc => ?_)) <;> (try (exfalso; omega)) | (refine Awp.cond rfl (fun hc => ?_) (fun hc => ?_)))
    · rw [if_neg (fun h => h ha)]
      exact end_tmp rfl rfl rfl [] [] (CLe.of_eq rfl) .nil ⟨rfl, rfl⟩ _ (.inl rfl)
    · exact ⟨2, [], ⟨by omega, fun _ => ha, fun _ => (hc : b = 0)⟩, by omega, rfl, ⟨sle_i rfl, sle_i rfl, sle_sl rfl, sle_i rfl, True.intro⟩, .nil⟩
  · have ha := ha (by omega)
    have hb := hb (by omega)
    rw [if_neg (fun h => h ha), hb]
    repeat' (first | refine Awp.seq ?_ | refine Awp.block ?_ | refine Awp.region ?_ | (refine Ops.nil ?_; show Awp _ _ _ _ _) | (refine Ops.nil ?_; show Exists _) | (refine Ops.nil ?_; show endK _ _ _ _ _) | (refine Awp.skip ?_; show Awp _ _ _ _ _) | (refine Awp.skip ?_; show endK _ _ _ _ _) | (refine Awp.skip ?_; show Exists _) | (refine Awp.exit ?_; show Awp _ _ _ _ _) | (refine Awp.exit ?_; show Exists _) | (refine Awp.exit ?_; show endK _ _ _ _ _) | (refine Awp.ret ?_; show endK _ _ _ _ _) | (refine o_add rfl rfl rfl rfl ?_ ?_; omega) | refine o_len rfl TtOk rfl rfl rfl (fun _ => ?_) | refine o_lenOwn rfl TtOk rfl rfl rfl rfl (fun _ => ?_) | (refine o_calm rfl TtOk rfl rfl rfl ?_ (fun _ => ?_); first | exact True.intro | exact ⟨rfl, rfl, rfl, rfl⟩ | exact ⟨rfl, True.intro⟩ | exact ⟨rfl, rfl⟩ | exact ⟨rfl, rfl, rfl⟩ | exact rfl | exact ⟨fun h0 => by cases h0, rfl⟩ | exact (fun h0 => by cases h0) | exact ⟨rfl, by omega⟩ | exact ⟨Nat.succ_ne_zero _, rfl⟩ | omega) | (refine o_index rfl TtOk rfl rfl rfl rfl rfl rfl ?_ (getq_nat ?_) ?_; omega; omega) | (refine o_indexOwn TtOk rfl rfl rfl rfl rfl rfl rfl rfl _ rfl ?_ (fun bO hbO => ?_); (simp only [List.length_map]; omega)) | (refine o_loadRow TtOk rfl rfl rfl rfl rfl (by assumption) (getq_map (List.getElem?_eq_getElem ?_)) rfl rfl (by first | exact Nat.add_zero _ | rfl) ⟨rfl, rfl⟩ ?_; omega) | (refine o_calm rfl TtOk rfl rfl rfl ?_ (fun _ => ?_); (show List.length _ + List.length _ ≤ 9223372036854775807; (try simp only [List.length_append, List.length_cons, List.length_nil]); omega)) | (refine o_storeRow TtOk rfl rfl rfl rfl rfl rfl (by assumption) (getq_map (List.getElem?_eq_getElem ?_)) rfl rfl (by first | exact Nat.add_zero _ | rfl) ⟨rfl, rfl⟩ rfl rfl ?_; omega) | refine a_condT rfl ?_ | refine a_condF rfl ?_ | (refine a_condP rfl (fun hc => ?_) (fun hc => ?_)) <;> (try (exfalso; omega)) | (refine a_condI rfl (fun hc => ?_) (fun hc => ?_)) <;> (try (exfalso; omega)) | (refine a_condN rfl (fun hc => ?_) (fun hc => ?_)) <;> (try (exfalso; omega)) | (refine Awp.cond rfl (fun hc => ?_) (fun hc => ?_)))
    exact end_tmp rfl rfl rfl [] [] (CLe.of_eq rfl) .nil ⟨rfl, rfl⟩ _ (.inl rfl)
  · omega
end Go.Proofs.Ytnmnhnlebkebfaa
