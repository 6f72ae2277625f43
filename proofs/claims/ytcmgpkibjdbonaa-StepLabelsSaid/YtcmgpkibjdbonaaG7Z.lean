/- patch.Check by rules. -/
import Derived.Test.YtcmgpkibjdbonaaG5Z
import Derived.Test.YtcmgpkibjdbonaaV29Z
set_option maxHeartbeats 8000000
set_option maxRecDepth 100000
namespace Go.Proofs.Ytcmgpkibjdbonaa
open Go Go.RowKit
def Itm.p (x : Itm) : Pfx := ⟨x.n, x.l⟩
def badI (a x : Itm) : Bool := overP a.p x.p || (overP x.p a.p || decide (0 ≤ cmpS a.l x.l))
def chkL : Option Itm → List Itm → Int
  | _, [] => 0
  | none, x :: r => if goodI x = true then chkL (some x) r else 1
  | some a, x :: r => if goodI x = true then (if badI a x = true then 3 else chkL (some x) r) else 1
def chkI (l : List Itm) : Int := if 2000 < l.length then 2 else chkL none l
def prevI (l : List Itm) : Nat → Option Itm
  | 0 => none
  | i + 1 => l[i]?
theorem chkL_step (l : List Itm) (i : Nat) (h : i < l.length) : chkL (prevI l i) (l.drop i) = if goodI l[i] = true then (if h0 : 0 < i then (if badI (l[i - 1]'(by omega)) l[i] = true then 3 else chkL (prevI l (i + 1)) (l.drop (i + 1))) else chkL (prevI l (i + 1)) (l.drop (i + 1))) else 1 := by
  have hp : prevI l (i + 1) = some l[i] := by show l[i]? = _; exact List.getElem?_eq_getElem h
  rw [List.drop_eq_getElem_cons h, hp]
  cases i with
  | zero => rfl
  | succ j =>
    have hq : prevI l (j + 1) = some l[j] := by show l[j]? = _; exact List.getElem?_eq_getElem (by omega)
    rw [hq, dif_pos (Nat.succ_pos j)]
    rfl
theorem pcheck_spec (l : List Itm) (hl : l.length ≤ 100000) (hok : ∀ x ∈ l, x.ok) : Spec Try.prog 33 [.sl 66 (l.map Itm.A)] [] (fun v os => v = .i .i64 (chkI l) ∧ os = []) := by
  refine spec_of TtOk [] Try.func33 rfl Try.ntmps33 (by kernel_rfl) rfl rfl (fun C => ?_) rfl
  unfold chkI
  by_cases h2 : 2000 < l.length
  · rw [if_pos h2]
    repeat' (first | refine Awp.seq ?_ | refine Awp.region ?_ | (refine Ops.nil ?_; show Awp _ _ _ _ _) | (refine Awp.ret ?_; show endK _ _ _ _ _) | refine o_len rfl TtOk rfl rfl rfl (fun _ => ?_) | (refine o_calm rfl TtOk rfl rfl rfl ?_ (fun _ => ?_); first | exact True.intro | exact ⟨rfl, rfl, rfl, rfl⟩ | exact ⟨rfl, True.intro⟩ | exact ⟨rfl, rfl⟩ | exact ⟨rfl, rfl, rfl⟩ | exact rfl | exact ⟨fun h0 => by cases h0, rfl⟩ | exact (fun h0 => by cases h0) | exact ⟨rfl, by omega⟩ | exact ⟨Nat.succ_ne_zero _, rfl⟩ | omega) | (refine a_condP rfl (fun hc => ?_) (fun hc => ?_)) <;> (try (exfalso; omega)))
    exact end_tmp rfl rfl rfl [] [] (CLe.of_eq rfl) .nil ⟨rfl, rfl⟩ _ (.inl rfl)
  rw [if_neg h2]
  obtain ⟨G, hG⟩ : ∃ G, chkL none l = G := ⟨_, rfl⟩
  rw [hG]
  repeat' (first | refine Awp.seq ?_ | refine Awp.block ?_ | refine Awp.region ?_ | (refine Ops.nil ?_; show Awp _ _ _ _ _) | (refine Awp.skip ?_; show Awp _ _ _ _ _) | refine o_len rfl TtOk rfl rfl rfl (fun _ => ?_) | (refine o_calm rfl TtOk rfl rfl rfl ?_ (fun _ => ?_); first | exact True.intro | exact ⟨rfl, rfl, rfl, rfl⟩ | exact ⟨rfl, True.intro⟩ | exact ⟨rfl, rfl⟩ | exact ⟨rfl, rfl, rfl⟩ | exact rfl | exact ⟨fun h0 => by cases h0, rfl⟩ | exact (fun h0 => by cases h0) | exact ⟨rfl, by omega⟩ | exact ⟨Nat.succ_ne_zero _, rfl⟩ | omega) | (refine a_condP rfl (fun hc => ?_) (fun hc => ?_)) <;> (try (exfalso; omega)))
  refine Awp.loop (fun i : Nat => ⟨44, [(11, .i .i64 i), (10, .i .i64 l.length), (9, .sl 66 (l.map Itm.A)), (0, .sl 66 (l.map Itm.A))], []⟩) (fun i => i ≤ l.length ∧ chkL (prevI l i) (l.drop i) = G) (fun i => l.length - i) [] 0 ⟨Nat.zero_le _, hG⟩ ?_ ?_
  · exact ⟨rfl, ⟨sle_i rfl, sle_i rfl, sle_sl rfl, sle_sl rfl, True.intro⟩, .nil⟩
  rintro i ⟨hi, hr⟩
  by_cases hlt : i < l.length
  · have hx := hok _ (List.getElem_mem hlt)
    have hi1 : ((i : Int) + 1 = ((i + 1 : Nat) : Int)) := by omega
    rw [chkL_step l i hlt] at hr
    have hgd := ngood_spec l[i] hx
    generalize goodI l[i] = g at hr hgd
    cases g
    · rw [if_neg Bool.false_ne_true] at hr
      subst hr
      repeat' (first | refine Awp.seq ?_ | refine Awp.block ?_ | refine Awp.region ?_ | (refine Ops.nil ?_; show Awp _ _ _ _ _) | (refine Awp.skip ?_; show Awp _ _ _ _ _) | (refine Awp.ret ?_; show endK _ _ _ _ _) | (refine o_calm rfl TtOk rfl rfl rfl ?_ (fun _ => ?_); first | exact True.intro | exact ⟨rfl, rfl, rfl, rfl⟩ | exact ⟨rfl, True.intro⟩ | exact ⟨rfl, rfl⟩ | exact ⟨rfl, rfl, rfl⟩ | exact rfl | exact ⟨fun h0 => by cases h0, rfl⟩ | exact (fun h0 => by cases h0) | exact ⟨rfl, by omega⟩ | exact ⟨Nat.succ_ne_zero _, rfl⟩ | omega) | refine o_alloc (d := 4) rfl TtOk rfl rfl rfl (fun b4 => ?_) | refine o_store TtOk rfl rfl rfl rfl rfl rfl rfl ⟨rfl, rfl⟩ rfl rfl rfl rfl rfl ?_ | (refine o_index rfl TtOk rfl rfl rfl rfl rfl rfl ?_ (getq_nat ?_) ?_; omega; omega) | refine a_condT rfl ?_ | (refine a_condP rfl (fun hc => ?_) (fun hc => ?_)) <;> (try (exfalso; omega)) | (refine o_call0 rfl (hgd) ⟨SLe.of_eq rfl, True.intro⟩ rfl ?_; rintro _ _ ⟨rfl, rfl⟩; refine ⟨rfl, ?_⟩))
      exact end_tmp rfl rfl rfl [] [] (CLe.of_eq rfl) .nil ⟨rfl, rfl⟩ _ (.inl rfl)
    rw [if_pos rfl] at hr
    by_cases h0 : 0 < i
    · rw [dif_pos h0] at hr
      have hj : i - 1 < l.length := by omega
      have hy := hok _ (List.getElem_mem hj)
      have o1 : Spec Try.prog 90 [pfxA l[i - 1].n l[i - 1].l, pfxA l[i].n l[i].l] [] _ := bover_spec (l[i - 1]).p (l[i]).p hy.1 hx.1
      have o2 : Spec Try.prog 90 [pfxA l[i].n l[i].l, pfxA l[i - 1].n l[i - 1].l] [] _ := bover_spec (l[i]).p (l[i - 1]).p hx.1 hy.1
      have o3 := border_spec (l[i - 1]).l (l[i]).l
      have hb : badI l[i - 1] l[i] = (overP (l[i - 1]).p (l[i]).p || (overP (l[i]).p (l[i - 1]).p || decide (0 ≤ cmpS (l[i - 1]).l (l[i]).l))) := rfl
      rw [hb] at hr
      generalize overP (l[i - 1]).p (l[i]).p = u1 at hr o1
      generalize overP (l[i]).p (l[i - 1]).p = u2 at hr o2
      generalize cmpS (l[i - 1]).l (l[i]).l = c at hr o3
      cases u1
      · cases u2
        · by_cases hc : 0 ≤ c
          · rw [decide_eq_true hc] at hr
            rw [if_pos (by rfl)] at hr
            subst hr
            repeat' (first | refine Awp.seq ?_ | refine Awp.block ?_ | refine Awp.region ?_ | (refine Ops.nil ?_; show Awp _ _ _ _ _) | (refine Awp.skip ?_; show Awp _ _ _ _ _) | (refine Awp.ret ?_; show endK _ _ _ _ _) | (refine o_sub rfl rfl rfl rfl ?_ ?_; omega) | (refine o_calm rfl TtOk rfl rfl rfl ?_ (fun _ => ?_); first | exact True.intro | exact ⟨rfl, rfl, rfl, rfl⟩ | exact ⟨rfl, True.intro⟩ | exact ⟨rfl, rfl⟩ | exact ⟨rfl, rfl, rfl⟩ | exact rfl | exact ⟨fun h0 => by cases h0, rfl⟩ | exact (fun h0 => by cases h0) | exact ⟨rfl, by omega⟩ | exact ⟨Nat.succ_ne_zero _, rfl⟩ | omega) | refine o_alloc (d := 4) rfl TtOk rfl rfl rfl (fun b4 => ?_) | refine o_alloc (d := 5) rfl TtOk rfl rfl rfl (fun b5 => ?_) | refine o_store TtOk rfl rfl rfl rfl rfl rfl rfl ⟨rfl, rfl⟩ rfl rfl rfl rfl rfl ?_ | (refine o_index rfl TtOk rfl rfl rfl rfl rfl rfl ?_ (getq_nat ?_) ?_; omega; omega) | refine a_condF rfl ?_ | (refine a_condP rfl (fun hc => ?_) (fun hc => ?_)) <;> (try (exfalso; omega)) | (refine o_index rfl TtOk rfl rfl rfl rfl rfl rfl ?_ (getq_as (i-1) ?_ hj) ?_; omega; omega) | (refine o_call0 rfl (hgd) ⟨SLe.of_eq rfl, True.intro⟩ rfl ?_; rintro _ _ ⟨rfl, rfl⟩; refine ⟨rfl, ?_⟩) | (refine o_call0 rfl (o1) ⟨SLe.of_eq rfl, SLe.of_eq rfl, True.intro⟩ rfl ?_; rintro _ _ ⟨rfl, rfl⟩; refine ⟨rfl, ?_⟩) | (refine o_call0 rfl (o2) ⟨SLe.of_eq rfl, SLe.of_eq rfl, True.intro⟩ rfl ?_; rintro _ _ ⟨rfl, rfl⟩; refine ⟨rfl, ?_⟩) | (refine o_call0 rfl (o3) ⟨SLe.of_eq rfl, SLe.of_eq rfl, True.intro⟩ rfl ?_; rintro _ _ ⟨rfl, rfl⟩; refine ⟨rfl, ?_⟩))
            exact end_tmp rfl rfl rfl [] [] (CLe.of_eq rfl) .nil ⟨rfl, rfl⟩ _ (.inl rfl)
          · rw [decide_eq_false hc] at hr
            rw [if_neg (by decide)] at hr
            repeat' (first | refine Awp.seq ?_ | refine Awp.block ?_ | refine Awp.region ?_ | (refine Ops.nil ?_; show Awp _ _ _ _ _) | (refine Ops.nil ?_; show Exists _) | (refine Awp.skip ?_; show Awp _ _ _ _ _) | (refine o_add rfl rfl rfl rfl ?_ ?_; omega) | (refine o_sub rfl rfl rfl rfl ?_ ?_; omega) | (refine o_calm rfl TtOk rfl rfl rfl ?_ (fun _ => ?_); first | exact True.intro | exact ⟨rfl, rfl, rfl, rfl⟩ | exact ⟨rfl, True.intro⟩ | exact ⟨rfl, rfl⟩ | exact ⟨rfl, rfl, rfl⟩ | exact rfl | exact ⟨fun h0 => by cases h0, rfl⟩ | exact (fun h0 => by cases h0) | exact ⟨rfl, by omega⟩ | exact ⟨Nat.succ_ne_zero _, rfl⟩ | omega) | refine o_alloc (d := 4) rfl TtOk rfl rfl rfl (fun b4 => ?_) | refine o_alloc (d := 5) rfl TtOk rfl rfl rfl (fun b5 => ?_) | refine o_store TtOk rfl rfl rfl rfl rfl rfl rfl ⟨rfl, rfl⟩ rfl rfl rfl rfl rfl ?_ | (refine o_index rfl TtOk rfl rfl rfl rfl rfl rfl ?_ (getq_nat ?_) ?_; omega; omega) | refine a_condF rfl ?_ | (refine a_condP rfl (fun hc => ?_) (fun hc => ?_)) <;> (try (exfalso; omega)) | (refine o_index rfl TtOk rfl rfl rfl rfl rfl rfl ?_ (getq_as (i-1) ?_ hj) ?_; omega; omega) | (refine o_call0 rfl (hgd) ⟨SLe.of_eq rfl, True.intro⟩ rfl ?_; rintro _ _ ⟨rfl, rfl⟩; refine ⟨rfl, ?_⟩) | (refine o_call0 rfl (o1) ⟨SLe.of_eq rfl, SLe.of_eq rfl, True.intro⟩ rfl ?_; rintro _ _ ⟨rfl, rfl⟩; refine ⟨rfl, ?_⟩) | (refine o_call0 rfl (o2) ⟨SLe.of_eq rfl, SLe.of_eq rfl, True.intro⟩ rfl ?_; rintro _ _ ⟨rfl, rfl⟩; refine ⟨rfl, ?_⟩) | (refine o_call0 rfl (o3) ⟨SLe.of_eq rfl, SLe.of_eq rfl, True.intro⟩ rfl ?_; rintro _ _ ⟨rfl, rfl⟩; refine ⟨rfl, ?_⟩))
            exact ⟨i + 1, [], ⟨hlt, hr⟩, by show l.length - (i + 1) < l.length - i; omega, rfl, ⟨sle_i hi1, sle_i rfl, sle_sl rfl, sle_sl rfl, True.intro⟩, .nil⟩
        · rw [if_pos (by rfl)] at hr
          subst hr
          repeat' (first | refine Awp.seq ?_ | refine Awp.block ?_ | refine Awp.region ?_ | (refine Ops.nil ?_; show Awp _ _ _ _ _) | (refine Awp.skip ?_; show Awp _ _ _ _ _) | (refine Awp.ret ?_; show endK _ _ _ _ _) | (refine o_sub rfl rfl rfl rfl ?_ ?_; omega) | (refine o_calm rfl TtOk rfl rfl rfl ?_ (fun _ => ?_); first | exact True.intro | exact ⟨rfl, rfl, rfl, rfl⟩ | exact ⟨rfl, True.intro⟩ | exact ⟨rfl, rfl⟩ | exact ⟨rfl, rfl, rfl⟩ | exact rfl | exact ⟨fun h0 => by cases h0, rfl⟩ | exact (fun h0 => by cases h0) | exact ⟨rfl, by omega⟩ | exact ⟨Nat.succ_ne_zero _, rfl⟩ | omega) | refine o_alloc (d := 4) rfl TtOk rfl rfl rfl (fun b4 => ?_) | refine o_alloc (d := 5) rfl TtOk rfl rfl rfl (fun b5 => ?_) | refine o_store TtOk rfl rfl rfl rfl rfl rfl rfl ⟨rfl, rfl⟩ rfl rfl rfl rfl rfl ?_ | (refine o_index rfl TtOk rfl rfl rfl rfl rfl rfl ?_ (getq_nat ?_) ?_; omega; omega) | refine a_condT rfl ?_ | refine a_condF rfl ?_ | (refine a_condP rfl (fun hc => ?_) (fun hc => ?_)) <;> (try (exfalso; omega)) | (refine o_index rfl TtOk rfl rfl rfl rfl rfl rfl ?_ (getq_as (i-1) ?_ hj) ?_; omega; omega) | (refine o_call0 rfl (hgd) ⟨SLe.of_eq rfl, True.intro⟩ rfl ?_; rintro _ _ ⟨rfl, rfl⟩; refine ⟨rfl, ?_⟩) | (refine o_call0 rfl (o1) ⟨SLe.of_eq rfl, SLe.of_eq rfl, True.intro⟩ rfl ?_; rintro _ _ ⟨rfl, rfl⟩; refine ⟨rfl, ?_⟩) | (refine o_call0 rfl (o2) ⟨SLe.of_eq rfl, SLe.of_eq rfl, True.intro⟩ rfl ?_; rintro _ _ ⟨rfl, rfl⟩; refine ⟨rfl, ?_⟩))
          exact end_tmp rfl rfl rfl [] [] (CLe.of_eq rfl) .nil ⟨rfl, rfl⟩ _ (.inl rfl)
      · rw [if_pos (by rfl)] at hr
        subst hr
        repeat' (first | refine Awp.seq ?_ | refine Awp.block ?_ | refine Awp.region ?_ | (refine Ops.nil ?_; show Awp _ _ _ _ _) | (refine Awp.skip ?_; show Awp _ _ _ _ _) | (refine Awp.ret ?_; show endK _ _ _ _ _) | (refine o_sub rfl rfl rfl rfl ?_ ?_; omega) | (refine o_calm rfl TtOk rfl rfl rfl ?_ (fun _ => ?_); first | exact True.intro | exact ⟨rfl, rfl, rfl, rfl⟩ | exact ⟨rfl, True.intro⟩ | exact ⟨rfl, rfl⟩ | exact ⟨rfl, rfl, rfl⟩ | exact rfl | exact ⟨fun h0 => by cases h0, rfl⟩ | exact (fun h0 => by cases h0) | exact ⟨rfl, by omega⟩ | exact ⟨Nat.succ_ne_zero _, rfl⟩ | omega) | refine o_alloc (d := 4) rfl TtOk rfl rfl rfl (fun b4 => ?_) | refine o_alloc (d := 5) rfl TtOk rfl rfl rfl (fun b5 => ?_) | refine o_store TtOk rfl rfl rfl rfl rfl rfl rfl ⟨rfl, rfl⟩ rfl rfl rfl rfl rfl ?_ | (refine o_index rfl TtOk rfl rfl rfl rfl rfl rfl ?_ (getq_nat ?_) ?_; omega; omega) | refine a_condT rfl ?_ | refine a_condF rfl ?_ | (refine a_condP rfl (fun hc => ?_) (fun hc => ?_)) <;> (try (exfalso; omega)) | (refine o_index rfl TtOk rfl rfl rfl rfl rfl rfl ?_ (getq_as (i-1) ?_ hj) ?_; omega; omega) | (refine o_call0 rfl (hgd) ⟨SLe.of_eq rfl, True.intro⟩ rfl ?_; rintro _ _ ⟨rfl, rfl⟩; refine ⟨rfl, ?_⟩) | (refine o_call0 rfl (o1) ⟨SLe.of_eq rfl, SLe.of_eq rfl, True.intro⟩ rfl ?_; rintro _ _ ⟨rfl, rfl⟩; refine ⟨rfl, ?_⟩))
        exact end_tmp rfl rfl rfl [] [] (CLe.of_eq rfl) .nil ⟨rfl, rfl⟩ _ (.inl rfl)
    · have h0 : i = 0 := by omega
      subst h0
      rw [dif_neg (Nat.lt_irrefl _)] at hr
      repeat' (first | refine Awp.seq ?_ | refine Awp.block ?_ | refine Awp.region ?_ | (refine Ops.nil ?_; show Awp _ _ _ _ _) | (refine Ops.nil ?_; show Exists _) | (refine Awp.skip ?_; show Awp _ _ _ _ _) | (refine Awp.exit ?_; show Awp _ _ _ _ _) | (refine o_add rfl rfl rfl rfl ?_ ?_; omega) | (refine o_calm rfl TtOk rfl rfl rfl ?_ (fun _ => ?_); first | exact True.intro | exact ⟨rfl, rfl, rfl, rfl⟩ | exact ⟨rfl, True.intro⟩ | exact ⟨rfl, rfl⟩ | exact ⟨rfl, rfl, rfl⟩ | exact rfl | exact ⟨fun h0 => by cases h0, rfl⟩ | exact (fun h0 => by cases h0) | exact ⟨rfl, by omega⟩ | exact ⟨Nat.succ_ne_zero _, rfl⟩ | omega) | refine o_alloc (d := 4) rfl TtOk rfl rfl rfl (fun b4 => ?_) | refine o_store TtOk rfl rfl rfl rfl rfl rfl rfl ⟨rfl, rfl⟩ rfl rfl rfl rfl rfl ?_ | (refine o_index rfl TtOk rfl rfl rfl rfl rfl rfl ?_ (getq_nat ?_) ?_; omega; omega) | refine a_condT rfl ?_ | refine a_condF rfl ?_ | (refine a_condP rfl (fun hc => ?_) (fun hc => ?_)) <;> (try (exfalso; omega)) | (refine o_call0 rfl (hgd) ⟨SLe.of_eq rfl, True.intro⟩ rfl ?_; rintro _ _ ⟨rfl, rfl⟩; refine ⟨rfl, ?_⟩))
      exact ⟨1, [], ⟨hlt, hr⟩, by show l.length - 1 < l.length - 0; omega, rfl, ⟨sle_i rfl, sle_i rfl, sle_sl rfl, sle_sl rfl, True.intro⟩, .nil⟩
  · have hie : i = l.length := by omega
    subst hie
    rw [List.drop_length] at hr
    have hz : ∀ p, chkL p [] = 0 := fun p => by cases p <;> rfl
    rw [hz] at hr
    subst hr
    repeat' (first | refine Awp.seq ?_ | refine Awp.region ?_ | (refine Ops.nil ?_; show Awp _ _ _ _ _) | (refine Awp.exit ?_; show Awp _ _ _ _ _) | (refine Awp.ret ?_; show endK _ _ _ _ _) | (refine o_calm rfl TtOk rfl rfl rfl ?_ (fun _ => ?_); first | exact True.intro | exact ⟨rfl, rfl, rfl, rfl⟩ | exact ⟨rfl, True.intro⟩ | exact ⟨rfl, rfl⟩ | exact ⟨rfl, rfl, rfl⟩ | exact rfl | exact ⟨fun h0 => by cases h0, rfl⟩ | exact (fun h0 => by cases h0) | exact ⟨rfl, by omega⟩ | exact ⟨Nat.succ_ne_zero _, rfl⟩ | omega) | (refine a_condP rfl (fun hc => ?_) (fun hc => ?_)) <;> (try (exfalso; omega)))
    exact end_tmp rfl rfl rfl [] [] (CLe.of_eq rfl) .nil ⟨rfl, rfl⟩ _ (.inl rfl)
end Go.Proofs.Ytcmgpkibjdbonaa
set_option maxHeartbeats 4000000
namespace Go.Proofs.Ytcmgpkibjdbonaa
open Go Go.RowKit
section
variable {m : OM} {P : Program} {T : List (Nat × TI)} {C : Ctx} {ops : Array Oper} {l : List Oper} {K : St → Prop} {n : Nat} {sl : List (Nat × AV)} {hp : List (Nat × HO)} {d : Nat} {ty : Nat} {pos : String} {aft : Array Edge} {gd : Option (Nat × Bool)}
/-- A call of a function value by contract, with blocks. -/
theorem o_callCloG (fz pass ks : List Nat) (hw : gval ops ⟨n, sl, hp⟩ gd = gwant gd) {c : Operand} {f : FuncId} {args : Array Operand} {ats : Array TypeId} {caps ys : List AV} {os0 os : List HO} {H1 : List (Nat × HO)} {R : AV → List HO → Prop} (hc : ev ⟨n, sl, hp⟩ c = .fn (.func f) caps) (ho : caps.all isOne = true)
    (hspec : Spec P f ys os R) (hargs : argsLe (fzs hp fz) (args.toList.map (ev ⟨n, sl, hp⟩) ++ caps) ys) (htk : taken (hdels hp fz) pass = some (os0, H1)) (hos : hosLe (fzs hp fz) os0 os) (hd : Nat.blt d n = true) (heff : effOp P (.call ⟨.value c, args, ats⟩) = true) (hm : m.oke (some d) pass = true)
    (h : ∀ r os', R r os' → ∃ H2, forceL (ks.zip os' ++ H1) = some H2 ∧ ks.length = os'.length ∧ Ops m P C ops l ⟨n, (d, r) :: sl, H2⟩ K) :
    Ops m P C ops (⟨some d, .call ⟨.value c, args, ats⟩, ty, pos, aft, gd⟩ :: l) ⟨n, sl, hp⟩ K :=
  Ops.callG hw heff (args.toList.map (ev ⟨n, sl, hp⟩) ++ caps) (fun a w hs => by
    have Ec := ev_rep hs c
    rw [hc] at Ec
    obtain ⟨cs, e1, e2⟩ := Ec
    simp only [repC] at e1
    obtain ⟨vs, rfl, hv⟩ := e1
    have hev : a.eval c = .func (.func f) #[] vs := e2
    obtain ⟨k1, k2⟩ := repL_vs caps vs.toList ho hv
    refine ⟨args.toList.map a.eval ++ vs.toList, ⟨by simp [k1], fun i x v hx hv2 => ?_⟩, ?_⟩
    · rcases Nat.lt_or_ge i args.toList.length with hi | hi
      · rw [List.getElem?_append_left (by simpa using hi), List.getElem?_map] at hx hv2
        cases hq : args.toList[i]? with
        | none => rw [hq] at hx; cases hx
        | some o =>
          rw [hq] at hx hv2
          simp only [Option.map_some, Option.some.injEq] at hx hv2
          subst hx; subst hv2
          exact ev_rep hs o
      · rw [List.getElem?_append_right (by simpa using hi)] at hx hv2
        exact k2 _ x v (by simpa using hx) (by simpa using hv2)
    · rw [execOp_clo a hev args ats]
      congr 1
      apply Array.ext'
      simp [Array.toList_map]) fz pass ks hspec hargs htk hos hd hm (fun r os' hr => by
    obtain ⟨H2, h1, h2, h3⟩ := h r os' hr
    have h1 := forceL_eq _ _ h1
    exact ⟨h2, by rw [← h1] at h3; exact h3⟩)
theorem o_makeFuncB (hw : gval ops ⟨n, sl, hp⟩ gd = gwant gd) {f : Fn} {c1 : Operand} {x1 : AV} {u : Value} (h1 : ev ⟨n, sl, hp⟩ c1 = x1) (hu : ∀ (w : World) (F : Nat → Prop) v, repV w F x1 v → v = u) (hd : Nat.blt d n = true)
    (h : Ops m P C ops l ⟨n, (d, .own d (.func f #[u] #[])) :: sl, hp⟩ K) : Ops m P C ops (⟨some d, .makeFunc f #[c1] #[], ty, pos, aft, gd⟩ :: l) ⟨n, sl, hp⟩ K := by
  refine Ops.by hw none okc_none hd rfl (fun a w hs => ⟨.func f #[a.eval c1] #[], ?_, fun w' _ => ?_⟩) h
  · have e1 := ev_rep hs c1
    rw [h1] at e1
    rw [hu _ _ _ e1, repV_own]
    exact ⟨rfl, rfl⟩
  · simp [execOp, Instr.makeFunc]
theorem execOp_bnd (a : Act) {dd : Option Tmp} {c : Operand} {f : FuncId} {u : Value} (hc : a.eval c = .func (.func f) #[u] #[]) (args : Array Operand) (ats : Array TypeId) :
    execOp a.eval ⟨dd, .call ⟨.value c, args, ats⟩, ty, pos, aft, gd⟩ = callFunc f (#[u] ++ args.map a.eval ++ #[]) := by
  unfold execOp
  simp only [resolve, hc, Deferred.ofValue]
  rfl
/-- A call of a method value by contract. -/
theorem o_callBnd (hw : gval ops ⟨n, sl, hp⟩ gd = gwant gd) {c : Operand} {f : FuncId} {args : Array Operand} {ats : Array TypeId} {bx : AV} {u : Value} {key : Nat} {ys : List AV} {R : AV → List HO → Prop} (hc : ev ⟨n, sl, hp⟩ c = .own key (.func (.func f) #[u] #[])) (hu : ∀ (w : World) (F : Nat → Prop), repV w F bx u)
    (hspec : Spec P f ys [] R) (hargs : argsLe [] (bx :: args.toList.map (ev ⟨n, sl, hp⟩)) ys) (hd : Nat.blt d n = true) (heff : effOp P (.call ⟨.value c, args, ats⟩) = true)
    (h : ∀ r os', R r os' → os' = [] ∧ Ops m P C ops l ⟨n, (d, r) :: sl, hp⟩ K) :
    Ops m P C ops (⟨some d, .call ⟨.value c, args, ats⟩, ty, pos, aft, gd⟩ :: l) ⟨n, sl, hp⟩ K :=
  Ops.callG hw heff (bx :: args.toList.map (ev ⟨n, sl, hp⟩)) (fun a w hs => by
    have Ec := ev_rep hs c
    rw [hc, repV_own] at Ec
    have hev : a.eval c = .func (.func f) #[u] #[] := Ec.1
    refine ⟨u :: args.toList.map a.eval, ⟨by simp, fun i x v hx hv2 => ?_⟩, ?_⟩
    · cases i with
      | zero =>
        simp only [List.getElem?_cons_zero, Option.some.injEq] at hx hv2
        subst hx; subst hv2
        exact hu _ _
      | succ i =>
        rw [List.getElem?_cons_succ, List.getElem?_map] at hx hv2
        cases hq : args.toList[i]? with
        | none => rw [hq] at hx; cases hx
        | some o =>
          rw [hq] at hx hv2
          simp only [Option.map_some, Option.some.injEq] at hx hv2
          subst hx; subst hv2
          exact ev_rep hs o
    · rw [execOp_bnd a hev args ats]
      congr 1
      apply Array.ext'
      simp [Array.toList_map]) [] [] [] hspec hargs rfl trivial hd oke_nil (fun r os' hr => by
    obtain ⟨rfl, h1⟩ := h r os' hr
    exact ⟨rfl, h1⟩)
end
theorem pfx_val (n : Int) (l : List UInt8) (w : World) (F : Nat → Prop) (v : Value) (h : repV w F (pfxA n l) v) : v = .agg (Value.int .i64 n :: l.map cellB).toArray := (pfx_cells h).2
theorem pfx_rep (n : Int) (l : List UInt8) (hl : l.length = 32) (w : World) (F : Nat → Prop) : repV w F (pfxA n l) (.agg (Value.int .i64 n :: l.map cellB).toArray) := by
  refine ⟨Value.int .i64 n :: l.map cellB, ?_, rfl⟩
  simp only [pfxA, labA, repC, repL]
  exact ⟨[Value.int .i64 n], l.map cellB, rfl, rfl, l.map cellB, [], by simp, ⟨by simpa using hl, repA_bytes l⟩, rfl⟩
end Go.Proofs.Ytcmgpkibjdbonaa
set_option maxHeartbeats 8000000
set_option maxRecDepth 100000
namespace Go.Proofs.Ytcmgpkibjdbonaa
open Go Go.RowKit
theorem argsLe_same {fr : Fr} : ∀ xs : List AV, argsLe fr xs xs
  | [] => True.intro
  | _ :: xs => ⟨SLe.of_eq rfl, argsLe_same xs⟩
theorem ixI_spec (l : List Itm) (f : Nat) (caps : List AV) (ho : caps.all isOne = true) (p : Itm → Bool) (hf : ∀ x ∈ l, Spec Try.prog f ([x.A] ++ caps) [] (fun v os => v = .b (p x) ∧ os = [])) (hl : l.length ≤ 100000) :
    Spec Try.prog 131 [.sl 66 (l.map Itm.A), .fn (.func f) caps] [] (fun v os => v = .i .i64 (if l.any p = true then (l.findIdx p : Nat) else -1) ∧ os = []) := by
  refine spec_of TtOk [] Try.func131 rfl Try.ntmps131 (by kernel_rfl) rfl rfl (fun C => ?_) rfl
  repeat' (first | refine Awp.seq ?_ | refine Awp.block ?_ | refine Awp.region ?_ | (refine Ops.nil ?_; show Awp _ _ _ _ _) | refine o_len rfl TtOk rfl rfl rfl (fun _ => ?_) | (refine o_calm rfl TtOk rfl rfl rfl ?_ (fun _ => ?_); first | exact True.intro | exact ⟨rfl, rfl, rfl, rfl⟩ | exact ⟨rfl, True.intro⟩ | exact ⟨rfl, rfl⟩ | exact ⟨rfl, rfl, rfl⟩ | exact rfl | exact ⟨fun h0 => by cases h0, rfl⟩ | exact (fun h0 => by cases h0) | exact ⟨rfl, by omega⟩ | exact ⟨Nat.succ_ne_zero _, rfl⟩ | omega))
  refine Awp.loop (fun q : Nat => ⟨19, [(8, .i .i64 q), (7, .i .i64 l.length), (0, .sl 66 (l.map Itm.A)), (1, .fn (.func f) caps)], []⟩) (fun q => q ≤ l.length ∧ ∀ j (h : j < l.length), j < q → p l[j] = false) (fun q => l.length - q) [] 0 ⟨Nat.zero_le _, fun _ _ h => absurd h (Nat.not_lt_zero _)⟩ ?_ ?_
  · exact ⟨rfl, ⟨sle_i rfl, sle_i rfl, sle_sl rfl, SLe.of_eq rfl, True.intro⟩, .nil⟩
  rintro i ⟨hi, hno⟩
  by_cases hlt : i < l.length
  · have hfx := hf l[i] (List.getElem_mem hlt)
    generalize hpb : p l[i] = pb at hfx
    repeat' (first | refine Awp.seq ?_ | refine Awp.block ?_ | refine Awp.region ?_ | (refine Ops.nil ?_; show Awp _ _ _ _ _) | (refine Ops.nil ?_; show Exists _) | (refine Awp.skip ?_; show Awp _ _ _ _ _) | (refine Awp.ret ?_; show endK _ _ _ _ _) | (refine o_add rfl rfl rfl rfl ?_ ?_; omega) | (refine o_calm rfl TtOk rfl rfl rfl ?_ (fun _ => ?_); first | exact True.intro | exact ⟨rfl, rfl, rfl, rfl⟩ | exact ⟨rfl, True.intro⟩ | exact ⟨rfl, rfl⟩ | exact ⟨rfl, rfl, rfl⟩ | exact rfl | exact ⟨fun h0 => by cases h0, rfl⟩ | exact (fun h0 => by cases h0) | exact ⟨rfl, by omega⟩ | exact ⟨Nat.succ_ne_zero _, rfl⟩ | omega) | (refine o_index rfl TtOk rfl rfl rfl rfl rfl rfl ?_ (getq_nat ?_) ?_; omega; omega) | (refine a_condP rfl (fun hc => ?_) (fun hc => ?_)) <;> (try (exfalso; omega)) | (refine Awp.cond rfl (fun hc => ?_) (fun hc => ?_)) | (refine o_callClo rfl rfl ho hfx ⟨SLe.of_eq rfl, argsLe_same _⟩ rfl rfl ?_; rintro _ _ ⟨rfl, rfl⟩; refine ⟨rfl, ?_⟩))
    · have hm : l.any p = true := List.any_eq_true.2 ⟨l[i], List.getElem_mem _, by rw [hpb, hc]⟩
      have hx : l.findIdx p = i := by
        rw [List.findIdx_eq hlt]
        exact ⟨by rw [hpb, hc], fun j hj => hno j (by omega) hj⟩
      refine end_tmp rfl rfl rfl [] [] (CLe.of_eq ?_) .nil ⟨rfl, rfl⟩ _ (.inl rfl)
      rw [if_pos hm, hx]; rfl
    · have hcp : pb = false := hc
      exact ⟨i + 1, [], ⟨hlt, fun j h hj => by
        rcases Nat.lt_succ_iff_lt_or_eq.1 hj with h2 | rfl
        · exact hno j h h2
        · rw [hpb, hcp]⟩, by show l.length - (i + 1) < l.length - i; omega, rfl, ⟨sle_i rfl, sle_i rfl, sle_sl rfl, SLe.of_eq rfl, True.intro⟩, .nil⟩
  · have hm : ¬ l.any p = true := by
      intro h
      obtain ⟨x, hx, hxp⟩ := List.any_eq_true.1 h
      obtain ⟨j, hj, rfl⟩ := List.getElem_of_mem hx
      rw [hno j hj (by omega)] at hxp; cases hxp
    rw [if_neg hm]
    repeat' (first | refine Awp.seq ?_ | refine Awp.region ?_ | (refine Ops.nil ?_; show Awp _ _ _ _ _) | (refine Awp.exit ?_; show Awp _ _ _ _ _) | (refine Awp.ret ?_; show endK _ _ _ _ _) | (refine o_calm rfl TtOk rfl rfl rfl ?_ (fun _ => ?_); first | exact True.intro | exact ⟨rfl, rfl, rfl, rfl⟩ | exact ⟨rfl, True.intro⟩ | exact ⟨rfl, rfl⟩ | exact ⟨rfl, rfl, rfl⟩ | exact rfl | exact ⟨fun h0 => by cases h0, rfl⟩ | exact (fun h0 => by cases h0) | exact ⟨rfl, by omega⟩ | exact ⟨Nat.succ_ne_zero _, rfl⟩ | omega) | (refine a_condP rfl (fun hc => ?_) (fun hc => ?_)) <;> (try (exfalso; omega)))
    exact end_tmp rfl rfl rfl [] [] (CLe.of_eq rfl) .nil ⟨rfl, rfl⟩ _ (.inl rfl)
theorem ixL_spec (l : List Lef) (f : Nat) (caps : List AV) (ho : caps.all isOne = true) (p : Lef → Bool) (hf : ∀ x ∈ l, Spec Try.prog f ([x.A] ++ caps) [] (fun v os => v = .b (p x) ∧ os = [])) (hl : l.length ≤ 100000) :
    Spec Try.prog 125 [.sl 65 (l.map Lef.A), .fn (.func f) caps] [] (fun v os => v = .i .i64 (if l.any p = true then (l.findIdx p : Nat) else -1) ∧ os = []) := by
  refine spec_of TtOk [] Try.func125 rfl Try.ntmps125 (by kernel_rfl) rfl rfl (fun C => ?_) rfl
  repeat' (first | refine Awp.seq ?_ | refine Awp.block ?_ | refine Awp.region ?_ | (refine Ops.nil ?_; show Awp _ _ _ _ _) | refine o_len rfl TtOk rfl rfl rfl (fun _ => ?_) | (refine o_calm rfl TtOk rfl rfl rfl ?_ (fun _ => ?_); first | exact True.intro | exact ⟨rfl, rfl, rfl, rfl⟩ | exact ⟨rfl, True.intro⟩ | exact ⟨rfl, rfl⟩ | exact ⟨rfl, rfl, rfl⟩ | exact rfl | exact ⟨fun h0 => by cases h0, rfl⟩ | exact (fun h0 => by cases h0) | exact ⟨rfl, by omega⟩ | exact ⟨Nat.succ_ne_zero _, rfl⟩ | omega))
  refine Awp.loop (fun q : Nat => ⟨19, [(8, .i .i64 q), (7, .i .i64 l.length), (0, .sl 65 (l.map Lef.A)), (1, .fn (.func f) caps)], []⟩) (fun q => q ≤ l.length ∧ ∀ j (h : j < l.length), j < q → p l[j] = false) (fun q => l.length - q) [] 0 ⟨Nat.zero_le _, fun _ _ h => absurd h (Nat.not_lt_zero _)⟩ ?_ ?_
  · exact ⟨rfl, ⟨sle_i rfl, sle_i rfl, sle_sl rfl, SLe.of_eq rfl, True.intro⟩, .nil⟩
  rintro i ⟨hi, hno⟩
  by_cases hlt : i < l.length
  · have hfx := hf l[i] (List.getElem_mem hlt)
    generalize hpb : p l[i] = pb at hfx
    repeat' (first | refine Awp.seq ?_ | refine Awp.block ?_ | refine Awp.region ?_ | (refine Ops.nil ?_; show Awp _ _ _ _ _) | (refine Ops.nil ?_; show Exists _) | (refine Awp.skip ?_; show Awp _ _ _ _ _) | (refine Awp.ret ?_; show endK _ _ _ _ _) | (refine o_add rfl rfl rfl rfl ?_ ?_; omega) | (refine o_calm rfl TtOk rfl rfl rfl ?_ (fun _ => ?_); first | exact True.intro | exact ⟨rfl, rfl, rfl, rfl⟩ | exact ⟨rfl, True.intro⟩ | exact ⟨rfl, rfl⟩ | exact ⟨rfl, rfl, rfl⟩ | exact rfl | exact ⟨fun h0 => by cases h0, rfl⟩ | exact (fun h0 => by cases h0) | exact ⟨rfl, by omega⟩ | exact ⟨Nat.succ_ne_zero _, rfl⟩ | omega) | (refine o_index rfl TtOk rfl rfl rfl rfl rfl rfl ?_ (getq_nat ?_) ?_; omega; omega) | (refine a_condP rfl (fun hc => ?_) (fun hc => ?_)) <;> (try (exfalso; omega)) | (refine Awp.cond rfl (fun hc => ?_) (fun hc => ?_)) | (refine o_callClo rfl rfl ho hfx ⟨SLe.of_eq rfl, argsLe_same _⟩ rfl rfl ?_; rintro _ _ ⟨rfl, rfl⟩; refine ⟨rfl, ?_⟩))
    · have hm : l.any p = true := List.any_eq_true.2 ⟨l[i], List.getElem_mem _, by rw [hpb, hc]⟩
      have hx : l.findIdx p = i := by
        rw [List.findIdx_eq hlt]
        exact ⟨by rw [hpb, hc], fun j hj => hno j (by omega) hj⟩
      refine end_tmp rfl rfl rfl [] [] (CLe.of_eq ?_) .nil ⟨rfl, rfl⟩ _ (.inl rfl)
      rw [if_pos hm, hx]; rfl
    · have hcp : pb = false := hc
      exact ⟨i + 1, [], ⟨hlt, fun j h hj => by
        rcases Nat.lt_succ_iff_lt_or_eq.1 hj with h2 | rfl
        · exact hno j h h2
        · rw [hpb, hcp]⟩, by show l.length - (i + 1) < l.length - i; omega, rfl, ⟨sle_i rfl, sle_i rfl, sle_sl rfl, SLe.of_eq rfl, True.intro⟩, .nil⟩
  · have hm : ¬ l.any p = true := by
      intro h
      obtain ⟨x, hx, hxp⟩ := List.any_eq_true.1 h
      obtain ⟨j, hj, rfl⟩ := List.getElem_of_mem hx
      rw [hno j hj (by omega)] at hxp; cases hxp
    rw [if_neg hm]
    repeat' (first | refine Awp.seq ?_ | refine Awp.region ?_ | (refine Ops.nil ?_; show Awp _ _ _ _ _) | (refine Awp.exit ?_; show Awp _ _ _ _ _) | (refine Awp.ret ?_; show endK _ _ _ _ _) | (refine o_calm rfl TtOk rfl rfl rfl ?_ (fun _ => ?_); first | exact True.intro | exact ⟨rfl, rfl, rfl, rfl⟩ | exact ⟨rfl, True.intro⟩ | exact ⟨rfl, rfl⟩ | exact ⟨rfl, rfl, rfl⟩ | exact rfl | exact ⟨fun h0 => by cases h0, rfl⟩ | exact (fun h0 => by cases h0) | exact ⟨rfl, by omega⟩ | exact ⟨Nat.succ_ne_zero _, rfl⟩ | omega) | (refine a_condP rfl (fun hc => ?_) (fun hc => ?_)) <;> (try (exfalso; omega)))
    exact end_tmp rfl rfl rfl [] [] (CLe.of_eq rfl) .nil ⟨rfl, rfl⟩ _ (.inl rfl)
theorem ixB_spec (l : List (List UInt8)) (f : Nat) (bx : AV) (u : Value) (hu : ∀ (w : World) (F : Nat → Prop), repV w F bx u) (p : (List UInt8) → Bool) (hf : ∀ x ∈ l, Spec Try.prog f [bx, labA x] [] (fun v os => v = .b (p x) ∧ os = [])) (hl : l.length ≤ 100000) :
    Spec Try.prog 178 [.sl 32 (l.map labA), .own 0 (.func (.func f) #[u] #[])] [] (fun v os => v = .i .i64 (if l.any p = true then (l.findIdx p : Nat) else -1) ∧ os = []) := by
  refine spec_of TtOk [] Try.func178 rfl Try.ntmps178 (by kernel_rfl) rfl rfl (fun C => ?_) rfl
  repeat' (first | refine Awp.seq ?_ | refine Awp.block ?_ | refine Awp.region ?_ | (refine Ops.nil ?_; show Awp _ _ _ _ _) | refine o_len rfl TtOk rfl rfl rfl (fun _ => ?_) | (refine o_calm rfl TtOk rfl rfl rfl ?_ (fun _ => ?_); first | exact True.intro | exact ⟨rfl, rfl, rfl, rfl⟩ | exact ⟨rfl, True.intro⟩ | exact ⟨rfl, rfl⟩ | exact ⟨rfl, rfl, rfl⟩ | exact rfl | exact ⟨fun h0 => by cases h0, rfl⟩ | exact (fun h0 => by cases h0) | exact ⟨rfl, by omega⟩ | exact ⟨Nat.succ_ne_zero _, rfl⟩ | omega))
  refine Awp.loop (fun q : Nat => ⟨19, [(8, .i .i64 q), (7, .i .i64 l.length), (0, .sl 32 (l.map labA)), (1, .own 0 (.func (.func f) #[u] #[]))], []⟩) (fun q => q ≤ l.length ∧ ∀ j (h : j < l.length), j < q → p l[j] = false) (fun q => l.length - q) [] 0 ⟨Nat.zero_le _, fun _ _ h => absurd h (Nat.not_lt_zero _)⟩ ?_ ?_
  · exact ⟨rfl, ⟨sle_i rfl, sle_i rfl, sle_sl rfl, SLe.of_eq rfl, True.intro⟩, .nil⟩
  rintro i ⟨hi, hno⟩
  by_cases hlt : i < l.length
  · have hfx := hf l[i] (List.getElem_mem hlt)
    generalize hpb : p l[i] = pb at hfx
    repeat' (first | refine Awp.seq ?_ | refine Awp.block ?_ | refine Awp.region ?_ | (refine Ops.nil ?_; show Awp _ _ _ _ _) | (refine Ops.nil ?_; show Exists _) | (refine Awp.skip ?_; show Awp _ _ _ _ _) | (refine Awp.ret ?_; show endK _ _ _ _ _) | (refine o_add rfl rfl rfl rfl ?_ ?_; omega) | (refine o_calm rfl TtOk rfl rfl rfl ?_ (fun _ => ?_); first | exact True.intro | exact ⟨rfl, rfl, rfl, rfl⟩ | exact ⟨rfl, True.intro⟩ | exact ⟨rfl, rfl⟩ | exact ⟨rfl, rfl, rfl⟩ | exact rfl | exact ⟨fun h0 => by cases h0, rfl⟩ | exact (fun h0 => by cases h0) | exact ⟨rfl, by omega⟩ | exact ⟨Nat.succ_ne_zero _, rfl⟩ | omega) | (refine o_index rfl TtOk rfl rfl rfl rfl rfl rfl ?_ (getq_nat ?_) ?_; omega; omega) | (refine a_condP rfl (fun hc => ?_) (fun hc => ?_)) <;> (try (exfalso; omega)) | (refine Awp.cond rfl (fun hc => ?_) (fun hc => ?_)) | (refine o_callBnd rfl rfl hu hfx ⟨SLe.of_eq rfl, SLe.of_eq rfl, True.intro⟩ rfl rfl ?_; rintro _ _ ⟨rfl, rfl⟩; refine ⟨rfl, ?_⟩))
    · have hm : l.any p = true := List.any_eq_true.2 ⟨l[i], List.getElem_mem _, by rw [hpb, hc]⟩
      have hx : l.findIdx p = i := by
        rw [List.findIdx_eq hlt]
        exact ⟨by rw [hpb, hc], fun j hj => hno j (by omega) hj⟩
      refine end_tmp rfl rfl rfl [] [] (CLe.of_eq ?_) .nil ⟨rfl, rfl⟩ _ (.inl rfl)
      rw [if_pos hm, hx]; rfl
    · have hcp : pb = false := hc
      exact ⟨i + 1, [], ⟨hlt, fun j h hj => by
        rcases Nat.lt_succ_iff_lt_or_eq.1 hj with h2 | rfl
        · exact hno j h h2
        · rw [hpb, hcp]⟩, by show l.length - (i + 1) < l.length - i; omega, rfl, ⟨sle_i rfl, sle_i rfl, sle_sl rfl, SLe.of_eq rfl, True.intro⟩, .nil⟩
  · have hm : ¬ l.any p = true := by
      intro h
      obtain ⟨x, hx, hxp⟩ := List.any_eq_true.1 h
      obtain ⟨j, hj, rfl⟩ := List.getElem_of_mem hx
      rw [hno j hj (by omega)] at hxp; cases hxp
    rw [if_neg hm]
    repeat' (first | refine Awp.seq ?_ | refine Awp.region ?_ | (refine Ops.nil ?_; show Awp _ _ _ _ _) | (refine Awp.exit ?_; show Awp _ _ _ _ _) | (refine Awp.ret ?_; show endK _ _ _ _ _) | (refine o_calm rfl TtOk rfl rfl rfl ?_ (fun _ => ?_); first | exact True.intro | exact ⟨rfl, rfl, rfl, rfl⟩ | exact ⟨rfl, True.intro⟩ | exact ⟨rfl, rfl⟩ | exact ⟨rfl, rfl, rfl⟩ | exact rfl | exact ⟨fun h0 => by cases h0, rfl⟩ | exact (fun h0 => by cases h0) | exact ⟨rfl, by omega⟩ | exact ⟨Nat.succ_ne_zero _, rfl⟩ | omega) | (refine a_condP rfl (fun hc => ?_) (fun hc => ?_)) <;> (try (exfalso; omega)))
    exact end_tmp rfl rfl rfl [] [] (CLe.of_eq rfl) .nil ⟨rfl, rfl⟩ _ (.inl rfl)
theorem ctB_spec (l : List (List UInt8)) (f : Nat) (bx : AV) (u : Value) (hu : ∀ (w : World) (F : Nat → Prop), repV w F bx u) (p : List UInt8 → Bool) (hf : ∀ x ∈ l, Spec Try.prog f [bx, labA x] [] (fun v os => v = .b (p x) ∧ os = [])) (hl : l.length ≤ 100000) :
    Spec Try.prog 141 [.sl 32 (l.map labA), .own 0 (.func (.func f) #[u] #[])] [] (fun v os => v = .b (l.any p) ∧ os = []) := by
  refine spec_of TtOk [] Try.func141 rfl Try.ntmps141 (by kernel_rfl) rfl rfl (fun C => ?_) rfl
  have h1 := ixB_spec l f bx u hu p hf hl
  cases hm : l.any p with
  | true =>
    rw [if_pos hm] at h1
    generalize l.findIdx p = i at h1
    repeat' (first | refine Awp.seq ?_ | refine Awp.region ?_ | (refine Ops.nil ?_; show Awp _ _ _ _ _) | (refine Awp.ret ?_; show endK _ _ _ _ _) | (refine o_calm rfl TtOk rfl rfl rfl ?_ (fun _ => ?_); first | exact True.intro | exact ⟨rfl, rfl, rfl, rfl⟩ | exact ⟨rfl, True.intro⟩ | exact ⟨rfl, rfl⟩ | exact ⟨rfl, rfl, rfl⟩ | exact rfl | exact ⟨fun h0 => by cases h0, rfl⟩ | exact (fun h0 => by cases h0) | exact ⟨rfl, by omega⟩ | exact ⟨Nat.succ_ne_zero _, rfl⟩ | omega) | (refine o_call0 rfl (h1) ⟨SLe.of_eq rfl, SLe.of_eq rfl, True.intro⟩ rfl ?_; rintro _ _ ⟨rfl, rfl⟩; refine ⟨rfl, ?_⟩))
    refine end_tmp rfl rfl rfl [] [] (CLe.of_eq ?_) .nil ⟨rfl, rfl⟩ _ (.inl rfl)
    exact congrArg AV.b (decide_eq_true (by omega))
  | false =>
    rw [if_neg (by rw [hm]; decide)] at h1
    repeat' (first | refine Awp.seq ?_ | refine Awp.region ?_ | (refine Ops.nil ?_; show Awp _ _ _ _ _) | (refine Awp.ret ?_; show endK _ _ _ _ _) | (refine o_calm rfl TtOk rfl rfl rfl ?_ (fun _ => ?_); first | exact True.intro | exact ⟨rfl, rfl, rfl, rfl⟩ | exact ⟨rfl, True.intro⟩ | exact ⟨rfl, rfl⟩ | exact ⟨rfl, rfl, rfl⟩ | exact rfl | exact ⟨fun h0 => by cases h0, rfl⟩ | exact (fun h0 => by cases h0) | exact ⟨rfl, by omega⟩ | exact ⟨Nat.succ_ne_zero _, rfl⟩ | omega) | (refine o_call0 rfl (h1) ⟨SLe.of_eq rfl, SLe.of_eq rfl, True.intro⟩ rfl ?_; rintro _ _ ⟨rfl, rfl⟩; refine ⟨rfl, ?_⟩))
    exact end_tmp rfl rfl rfl [] [] (CLe.of_eq rfl) .nil ⟨rfl, rfl⟩ _ (.inl rfl)
end Go.Proofs.Ytcmgpkibjdbonaa
