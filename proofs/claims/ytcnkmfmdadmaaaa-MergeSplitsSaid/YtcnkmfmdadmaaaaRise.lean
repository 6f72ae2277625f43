/- law12.Rising walked. -/
import Derived.Test.YtcnkmfmdadmaaaaEnt
namespace Go.Proofs.Ytcnkmfmdadmaaaa
open Go.RowKit
/-! law12.Rising: the entries whose keys are above all ahead of them. -/
def keyLt (x y : Ent) : Bool := Op.bytesLess x.key.toList y.key.toList
def riseStep (out : List Ent) (x : Ent) : List Ent := match out.getLast? with
  | none => out ++ [x]
  | some y => if keyLt y x then out ++ [x] else out
def rise (l : List Ent) : List Ent := l.foldl riseStep []
theorem riseStep_cons (c : Ent) (cs : List Ent) (x : Ent) : riseStep (c :: cs) x = if keyLt ((c :: cs)[cs.length]'(by simp)) x then (c :: cs) ++ [x] else c :: cs := by
  have : (c :: cs).getLast? = some ((c :: cs)[cs.length]'(by simp)) := by
    rw [List.getLast?_eq_getElem?]; simp
  unfold riseStep; rw [this]
theorem riseStep_len (out : List Ent) (x : Ent) : (riseStep out x).length ≤ out.length + 1 := by
  unfold riseStep; split <;> (try split) <;> simp
theorem rise_len (l : List Ent) : (rise l).length ≤ l.length := by
  have : ∀ (l out : List Ent), (l.foldl riseStep out).length ≤ out.length + l.length := by
    intro l
    induction l with
    | nil => intro out; simp
    | cons x l ih => intro out; have := ih (riseStep out x); have := riseStep_len out x; simp only [List.foldl_cons, List.length_cons]; omega
  have h := this l []
  rw [List.length_nil, Nat.zero_add] at h
  exact h


set_option maxRecDepth 100000 in
theorem rising_any (A : Option Addr) (cap : Nat) (l : List Ent) (n : Int) (h0 : 0 ≤ n) (hn : n ≤ 1000) (F : Nat → Prop) (w : World)
    (hs : EntA w F A l) :
    Calls Try.prog 15 #[.slice A l.length cap, .int .i64 n] w fun e w' => ∃ v, e = .returned v ∧ EntO w' w.heap.size v (rise (few l n.toNat)) ∧ Below w.heap.size w w' := by
  have hE := Lib.hid entElem
  obtain ⟨n, rfl⟩ := Int.eq_ofNat_of_zero_le h0
  rw [Int.toNat_natCast]
  go_enter Try.func15, Try.ntmps15
  go_wp2_with fail
  refine (few_any A cap l n (by omega) (by omega) F _ (hs.below ((Below.refl _ _).alloc (Nat.le_refl _) _))).mono ?_
  rintro e w1 ⟨v, rfl, hfo, hb1⟩
  rw [Int.toNat_natCast] at hfo
  obtain ⟨Af, cf, rfl, hfc, hfm, hfs⟩ := hfo.sl entC_length
  have hflen := few_len l n
  generalize hfl : few l n = fl at hfo hfc hfm hfs hflen ⊢
  have HFL := Lib.hid hfl; clear hfl
  have hb : Below w.heap.size w w1 := ((Below.refl _ _).alloc (Nat.le_refl _) _).trans (hb1.mono (by simp))
  have ho1 : EntO w1 w.heap.size (.slice (some ⟨w.heap.size, 0, none⟩) 0 0) [] := (Own.empty w _ _ _ (Nat.le_refl _)).mod (Mod.of_below (S := None_) hb1) (fun _ _ h => h)
  have hfF : ∀ k, Value.ownBlock (.slice Af fl.length cf) = some k → w.heap.size + 1 ≤ k := fun k hk => by have := (hfo.lt k hk).1; simpa using this
  clear hfo hb1
  have hfs2 : EntA w1 (fun k => w.heap.size + 1 ≤ k) Af fl := hfs.imp hfF
  clear hfs hfF
  go_wp2
  go_loopw [5, 13] (fun o i wr => ∃ k : Nat, k ≤ fl.length ∧ i = .int .i64 k ∧ EntO wr w.heap.size o (rise (fl.take k)) ∧ (∀ g, o.ownBlock = some g → g = w.heap.size ∨ w1.heap.size ≤ g) ∧ Mod (fun g => g = w.heap.size) w1 wr) (fun _ i _ => fl.length - (intOf i).toNat)
  case atStart => exact ⟨0, Nat.zero_le _, rfl, ho1, fun g hg => .inl (by simpa [Value.ownBlock] using hg.symm), Mod.refl _ _⟩
  case round =>
    obtain ⟨k, hk, rfl, ho, hog, hm⟩ := hrel
    have hbr : Below w.heap.size w wr := hb.trans (hm.to_below (fun k hk e => by omega) hb.size)
    by_cases hlt : k < fl.length
    · obtain ⟨b, off, rfl, hF, hc0, hc1, hc2⟩ := EntA.cells (hfs2.mod hm (fun k hk e => by omega)) hlt
      have hst : rise (fl.take (k + 1)) = riseStep (rise (fl.take k)) fl[k] := foldl_take_succ _ _ _ _ hlt
      have hcl : (rise (fl.take k)).length < 1001 := by have := rise_len (fl.take k); simp at this; omega
      generalize rise (fl.take k) = cur at ho hst hcl
      obtain ⟨f0, f1, f2, hm1, hz1⟩ := new3 wr 31 (.string fl[k].key) (.string fl[k].val) (.bool fl[k].gone) _ rfl
      have ho1 := (ho.mod (S := None_) hm1 (fun _ _ h => h))
      have hbase : w.heap.size ≤ wr.heap.size := hbr.size
      obtain ⟨Ao, co, rfl, hco, hcm, hso⟩ := ho.sl entC_length
      rcases cur with _ | ⟨c0, cur⟩
      · have he : (((([] : List Ent).length : Nat) : Int) == 0) = true := rfl
        have hst' : riseStep [] fl[k] = [] ++ [fl[k]] := rfl
        rw [hst'] at hst
        have HST := Lib.hid hst; clear hst hst'
        go_wp2
        go_quiet (fail)
        generalize wr.alloc (.cells #[.string fl[k].key, .string fl[k].val, .bool fl[k].gone] 31) = w2 at f0 f1 f2 hm1 hz1 ho1 ⊢
        go_wp2_with (at_builtin; refine wpList_app1 (by rfl) (.tmp 32) (.tmp 34) (by rfl) hE.out entC_length entC_one (v := .slice Ao 0 co) (by rfl) (by exact (ho1.drewN _).alloc _) (g := w2.heap.size) 1 fl[k] (by rfl) (by exact Blk.new _ _ _) (by rfl) 1001 hcl (by omega) (by unfold maxLen; omega) (by simp; omega) ?_; intro v' w3 ho3 hg3 hv3)
        go_roundw
        case rel =>
          refine ⟨k + 1, by omega, by go_num, by rw [HST.out]; exact ho3, ?_, (((hm.trans (hm1.mono fun _ _ h => h.elim)).drewN _).alloc _).grown hg3 (fun g hg hlt => (hog g hg).resolve_right (by omega))⟩
          intro g hg
          rcases hv3 with hv3 | hv3
          · exact hog g (hv3 ▸ hg)
          · rw [hv3] at hg; simp at hg; have := hm.size; omega
        case measure => simp [intOf]; omega
      · obtain ⟨g, go', rfl, hgF, hd0, hd1, hd2⟩ := EntA.cells (SlA.mod hso hm1 (fun _ _ h => h)) (k := cur.length) (by simp)
        have hnz : ((((c0 :: cur).length : Nat) : Int) == 0) = false := by simp; omega
        rw [riseStep_cons] at hst
        generalize (c0 :: cur)[cur.length]'(by simp) = y at hst hd0 hd1 hd2
        cases hx : keyLt y fl[k] with
        | true =>
          rw [hx, if_pos rfl] at hst
          have HST := Lib.hid hst; clear hst
          unfold keyLt at hx
          have hwr : IntKind.i64.wrap ((cur.length : Nat) : Int) = (cur.length : Nat) := wrapN _ (by simp at hcl; omega)
          have hw1 : ((cur.length : Nat) : Int) < ((cur.length : Nat) : Int) + 1 := by omega
          have hw0 : (0 : Int) ≤ ((cur.length : Nat) : Int) := by omega
          go_wp2
          go_quiet (fail)
          clear hwr hw1 hw0
          generalize wr.alloc (.cells #[.string fl[k].key, .string fl[k].val, .bool fl[k].gone] 31) = w2 at f0 f1 f2 hm1 hz1 ho1 hd0 hd1 hd2 ⊢
          go_wp2_with (at_builtin; refine wpList_app1 (by rfl) (.tmp 32) (.tmp 34) (by rfl) hE.out entC_length entC_one (xs := c0 :: cur) (by rfl) (by exact (ho1.drewN _).alloc _) (g := w2.heap.size) 1 fl[k] (by rfl) (by exact Blk.new _ _ _) (by rfl) 1001 hcl (by omega) (by unfold maxLen; omega) (by simp; omega) ?_; intro v' w3 ho3 hg3 hv3)
          go_roundw
          case rel =>
            refine ⟨k + 1, by omega, by go_num, by rw [HST.out]; exact ho3, ?_, (((hm.trans (hm1.mono fun _ _ h => h.elim)).drewN _).alloc _).grown hg3 (fun g hg hlt => (hog g hg).resolve_right (by omega))⟩
            intro g hg
            rcases hv3 with hv3 | hv3
            · exact hog g (hv3 ▸ hg)
            · rw [hv3] at hg; simp at hg; have := hm.size; omega
          case measure => simp [intOf]; omega
        | false =>
          rw [hx, if_neg (by simp)] at hst
          have HST := Lib.hid hst; clear hst
          unfold keyLt at hx
          have hwr : IntKind.i64.wrap ((cur.length : Nat) : Int) = (cur.length : Nat) := wrapN _ (by simp at hcl; omega)
          have hw1 : ((cur.length : Nat) : Int) < ((cur.length : Nat) : Int) + 1 := by omega
          have hw0 : (0 : Int) ≤ ((cur.length : Nat) : Int) := by omega
          go_wp2
          go_quiet (fail)
          clear hwr hw1 hw0
          go_wp2
          go_roundw
          case rel => exact ⟨k + 1, by omega, by go_num, by rw [HST.out]; exact ho1.drewN _, hog, (hm.trans (hm1.mono fun _ _ h => h.elim)).drewN _⟩
          case measure => simp [intOf]; omega
    · have hx : fl.take k = fl := List.take_of_length_le (by omega)
      rw [hx] at ho; clear hx
      go_wp2
      go_ret
      exact ⟨_, rfl, by rw [HFL.out]; exact ho, hbr⟩
end Go.Proofs.Ytcnkmfmdadmaaaa
