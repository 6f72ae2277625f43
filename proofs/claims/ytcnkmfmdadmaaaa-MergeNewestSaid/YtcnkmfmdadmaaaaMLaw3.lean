/- ref12.Find and law12.MergeNewest walked. -/
import Derived.Test.YtcnkmfmdadmaaaaMLaw2
namespace Go.Proofs.Ytcnkmfmdadmaaaa
open Go.RowKit

def findE (l : List Ent) (key : ByteArray) : Option Ent := l.find? fun x => kEq x.key key
def entV (x : Ent) : Value := .agg #[.string x.key, .string x.val, .bool x.gone]
def zeroE : Ent := ⟨⟨#[]⟩, ⟨#[]⟩, false⟩
def optE : Option Ent → Ent
  | some x => x
  | none => zeroE
theorem findE_drop (l : List Ent) (key : ByteArray) (k : Nat) (h : k < l.length) : findE (l.drop k) key = if kEq l[k].key key then some l[k] else findE (l.drop (k + 1)) key := by
  unfold findE
  rw [List.drop_eq_getElem_cons h, List.find?_cons]
  split <;> simp_all

set_option maxRecDepth 100000 in
theorem find_any (A : Option Addr) (cap : Nat) (l : List Ent) (key : ByteArray) (F : Nat → Prop) (w : World) (hl : l.length ≤ 1000000) (hs : EntA w F A l) :
    Calls Try.prog 20 #[.slice A l.length cap, .string key] w fun e w' => e = .returned (.tuple #[.agg #[.string (optE (findE l key)).key, .string (optE (findE l key)).val, .bool (optE (findE l key)).gone], .bool (findE l key).isSome]) ∧ Below w.heap.size w w' := by
  obtain ⟨res, hr⟩ : ∃ r, r = findE l key := ⟨_, rfl⟩
  rw [← hr]
  have HR := Lib.hid hr; clear hr
  go_enter Try.func20, Try.ntmps20
  go_wp2
  go_loopw [10] (fun i wr => ∃ k : Nat, k ≤ l.length ∧ i = .int .i64 k ∧ Hid (res = findE (l.drop k) key) ∧ Blk wr w.heap.size 31 #[.string ⟨#[]⟩, .string ⟨#[]⟩, .bool false] ∧ Below w.heap.size w wr ∧ w.heap.size < wr.heap.size) (fun i _ => l.length - (intOf i).toNat)
  case atStart => exact ⟨0, Nat.zero_le _, rfl, HR, Blk.new _ _ _, (Below.refl _ _).alloc (Nat.le_refl _) _, by simp⟩
  case round =>
    clear HR
    obtain ⟨k, hk, rfl, HR, hR, hb, hsz⟩ := hrel
    by_cases hlt : k < l.length
    · obtain ⟨b, off, rfl, hF, hc0, hc1, hc2⟩ := EntA.cells (hs.below hb) hlt
      obtain ⟨y0, y1, y2⟩ := At3.new wr 31 (.string l[k].key) (.string l[k].val) (.bool l[k].gone)
      have hd := HR.out; rw [findE_drop l key k hlt] at hd
      cases hx : kEq l[k].key key with
      | true =>
        rw [hx, if_pos rfl] at hd; subst hd
        unfold kEq at hx
        have hR' := hR.alloc (.cells #[.string l[k].key, .string l[k].val, .bool l[k].gone] 31)
        obtain ⟨r0, r1, r2⟩ := hR'.at3
        have g0 := hR'.frozen 0; have g1 := hR'.frozen 1; have g2 := hR'.frozen 2
        have hb' : Below w.heap.size w (wr.alloc (.cells #[.string l[k].key, .string l[k].val, .bool l[k].gone] 31)) := hb.alloc hb.size _
        clear hR
        go_upto_region 5 with (fail)
        generalize wr.alloc (.cells #[.string l[k].key, .string l[k].val, .bool l[k].gone] 31) = w2 at hR' y0 y1 y2 r0 r1 r2 g0 g1 g2 hb' ⊢
        have hfin := ((hR'.set_ 0 (.string l[k].key)).set_ 1 (.string l[k].val)).set_ 2 (.bool l[k].gone)
        obtain ⟨q0, q1, q2⟩ := Blk.at3 (x := .string l[k].key) (y := .string l[k].val) (z := .bool l[k].gone) hfin
        clear hR' hfin
        go_wp2
        refine bodyPost_ret (v := .tuple #[.agg #[.string l[k].key, .string l[k].val, .bool l[k].gone], .bool true]) (by simp [results, Try.results20, go_sem, q0, q1, q2]) rfl ⟨rfl, ?_⟩
        exact ((hb'.setCell (by simp) _).setCell (by simp) _).setCell (by simp) _
      | false =>
        rw [hx, if_neg (by simp)] at hd
        have HD := Lib.hid hd; clear hd
        unfold kEq at hx
        go_wp2
        go_roundw
        case rel => exact ⟨k + 1, by omega, by go_num, HD.out, hR.alloc _, hb.alloc hb.size _, by simp; omega⟩
        case measure => simp [intOf] <;> omega
    · have hd := HR.out
      rw [List.drop_of_length_le (by omega)] at hd
      simp [findE] at hd; subst hd
      obtain ⟨r0, r1, r2⟩ := hR.at3
      have g0 := hR.frozen 0; have g1 := hR.frozen 1; have g2 := hR.frozen 2
      have hfin := ((hR.set_ 0 (.string ⟨#[]⟩)).set_ 1 (.string ⟨#[]⟩)).set_ 2 (.bool false)
      obtain ⟨q0, q1, q2⟩ := Blk.at3 (x := .string ⟨#[]⟩) (y := .string ⟨#[]⟩) (z := .bool false) hfin
      clear hR hfin
      go_wp2
      refine bodyPost_ret (v := .tuple #[.agg #[.string ⟨#[]⟩, .string ⟨#[]⟩, .bool false], .bool false]) (by simp [results, Try.results20, go_sem, q0, q1, q2]) rfl ⟨rfl, ?_⟩
      exact ((hb.setCell (by simp) _).setCell (by simp) _).setCell (by simp) _

/-! The plain law: of each key the newest entry. -/
theorem findE_none {l : List Ent} {key : ByteArray} : findE l key = none ↔ ∀ e ∈ l, e.key ≠ key := by
  unfold findE
  rw [List.find?_eq_none]
  exact ⟨fun h e he hk => h e he (kEq_iff.2 hk), fun h e he hk => h e he (kEq_iff.1 hk)⟩
theorem findE_mem {l : List Ent} {key : ByteArray} {e : Ent} (h : findE l key = some e) : e ∈ l ∧ e.key = key := by
  unfold findE at h
  exact ⟨List.mem_of_find?_eq_some h, kEq_iff.1 (List.find?_some (p := fun (x : Ent) => kEq x.key key) h)⟩
theorem findE_of_mem {l : List Ent} (hs : Sorted l) {key : ByteArray} {e : Ent} (he : e ∈ l) (hk : e.key = key) : findE l key = some e := by
  rcases h : findE l key with _ | x
  · exact (findE_none.1 h e he hk).elim
  · obtain ⟨h1, h2⟩ := findE_mem h
    rw [hs.key_inj h1 he (h2.trans hk.symm)]
theorem mem_refAll_at {xs : List (List Ent)} (h : AllSorted xs) {j : Nat} {l : List Ent} (hj : xs[j]? = some l) {y : Ent} (hy : y ∈ l) (hf : ∀ i, i < j → ∀ l', xs[i]? = some l' → ∀ e ∈ l', e.key ≠ y.key) : y ∈ refAll xs := by
  induction xs generalizing j with
  | nil => simp at hj
  | cons l0 xs ih =>
    rw [mem_refAll_cons _ _ (h l0 (by simp))]
    cases j with
    | zero => simp at hj; subst hj; exact .inl hy
    | succ j => exact .inr ⟨ih (fun l hl => h l (by simp [hl])) (j := j) (by simpa using hj) (fun i hi l' hl' e he => hf (i + 1) (by omega) l' (by simpa using hl') e he), fun e he hk => hf 0 (by omega) l0 (by simp) e he hk.symm⟩
theorem mem_mLists_false {xs : List (List Ent)} (h : AllSorted xs) (e : Ent) : e ∈ mLists xs false ↔ e ∈ refAll xs := by
  rw [mLists_eq xs false h, mem_refLists]; simp
theorem mLists_sorted {xs : List (List Ent)} (h : AllSorted xs) (d : Bool) : Sorted (mLists xs d) := by
  rw [mLists_eq xs d h]; exact refLists_sorted _ _
theorem newest_some {xs : List (List Ent)} (h : AllSorted xs) {key : ByteArray} {j : Nat} {l : List Ent} (hj : xs[j]? = some l) {y : Ent} (hy : findE l key = some y) (hf : ∀ i, i < j → ∀ l', xs[i]? = some l' → findE l' key = none) : findE (mLists xs false) key = some y := by
  obtain ⟨h1, h2⟩ := findE_mem hy
  refine findE_of_mem (mLists_sorted h false) ((mem_mLists_false h y).2 (mem_refAll_at h hj h1 fun i hi l' hl' e he => ?_)) h2
  rw [h2]; exact findE_none.1 (hf i hi l' hl') e he
theorem newest_none {xs : List (List Ent)} (h : AllSorted xs) {key : ByteArray} (hf : ∀ (i : Nat) l', xs[i]? = some l' → findE l' key = none) : findE (mLists xs false) key = none := by
  refine findE_none.2 fun e he => ?_
  obtain ⟨l, hl, hel⟩ := mem_refAll_some xs h e ((mem_mLists_false h e).1 he)
  obtain ⟨i, hi⟩ := List.mem_iff_getElem?.1 hl
  exact findE_none.1 (hf i l hi) e hel
theorem sorted_next {l : List Ent} (h : Sorted l) (j : Nat) (hj : j + 1 < l.length) : kLt l[j].key l[j + 1].key = true :=
  List.pairwise_iff_getElem.1 h j (j + 1) (by omega) hj (by omega)

set_option maxRecDepth 100000 in
set_option maxHeartbeats 2000000 in
theorem law_mergeNewest (A : Option Addr) (cap : Nat) (ls : List (List Ent)) (key : ByteArray) (F G : Nat → Prop) (w : World) (hs : LL w F G A ls) :
    Calls Try.prog 5 #[.slice A ls.length cap, .string key] w fun e w' => e = .returned (.bool true) ∧ Below w.heap.size w w' := by
  have heql := ent_eql
  have hgd := ent_guard
  have hE := Lib.hid llElem
  go_enter Try.func5, Try.ntmps5
  go_wp2
  go_loopw [5, 6] (fun o i wr => ∃ k : Nat, k ≤ ls.length ∧ k ≤ 6 ∧ i = .int .i64 k ∧ Made wr w.heap.size o (inOf ls 30 k) ∧ Below w.heap.size w wr) (fun _ i _ => 6 - (intOf i).toNat)
  case atStart => exact ⟨0, Nat.zero_le _, Nat.zero_le _, rfl, Made.empty w (Nat.le_refl _), (Below.refl _ _).alloc (Nat.le_refl _) _⟩
  case round =>
    obtain ⟨k, hk, hk8, rfl, ho, hb⟩ := hrel
    have hbase : w.heap.size ≤ wr.heap.size := hb.size
    by_cases hlt : k < ls.length ∧ k < 6
    · obtain ⟨hlt1, hlt2⟩ := hlt
      obtain ⟨b, off, Bi, ci, rfl, hcell, hl1, hl2, hin⟩ := (hs.below hb).at_ hlt1
      have hnext := inOf_succ ls 30 k hlt1
      have HN := Lib.hid hnext
      have hll := inOf_len ls 30 k
      clear hnext hs
      obtain ⟨vs, hv1, hv2, hv3⟩ := ho
      have hvl : vs.length < 9 := by omega
      have HV1 := Lib.hid hv1; have HV3 := Lib.hid hv3
      clear hv1 hv3 hll
      go_wp2_with fail
      refine (rising_any Bi ci ls[k] 30 (by omega) (by omega) _ wr hin).mono ?_
      rintro e w1 ⟨v1, rfl, ho1, hb1⟩
      obtain ⟨A1, c1, rfl, h1, h2, hs1⟩ := ho1.sl entC_length
      have hbw : w.heap.size ≤ w1.heap.size := by have := hb1.size; omega
      have hv2' := hv2.below hb1
      go_wp2_with (at_builtin; refine wpList_app1 (by rfl) (.tmp 26) (.tmp 32) (by rfl) hE.out svC_length svC_one (by rfl) (by exact hv2'.alloc _) (g := _) 1 ⟨A1, _, c1⟩ (by rfl) (by exact Blk.new_ (by simp)) (by rfl) 9 hvl (by omega) (by unfold maxLen; omega) (by simp; omega) ?_; intro v3 w3 ho3 hg3 hv3)
      go_roundw
      case rel =>
        refine ⟨k + 1, by omega, by omega, by go_num, ?_, (((hb.trans (hb1.mono hb.size)).alloc hbw _).grown hg3 (by simp; omega) (fun g hg => (hv2.lt g hg).1))⟩
        rw [HN.out]
        refine Made.snoc HV1.out (fun i v l a b => (((HV3.out i v l a b).below hb1).below ((Below.refl _ _).alloc (Nat.le_refl _) _))) ?_ ho3 hg3 hv3
        refine Sl.below (w := w1) ?_ ((Below.refl _ _).alloc (Nat.le_refl _) _)
        refine ⟨A1, c1, rfl, h1, h2, hs1.imp fun g hg => ⟨by have := (ho1.lt g hg).1; omega, fun e => by have := (hv2.lt g e).2; have := (ho1.lt g hg).1; omega⟩⟩
      case measure => simp [intOf] <;> omega
    · have htot := inOf_total ls 30 k
      have hlen := inOf_len ls 30 k
      have hsorted := inOf_sorted ls 30 k
      generalize inOf ls 30 k = xs at ho htot hlen hsorted
      have hgl := mLists_len xs false
      have HSo := Lib.hid (mLists_sorted hsorted false)
      have HSx := Lib.hid hsorted
      clear hs hsorted
      obtain ⟨Ax, cx, rfl, hx1, hx2, hx⟩ := ho.LL
      go_wp2_with fail
      all_goals
        refine (mLists_any Ax cx xs false _ _ wr (by omega) (by omega) hx).mono ?_
        rintro e w1 ⟨v1, rfl, ho1, hb1⟩
        have hb01 := hb.trans (hb1.mono hbase)
        have hx1' := hx.below hb1
        have HG := Lib.hid (rfl : mLists xs false = mLists xs false)
        generalize hgg : mLists xs false = got at ho1 hgl HSo
        have HGG := Lib.hid hgg; clear hgg HG
        obtain ⟨Ag, cg, rfl, hg1, hg2, hgs⟩ := ho1.sl entC_length
        go_wp2_with fail
        go_loopw [8] (fun i wr => ∃ j : Nat, i = .int .i64 ((j + 1 : Nat) : Int) ∧ j ≤ got.length ∧ Below w1.heap.size w1 wr) (fun i _ => got.length + 1 - (intOf i).toNat)
        case atStart => exact ⟨0, rfl, Nat.zero_le _, Below.refl _ _⟩
        case round =>
          obtain ⟨j, rfl, hj, hb2⟩ := hrel
          by_cases hjl : j + 1 < got.length
          · obtain ⟨b1, o1, rfl, _, a0, _, _⟩ := EntA.cells (hgs.below hb2) (k := j) (by omega)
            obtain ⟨b2, o2, hA2, _, c0, _, _⟩ := EntA.cells (hgs.below hb2) (k := j + 1) hjl
            injection hA2 with hA2; injection hA2 with e1 e2; subst e1; subst e2
            have hlt := sorted_next HSo.out j hjl
            unfold kLt at hlt
            have hj0 : (0 : Int) ≤ (j : Int) := by omega
            have hj1 : (j : Int) < (got.length : Int) := by omega
            have hj2 : (j : Int) + 1 < (got.length : Int) := by omega
            have hjn : ((j : Int) + 1).toNat = j + 1 := by omega
            have hwr : IntKind.i64.wrap (j : Int) = j := wrapN _ (by omega)
            go_wp2
            go_quiet (fail)
            clear hwr hjn
            go_wp2
            go_roundw
            case rel => exact ⟨j + 1, by go_num, by omega, below_drewN hb2 _⟩
            case measure => simp [intOf] <;> omega
          · have hb3 := hb01.trans (hb2.mono (by have := hb1.size; omega))
            have hs1 := hb1.size; have hs2 := hb2.size
            go_wp2_with fail
            refine (find_any Ag cg got key _ wr (by omega) (hgs.below hb2)).mono ?_
            rintro e w2 ⟨rfl, hb4⟩
            obtain ⟨fx, hfx⟩ : ∃ f, f = findE got key := ⟨_, rfl⟩
            rw [← hfx]
            have HFX := Lib.hid hfx; clear hfx
            have hx2' := (hx1'.below hb2).below hb4
            have hX := At3.new w2 31 (.string (optE fx).key) (.string (optE fx).val) (.bool (optE fx).gone)
            clear hx hx1' hgs ho1 hb2 hb1
            go_upto_region 13 with (fail)
            have hb5 : Below w.heap.size w (w2.alloc (.cells #[.string (optE fx).key, .string (optE fx).val, .bool (optE fx).gone] 31)) := (hb3.trans (hb4.mono (by omega))).alloc (by have := hb4.size; omega) _
            have hx3 := hx2'.below ((Below.refl w2.heap.size w2).alloc (Nat.le_refl _) (.cells #[.string (optE fx).key, .string (optE fx).val, .bool (optE fx).gone] 31))
            generalize w2.alloc (.cells #[.string (optE fx).key, .string (optE fx).val, .bool (optE fx).gone] 31) = w3 at hX hb5 hx3 ⊢
            have hxw := hX.lt
            clear hx2' hb4 hb3
            have hs5 := hb5.size
            go_wp2
            go_loopw [62] (fun i wr => ∃ j : Nat, i = .int .i64 j ∧ j ≤ xs.length ∧ Hid (∀ i', i' < j → ∀ l', xs[i']? = some l' → findE l' key = none) ∧ Below w3.heap.size w3 wr) (fun i _ => xs.length - (intOf i).toNat)
            case atStart => exact ⟨0, rfl, Nat.zero_le _, Lib.hid fun i' h => absurd h (by omega), Below.refl _ _⟩
            case round =>
              obtain ⟨j, rfl, hj, HN, hb6⟩ := hrel
              have hs6 := hb6.size
              by_cases hjl : j < xs.length
              · obtain ⟨b1, o1, Bj, cj, rfl, hcj, hj1, hj2, hej⟩ := (hx3.below hb6).at_ hjl
                have htj : xs[j].length ≤ 1000000 := by have := mem_total (List.getElem_mem hjl); omega
                go_wp2_with fail
                refine (find_any Bj cj xs[j] key _ wr htj hej).mono ?_
                rintro e w4 ⟨rfl, hb7⟩
                have hs7 := hb7.size
                have hb8 := hb6.trans (hb7.mono hs6)
                rcases hfj : findE xs[j] key with _ | y
                · rw [show (none : Option Ent).isSome = false from rfl, show optE none = zeroE from rfl]
                  have HF := Lib.hid hfj; clear hfj
                  go_wp2
                  go_roundw
                  case rel =>
                    refine ⟨j + 1, by go_num, by omega, Lib.hid fun i' hi' l' hl' => ?_, hb8.alloc hb8.size _⟩
                    rcases Nat.lt_or_ge i' j with h | h
                    · exact HN.out i' h l' hl'
                    · have : i' = j := by omega
                      subst this
                      rw [List.getElem?_eq_getElem hjl] at hl'; injection hl' with hl'; subst hl'
                      exact HF.out
                  case measure => simp [intOf] <;> omega
                · have hnew := newest_some HSx.out (List.getElem?_eq_getElem hjl) hfj HN.out
                  rw [HGG.out, ← HFX.out] at hnew
                  subst hnew
                  simp only [optE, Option.isSome_some]
                  simp only [optE] at hX
                  have hY := At3.new w4 31 (.string y.key) (.string y.val) (.bool y.gone)
                  have hX4 := (hX.below hb8 hxw).alloc (.cells #[.string y.key, .string y.val, .bool y.gone] 31)
                  have hb9 := hb8.alloc hb8.size (.cells #[.string y.key, .string y.val, .bool y.gone] 31)
                  clear hfj
                  go_wp2_with fail
                  generalize w4.alloc (.cells #[.string y.key, .string y.val, .bool y.gone] 31) = w5 at hX4 hY hb9 ⊢
                  refine (awake12 w5).mono ?_
                  rintro e w6 ⟨rfl, hb10⟩
                  obtain ⟨p0, p1, p2⟩ := hX4.below hb10 hX4.lt
                  obtain ⟨q0, q1, q2⟩ := hY.below hb10 hY.lt
                  have hself := entEq_refl y
                  go_wp2
                  go_ret
                  exact ⟨rfl, hb5.trans ((hb9.trans (hb10.mono hb9.size)).mono hs5)⟩
              · have hall : ∀ (i : Nat) l', xs[i]? = some l' → findE l' key = none := fun i l' h => HN.out i (by have := (List.getElem?_eq_some_iff.1 h).1; omega) l' h
                have hnew := newest_none HSx.out hall
                rw [HGG.out, ← HFX.out] at hnew
                clear hall
                subst hnew
                simp only [Option.isSome_none]
                go_wp2_with fail
                refine (awake12 wr).mono ?_
                rintro e w6 ⟨rfl, hb10⟩
                go_wp2
                go_ret
                exact ⟨rfl, hb5.trans ((hb6.trans (hb10.mono hs6)).mono hs5)⟩
end Go.Proofs.Ytcnkmfmdadmaaaa
