/- merge.Lists walked. -/
import Derived.Test.YtcnkmfmdadmaaaaLeast
namespace Go.Proofs.Ytcnkmfmdadmaaaa
open Go.RowKit

def mLoop (drop : Bool) : Nat → List (List Ent) → Option ByteArray → List Ent
  | 0, _, _ => []
  | f + 1, cl, last => match leastTo cl cl.length with
    | none => []
    | some i => match cl[i]? with
      | some (x :: xs) => if last.any (fun s => kEq x.key s) then mLoop drop f (cl.set i xs) last
          else (if !drop || !x.gone then [x] else []) ++ mLoop drop f (cl.set i xs) (some x.key)
      | _ => []
def mLists (ls : List (List Ent)) (drop : Bool) : List Ent := mLoop drop (total ls) ls none

theorem total_set (cl : List (List Ent)) (i : Nat) (x : Ent) (xs : List Ent) (h : cl[i]? = some (x :: xs)) : total cl = total (cl.set i xs) + 1 := by
  induction cl generalizing i with
  | nil => simp at h
  | cons l cl ih =>
    cases i with
    | zero => simp at h; subst h; simp [total]; omega
    | succ i => have := ih i (by simpa using h); simp only [List.set_cons_succ, total, List.map_cons, List.sum_cons] at *; omega
theorem mLoop_none {drop : Bool} {f : Nat} {cl : List (List Ent)} {last : Option ByteArray} (h : leastTo cl cl.length = none) : mLoop drop f cl last = [] := by
  cases f with
  | zero => rfl
  | succ f => simp [mLoop, h]
theorem mLoop_some {drop : Bool} {cl : List (List Ent)} {last : Option ByteArray} {i : Nat} {x : Ent} {xs : List Ent} (h : leastTo cl cl.length = some i) (hi : cl[i]? = some (x :: xs)) :
    mLoop drop (total cl) cl last = if last.any (fun s => kEq x.key s) then mLoop drop (total (cl.set i xs)) (cl.set i xs) last
          else (if !drop || !x.gone then [x] else []) ++ mLoop drop (total (cl.set i xs)) (cl.set i xs) (some x.key) := by
  rw [total_set cl i x xs hi]
  simp only [mLoop, h, hi]
theorem mLoop_len (drop : Bool) (f : Nat) (cl : List (List Ent)) (last : Option ByteArray) : (mLoop drop f cl last).length ≤ f := by
  induction f generalizing cl last with
  | zero => simp [mLoop]
  | succ f ih =>
    unfold mLoop
    split
    · simp
    · split
      · split
        · exact Nat.le_succ_of_le (ih _ _)
        · rename_i i _ _ x xs _ _
          have := ih (cl.set i xs) (some x.key)
          rw [List.length_append]
          split <;> simp <;> omega
      · simp

theorem curElem : Elem Try.prog 102 104 2 32 := elem_of Try.underlying102 (by kernel_rfl)
def cursOf (vs : List SV) : List Cur := vs.mapIdx fun i s => ⟨s, i⟩
theorem cursOf_len (vs : List SV) : (cursOf vs).length = vs.length := by simp [cursOf]
theorem cursOf_get (vs : List SV) (i : Nat) (h : i < vs.length) : (cursOf vs)[i]'(by rw [cursOf_len]; exact h) = ⟨vs[i], i⟩ := by simp [cursOf]

set_option maxRecDepth 100000 in
set_option maxHeartbeats 2000000 in
theorem mLists_any (A : Option Addr) (cap : Nat) (ls : List (List Ent)) (drop : Bool) (F G : Nat → Prop) (w : World) (hn : ls.length ≤ 1000) (ht : total ls ≤ 100000) (hs : LL w F G A ls) :
    Calls Try.prog 18 #[.slice A ls.length cap, .bool drop] w fun e w' => ∃ v, e = .returned v ∧ EntO w' w.heap.size v (mLists ls drop) ∧ Below w.heap.size w w' := by
  have hE := Lib.hid entElem
  have hEc := Lib.hid curElem
  obtain ⟨mk, hmks, hmk⟩ := run_mk0 curElem .i64 .i64 ls.length (by omega) (by omega)
  have HMS := Lib.hid hmks; clear hmks
  obtain ⟨tgt, hT⟩ : ∃ t, t = mLists ls drop := ⟨_, rfl⟩
  have htot : tgt.length < 100001 := by rw [hT]; exact Nat.lt_succ_of_le (Nat.le_trans (mLoop_len _ _ _ _) ht)
  rw [← hT]
  have HT := Lib.hid hT; clear hT
  obtain ⟨vs, hvl, hsa, hve⟩ := hs
  have HVL := Lib.hid hvl
  have HVE := Lib.hid hve
  have hcl := cursOf_len vs
  have HCL := Lib.hid hcl
  go_enter Try.func18, Try.ntmps18
  clear hve hvl hcl
  go_wp2
  go_loopw [5, 18] (fun c i wr => ∃ k : Nat, k ≤ ls.length ∧ i = .int .i64 k ∧ Own wr w.heap.size 104 curC 2 c ((cursOf vs).take k) ∧ Below w.heap.size w wr) (fun _ i _ => ls.length - (intOf i).toNat)
  case atStart => exact ⟨0, Nat.zero_le _, rfl, Own.made w mk ls.length _ _ _ (Nat.le_refl _) (by unfold maxLen; omega) HMS.out, (Below.refl _ _).alloc (Nat.le_refl _) _⟩
  case round =>
    clear hmk
    obtain ⟨k, hk, rfl, ho, hb⟩ := hrel
    have hbase : w.heap.size ≤ wr.heap.size := hb.size
    by_cases hlt : k < ls.length
    · have hkv : k < vs.length := by have := HVL.out; omega
      obtain ⟨b, off, Bk, ck, hA, hcell, hl1, hl2, hin⟩ := (show LL w F G A ls from ⟨vs, HVL.out, hsa, HVE.out⟩).below hb |>.at_ hlt
      subst hA
      obtain ⟨b2, off2, hA2, _, hcv⟩ := (hsa.below hb).at_ hkv
      injection hA2 with hA2; injection hA2 with e1 e2; subst e1; subst e2
      have hsv : vs[k] = ⟨Bk, ls[k].length, ck⟩ := by
        have h0 := hcv 0 _ rfl
        simp only [Nat.mul_one, Nat.add_zero] at h0
        rw [hcell] at h0
        generalize vs[k] = s at h0
        cases s; simp only [SV.val] at h0; injection h0 with h0; injection h0 with e1 e2 e3; subst e1; subst e2; subst e3; rfl
      have hnext : (cursOf vs).take (k + 1) = (cursOf vs).take k ++ [⟨⟨Bk, ls[k].length, ck⟩, k⟩] := by
        rw [List.take_succ_eq_append_getElem (by have := HCL.out; omega), cursOf_get vs k hkv, hsv]
      have HN := Lib.hid hnext
      have hlen : ((cursOf vs).take k).length < 1001 := by rw [List.length_take]; omega
      clear hnext hsv hcv hin
      go_wp2_with (at_builtin; refine wpList_app1 (by rfl) (.tmp 23) (.tmp 27) (by rfl) hEc.out curC_length curC_one (by rfl) (by exact ho.alloc _) (g := _) 1 ⟨⟨Bk, ls[k].length, ck⟩, k⟩ (by rfl) (by exact Blk.new_ (by simp)) (by rfl) 1001 hlen (by omega) (by unfold maxLen; omega) (by simp; omega) ?_; intro v3 w3 ho3 hg3 hv3)
      go_roundw
      case rel => exact ⟨k + 1, by omega, by go_num, by rw [HN.out]; exact ho3, (hb.alloc hbase _).grown hg3 (by simp; omega) (fun g hg => (ho.lt g hg).1)⟩
      case measure => simp [intOf] <;> omega
    · have hx : (cursOf vs).take k = cursOf vs := List.take_of_length_le (by have := HCL.out; have := HVL.out; omega)
      rw [hx] at ho; clear hx
      have hCL0 : (cursOf vs).length = ls.length := HCL.out.trans HVL.out
      have hve : ∀ (i : Nat) v l, (cursOf vs)[i]? = some v → ls[i]? = some l → EntS wr (fun g => g < w.heap.size) v.sv.val l := by
        intro i v l h1 h2
        have hi : i < vs.length := by have := (List.getElem?_eq_some_iff.1 h1).1; rw [cursOf_len] at this; exact this
        rw [List.getElem?_eq_getElem (by rw [cursOf_len]; exact hi), cursOf_get vs i hi] at h1
        injection h1 with h1; subst h1
        exact ((HVE.out i vs[i] l (List.getElem?_eq_getElem hi) h2).here entC_pos).belowB hb
      clear HVE hsa HCL HVL
      generalize cursOf vs = cu at ho hCL0 hve
      obtain ⟨Ac, cc, rfl, hcc1, hcc2, hcs⟩ := ho.sl curC_length
      rw [hCL0]
      rw [hCL0] at ho hcc1 hcs
      have HCL := Lib.hid hCL0
      have hCLs : CL wr (fun _ => True) (fun g => g < w.heap.size) Ac cu ls := ⟨hCL0, hcs.imp (fun _ _ => trivial), hve⟩
      have HVE := Lib.hid hve
      have HCLs := Lib.hid hCLs
      clear hCL0 hve hCLs
      go_wp2_with fail
      refine (least_any Ac cc cu ls _ _ _ (by omega) HCLs.out).mono ?_
      rintro e w1 ⟨rfl, hb1⟩
      have hb2 : Below w.heap.size w w1 := hb.trans (hb1.mono hb.size)
      have ho1 := ho.below hb1
      have HVE1 : Hid (∀ (i : Nat) v l, cu[i]? = some v → ls[i]? = some l → EntS w1 (fun g => g < w.heap.size) v.sv.val l) := Lib.hid fun i v l h1 h2 => (HVE.out i v l h1 h2).belowB (hb1.mono hb.size)
      clear HVE HCLs ho hcs
      go_wp2_with fail
      go_loopg [8, 9, 10, 11] (total ls) (fun gk o la an at_ wr => ∃ (cl : List (List Ent)) (cu : List Cur) (outl : List Ent) (last : Option ByteArray), total cl = gk ∧ Hid (cl.length = ls.length) ∧ Hid (cu.length = cl.length) ∧
        Own wr w.heap.size 104 curC 2 (.slice Ac ls.length cc) cu ∧ Hid (∀ (i : Nat) v l, cu[i]? = some v → cl[i]? = some l → EntS wr (fun g => g < w.heap.size) v.sv.val l) ∧ EntO wr w.heap.size o outl ∧
        la = .string (last.getD ⟨#[]⟩) ∧ an = .bool last.isSome ∧ at_ = .int .i64 (leastI (leastTo cl cl.length)) ∧ Hid (tgt = outl ++ mLoop drop (total cl) cl last) ∧ Below w.heap.size w wr)
      case atStart => exact ⟨ls, cu, [], none, rfl, Lib.hid rfl, HCL, ho1, HVE1, Own.nil _ _ _ _ _, rfl, rfl, rfl, Lib.hid HT.out, hb2⟩
      case round =>
        clear HCL HVE1 ho1 hb2 hb1 hb HT
        obtain ⟨cl, cu, outl, last, hgk, HL, HCL, ho, HVE, hout, rfl, rfl, rfl, HT, hb⟩ := hrel
        have hbase : w.heap.size ≤ wr.heap.size := hb.size
        rcases hle : leastTo cl cl.length with _ | i
        · have hd := HT.out; rw [mLoop_none hle, List.append_nil] at hd
          have HD := Lib.hid hd; clear hd hle hgk
          rw [show leastI none = -1 from rfl]
          go_wp2
          go_ret
          exact ⟨_, rfl, by rw [HD.out]; exact hout, hb⟩
        · obtain ⟨hil, x, xs, hix⟩ := leastTo_spec cl _ i hle
          have hic : i < cu.length := by have := HL.out; have := HCL.out; omega
          have hi1 : ((i : Nat) : Int) < ((ls.length : Nat) : Int) := by have := HL.out; omega
          have hi0 : (0 : Int) ≤ ((i : Nat) : Int) := by omega
          obtain ⟨Bi, ci, hsv, hl1, hl2, hin⟩ := HVE.out i cu[i] (x :: xs) (List.getElem?_eq_getElem hic) hix
          obtain ⟨g, cap', cur, hAc, hgB, hgh, _⟩ := ho.form (by rintro rfl; simp at hic)
          injection hAc with e1 e2 e3
          subst e1
          clear e2 e3
          have hgl : g < wr.heap.size := (Array.getElem?_eq_some_iff.1 hgh).1
          have q0 : wr.cell? ⟨g, i * 2, none⟩ = some (.slice Bi (xs.length + 1) ci) := by
            have h0 := ho.at_ curC_length (k := i) (j := 0) hic rfl
            rw [hsv] at h0; exact h0
          have fr := ho.frozen (i * 2)
          obtain ⟨bx, ox, rfl, hFx, x0, x1, x2⟩ := EntA.cells hin (k := 0) (by simp)
          simp only [List.getElem_cons_zero, Nat.zero_mul, Nat.add_zero] at x0 x1 x2
          have hpos : (0 : Int) < ((xs.length : Nat) : Int) + 1 := by omega
          have hcut := fun W => run_cut1 hE.out (some ⟨bx, ox, none⟩) xs.length ci W
          have hsz0 : (wr.setCell ⟨g, i * 2, none⟩ (.slice (cutA (some ⟨bx, ox, none⟩) ci 1 3) xs.length (ci - 1))).heap.size = wr.heap.size := by simp [World.setCell]
          have y3 := At3.new (wr.setCell ⟨g, i * 2, none⟩ (.slice (cutA (some ⟨bx, ox, none⟩) ci 1 3) xs.length (ci - 1))) 31 (.string x.key) (.string x.val) (.bool x.gone)
          rw [hsz0] at y3
          have ho3 : Own _ _ _ _ _ _ (cu.set i ⟨⟨cutA (some ⟨bx, ox, none⟩) ci 1 3, xs.length, ci - 1⟩, cu[i].age⟩) := (ho.set_ curC_length (g := g) rfl i 0 hic (by omega) (.slice (cutA (some ⟨bx, ox, none⟩) ci 1 3) xs.length (ci - 1)) ⟨⟨cutA (some ⟨bx, ox, none⟩) ci 1 3, xs.length, ci - 1⟩, cu[i].age⟩ (by simp [curC, SV.val])).alloc (.cells #[.string x.key, .string x.val, .bool x.gone] 31)
          have hout3 := (hout.far (p := ⟨g, i * 2, none⟩) (fun e => hout.ne_ ho (by decide) g e rfl) (.slice (cutA (some ⟨bx, ox, none⟩) ci 1 3) xs.length (ci - 1))).alloc (.cells #[.string x.key, .string x.val, .bool x.gone] 31)
          have hb3 := (hb.setCell (p := ⟨g, i * 2, none⟩) hgB (.slice (cutA (some ⟨bx, ox, none⟩) ci 1 3) xs.length (ci - 1))).alloc (by rw [hsz0]; exact hbase) (.cells #[.string x.key, .string x.val, .bool x.gone] 31)
          have HVE3 : Hid (∀ (j : Nat) v l, (cu.set i ⟨⟨cutA (some ⟨bx, ox, none⟩) ci 1 3, xs.length, ci - 1⟩, cu[i].age⟩)[j]? = some v → (cl.set i xs)[j]? = some l → EntS wr (fun g => g < w.heap.size) v.sv.val l) := by
            intro j v l h1 h2
            by_cases hj : j = i
            · subst hj
              rw [List.getElem?_set_self hic] at h1
              rw [List.getElem?_set_self (by have := HL.out; omega)] at h2
              injection h1 with h1; injection h2 with h2; subst h1; subst h2
              refine ⟨cutA (some ⟨bx, ox, none⟩) ci 1 3, ci - 1, rfl, by simp at hl1; omega, by omega, ?_⟩
              have := SlA.cut hin (i := 1) (j := (x :: xs).length) (by simp) (Nat.le_refl _) hl1
              simpa [cutA] using this
            · rw [List.getElem?_set_ne (Ne.symm hj)] at h1 h2
              exact HVE.out j v l h1 h2
          have hmod : Below w.heap.size wr _ := ((Below.refl w.heap.size wr).setCell (p := ⟨g, i * 2, none⟩) hgB (.slice (cutA (some ⟨bx, ox, none⟩) ci 1 3) xs.length (ci - 1))).alloc (by rw [hsz0]; exact hbase) (.cells #[.string x.key, .string x.val, .bool x.gone] 31)
          have hsz3 : wr.heap.size < ((wr.setCell ⟨g, i * 2, none⟩ (.slice (cutA (some ⟨bx, ox, none⟩) ci 1 3) xs.length (ci - 1))).alloc (.cells #[.string x.key, .string x.val, .bool x.gone] 31)).heap.size := by rw [World.size_alloc, hsz0]; omega
          clear hsz0
          have hmL := mLoop_some (drop := drop) (last := last) hle hix
          have hTS := total_set cl i x xs hix
          have hd := HT.out; rw [hmL] at hd
          have HD := Lib.hid hd
          have HTS := Lib.hid hTS
          clear hd hTS hmL HT hl1 hl2 hin HVE hsv ho hout
          have hcl2 : Hid ((cl.set i xs).length = ls.length) := by have := HL.out; exact Lib.hid (by rw [List.length_set]; exact this)
          have HGK := Lib.hid hgk
          clear hle hgk
          rw [show leastI (some i) = (i : Int) from rfl]
          go_upto_region 14 with (fail)
          generalize (wr.setCell ⟨g, i * 2, none⟩ (.slice (cutA (some ⟨bx, ox, none⟩) ci 1 3) xs.length (ci - 1))).alloc (.cells #[.string x.key, .string x.val, .bool x.gone] 31) = w3 at y3 ho3 hout3 hb3 hmod hsz3 ⊢
          have hbw3 : w.heap.size ≤ w3.heap.size := hb3.size
          have hcu2 : Hid ((cu.set i ⟨⟨cutA (some ⟨bx, ox, none⟩) ci 1 3, xs.length, ci - 1⟩, cu[i].age⟩).length = (cl.set i xs).length) := by have := HCL.out; exact Lib.hid (by rw [List.length_set, List.length_set]; exact this)
          generalize hcun : cu.set i ⟨⟨cutA (some ⟨bx, ox, none⟩) ci 1 3, xs.length, ci - 1⟩, cu[i].age⟩ = cun at ho3 HVE3 hcu2
          clear hcun
          generalize hcln : cl.set i xs = cln at HVE3 hcu2 hcl2 HTS HD
          clear hcln
          have hrow : ∀ gq, u8.ownBlock = some gq → gq ≠ g := fun gq hq e => by subst e; exact hout3.ne_ ho3 (by decide) gq hq rfl
          by_cases hdup : last.any (fun s => kEq x.key s) = true
          · have hd := HD.out; rw [if_pos hdup] at hd
            have HD2 := Lib.hid hd; clear hd HD
            obtain ⟨s, rfl, hks⟩ : ∃ s, last = some s ∧ kEq x.key s = true := by
              cases last with
              | none => simp at hdup
              | some s => exact ⟨s, rfl, by simpa using hdup⟩
            clear hdup
            unfold kEq at hks
            obtain ⟨y0, y1, y2⟩ := y3
            simp only [Option.getD_some, Option.isSome_some]
            go_wp2_with fail
            refine (least_n (some ⟨g, 0, none⟩) cc ls.length cun cln _ _ _ (by omega) hcl2.out ⟨hcu2.out, ho3.slA curC_length, fun j v l h1 h2 => (HVE3.out j v l h1 h2).belowB hmod⟩).mono ?_
            rintro e w6 ⟨rfl, hb6⟩
            go_wp2
            go_roundg (total cln)
            case rel => exact ⟨cln, cun, outl, some s, rfl, hcl2, hcu2, ho3.below hb6, Lib.hid fun j v l h1 h2 => ((HVE3.out j v l h1 h2).belowB hmod).belowB (hb6.mono hbw3), hout3.below hb6, rfl, rfl, rfl, HD2, hb3.trans (hb6.mono hbw3)⟩
            case measure => have := HTS.out; have := HGK.out; omega
          · have hd := HD.out; rw [if_neg hdup] at hd
            have hnd : last = none ∨ ∃ s, last = some s ∧ kEq x.key s = false := by
              cases last with
              | none => exact .inl rfl
              | some s => exact .inr ⟨s, rfl, by simpa using hdup⟩
            clear hdup HD
            cases hx : (!drop || !x.gone) with
            | true =>
              rw [hx, if_pos rfl] at hd
              have HD2 := Lib.hid hd
              have hcl3 : outl.length < 100001 := by rw [hd] at htot; simp at htot; omega
              clear hd
              have hxx := keep_true hx
              rcases hnd with rfl | ⟨s, rfl, hks⟩
              all_goals
                try unfold kEq at hks
                simp only [Option.getD_some, Option.isSome_some, Option.getD_none, Option.isSome_none]
                rcases hxx with rfl | ⟨rfl, hgn⟩
              all_goals
                obtain ⟨y0, y1, y2⟩ := y3
                go_wp2_with (at_builtin; refine wpList_app1 (by rfl) (.tmp 69) (.tmp 71) (by rfl) hE.out entC_length entC_one (by rfl) (by exact hout3.alloc _) (g := _) 1 x (by rfl) (by exact Blk.new_ (by simp)) (by first | rfl | simp [entC, *]) 100001 hcl3 (by omega) (by unfold maxLen; omega) (by simp; omega) ?_; intro v5 w5 ho5 hg5 hv5)
                have hb5 : Below w.heap.size w w5 := (hb3.alloc hbw3 _).grown hg5 (by simp; omega) (fun gq hq => (hout3.lt gq hq).1)
                have hm5 : Below w.heap.size w3 w5 := ((Below.refl w.heap.size w3).alloc hbw3 _).grown hg5 (by simp; omega) (fun gq hq => (hout3.lt gq hq).1)
                have ho6 := (ho3.alloc _).grown hg5 (.inr (fun e => hout3.ne_ ho3 (by decide) g e.symm rfl))
                refine (least_n (some ⟨g, 0, none⟩) cc ls.length cun cln _ _ _ (by omega) hcl2.out ⟨hcu2.out, ho6.slA curC_length, fun j v l h1 h2 => ((HVE3.out j v l h1 h2).belowB hmod).belowB hm5⟩).mono ?_
                rintro e w6 ⟨rfl, hb6⟩
                go_wp2
                go_roundg (total cln)
                case rel => exact ⟨cln, cun, outl ++ [x], some x.key, rfl, hcl2, hcu2, ho6.below hb6, Lib.hid fun j v l h1 h2 => (((HVE3.out j v l h1 h2).belowB hmod).belowB hm5).belowB (hb6.mono hb5.size), ho5.below hb6, rfl, rfl, rfl, Lib.hid (by simpa using HD2.out), hb5.trans (hb6.mono hb5.size)⟩
                case measure => have := HTS.out; have := HGK.out; omega
            | false =>
              rw [hx, if_neg (by simp), List.nil_append] at hd
              have HD2 := Lib.hid hd; clear hd
              have hxx := keep_false hx
              obtain ⟨rfl, hgn⟩ := hxx
              rcases hnd with rfl | ⟨s, rfl, hks⟩
              all_goals
                try unfold kEq at hks
                simp only [Option.getD_some, Option.isSome_some, Option.getD_none, Option.isSome_none]
                obtain ⟨y0, y1, y2⟩ := y3
                go_wp2_with fail
                refine (least_n (some ⟨g, 0, none⟩) cc ls.length cun cln _ _ _ (by omega) hcl2.out ⟨hcu2.out, ho3.slA curC_length, fun j v l h1 h2 => (HVE3.out j v l h1 h2).belowB hmod⟩).mono ?_
                rintro e w6 ⟨rfl, hb6⟩
                go_wp2
                go_roundg (total cln)
                case rel => exact ⟨cln, cun, outl, some x.key, rfl, hcl2, hcu2, ho3.below hb6, Lib.hid fun j v l h1 h2 => ((HVE3.out j v l h1 h2).belowB hmod).belowB (hb6.mono hbw3), hout3.below hb6, rfl, rfl, rfl, HD2, hb3.trans (hb6.mono hbw3)⟩
                case measure => have := HTS.out; have := HGK.out; omega
end Go.Proofs.Ytcnkmfmdadmaaaa
