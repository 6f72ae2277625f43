/- Three operations that may come next; maps from labels to true. No program in sight. -/
import Derived.Test.YtcmgpkibjdbonaaG5Z
import Derived.Test.YtcmgpkibjdbonaaV16Z
import Derived.DeepKeys3
namespace Go.Proofs.Ytcmgpkibjdbonaa
open Go Go.RowKit
section
variable {P : Program} {C : Ctx} {S : St}
theorem AnyT.three {ops : Array Oper} {o1 o2 o3 : Oper} {tk so qs : List Nat} {n : Nat} {listed : Array Bool} {S : St} {K : St → Prop} (i1 i2 i3 : Nat) (hr : Region.ready .any ops listed = [i1, i2, i3]) (h1 : ops[i1]? = some o1) (h2 : ops[i2]? = some o2) (h3 : ops[i3]? = some o3)
    (k1 : Ops (.one tk so qs) P C ops [o1] S (fun S' => AnyT P C ops tk so qs n (listed.setIfInBounds i1 true) S' K)) (k2 : Ops (.one tk so qs) P C ops [o2] S (fun S' => AnyT P C ops tk so qs n (listed.setIfInBounds i2 true) S' K)) (k3 : Ops (.one tk so qs) P C ops [o3] S (fun S' => AnyT P C ops tk so qs n (listed.setIfInBounds i3 true) S' K)) : AnyT P C ops tk so qs (n + 1) listed S K := by
  refine ⟨fun Q a w hs f2 hQ hK => ⟨fun h => (by rw [hr] at h; cases h), fun i hi => ?_⟩⟩
  rw [hr] at hi
  simp only [List.mem_cons, List.not_mem_nil, or_false] at hi
  rcases hi with rfl | rfl | rfl
  · exact k1.out Q (fun G a' w' => wpAnyR P ops qs Q n (listed.setIfInBounds i true) G a' w') a w hs (fun S' a' w' h1 h2 => h1.out Q a' w' h2 f2 hQ hK) i h1
  · exact k2.out Q (fun G a' w' => wpAnyR P ops qs Q n (listed.setIfInBounds i true) G a' w') a w hs (fun S' a' w' h1 h2 => h1.out Q a' w' h2 f2 hQ hK) i h2
  · exact k3.out Q (fun G a' w' => wpAnyR P ops qs Q n (listed.setIfInBounds i true) G a' w') a w hs (fun S' a' w' h1 h2 => h1.out Q a' w' h2 f2 hQ hK) i h3
theorem t_three {ops : Array Oper} {o1 o2 o3 : Oper} {tk so qs : List Nat} {n n' : Nat} {listed : Array Bool} {S : St} {K : St → Prop} (i1 i2 i3 : Nat) (l1 l2 l3 : List Bool) (hn : n = n' + 1) (hr : Region.ready .any ops listed = [i1, i2, i3]) (h1 : ops[i1]? = some o1) (h2 : ops[i2]? = some o2) (h3 : ops[i3]? = some o3) (e1 : listed.setIfInBounds i1 true = l1.toArray) (e2 : listed.setIfInBounds i2 true = l2.toArray) (e3 : listed.setIfInBounds i3 true = l3.toArray)
    (k1 : Ops (.one tk so qs) P C ops [o1] S (fun S' => AnyT P C ops tk so qs n' l1.toArray S' K)) (k2 : Ops (.one tk so qs) P C ops [o2] S (fun S' => AnyT P C ops tk so qs n' l2.toArray S' K)) (k3 : Ops (.one tk so qs) P C ops [o3] S (fun S' => AnyT P C ops tk so qs n' l3.toArray S' K)) : AnyT P C ops tk so qs n listed S K := by
  subst hn
  rw [← e1] at k1
  rw [← e2] at k2
  rw [← e3] at k3
  exact AnyT.three i1 i2 i3 hr h1 h2 h3 k1 k2 k3
end
/-! Labels as keys. -/
def vL (l : List UInt8) : Value := .agg (l.map fun c => Value.int .u8 (c.toNat : Int)).toArray
section
variable {P : Program} (w : World)
structure LabK (P : Program) (kt : TypeId) (k : Nat) : Prop where
  ex : ∃ e ie, P.underlying kt = some (.array k e) ∧ P.underlying e = some (.int .u8) ∧ P.info? e = some ie ∧ P.cellsOf e = 1
theorem equal_lab {kt k : Nat} (hk : LabK P kt k) {a b : List UInt8} (ha : a.length = k) (hb : b.length = k) : (Op.equal kt (vL a) (vL b)).run P w = .ok (a == b) w := by
  obtain ⟨e, ie, hu, hue, hie, hco⟩ := hk.ex
  have hpk : P.plainKey e = true := by unfold Program.plainKey; rw [hue]
  have h1 := run_equalIn_array (P := P) w 9999 (a.map fun c => Value.int .u8 (c.toNat : Int)).toArray (b.map fun c => Value.int .u8 (c.toNat : Int)).toArray hu hie
  rw [hco, eqItems_bytes hue hpk 9998 a b (List.range k) (fun i hi => by have := List.mem_range.1 hi; omega), all_range_eq a b k ha hb] at h1
  exact h1
theorem check_lab {kt k : Nat} (hk : LabK P kt k) {a : List UInt8} (ha : a.length = k) (em : Bool) : (Instr.checkKey em 10000 kt (vL a)).run P w = .ok () w := by
  obtain ⟨e, ie, hu, hue, hie, hco⟩ := hk.ex
  have hpk : P.plainKey e = true := by unfold Program.plainKey; rw [hue]
  rw [show (10000 : Nat) = 9999 + 1 from rfl, Instr.checkKey]
  unfold vL
  simp only [Sem.run_bind, run_underlying hu, Result.andThen_ok]
  simp only [Std.Legacy.Range.forIn_eq_forIn_range', Std.Legacy.Range.size, Nat.sub_zero, Nat.add_one_sub_one, Nat.div_one]
  have each : ∀ i ∈ List.range' 0 k, i < a.length := fun i hi => by
    rw [List.mem_range'_1] at hi; omega
  generalize List.range' 0 k = is at each
  induction is with
  | nil => simp
  | cons j is ih =>
    have hj := each j (List.mem_cons_self ..)
    have p1 := run_part_plain (P := P) w hpk (xs := (a.map fun c => Value.int .u8 (c.toNat : Int)).toArray) (off := j * 1) (v := .int .u8 (a[j].toNat : Int)) (by simp [hj])
    have p2 : (Instr.checkKey em 9999 e (.int .u8 (a[j].toNat : Int))).run P w = .ok () w := by
      rw [show (9999 : Nat) = 9998 + 1 from rfl, Instr.checkKey]
      simp only [Sem.run_bind, run_underlying hue, Result.andThen_ok, Sem.run_pure]
    simp only [List.forIn_cons, Sem.run_bind, run_sizeOf w hie, hco, Result.andThen_ok, p1, p2, Sem.run_pure]
    exact ih (fun y hy => each y (List.mem_cons_of_mem _ hy))
def entL (j : Nat) (l : List (List UInt8)) : List MapEntry := ((l.map vL).zipIdx j).map (fun p => (⟨p.1, .bool true, p.2⟩ : MapEntry))
theorem ask_lab {kt k : Nat} (hk : LabK P kt k) {a : List UInt8} (ha : a.length = k) : ∀ (l : List (List UInt8)) (j i : Nat), (∀ x ∈ l, x.length = k) →
    (Instr.findAsking kt (vL a) (entL j l) i).run P w = .ok (if l.contains a = true then some (i + l.idxOf a, .bool true) else none) w
  | [], j, i, _ => by simp [entL, Instr.findAsking]
  | x :: l, j, i, hl => by
    have ih := ask_lab hk ha l (j + 1) (i + 1) (fun y hy => hl y (List.mem_cons_of_mem _ hy))
    have he := equal_lab w hk ha (hl x (List.mem_cons_self ..))
    have e : entL j (x :: l) = ⟨vL x, .bool true, j⟩ :: entL (j + 1) l := by unfold entL; rw [List.map_cons, List.zipIdx_cons, List.map_cons]
    rw [e, Instr.findAsking]
    simp only [Sem.run_bind, he, Result.andThen_ok]
    rw [List.contains_cons]
    by_cases hax : a = x
    · subst hax
      simp [Sem.run_pure]
    · have hb : (a == x) = false := beq_eq_false_iff_ne.2 hax
      rw [hb]
      simp only [Bool.false_eq_true, if_false, ih, Bool.false_or]
      have hi : (x :: l).idxOf a = l.idxOf a + 1 := by rw [List.idxOf_cons]; simp [beq_eq_false_iff_ne.2 (Ne.symm hax)]
      rw [hi, show i + (l.idxOf a + 1) = i + 1 + l.idxOf a by omega]
theorem find_lab {kt k : Nat} (hk : LabK P kt k) {a : List UInt8} (ha : a.length = k) (l : List (List UInt8)) (hl : ∀ x ∈ l, x.length = k) :
    (Instr.findKey kt (vL a) (entL 0 l)).run P w = .ok (if l.contains a = true then some (l.idxOf a, .bool true) else none) w := by
  obtain ⟨e, ie, hu, hue, hie, hco⟩ := hk.ex
  rw [run_findKey_eq w (by rw [hu]), ask_lab w hk ha l 0 0 hl, Nat.zero_add]
theorem sameBits_lab (a : List UInt8) : Instr.sameBits 10000 (vL a) (vL a) = true := by
  unfold vL
  show (_ == _ && _) = true
  rw [Bool.and_eq_true]
  refine ⟨beq_self_eq_true _, ?_⟩
  rw [List.all_eq_true]
  rintro ⟨x, y⟩ hxy
  have hxx : x = y := by
    obtain ⟨i, hi, he⟩ := List.getElem_of_mem hxy
    rw [List.getElem_zip] at he
    exact (Prod.mk.inj he).1.symm.trans (Prod.mk.inj he).2
  have hx : x ∈ (a.map fun c => Value.int .u8 (c.toNat : Int)) := by
    have := (List.of_mem_zip hxy).1
    simpa using this
  obtain ⟨c, _, rfl⟩ := List.mem_map.1 hx
  subst hxx
  show (IntKind.u8 == IntKind.u8 && (c.toNat : Int) == (c.toNat : Int)) = true
  rw [beq_self_eq_true, Bool.true_and, beq_self_eq_true]
theorem entL_len (l : List (List UInt8)) : (entL 0 l).length = l.length := by simp [entL]
theorem entL_get (l : List (List UInt8)) (i : Nat) (h : i < l.length) : (entL 0 l)[i]? = some ⟨vL l[i], .bool true, i⟩ := by
  simp [entL, h]
theorem setO_ent (l : List (List UInt8)) : setO (l.map vL) = .map (entL 0 l).toArray l.length := by unfold setO entL; rw [List.length_map]
def addK (l : List (List UInt8)) (a : List UInt8) : List (List UInt8) := if l.contains a = true then l else l ++ [a]
theorem addK_len {k : Nat} {l : List (List UInt8)} {a : List UInt8} (hl : ∀ x ∈ l, x.length = k) (ha : a.length = k) : ∀ x ∈ addK l a, x.length = k := fun x hx => by
  unfold addK at hx
  split at hx
  · exact hl x hx
  · rcases List.mem_append.1 hx with hx | hx
    · exact hl x hx
    · rw [List.mem_singleton.1 hx]; exact ha
theorem addK_mem (l : List (List UInt8)) (a g : List UInt8) : (addK l a).contains g = (l.contains g || (g == a)) := by
  unfold addK
  split
  · rename_i h
    by_cases hg : g = a
    · subst hg; rw [h]; rfl
    · rw [beq_eq_false_iff_ne.2 hg, Bool.or_false]
  · rw [Bool.eq_iff_iff, Bool.or_eq_true, List.contains_iff_mem, List.contains_iff_mem, List.mem_append, List.mem_singleton, beq_iff_eq]
theorem idx_get {l : List (List UInt8)} {a : List UInt8} (h : l.contains a = true) : ∃ hi : l.idxOf a < l.length, l[l.idxOf a] = a := by
  have hm := List.contains_iff_mem.1 h
  have hi := List.idxOf_lt_length_of_mem hm
  exact ⟨hi, List.getElem_idxOf hi⟩
theorem arr_modify_same {α : Type} {xs : Array α} {i : Nat} {f : α → α} (h : ∀ x, xs[i]? = some x → f x = x) : xs.modify i f = xs := by
  apply Array.ext
  · simp
  · intro j h1 h2
    rw [Array.getElem_modify]
    split
    · rename_i hij
      subst hij
      exact h _ (Array.getElem?_eq_getElem h2)
    · rfl
/-- The map while a new entry has no value yet; the entry's stamp. -/
def entO (l : List (List UInt8)) (a : List UInt8) : Obj := if l.contains a = true then setO (l.map vL) else .map ((entL 0 l).toArray.push ⟨vL a, .bool false, l.length⟩) (l.length + 1)
theorem getObj_run {b : Nat} {es : Array MapEntry} {c : Nat} (hb : w.heap[b]? = some (.map es c)) : (getObj b).run P w = .ok (.map es c) w := by unfold getObj; simp [Sem.run, hb]
theorem setObj_run {b : Nat} {es es' : Array MapEntry} {c c' : Nat} (hb : w.heap[b]? = some (.map es c)) : (setObj b (.map es' c')).run P w = .ok () (setB w b (.map es' c')) := by
  simp only [setObj, Sem.run, hb]
  rfl
variable {b : Nat} {t kt et : TypeId} {k : Nat}
theorem lookup_lab (hk : LabK P kt k) (l : List (List UInt8)) (hl : ∀ x ∈ l, x.length = k) {a : List UInt8} (ha : a.length = k) (hb : w.heap[b]? = some (setO (l.map vL))) (ht : P.underlying t = some (.map kt et)) (hz : (zeroValue et).run P w = .ok (.bool false) w) :
    (Instr.lookup t (.map (some b)) (vL a) false).run P w = .ok (.bool (l.contains a)) w := by
  rw [setO_ent] at hb
  have hf := find_lab w hk ha l hl
  unfold Instr.lookup
  simp only [Sem.run_bind, run_underlying ht, Result.andThen_ok, Sem.run_pure, getObj_run w hb, check_lab w hk ha, hf]
  by_cases hc : l.contains a = true
  · rw [if_pos hc, hc]; simp [Sem.run_pure]
  · rw [if_neg hc]
    have hc : l.contains a = false := by revert hc; cases l.contains a <;> simp
    rw [hc]
    simp [Sem.run_pure, Sem.run_bind, hz]
theorem update_lab (hk : LabK P kt k) (l : List (List UInt8)) (hl : ∀ x ∈ l, x.length = k) {a : List UInt8} (ha : a.length = k) (hb : w.heap[b]? = some (setO (l.map vL))) (ht : P.underlying t = some (.map kt et)) :
    (Instr.mapUpdate t (.map (some b)) (vL a) (.bool true)).run P w = .ok () (setB w b (setO ((addK l a).map vL))) := by
  rw [setO_ent] at hb
  have hf := find_lab w hk ha l hl
  unfold Instr.mapUpdate
  simp only [Sem.run_bind, run_underlying ht, Result.andThen_ok, Sem.run_pure, getObj_run w hb, check_lab w hk ha, hf]
  unfold addK
  by_cases hc : l.contains a = true
  · rw [if_pos hc, if_pos hc]
    obtain ⟨hi, hg⟩ := idx_get hc
    have hgi : (entL 0 l).toArray[l.idxOf a]? = some ⟨vL a, .bool true, l.idxOf a⟩ := by rw [List.getElem?_toArray, entL_get l _ hi, hg]
    simp only [hgi, Option.map_some, Option.getD_some, Instr.keyThatStays, sameBits_lab, if_true, Sem.run_pure, Sem.run_bind, Result.andThen_ok]
    rw [arr_modify_same (fun x hx => by rw [hgi] at hx; cases hx; rfl), setObj_run w hb, setO_ent]
  · rw [if_neg hc, if_neg hc]
    simp only [setObj_run w hb]
    congr 2
    rw [setO_ent, List.length_append, List.length_singleton]
    congr 1
    unfold entL
    simp [List.zipIdx_append]
theorem entry_lab (hk : LabK P kt k) (l : List (List UInt8)) (hl : ∀ x ∈ l, x.length = k) {a : List UInt8} (ha : a.length = k) (hb : w.heap[b]? = some (setO (l.map vL))) (ht : P.underlying t = some (.map kt et)) (hz : (zeroValue et).run P w = .ok (.bool false) w) :
    (Instr.mapEntry t (.map (some b)) (vL a)).run P w = .ok (.tuple #[.bool (l.contains a), goInt (l.idxOf a : Nat)]) (setB w b (entO l a)) := by
  rw [setO_ent] at hb
  have hf := find_lab w hk ha l hl
  unfold Instr.mapEntry
  simp only [Sem.run_bind, run_underlying ht, Result.andThen_ok, Sem.run_pure, getObj_run w hb, check_lab w hk ha, hf]
  unfold entO
  by_cases hc : l.contains a = true
  · rw [if_pos hc, if_pos hc]
    obtain ⟨hi, hg⟩ := idx_get hc
    have hgi : (entL 0 l).toArray[l.idxOf a]? = some ⟨vL a, .bool true, l.idxOf a⟩ := by rw [List.getElem?_toArray, entL_get l _ hi, hg]
    simp only [hgi, Option.map_some, Option.getD_some, Instr.keyThatStays, sameBits_lab, if_true, Sem.run_pure, Sem.run_bind, Result.andThen_ok]
    rw [arr_modify_same (fun x hx => by rw [hgi] at hx; cases hx; rfl), setObj_run w hb, setO_ent, hc]
    rfl
  · rw [if_neg hc, if_neg hc]
    have hn : a ∉ l := fun hm => hc (List.contains_iff_mem.2 hm)
    have hc2 : l.contains a = false := by revert hc; cases l.contains a <;> simp
    simp only [Sem.run_bind, hz, setObj_run w hb, Result.andThen_ok, Sem.run_pure, hc2, List.idxOf_eq_length hn]
theorem stamp_find {es : Array MapEntry} (h : ∀ i (hi : i < es.size), es[i].born = i) {n : Nat} (hn : n < es.size) : es.findIdx? (fun e => (e.born : Int) == (n : Int)) = some n := by
  rw [Array.findIdx?_eq_some_iff_getElem]
  refine ⟨hn, by rw [h n hn]; exact beq_self_eq_true _, fun j hj => ?_⟩
  rw [h j (by omega)]
  simp only [beq_iff_eq]
  omega
theorem store_lab (l : List (List UInt8)) {a : List UInt8} (hb : w.heap[b]? = some (entO l a)) :
    (Instr.entryStore t (.map (some b)) (goInt (l.idxOf a : Nat)) (.bool true)).run P w = .ok () (setB w b (setO ((addK l a).map vL))) := by
  have hasInt : (asInt (goInt ((l.idxOf a : Nat) : Int))).run P w = .ok ((l.idxOf a : Nat) : Int) w := by
    simp [asInt, asIntOf, goInt, Sem.run_bind, Sem.run_pure, Result.andThen_ok]
  unfold entO at hb
  unfold addK
  by_cases hc : l.contains a = true
  · rw [if_pos hc] at hb ⊢
    obtain ⟨hi, hg⟩ := idx_get hc
    rw [setO_ent] at hb
    have hgi : (entL 0 l).toArray[l.idxOf a]? = some ⟨vL a, .bool true, l.idxOf a⟩ := by rw [List.getElem?_toArray, entL_get l _ hi, hg]
    have hst := stamp_find (es := (entL 0 l).toArray) (fun i h2 => by
      have h3 : i < l.length := by simpa [entL_len] using h2
      have := entL_get l i h3
      rw [List.getElem_toArray]
      rw [List.getElem?_eq_getElem (by simpa using h2)] at this
      rw [Option.some.inj this]) (n := l.idxOf a) (by simpa [entL_len] using hi)
    unfold Instr.entryStore
    simp only [Sem.run_bind, Result.andThen_ok, Sem.run_pure, getObj_run w hb, hasInt, hst]
    rw [arr_modify_same (fun x hx => by rw [hgi] at hx; cases hx; rfl), setObj_run w hb, setO_ent]
  · rw [if_neg hc] at hb ⊢
    have hn : a ∉ l := fun hm => hc (List.contains_iff_mem.2 hm)
    rw [List.idxOf_eq_length hn] at hasInt ⊢
    have hst := stamp_find (es := (entL 0 l).toArray.push ⟨vL a, .bool false, l.length⟩) (fun i h2 => by
      rw [Array.getElem_push]
      split
      · rename_i h4
        have h3 : i < l.length := by simpa [entL_len] using h4
        have := entL_get l i h3
        rw [List.getElem_toArray]
        rw [List.getElem?_eq_getElem (by simpa using h4)] at this
        rw [Option.some.inj this]
      · rename_i h4
        have h5 : i < l.length + 1 := by simpa [entL_len] using h2
        have h6 : ¬ i < l.length := by simpa [entL_len] using h4
        show l.length = i
        omega) (n := l.length) (by simp [entL_len])
    unfold Instr.entryStore
    simp only [Sem.run_bind, Result.andThen_ok, Sem.run_pure, getObj_run w hb, hasInt, hst, setObj_run w hb]
    congr 2
    rw [setO_ent, List.length_append, List.length_singleton]
    congr 1
    apply Array.ext
    · simp [entL]
    · intro i h1 h2
      rw [Array.getElem_modify]
      have hle : (entL 0 (l ++ [a])).length = l.length + 1 := by rw [entL_len, List.length_append, List.length_singleton]
      have hgg : (entL 0 (l ++ [a])).toArray[i] = ⟨vL ((l ++ [a])[i]'(by rw [List.size_toArray, hle] at h2; rw [List.length_append, List.length_singleton]; exact h2)), .bool true, i⟩ := by
        rw [List.getElem_toArray]
        have := entL_get (l ++ [a]) i (by rw [List.size_toArray, hle] at h2; rw [List.length_append, List.length_singleton]; exact h2)
        rw [List.getElem?_eq_getElem (by rw [List.size_toArray] at h2; exact h2)] at this
        exact Option.some.inj this
      rw [hgg]
      rw [List.size_toArray, hle] at h2
      by_cases hil : i < l.length
      · rw [if_neg (by omega), Array.getElem_push_lt (by simpa [entL_len] using hil), List.getElem_toArray]
        have := entL_get l i hil
        rw [List.getElem?_eq_getElem (by rw [entL_len]; exact hil)] at this
        rw [Option.some.inj this, List.getElem_append_left hil]
      · have hie : i = l.length := by omega
        subst hie
        rw [if_pos rfl, Array.getElem_push]
        rw [dif_neg (by simp [entL_len])]
        simp
end
section
variable {m : OM} {P : Program} {T : List (Nat × TI)} {C : Ctx} {ops : Array Oper} {l : List Oper} {K : St → Prop} {n : Nat} {sl : List (Nat × AV)} {hp : List (Nat × HO)} {d : Nat} {ty : Nat} {pos : String} {aft : Array Edge} {gd : Option (Nat × Bool)}
theorem lab_key (hT : TTOk P T) {kt e k sz by0 by1 : Nat} {z0 z1 : AV} (ht : tget T kt = some ⟨.array k e, sz, by0, z0⟩) (he : tget T e = some ⟨.int .u8, 1, by1, z1⟩) : LabK P kt k := by
  obtain ⟨ie, hie, hies, _⟩ := (tget_ok hT he).inf
  exact ⟨e, ie, tk_array (tget_ok hT ht), tk_int (tget_ok hT he), hie, by unfold Program.cellsOf; rw [hie]; exact hies⟩
theorem labA_val {w : World} {F : Nat → Prop} {a : List UInt8} {u : Value} (h : repV w F (labA a) u) : u = vL a ∧ a.length = 32 := by
  obtain ⟨cs, hc, hv⟩ := h
  simp only [labA, repC] at hc
  obtain ⟨h1, h2⟩ := hc
  have := bytes_cells a cs h2
  subst this
  exact ⟨hv, by simpa using h1⟩
theorem o_lookupLab (hT : TTOk P T) (hw : gval ops ⟨n, sl, hp⟩ gd = gwant gd) {t kt et e sz by_ sz1 by1 sz2 by2 by3 k b : Nat} {z z2 z3 : AV} {x ix : Operand} (xs : List (List UInt8)) (hxs : ∀ x ∈ xs, x.length = 32) (y : List UInt8)
    (ht : tget T t = some ⟨.map kt et, sz, by_, z⟩) (hkt : tget T kt = some ⟨.array 32 e, sz2, by2, z2⟩) (he : tget T e = some ⟨.int .u8, 1, by3, z3⟩) (het : tget T et = some ⟨.bool, sz1, by1, .b false⟩)
    (hx : ev ⟨n, sl, hp⟩ x = .own k (.map (some b))) (hg : hget hp k = some (.obj b (setO (xs.map vL)))) (hy : ev ⟨n, sl, hp⟩ ix = labA y)
    (hd : Nat.blt d n = true) (h : Ops m P C ops l ⟨n, (d, .b (xs.contains y)) :: sl, hp⟩ K) : Ops m P C ops (⟨some d, .lookup t x ix false, ty, pos, aft, gd⟩ :: l) ⟨n, sl, hp⟩ K := by
  refine Ops.eff hw [] oke_nil rfl fun a w hs => ⟨.bool (xs.contains y), w, _, .b (xs.contains y), ?_, hs, hd, repV_b.2 rfl, Eff.same (Mod.refl _ w), h⟩
  have Ex := ev_rep hs x
  rw [hx, repV_own] at Ex
  have Ey := ev_rep hs ix
  rw [hy] at Ey
  obtain ⟨Ey, hl⟩ := labA_val Ey
  have hb : w.heap[b]? = some (setO (xs.map vL)) := hs.getHeap hg
  have := lookup_lab w (lab_key hT hkt he) xs hxs hl hb (map_desc hT ht) (bool_zero hT het w)
  simp only [execOp, Ex.1, Ey, Sem.run_bind, this, Result.andThen_ok, Sem.run_pure]
theorem o_updateLab (hT : TTOk P T) (hw : gval ops ⟨n, sl, hp⟩ gd = gwant gd) {t kt et e sz by_ sz2 by2 by3 k b : Nat} {z z2 z3 : AV} {x ix y : Operand} (xs : List (List UInt8)) (hxs : ∀ x ∈ xs, x.length = 32) (u : List UInt8)
    (ht : tget T t = some ⟨.map kt et, sz, by_, z⟩) (hkt : tget T kt = some ⟨.array 32 e, sz2, by2, z2⟩) (he : tget T e = some ⟨.int .u8, 1, by3, z3⟩)
    (hx : ev ⟨n, sl, hp⟩ x = .own k (.map (some b))) (hg : hget hp k = some (.obj b (setO (xs.map vL)))) (hi : ev ⟨n, sl, hp⟩ ix = labA u) (hy : ev ⟨n, sl, hp⟩ y = .b true)
    {hp' : List (Nat × HO)} (hm : m.oke none [k] = true) (hh : forceL (hset hp k (.obj b (setO ((addK xs u).map vL)))) = some hp') (h : Ops m P C ops l ⟨n, sl, hp'⟩ K) : Ops m P C ops (⟨none, .mapUpdate t x ix y, ty, pos, aft, gd⟩ :: l) ⟨n, sl, hp⟩ K := by
  have hh := forceL_eq _ _ hh
  subst hh
  refine Ops.effS hw [k] hm rfl fun a w hs => ?_
  have Ex := ev_rep hs x
  rw [hx, repV_own] at Ex
  have Ei := ev_rep hs ix
  rw [hi] at Ei
  obtain ⟨Ei, hl⟩ := labA_val Ei
  have Ey := ev_rep hs y
  rw [hy, repV_b] at Ey
  have hb : w.heap[b]? = some (setO (xs.map vL)) := hs.getHeap hg
  have hlt := (Array.getElem?_eq_some_iff.1 hb).1
  have hrun := update_lab w (lab_key hT hkt he) xs hxs hl hb (map_desc hT ht)
  have hm0 : Mod (fun b' => HO.blk (.obj b (setO (xs.map vL))) = some b') w (setB w b (setO ((addK xs u).map vL))) := Mod.setB_ (S := fun b' => HO.blk (.obj b (setO (xs.map vL))) = some b') rfl _
  refine ⟨_, ⟨n, sl, hset hp k (.obj b (setO ((addK xs u).map vL)))⟩, ?_, hs.swap hg (.obj b (setO ((addK xs u).map vL))) hm0 ?_ (fun b' hb' => ?_), Eff.swap hg hm0 (fun _ h => .inl h), h⟩
  · simp only [execOp, Ex.1, Ei, Ey, Sem.run_bind, hrun, Result.andThen_ok, Sem.run_pure]
  · show (w.heap.setIfInBounds b _)[b]? = _
    rw [Array.getElem?_setIfInBounds_self_of_lt hlt]
  · have : b = b' := by simpa [HO.blk] using hb'
    subst this
    exact ⟨by simpa [setB] using hlt, .inl rfl⟩
theorem o_entryLab (hT : TTOk P T) (hw : gval ops ⟨n, sl, hp⟩ gd = gwant gd) {t kt et e sz by_ sz1 by1 sz2 by2 by3 k b : Nat} {z z2 z3 : AV} {x ix : Operand} (xs : List (List UInt8)) (hxs : ∀ x ∈ xs, x.length = 32) (u : List UInt8)
    (ht : tget T t = some ⟨.map kt et, sz, by_, z⟩) (hkt : tget T kt = some ⟨.array 32 e, sz2, by2, z2⟩) (he : tget T e = some ⟨.int .u8, 1, by3, z3⟩) (het : tget T et = some ⟨.bool, sz1, by1, .b false⟩)
    (hx : ev ⟨n, sl, hp⟩ x = .own k (.map (some b))) (hg : hget hp k = some (.obj b (setO (xs.map vL)))) (hi : ev ⟨n, sl, hp⟩ ix = labA u) (hd : Nat.blt d n = true)
    {hp' : List (Nat × HO)} (hm : m.oke (some d) [k] = true) (hh : forceL (hset hp k (.obj b (entO xs u))) = some hp') (h : Ops m P C ops l ⟨n, (d, .tup [.b (xs.contains u), .i .i64 (xs.idxOf u : Nat)]) :: sl, hp'⟩ K) : Ops m P C ops (⟨some d, .mapEntry t x ix, ty, pos, aft, gd⟩ :: l) ⟨n, sl, hp⟩ K := by
  have hh := forceL_eq _ _ hh
  subst hh
  refine Ops.eff hw [k] hm rfl fun a w hs => ?_
  have Ex := ev_rep hs x
  rw [hx, repV_own] at Ex
  have Ei := ev_rep hs ix
  rw [hi] at Ei
  obtain ⟨Ei, hl⟩ := labA_val Ei
  have hb : w.heap[b]? = some (setO (xs.map vL)) := hs.getHeap hg
  have hlt := (Array.getElem?_eq_some_iff.1 hb).1
  have hrun := entry_lab w (lab_key hT hkt he) xs hxs hl hb (map_desc hT ht) (bool_zero hT het w)
  have hm0 : Mod (fun b' => HO.blk (.obj b (setO (xs.map vL))) = some b') w (setB w b (entO xs u)) := Mod.setB_ (S := fun b' => HO.blk (.obj b (setO (xs.map vL))) = some b') rfl _
  refine ⟨.tuple #[.bool (xs.contains u), goInt (xs.idxOf u : Nat)], _, ⟨n, sl, hset hp k (.obj b (entO xs u))⟩, .tup [.b (xs.contains u), .i .i64 (xs.idxOf u : Nat)], ?_, hs.swap hg (.obj b (entO xs u)) hm0 ?_ (fun b' hb' => ?_), hd, ?_, Eff.swap hg hm0 (fun _ h => .inl h), h⟩
  · simp only [execOp, Ex.1, Ei, Sem.run_bind, hrun, Result.andThen_ok, Sem.run_pure]
  · show (w.heap.setIfInBounds b _)[b]? = _
    rw [Array.getElem?_setIfInBounds_self_of_lt hlt]
  · have : b = b' := by simpa [HO.blk] using hb'
    subst this
    exact ⟨by simpa [setB] using hlt, .inl rfl⟩
  · refine ⟨[.bool (xs.contains u), goInt (xs.idxOf u : Nat)], rfl, rfl, fun i x v hx hv => ?_⟩
    rcases i with _ | _ | i
    · simp only [List.getElem?_cons_zero, Option.some.injEq] at hx hv
      subst hx; subst hv
      exact .inr ⟨[.bool (xs.contains u)], by simp [repC], rfl⟩
    · simp only [List.getElem?_cons_succ, List.getElem?_cons_zero, Option.some.injEq] at hx hv
      subst hx; subst hv
      exact .inr ⟨[goInt (xs.idxOf u : Nat)], by simp [repC, goInt], rfl⟩
    · simp at hx
theorem o_entryStoreLab (hw : gval ops ⟨n, sl, hp⟩ gd = gwant gd) {t k b : Nat} {x ix y : Operand} (xs : List (List UInt8)) (u : List UInt8)
    (hx : ev ⟨n, sl, hp⟩ x = .own k (.map (some b))) (hg : hget hp k = some (.obj b (entO xs u))) (hi : ev ⟨n, sl, hp⟩ ix = .i .i64 (xs.idxOf u : Nat)) (hy : ev ⟨n, sl, hp⟩ y = .b true)
    {hp' : List (Nat × HO)} (hm : m.oke none [k] = true) (hh : forceL (hset hp k (.obj b (setO ((addK xs u).map vL)))) = some hp') (h : Ops m P C ops l ⟨n, sl, hp'⟩ K) : Ops m P C ops (⟨none, .entryStore t x ix y, ty, pos, aft, gd⟩ :: l) ⟨n, sl, hp⟩ K := by
  have hh := forceL_eq _ _ hh
  subst hh
  refine Ops.effS hw [k] hm rfl fun a w hs => ?_
  have Ex := ev_rep hs x
  rw [hx, repV_own] at Ex
  have Ei := ev_rep hs ix
  rw [hi, repV_i] at Ei
  have Ey := ev_rep hs y
  rw [hy, repV_b] at Ey
  have hb : w.heap[b]? = some (entO xs u) := hs.getHeap hg
  have hlt := (Array.getElem?_eq_some_iff.1 hb).1
  have hrun := store_lab (P := P) w (t := t) xs hb
  have hm0 : Mod (fun b' => HO.blk (.obj b (entO xs u)) = some b') w (setB w b (setO ((addK xs u).map vL))) := Mod.setB_ (S := fun b' => HO.blk (.obj b (entO xs u)) = some b') rfl _
  refine ⟨_, ⟨n, sl, hset hp k (.obj b (setO ((addK xs u).map vL)))⟩, ?_, hs.swap hg (.obj b (setO ((addK xs u).map vL))) hm0 ?_ (fun b' hb' => ?_), Eff.swap hg hm0 (fun _ h => .inl h), h⟩
  · have hrun : (Instr.entryStore t (.map (some b)) (.int .i64 (xs.idxOf u : Nat)) (.bool true)).run P w = .ok () (setB w b (setO ((addK xs u).map vL))) := hrun
    simp only [execOp, Ex.1, Ei, Ey, Sem.run_bind, hrun, Result.andThen_ok, Sem.run_pure]
  · show (w.heap.setIfInBounds b _)[b]? = _
    rw [Array.getElem?_setIfInBounds_self_of_lt hlt]
  · have : b = b' := by simpa [HO.blk] using hb'
    subst this
    exact ⟨by simpa [setB] using hlt, .inl rfl⟩
end
end Go.Proofs.Ytcmgpkibjdbonaa
