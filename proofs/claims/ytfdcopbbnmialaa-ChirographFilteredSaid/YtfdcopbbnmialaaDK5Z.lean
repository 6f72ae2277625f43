/- maps.Keys and slices.Sorted of a map from texts to pointers: the kit's contracts as contracts of this frame. -/
import Derived.Shelf.SlIter.Nil
import Derived.Shelf.SortM.Plain
import Derived.Shelf.SortM.SortNone
import Derived.Ground.GgzProg
import Derived.Ground.SlgmProg
import Derived.Test.YtfdcopbbnmialaaDK4
set_option maxHeartbeats 8000000
set_option maxRecDepth 100000
namespace Go.Proofs.Ytfdcopbbnmialaa
open Go Go.RowKit Go.Maps Go.Sort Go.Shelf Go.WideElems Go.MapKept Go.WideShapes
/-- How a pointer reads, for a reader of the keys alone. -/
def rdP (_ : Value) : Option (DataW Unit × List MemPlace) := some (.nil, [])
def dtP (P : Program) (k : TypeId) (es : List PE) : DataW Unit := .map (((es.map entP).toArray.toList.map (rg P k rdP)).foldr DataW.insert [])
theorem key_P {P : Program} {k : TypeId} (hk : P.underlying k = some .string) {s : List UInt8} (hs : s.length ≤ maxLen) : keyOf P k (vS s) = some (.string s) := by
  unfold vS
  have h2 : (bytesOf s).size ≤ maxLen := by show s.toArray.size ≤ maxLen; simpa using hs
  simp [keyOf, hk, mapKey, h2]
  rfl
theorem rg_P {P : Program} {k : TypeId} (hk : P.underlying k = some .string) {e : PE} (hs : e.1.length ≤ maxLen) : rd P k rdP (entP e) = some (.string e.1, .nil) := rd_mk (born := e.2.2) (val := pV e.2.1) (key_P hk hs) (rfl : rdP (pV e.2.1) = some (.nil, []))
theorem own_P {P : Program} {k : TypeId} {w : World} {b c : Nat} {es : List PE} (hk : P.underlying k = some .string) (hb : w.heap[b]? = some (mpO es c)) (hl : es.length ≤ maxLen) (hn : ∀ e ∈ es, e.1.length ≤ maxLen) (hc : ∀ e ∈ es, e.2.2 < c) (hbn : (es.map (·.2.2)).Nodup) (hkn : (es.map (·.1)).Nodup) : w.ownsMap P k rdP b es.length (dtP P k es) := by
  refine ⟨(es.map entP).toArray, c, hb, ⟨by simpa using hl, (stamped_iff _ _).2 ⟨fun x hx => ?_, ?_, ?_⟩, fun x hx => ?_⟩, by simp, rfl⟩
  · simp only [List.mem_map] at hx
    obtain ⟨e, he, rfl⟩ := hx
    exact hc e he
  · have : ((es.map entP).toArray.toList).map (·.born) = es.map (·.2.2) := by simp [entP, Function.comp_def]
    rw [this]; exact hbn
  · have : ((es.map entP).toArray.toList) = es.map entP := rfl
    rw [this, List.pairwise_map]
    refine (List.pairwise_map.1 hkn).imp (fun {x y} h he => h ?_)
    have : (bytesOf x.1) = bytesOf y.1 := by
      have he : vS x.1 = vS y.1 := he
      unfold vS at he
      injection he
    exact bytesOf_inj this
  · simp only [List.mem_map] at hx
    obtain ⟨e, he, rfl⟩ := hx
    exact ⟨_, rg_P hk (hn e he)⟩
theorem keys_P {P : Program} {k : TypeId} {es : List PE} (hk : P.underlying k = some .string) (hn : ∀ e ∈ es, e.1.length ≤ maxLen) : (strKeys (dtP P k es)).Perm (es.map (·.1)) := by
  unfold dtP strKeys
  refine ((sorted_perm _).map _).trans ?_
  have : ((es.map entP).toArray.toList.map (rg P k rdP)).map (fun p => strOf p.1) = es.map (·.1) := by
    have h0 : (es.map entP).toArray.toList = es.map entP := rfl
    rw [h0, List.map_map, List.map_map]
    refine List.map_congr_left (fun e he => ?_)
    show strOf (rg P k rdP (entP e)).1 = e.1
    rw [rg_of (rg_P hk (hn e he))]; rfl
  rw [this]
theorem size_P {P : Program} {k : TypeId} {es : List PE} : Maps.size (dtP P k es) = es.length := by
  unfold dtP Maps.size
  simp [length_sorted]
end Go.Proofs.Ytfdcopbbnmialaa
set_option maxHeartbeats 8000000
set_option maxRecDepth 100000
namespace Go.Proofs
open Go.RowKit Go.Maps Go.Sort Go.Shelf
shelf_lay_g SlLaysZ.n7 Ggz 7 at Try 21 as Try.keysL
shelf_lay_g SlLaysZ.n6 Ggz 6 at Try 20 as Try.sortedL
shelf_lay_g SlLaysM.n6 Slgm 6 at Try 33 as Try.sortL
theorem Try.sortsL (m : Nat) : AnyZ.SortsIn Try.prog Try.sortedL_ren Fence.wide m :=
  ⟨fun blk off cap ss W hH hblk hsz => callsIn_wide.2 (AnyM.slices_Sort_string Try.sortL blk off cap ss W hH hblk hsz),
   fun p cap W => callsIn_wide.2 (AnyM.slices_Sort_string_none Try.sortL p cap W)⟩
theorem Try.keys_at (mb : Option Nat) (W : World) : CallsIn Fence.wide 5 Try.prog 21 #[.map mb] W fun e w' => e = .returned (.func (.func 34) #[] #[.pointer (some ⟨W.heap.size, 0, none⟩)]) ∧ w' = W.alloc (.cells #[.map mb] 41) :=
  AnyZ.keys_in Try.keysL Fence.wide 5 trivial rfl mb W
theorem Try.sorted_at {H : Type} (b bi nn : Nat) (D0 : DataW H) (R : Value → Option (DataW H × List MemPlace)) (w : World) (hBm : bi < w.heap.size) (hm : w.cell? ⟨bi, 0, none⟩ = some (.map (some b))) (hown : w.ownsMap Try.prog 9 R b nn D0) (hmax : Maps.size D0 ≤ maxLen) (hbytes : Maps.size D0 * 16 ≤ 140737488355328) :
    CallsIn Fence.wide 5 Try.prog 20 #[.func (.func 34) #[] #[.pointer (some ⟨bi, 0, none⟩)]] w fun e w' => ∃ (v : Value) (ss : List (List UInt8)), e = .returned v ∧ ss.Perm (strKeys D0) ∧
      w'.ownsRow w.heap.size 9 1 v ss.length ((ss.mergeSort (fun x y => decide (x ≤ y))).map encStr) ∧ (v = .slice none 0 0 ↔ ss = []) ∧ Below w.heap.size w w' := by
  have hseq : SeqGives Fence.wide 2 Try.prog 34 #[.pointer (some ⟨bi, 0, none⟩)] encStr (fun ss => ss.Perm (strKeys D0)) (Maps.size D0) w :=
    AnyZ.keys_gives (ρ := Try.keysL_ren) { Try.keysL with } Fence.wide _ trivial rfl (by omega) bi b nn D0 w hBm hm hown
  exact AnyZ.sorted_in Try.sortedL Fence.wide 5 trivial trivial trivial trivial rfl (by omega) (Try.sortsL _) (enters_of Try.func33 (by kernel_rfl) rfl) 34 #[.pointer (some ⟨bi, 0, none⟩)] trivial (enters_of Try.func34 (by kernel_rfl) rfl) _ _ hmax hbytes _ hseq
end Go.Proofs
namespace Go.Proofs.Ytfdcopbbnmialaa
open Go Go.RowKit Go.Maps Go.Sort Go.Shelf Go.WideElems Go.MapKept Go.WideShapes
def itC (b : Nat) : Obj := .cells #[.map (some b)] 41 (0, 0)
theorem keysIt_spec (b c : Nat) (es : List PE) : Spec Try.prog 21 [.own 0 (.map (some b))] [.obj b (mpO es c)] (fun r os => ∃ bi, r = .fn (.func 34) [.ptr 1 bi [] 0] ∧ os = [.obj b (mpO es c), .obj bi (itC b)]) := by
  refine ⟨⟨_, Try.func21, by kernel_rfl, by kernel_rfl⟩, fun w vals F hF hO hrep => ?_⟩
  obtain ⟨hl, hv⟩ := hrep
  obtain ⟨u, rfl⟩ : ∃ u, vals = [u] := by
    cases vals with
    | nil => cases hl
    | cons u r => cases r with
      | nil => exact ⟨u, rfl⟩
      | cons _ _ => simp at hl
  have hu := hv 0 _ u rfl rfl
  rw [repV_own] at hu
  obtain ⟨rfl, _⟩ := hu
  have hb : w.heap[b]? = some (mpO es c) := hO.ok _ (List.mem_cons_self ..)
  have hlt := (Array.getElem?_eq_some_iff.1 hb).1
  refine Calls.mono ((callsIn_wide (n := 5)).1 (Try.keys_at (some b) w)) ?_
  rintro e w' ⟨rfl, rfl⟩
  have hal : (w.alloc (itC b)).heap[w.heap.size]? = some (itC b) := (MapKept.heap_alloc w _).1
  have hold : (w.alloc (itC b)).heap[b]? = some (mpO es c) := ((MapKept.heap_alloc w (itC b)).2 b hlt).trans hb
  have hsz : (w.alloc (itC b)).heap.size = w.heap.size + 1 := by show (w.heap.push _).size = _; simp
  refine ⟨_, _, [.obj b (mpO es c), .obj w.heap.size (itC b)], rfl, ⟨w.heap.size, rfl, rfl⟩, (Mod.refl _ w).alloc _, ⟨fun o ho => ?_, ?_, fun b' hb' => ?_⟩, fun b' hb' => ?_, ?_⟩
  · rcases List.mem_cons.1 ho with rfl | ho
    · exact hold
    · rw [List.mem_singleton.1 ho]; exact hal
  · show [b, w.heap.size].Nodup
    simp; omega
  · have hb' : b' ∈ [b, w.heap.size] := hb'
    show b' < (w.alloc (itC b)).heap.size
    rw [hsz]
    rcases List.mem_cons.1 hb' with rfl | hb'
    · omega
    · rw [List.mem_singleton.1 hb']; omega
  · have hb' : b' ∈ [b, w.heap.size] := hb'
    rcases List.mem_cons.1 hb' with rfl | hb'
    · exact .inl (List.mem_singleton.2 rfl)
    · rw [List.mem_singleton.1 hb']; exact .inr (Nat.le_refl _)
  · refine ⟨[.func (.func 34) #[] #[.pointer (some ⟨w.heap.size, 0, none⟩)]], ?_, rfl⟩
    simp only [repC]
    exact ⟨#[.pointer (some ⟨w.heap.size, 0, none⟩)], rfl, by simp only [repL]; exact ⟨[_], [], rfl, by simp [repC], rfl⟩⟩
def sortN (l : List (List UInt8)) : List (List UInt8) := l.mergeSort (fun x y => decide (x ≤ y))
theorem repA_strs {w : World} {F : Nat → Prop} : ∀ l : List (List UInt8), (∀ s ∈ l, s.length ≤ maxLen) → repA w F 1 (l.map AV.s) (l.map encStr)
  | [], _ => by simp only [List.map_nil, repA]
  | s :: r, h => by
    simp only [List.map_cons, repA]
    refine ⟨[encStr s], r.map encStr, rfl, ?_, rfl, repA_strs r (fun x hx => h x (List.mem_cons_of_mem _ hx))⟩
    simp only [repC]
    exact ⟨rfl, h s (List.mem_cons_self ..)⟩
theorem sortedIt_spec (kk b bi c : Nat) (es : List PE) (hl : es.length ≤ 1000000) (hn : ∀ e ∈ es, e.1.length ≤ maxLen) (hc : ∀ e ∈ es, e.2.2 < c) (hbn : (es.map (·.2.2)).Nodup) (hkn : (es.map (·.1)).Nodup) :
    Spec Try.prog 20 [.fn (.func 34) [.ptr 1 bi [] 0]] [.obj b (mpO es c), .obj bi (itC b)] (fun r os => ∃ v, r = .own kk v ∧ os = [.obj b (mpO es c), .obj bi (itC b), .row v 9 1 ((sortN (es.map (·.1))).map AV.s)]) := by
  refine ⟨⟨_, Try.func20, by kernel_rfl, by kernel_rfl⟩, fun w vals F hF hO hrep => ?_⟩
  obtain ⟨hvl, hv⟩ := hrep
  obtain ⟨u, rfl⟩ : ∃ u, vals = [u] := by
    cases vals with
    | nil => cases hvl
    | cons u r => cases r with
      | nil => exact ⟨u, rfl⟩
      | cons _ _ => simp at hvl
  obtain ⟨cs, hcs, hue⟩ := hv 0 _ u rfl rfl
  simp only [repC, repL] at hcs
  obtain ⟨vs, rfl, c1, c2, hvs, rfl, rfl⟩ := hcs
  have hvs : vs = #[.pointer (some ⟨bi, 0, none⟩)] := by
    apply Array.ext'
    simpa using hvs
  subst hvs
  have hue : u = .func (.func 34) #[] #[.pointer (some ⟨bi, 0, none⟩)] := hue
  subst hue
  have hb : w.heap[b]? = some (mpO es c) := hO.ok _ (List.mem_cons_self ..)
  have hbi : w.heap[bi]? = some (itC b) := hO.ok _ (List.mem_cons_of_mem _ (List.mem_cons_self ..))
  have hlb := (Array.getElem?_eq_some_iff.1 hb).1
  have hlbi := (Array.getElem?_eq_some_iff.1 hbi).1
  have hblk : Blk w bi 41 #[.map (some b)] := hbi
  have hk : Try.prog.underlying 9 = some .string := by kernel_rfl
  have hown := own_P (P := Try.prog) (k := 9) (w := w) hk hb (Nat.le_trans hl (by decide)) hn hc hbn hkn
  refine Calls.mono ((callsIn_wide (n := 5)).1 (Try.sorted_at b bi es.length _ _ w hlbi (hblk.cell 0) hown (by rw [size_P]; exact Nat.le_trans hl (by decide)) (by rw [size_P]; omega))) ?_
  rintro e w' ⟨v, ss, rfl, hS, hrow, hnil, hbel⟩
  have hSp := hS.trans (keys_P (P := Try.prog) (k := 9) hk hn)
  have hms : ss.mergeSort (fun x y => decide (x ≤ y)) = sortN (es.map (·.1)) := mergeSort_of_perm hSp
  rw [hms] at hrow
  have hln : ss.length = (sortN (es.map (·.1))).length := by rw [← hms, List.length_mergeSort]
  have hsn : ∀ s ∈ sortN (es.map (·.1)), s.length ≤ maxLen := fun s hs => by
    have h1 : s ∈ es.map (·.1) := (List.mergeSort_perm _ _).mem_iff.1 hs
    obtain ⟨e, he, rfl⟩ := List.mem_map.1 h1
    exact hn e he
  have hfr : ∀ b', v.ownBlock = some b' → w.heap.size ≤ b' ∧ b' < w'.heap.size := fun b' hb' => World.ownsRow.lt hrow b' hb'
  have hbb : b ≠ bi := fun he => by subst he; rw [hb] at hbi; cases hbi
  have h1 : w'.heap[b]? = some (mpO es c) := (hbel.block b hlb).trans hb
  have h2 : w'.heap[bi]? = some (itC b) := (hbel.block bi hlbi).trans hbi
  have hsz := hbel.size
  have hos : ∀ b', b' ∈ oblks [HO.obj b (mpO es c), .obj bi (itC b), .row v 9 1 ((sortN (es.map (·.1))).map AV.s)] → b' = b ∨ b' = bi ∨ v.ownBlock = some b' := fun b' hb' => by
    rw [oblks_cons, oblks_cons, oblks_cons] at hb'
    rcases List.mem_append.1 hb' with h | h
    · exact .inl (List.mem_singleton.1 h)
    rcases List.mem_append.1 h with h | h
    · exact .inr (.inl (List.mem_singleton.1 h))
    rcases List.mem_append.1 h with h | h
    · exact .inr (.inr (blk_row h))
    · cases h
  refine ⟨v, .own kk v, _, rfl, ⟨v, rfl, rfl⟩, ⟨hbel.os, hbel.tape, hbel.output, hbel.size, fun k hk _ => hbel.block k hk⟩, ⟨fun o ho => ?_, ?_, fun b' hb' => ?_⟩, fun b' hb' => ?_, repV_own.2 ⟨rfl, own_one (ownsRow_base_a hrow (Nat.zero_le _))⟩⟩
  · rcases List.mem_cons.1 ho with rfl | ho
    · exact h1
    rcases List.mem_cons.1 ho with rfl | ho
    · exact h2
    · rw [List.mem_singleton.1 ho]
      refine ⟨_, repA_strs _ hsn, ?_⟩
      rw [List.length_map, ← hln]
      exact ownsRow_base_a hrow (Nat.zero_le _)
  · rw [oblks_cons, oblks_cons, oblks_cons]
    show ([b] ++ ([bi] ++ (v.ownBlock.toList ++ []))).Nodup
    cases hq : v.ownBlock with
    | none => simp [hbb]
    | some g =>
      have := (hfr g hq).1
      simp only [Option.toList_some, List.append_nil, List.cons_append, List.nil_append, List.nodup_cons, List.mem_cons, List.not_mem_nil, or_false, not_or, not_false_eq_true, List.nodup_nil, and_true]
      exact ⟨⟨hbb, by omega⟩, by omega⟩
  · rcases hos b' hb' with rfl | rfl | h
    · omega
    · omega
    · exact (hfr b' h).2
  · rcases hos b' hb' with rfl | rfl | h
    · exact .inl (by rw [oblks_cons]; exact List.mem_append_left _ (List.mem_singleton.2 rfl))
    · exact .inl (by rw [oblks_cons, oblks_cons]; exact List.mem_append_right _ (List.mem_append_left _ (List.mem_singleton.2 rfl)))
    · exact .inr (hfr b' h).1
end Go.Proofs.Ytfdcopbbnmialaa
