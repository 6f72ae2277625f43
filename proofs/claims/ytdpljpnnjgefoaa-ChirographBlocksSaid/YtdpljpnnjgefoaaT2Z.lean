/- ref10.Filter by rules: the filter's bytes out of its bits. -/
import Derived.Test.YtdpljpnnjgefoaaT1
import Derived.Test.YtdpljpnnjgefoaaKH7Z
set_option maxHeartbeats 8000000
set_option maxRecDepth 100000
namespace Go.Proofs.Ytdpljpnnjgefoaa
open Go Go.RowKit
def mark (bits : List Bool) (z : List UInt8) : Nat → List UInt8
  | 0 => z
  | j + 1 => if bits.getD j false then setBit (mark bits z j) j else mark bits z j
def keyL (l : List Etr) : List (List UInt8) := l.map (·.k)
def filB (l : List Etr) : List UInt8 := numBytes 7 ++ txB (mkF (keyL l) 10)
end Go.Proofs.Ytdpljpnnjgefoaa
set_option maxHeartbeats 16000000
set_option maxRecDepth 100000
namespace Go.Proofs.Ytdpljpnnjgefoaa
open Go Go.RowKit
def leK (a b : List UInt8) : Bool := Op.bytesLess a b || a == b
def hdK (g : List Etr) : List UInt8 := (g[0]?.map (·.k)).getD []
def lsK (g : List Etr) : List UInt8 := (g[g.length - 1]?.map (·.k)).getD []
theorem hdK_eq {g : List Etr} (h : 0 < g.length) : hdK g = g[0].k := by unfold hdK; rw [List.getElem?_eq_getElem h]; rfl
theorem lsK_eq {g : List Etr} (h : g.length - 1 < g.length) : lsK g = g[g.length - 1].k := by unfold lsK; rw [List.getElem?_eq_getElem h]; rfl
theorem grp_mem (size : Int) : ∀ (l g : List Etr) (n : Nat), g.length ≤ 255 → ∀ h ∈ grp size l g n, 0 < h.length ∧ h.length ≤ 256 ∧ ∀ e ∈ h, e ∈ g ∨ e ∈ l
  | [], _, _, _, h, hh => by cases hh
  | x :: r, g, n, hg, h, hh => by
    unfold grp at hh
    split at hh
    · rcases List.mem_cons.1 hh with rfl | hh
      · refine ⟨by simp, by simp; omega, fun e he => ?_⟩
        rcases List.mem_append.1 he with he | he
        · exact .inl he
        · exact .inr (List.mem_cons.2 (.inl (List.mem_singleton.1 he)))
      · obtain ⟨h1, h2, h3⟩ := grp_mem size r [] 0 (by decide) h hh
        refine ⟨h1, h2, fun e he => ?_⟩
        rcases h3 e he with h4 | h4
        · cases h4
        · exact .inr (List.mem_cons_of_mem _ h4)
    · rename_i hc
      obtain ⟨h1, h2, h3⟩ := grp_mem size r (g ++ [x]) _ (by rw [List.length_append]; show g.length + 1 ≤ 255; omega) h hh
      refine ⟨h1, h2, fun e he => ?_⟩
      rcases h3 e he with h4 | h4
      · rcases List.mem_append.1 h4 with h4 | h4
        · exact .inl h4
        · exact .inr (List.mem_cons.2 (.inl (List.mem_singleton.1 h4)))
      · exact .inr (List.mem_cons_of_mem _ h4)
theorem grp_len (size : Int) : ∀ (l g : List Etr) (n : Nat), (grp size l g n).length ≤ l.length
  | [], _, _ => Nat.le_refl _
  | x :: r, g, n => by
    unfold grp
    split
    · exact Nat.succ_le_succ (grp_len size r [] 0)
    · exact Nat.le_succ_of_le (grp_len size r _ _)
def tblk : List (List Etr) → List UInt8 → List UInt8 → List UInt8 → (List UInt8 × List UInt8) × Int
  | [], idx, text, _ => ((idx, text), 0)
  | g :: r, idx, text, last => if (make9 g).2 ≠ 0 then (([], []), (make9 g).2) else if leK (hdK g) last = true then (([], []), 3) else tblk r (idx ++ (numBytes text.length ++ txB (lsK g))) (text ++ (make9 g).1) (lsK g)
def three (n : Nat) : List UInt8 := [UInt8.ofNat (n / 65536), UInt8.ofNat (n / 256), UInt8.ofNat n]
def footB (l : List Etr) (text : List UInt8) : List UInt8 := ((numBytes text.length ++ txB (filB l)) ++ numBytes l.length) ++ txB (hdK l)
def tout (l : List Etr) (idx text : List UInt8) : List UInt8 := ((text ++ sealWrap idx) ++ sealWrap (footB l text)) ++ three (sealWrap (footB l text)).length
def tmk (l : List Etr) (size : Int) : List UInt8 × Int :=
  if size < 1 ∨ 16384 < size then ([], 1) else if l.length = 0 then ([], 3) else
    if (tblk (grp size l [] 0) (numBytes (grp size l [] 0).length) [] []).2 ≠ 0 then ([], (tblk (grp size l [] 0) (numBytes (grp size l [] 0).length) [] []).2)
    else (tout l (tblk (grp size l [] 0) (numBytes (grp size l [] 0).length) [] []).1.1 (tblk (grp size l [] 0) (numBytes (grp size l [] 0).length) [] []).1.2, 0)
theorem tblk_step (G : List (List Etr)) (i : Nat) (h : i < G.length) (idx text last : List UInt8) : tblk (G.drop i) idx text last =
    if (make9 G[i]).2 ≠ 0 then (([], []), (make9 G[i]).2) else if leK (hdK G[i]) last = true then (([], []), 3) else tblk (G.drop (i + 1)) (idx ++ (numBytes text.length ++ txB (lsK G[i]))) (text ++ (make9 G[i]).1) (lsK G[i]) := by
  rw [List.drop_eq_getElem_cons h]; rfl
theorem make9_len (g : List Etr) : (make9 g).1.length ≤ 65544 := by
  unfold make9
  split
  · exact Nat.zero_le _
  · split
    · exact Nat.zero_le _
    · show (sealWrap _).length ≤ _
      unfold sealWrap
      rw [List.length_append, List.length_append, head_len, four_len]; omega
theorem filB_len (l : List Etr) (hl : l.length ≤ 300) : (filB l).length ≤ 1000 := by
  have h1 := mkF_len (keyL l) 10
  have h2 : nbOf (keyL l).length 10 ≤ 400 := by unfold nbOf keyL; rw [List.length_map]; omega
  have h3 := txB_len (mkF (keyL l) 10) (by omega)
  have h4 := numBytes_len 7 (by decide)
  unfold filB; rw [List.length_append]; omega
theorem sealWrap_len (t : List UInt8) : (sealWrap t).length = 8 + t.length := by
  unfold sealWrap
  rw [List.length_append, List.length_append, head_len, four_len]
theorem hdK_len (g : List Etr) (hm : ∀ e ∈ g, e.k.length ≤ 110 ∧ e.v.length ≤ 4010) : (hdK g).length ≤ 110 := by
  by_cases h : 0 < g.length
  · rw [hdK_eq h]; exact (hm _ (List.getElem_mem h)).1
  · have : g = [] := List.length_eq_zero_iff.1 (by omega)
    subst this; exact Nat.zero_le _
theorem lsK_len (g : List Etr) (hm : ∀ e ∈ g, e.k.length ≤ 110 ∧ e.v.length ≤ 4010) : (lsK g).length ≤ 110 := by
  by_cases h : g.length - 1 < g.length
  · rw [lsK_eq h]; exact (hm _ (List.getElem_mem h)).1
  · have : g = [] := List.length_eq_zero_iff.1 (by omega)
    subst this; exact Nat.zero_le _
theorem footB_len (l : List Etr) (text : List UInt8) (hl : l.length ≤ 300) (hm : ∀ e ∈ l, e.k.length ≤ 110 ∧ e.v.length ≤ 4010) (ht : text.length < 9223372036854775808) : (footB l text).length ≤ 2000 := by
  have h1 := filB_len l hl
  have h2 := numBytes_len text.length ht
  have h3 := numBytes_len l.length (by omega)
  have h4 := hdK_len l hm
  have h5 := txB_len (filB l) (by omega)
  have h6 := txB_len (hdK l) (by omega)
  unfold footB
  rw [List.length_append, List.length_append, List.length_append]; omega
end Go.Proofs.Ytdpljpnnjgefoaa
