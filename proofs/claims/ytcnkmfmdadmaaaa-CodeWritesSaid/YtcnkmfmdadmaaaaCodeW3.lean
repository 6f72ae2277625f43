/- code.Writer.Text, Done walked. -/
import Derived.Test.YtcnkmfmdadmaaaaCodeW2
namespace Go.Proofs.Ytcnkmfmdadmaaaa
open Go.RowKit
def WS.text (s : WS) (t : ByteArray) : WS := if 65536 < t.size then s.fail 2 else (s.number t.size).put t.data.toList
def WS.done (s : WS) : ByteArray × Int := if s.e ≠ 0 then (⟨#[]⟩, s.e) else if 65536 < s.bs.length then (⟨#[]⟩, 2) else (⟨s.bs.toArray⟩, 0)
theorem numBytes_len (n : Nat) (h : n < 9223372036854775808) : (numBytes n).length ≤ 9 := by
  have := digits_le 8 n (by omega)
  unfold numBytes; simp; omega
theorem WS.len_fail (s : WS) (x : Int) : (s.fail x).bs = s.bs := by unfold WS.fail; split <;> rfl
theorem WS.len_number (s : WS) (n : Int) (hn : n < 9223372036854775808) : (s.number n).bs.length ≤ s.bs.length + 9 := by
  unfold WS.number; split
  · rw [WS.len_fail]; omega
  · have := numBytes_len n.toNat (by omega)
    show (s.bs ++ _).length ≤ _
    rw [List.length_append]; omega
theorem WS.len_text (s : WS) (t : ByteArray) : (s.text t).bs.length ≤ s.bs.length + 65545 := by
  unfold WS.text; split
  · rw [WS.len_fail]; omega
  · have := WS.len_number s t.size (by omega)
    show (_ ++ t.data.toList).length ≤ _
    rw [List.length_append, ← size_eq]; omega

set_option maxRecDepth 100000 in
theorem wtext_any (b : Nat) (t : ByteArray) (v : Value) (s : WS) (hs : s.bs.length ≤ 900000000000) (w : World) (hw : IsW w b v s) :
    Calls Try.prog 25 #[.pointer (some ⟨b, 0, none⟩), .string t] w fun e w' => e = .returned (.tuple #[]) ∧ WTo w w' b v (s.text t) := by
  by_cases hbig : 65536 < t.size
  · have HR := Lib.hid (show s.text t = s.fail 2 by unfold WS.text; rw [if_pos hbig])
    have hb' : (65536 : Int) < (t.size : Int) := by omega
    clear hbig
    go_enter Try.func25, Try.ntmps25
    go_wp2_with fail
    refine (wfail_any b 2 v s w hw).mono ?_
    rintro e w1 ⟨rfl, hw1⟩
    go_wp2
    exact bodyPost_ret (results_none rfl _ _ _) rfl ⟨rfl, by rw [HR.out]; exact hw1⟩
  · have HR := Lib.hid (show s.text t = (s.number t.size).put t.data.toList by unfold WS.text; rw [if_neg hbig])
    have hb' : (t.size : Int) ≤ 65536 := by omega
    have hlen := WS.len_number s t.size (by omega)
    have hl2 : (s.number t.size).bs.length + t.size ≤ 140737488355328 := by omega
    have HLn := Box.mk hl2
    clear hbig hlen hl2
    go_enter Try.func25, Try.ntmps25
    go_wp2_with fail
    refine (wnumber_any b (t.size : Int) (by omega) v s (by omega) w hw).mono ?_
    rintro e w1 ⟨rfl, hw1⟩
    obtain ⟨v1, hw1, hm1, hv1⟩ := hw1
    have hl2 := HLn.out; clear HLn
    generalize s.number t.size = s1 at hw1 HR hl2
    have HL2 := Box.mk hl2; clear hl2
    obtain ⟨h0, h1⟩ := hw1.cells
    have hfz := hw1.1.frozen 0
    go_wp2_with (at_builtin; refine wpList_appStr (by rfl) (.tmp 17) (.tmp 18) (by rfl) (by rfl) (by exact hw1.2.1) t (by rfl) HL2.out ?_; intro v' w3 ho3 hg3 hv3; obtain ⟨A3, c3, hv', -, -, -⟩ := ho3.sl byC_length; generalize (s1.bs ++ t.data.toList).length = n3 at hv'; subst hv'; have hcell := (hw1.grown_cells hg3).cell 0; have hfz3 := (hw1.grown_cells hg3).frozen 0; simp only [List.getElem?_toArray, List.getElem?_cons_zero] at hcell)
    have W3 : WTo w (w3.setCell ⟨b, 0, none⟩ (.slice A3 n3 c3)) b v ⟨s1.bs ++ t.data.toList, s1.e⟩ := WTo.trans_ hm1 hv1 (WTo.put hw1 hg3 ho3 hv3)
    go_end0
    exact ⟨rfl, by rw [HR.out]; exact W3⟩

set_option maxRecDepth 100000 in
theorem wdone_any (b : Nat) (v : Value) (s : WS) (w : World) (hw : IsW w b v s) :
    Calls Try.prog 26 #[.pointer (some ⟨b, 0, none⟩)] w fun e w' => e = .returned (.tuple #[.string s.done.1, .int .i64 s.done.2]) ∧ Below w.heap.size w w' := by
  obtain ⟨A, cp, hvv, hn1, hn2, hsl⟩ := hw.2.1.sl byC_length
  subst hvv
  have hstr := run_str hsl rfl (cap := cp)
  clear hn1 hn2
  obtain ⟨h0, h1⟩ := hw.cells
  by_cases he : s.e = 0
  · have he' : (s.e == 0) = true := by simpa using he
    by_cases hbig : 65536 < s.bs.length
    · have HR := Lib.hid (show s.done = (⟨#[]⟩, 2) by unfold WS.done; rw [if_neg (by simpa using he), if_pos hbig])
      have hb' : (65536 : Int) < (s.bs.length : Int) := by omega
      clear hbig he hstr
      go_enter Try.func26, Try.ntmps26
      go_wp2
      go_ret2
      exact ⟨by rw [HR.out]; rfl, Below.refl _ _⟩
    · have HR := Lib.hid (show s.done = (⟨s.bs.toArray⟩, 0) by unfold WS.done; rw [if_neg (by simpa using he), if_neg hbig])
      have hb' : (s.bs.length : Int) ≤ 65536 := by omega
      clear hbig he
      go_enter Try.func26, Try.ntmps26
      go_wp2
      go_ret2
      exact ⟨by rw [HR.out]; rfl, Below.refl _ _⟩
  · have HR := Lib.hid (show s.done = (⟨#[]⟩, s.e) by unfold WS.done; rw [if_pos he])
    have he' : (s.e == 0) = false := by simpa using he
    clear he hstr
    go_enter Try.func26, Try.ntmps26
    go_wp2
    go_quiet (fail)
    go_wp2
    go_ret2
    exact ⟨by rw [HR.out]; rfl, below_drewN (Below.refl _ _) _⟩
end Go.Proofs.Ytcnkmfmdadmaaaa
