/- WireOne returns true, whatever the bytes: bytes of which one number is read whole are what is written of it. No conditions. -/
import Derived.Test.YtghmhheolbobpaaWireAlive
set_option linter.unusedVariables false
namespace Go.Proofs.Ytghmhheolbobpaa
open Go.RowKit Wire

set_option maxHeartbeats 400000 in
theorem oneLaw_great (s : ByteArray) (w : World) (hs : 20 < s.size) :
    Calls Try.prog 5 #[.string s] w fun e w' => e = .returned (.bool true) ∧ Below w.heap.size w w' := by
  go_enter Try.func5, Try.ntmps5
  go_wp2_with fail
  refine (alive_any _).mono ?_
  rintro e w1 ⟨rfl, b1⟩
  go_wp2_with fail
  refine (alive_any _).mono ?_
  rintro e w2 ⟨rfl, b2⟩
  go_wp2
  go_ret
  exact ⟨rfl, below_step b1 b2⟩
/-- What the read ends with: not whole. -/
theorem one_bad {s : ByteArray} (h : ∀ n, readNum 1099511627775 s.data.toList ≠ .inr (n, s.size)) :
    endOf s (numRes 0 (readNum 1099511627775 s.data.toList)).2.1 (numRes 0 (readNum 1099511627775 s.data.toList)).2.2 ≠ 0 := by
  cases hr : readNum 1099511627775 s.data.toList with
  | inl e =>
    have := readNum_err hr
    show endOf s 0 (e : Int) ≠ 0
    unfold endOf
    rw [if_neg (by omega)]; omega
  | inr x =>
    obtain ⟨n, k⟩ := x
    have hl := readNum_len hr
    have hk : k ≠ s.size := fun e => h n (by rw [hr, e])
    have hsz : s.data.toList.length = s.size := by simp
    show endOf s (0 + k) 0 ≠ 0
    unfold endOf
    rw [if_pos rfl, if_pos (by omega)]; omega
set_option maxHeartbeats 1000000 in
theorem oneLaw_bad (s : ByteArray) (w : World) (hs : s.size ≤ 20) (h : ∀ n, readNum 1099511627775 s.data.toList ≠ .inr (n, s.size)) :
    Calls Try.prog 5 #[.string s] w fun e w' => e = .returned (.bool true) ∧ Below w.heap.size w w' := by
  have hbad := one_bad h
  have HS := Lib.hid (show s.size ≤ maxLen by unfold maxLen; omega)
  have HB := Lib.hid hbad
  clear hbad h
  go_enter Try.func5, Try.ntmps5
  go_wp2_with fail
  refine (alive_any _).mono ?_
  rintro e w1 ⟨rfl, b1⟩
  go_wp2_with fail
  refine (newReader s _).mono ?_
  rintro e w2 ⟨rfl, rfl⟩
  have hc := number_ok _ s 0 1099511627775 _ (Rd.new s w1) HS.out (by omega)
  rw [List.drop_zero] at hc
  generalize numRes 0 (readNum 1099511627775 s.data.toList) = nr at hc HB
  obtain ⟨nv, np, ne⟩ := nr
  go_wp2_with fail
  refine hc.mono ?_
  rintro e w2 ⟨rfl, R2, k2⟩
  have hb : (!(endOf s np ne == 0)) = true := by simpa using HB.out
  have hb' : (endOf s np ne == 0) = false := by simpa using HB.out
  go_wp2_with fail
  refine (end_any _ s np ne _ R2 HS.out).mono ?_
  rintro e w3 ⟨rfl, R3, k3⟩
  go_wp2_with fail
  refine (alive_any _).mono ?_
  rintro e w4 ⟨rfl, b4⟩
  go_wp2
  go_ret
  have hm := (k2.trans k3).below (B := w.heap.size) b1.size (by have := b1.size; simp; omega)
  exact ⟨rfl, below_step ((below_lay b1 _).trans hm) b4⟩
set_option maxHeartbeats 1000000 in
theorem oneLaw_good (s : ByteArray) (w : World) (hs : s.size ≤ 20) (n : Nat) (h : readNum 1099511627775 s.data.toList = .inr (n, s.size)) :
    Calls Try.prog 5 #[.string s] w fun e w' => e = .returned (.bool true) ∧ Below w.heap.size w w' := by
  have hsz : s.data.toList.length = s.size := by simp
  have hone := read_one (l := s.data.toList) (by rw [hsz]; exact h)
  have HS := Lib.hid (show s.size ≤ maxLen by unfold maxLen; omega)
  have HO := Lib.hid hone
  have HSZ := Lib.hid hsz
  have HR := Lib.hid h
  have hEnd : endOf s (0 + s.size) 0 = 0 := by unfold endOf; rw [if_pos rfl, if_neg (by omega)]
  have HE := Lib.hid hEnd
  clear hone h hsz hEnd
  go_enter Try.func5, Try.ntmps5
  go_wp2_with fail
  refine (alive_any _).mono ?_
  rintro e w1 ⟨rfl, b1⟩
  go_wp2_with fail
  refine (newReader s _).mono ?_
  rintro e w2 ⟨rfl, rfl⟩
  have hc := number_ok _ s 0 1099511627775 _ (Rd.new s w1) HS.out (by omega)
  rw [List.drop_zero, HR.out] at hc
  simp only [numRes] at hc
  go_wp2_with fail
  refine hc.mono ?_
  rintro e w2 ⟨rfl, R2, k2⟩
  have hc2 := end_any _ s (0 + s.size) 0 _ R2 HS.out
  rw [HE.out] at hc2
  go_wp2_with fail
  refine hc2.mono ?_
  rintro e w3 ⟨rfl, R3, k3⟩
  go_wp2_with fail
  refine (number_one w3.heap.size w3.heap.size [] (n : Int) _ _ _ ((Wr.new _ w3 (Nat.le_refl _)).alloc _) (by simp) (by simp)).mono ?_
  rw [clamp_self HO.out.2.1, HO.out.1, List.nil_append]
  rintro e w4 ⟨rfl, W4, k4⟩
  go_wp2_with fail
  refine (alive_any _).mono ?_
  rintro e w5 ⟨rfl, b5⟩
  have W5 : Wr w3.heap.size w3.heap.size s.data.toList w5 := W4.below b5
  go_wp2_with fail
  refine (string_of _ _ _ _ W5).mono ?_
  rintro e w6 ⟨rfl, W6, k6⟩
  go_wp2
  go_ret
  have hm := (k2.trans k3).below (B := w.heap.size) b1.size (by have := b1.size; simp; omega)
  have B3 := (below_lay b1 _).trans hm
  have B4 := (below_lay (below_lay B3 _) _).trans (k4.below.mono B3.size)
  exact ⟨rfl, (below_step B4 b5).trans (k6.below.mono B3.size)⟩
theorem oneLaw (s : ByteArray) (w : World) : Calls Try.prog 5 #[.string s] w fun e w' => e = .returned (.bool true) ∧ Below w.heap.size w w' := by
  by_cases hs : s.size ≤ 20
  · by_cases h : ∀ n, readNum 1099511627775 s.data.toList ≠ .inr (n, s.size)
    · exact oneLaw_bad s w hs h
    · simp only [ne_eq, Classical.not_forall, Classical.not_not] at h
      obtain ⟨n, hn⟩ := h
      exact oneLaw_good s w hs n hn
  · exact oneLaw_great s w (by omega)
end Go.Proofs.Ytghmhheolbobpaa
