/- delta's own length, on pieces whose numbers are small and whole. Conditions: the numbers are small and whole; the base is of at most 4099 bytes; a text within the form's reach. -/
import Derived.Test.YtghmhheolbobpaaCopied
set_option linter.unusedVariables false
set_option maxRecDepth 100000
namespace Go.Proofs.Ytghmhheolbobpaa
open Go.RowKit Wire

theorem F_zero : F 0 = 0 := by decide +kernel
theorem F_null {n : Nat} (h : n ≤ 4099) : (FloatKind.f64.format.order (F (n : Int)) 0 == some Ordering.eq) = decide (n = 0) := by
  have := F_order (a := (n : Int)) (b := 0) ⟨by omega, by omega⟩ ⟨by omega, by omega⟩
  rw [F_zero] at this
  rw [this, cmp_eq]
  by_cases hn : n = 0
  · rw [decide_eq_true (by omega), decide_eq_true hn]
  · rw [decide_eq_false (by omega), decide_eq_false hn]
/-- How many bytes a piece has; 0: it isn't right. -/
def Pc.len (p : Pc) (b : Int) : Nat := if p.re = 0 ∧ p.im = 0 ∧ p.text.size ≤ 4099 then p.text.size else if p.isCopy b then p.im else 0
set_option maxHeartbeats 1000000 in
theorem length_plain (t : ByteArray) (b : Int) (w : World) (ht : t.size ≤ 4099) :
    Calls Try.prog 62 #[.agg #[.complex .f64 (F 0) (F 0), .string t], .int .i64 b] w fun e w' => e = .returned (.int .i64 t.size) ∧ Below w.heap.size w w' := by
  have h0 : (FloatKind.f64.format.order (F 0) 0 == some Ordering.eq) = true := F_null (n := 0) (by omega)
  go_enter Try.func62, Try.ntmps62
  go_wp2
  go_ret
  exact ⟨rfl, below_lay (Below.refl _ _) _⟩
set_option maxHeartbeats 1000000 in
theorem length_other (p : Pc) (b : Int) (w : World) (hp : p.small) (hb : 0 ≤ b ∧ b ≤ 4099) (h : ¬ (p.re = 0 ∧ p.im = 0 ∧ p.text.size ≤ 4099)) :
    Calls Try.prog 62 #[.agg p.cells.toArray, .int .i64 b] w fun e w' => e = .returned (.int .i64 (if p.isCopy b then p.im else 0 : Nat)) ∧ Below w.heap.size w w' := by
  obtain ⟨re, im, t⟩ := p
  have hc := fun W => copied_of ⟨re, im, t⟩ b W hp hb
  have hA := F_null hp.1
  have hI := F_null hp.2
  have hc' : ∀ W, Calls Try.prog 59 #[.agg #[.complex .f64 (F re) (F im), .string t], .int .i64 b] W _ := hc
  have HC := Lib.hid hc'
  show Calls Try.prog 62 #[.agg #[.complex .f64 (F re) (F im), .string t], .int .i64 b] w _
  simp only at h hA hI
  clear hc hc' hp hb
  have cases3 : (re ≠ 0) ∨ (re = 0 ∧ im ≠ 0) ∨ (re = 0 ∧ im = 0 ∧ 4099 < t.size) := by omega
  cases hk : (Pc.mk re im t).isCopy b with
  | true =>
    have e : (Pc.mk re im t).copied b = ((re : Int), (im : Int), true) := by unfold Pc.copied; rw [hk]; rfl
    rw [e] at HC
    clear e hk h
    rcases cases3 with h | ⟨h, h2⟩ | ⟨h, h2, h3⟩
    · rw [decide_eq_false h] at hA
      clear h hI
      go_enter Try.func62, Try.ntmps62
      go_wp2_with fail
      refine (HC.out _).mono ?_
      rintro e w1 ⟨rfl, b1⟩
      go_wp2
      go_ret
      exact ⟨rfl, below_step (below_lay (Below.refl _ _) _) b1⟩
    · rw [decide_eq_true h] at hA
      rw [decide_eq_false h2] at hI
      clear h h2
      go_enter Try.func62, Try.ntmps62
      go_wp2_with fail
      refine (HC.out _).mono ?_
      rintro e w1 ⟨rfl, b1⟩
      go_wp2
      go_ret
      exact ⟨rfl, below_step (below_lay (Below.refl _ _) _) b1⟩
    · rw [decide_eq_true h] at hA
      rw [decide_eq_true h2] at hI
      clear h h2
      go_enter Try.func62, Try.ntmps62
      go_wp2_with fail
      refine (HC.out _).mono ?_
      rintro e w1 ⟨rfl, b1⟩
      go_wp2
      go_ret
      exact ⟨rfl, below_step (below_lay (Below.refl _ _) _) b1⟩
  | false =>
    have e : (Pc.mk re im t).copied b = (0, 0, false) := by unfold Pc.copied; rw [hk]; rfl
    rw [e] at HC
    clear e hk h
    rcases cases3 with h | ⟨h, h2⟩ | ⟨h, h2, h3⟩
    · rw [decide_eq_false h] at hA
      clear h hI
      go_enter Try.func62, Try.ntmps62
      go_wp2_with fail
      refine (HC.out _).mono ?_
      rintro e w1 ⟨rfl, b1⟩
      go_wp2
      go_ret
      exact ⟨rfl, below_step (below_lay (Below.refl _ _) _) b1⟩
    · rw [decide_eq_true h] at hA
      rw [decide_eq_false h2] at hI
      clear h h2
      go_enter Try.func62, Try.ntmps62
      go_wp2_with fail
      refine (HC.out _).mono ?_
      rintro e w1 ⟨rfl, b1⟩
      go_wp2
      go_ret
      exact ⟨rfl, below_step (below_lay (Below.refl _ _) _) b1⟩
    · rw [decide_eq_true h] at hA
      rw [decide_eq_true h2] at hI
      clear h h2
      go_enter Try.func62, Try.ntmps62
      go_wp2_with fail
      refine (HC.out _).mono ?_
      rintro e w1 ⟨rfl, b1⟩
      go_wp2
      go_ret
      exact ⟨rfl, below_step (below_lay (Below.refl _ _) _) b1⟩
theorem length_of (p : Pc) (b : Int) (w : World) (hp : p.small) (hb : 0 ≤ b ∧ b ≤ 4099) :
    Calls Try.prog 62 #[.agg p.cells.toArray, .int .i64 b] w fun e w' => e = .returned (.int .i64 (p.len b : Nat)) ∧ Below w.heap.size w w' := by
  by_cases h : p.re = 0 ∧ p.im = 0 ∧ p.text.size ≤ 4099
  · unfold Pc.len
    rw [if_pos h]
    obtain ⟨re, im, t⟩ := p
    obtain ⟨rfl, rfl, h3⟩ := h
    exact length_plain t b w h3
  · unfold Pc.len
    rw [if_neg h]
    exact length_other p b w hp hb h
end Go.Proofs.Ytghmhheolbobpaa
