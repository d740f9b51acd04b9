/- delta's own whole, copied, length on floats of small whole numbers. Conditions: the numbers are small and whole. -/
import Derived.Test.YtghmhheolbobpaaParts
import Derived.Test.YtghmhheolbobpaaFloats
set_option linter.unusedVariables false
set_option maxRecDepth 100000
namespace Go.Proofs.Ytghmhheolbobpaa
open Go.RowKit Wire

/-- Small enough. -/
def Sm (n : Int) : Prop := -4200 < n ∧ n < 4200
theorem fint (n : Int) : floatOfInt .f64 n = F n := rfl
theorem ftoint {n : Int} (h : Sm n) : floatToIntVal .f64 (F n) .i64 = some n := by
  unfold floatToIntVal
  rw [F_int h]
  obtain ⟨h1, h2⟩ := h
  simp [IntKind.min, IntKind.max, IntKind.bits, IntKind.signed]
  omega
theorem cmp_gt {x a : Int} : (some (compare x a) == some Ordering.gt || some (compare x a) == some Ordering.eq) = decide (a ≤ x) := by
  show (some (compareOfLessAndEq x a) == some Ordering.gt || some (compareOfLessAndEq x a) == some Ordering.eq) = decide (a ≤ x)
  unfold compareOfLessAndEq
  rcases Int.lt_trichotomy x a with h | h | h
  · rw [if_pos h, decide_eq_false (by omega)]; rfl
  · subst h; simp
  · rw [if_neg (by omega), if_neg (by omega), decide_eq_true (by omega)]; rfl
theorem cmp_lt {x a : Int} : (some (compare x a) == some Ordering.lt || some (compare x a) == some Ordering.eq) = decide (x ≤ a) := by
  show (some (compareOfLessAndEq x a) == some Ordering.lt || some (compareOfLessAndEq x a) == some Ordering.eq) = decide (x ≤ a)
  unfold compareOfLessAndEq
  rcases Int.lt_trichotomy x a with h | h | h
  · rw [if_pos h, decide_eq_true (by omega)]; rfl
  · subst h; simp
  · rw [if_neg (by omega), if_neg (by omega), decide_eq_false (by omega)]; rfl
theorem cmp_eq {x a : Int} : (some (compare x a) == some Ordering.eq) = decide (x = a) := by
  show (some (compareOfLessAndEq x a) == some Ordering.eq) = decide (x = a)
  unfold compareOfLessAndEq
  rcases Int.lt_trichotomy x a with h | h | h
  · rw [if_pos h, decide_eq_false (by omega)]; rfl
  · subst h; simp
  · rw [if_neg (by omega), if_neg (by omega), decide_eq_false (by omega)]; rfl
theorem conv_f {x : Int} (hx : Sm x) (W : World) : (convert 106 3 (.float .f64 (F x))).run Try.prog W = .ok (.int .i64 x) W :=
  run_convert_float_int W 106 3 .f64 .i64 (F x) x (by kernel_rfl) Try.underlying3 (ftoint hx)
set_option maxHeartbeats 400000 in
theorem whole_of (x a b : Int) (w : World) (hx : Sm x) (ha : Sm a) (hb : Sm b) :
    Calls Try.prog 63 #[.float .f64 (F x), .int .i64 a, .int .i64 b] w fun e w' => e = .returned (.bool (decide (a ≤ x ∧ x ≤ b))) ∧ w = w' := by
  have o1 : (FloatKind.f64.format.order (F x) (floatOfInt .f64 a) == some Ordering.gt || FloatKind.f64.format.order (F x) (floatOfInt .f64 a) == some Ordering.eq) = decide (a ≤ x) := by
    rw [fint, F_order hx ha]; exact cmp_gt
  have o2 : (FloatKind.f64.format.order (F x) (floatOfInt .f64 b) == some Ordering.lt || FloatKind.f64.format.order (F x) (floatOfInt .f64 b) == some Ordering.eq) = decide (x ≤ b) := by
    rw [fint, F_order hx hb]; exact cmp_lt
  have o3 : (FloatKind.f64.format.order (floatOfInt .f64 x) (F x) == some Ordering.eq) = true := by
    rw [fint, F_order hx hx, cmp_eq]; simp
  have hcv := conv_f hx
  clear hx ha hb
  by_cases h1 : a ≤ x
  · rw [decide_eq_true h1] at o1
    by_cases h2 : x ≤ b
    · rw [decide_eq_true h2] at o2
      rw [decide_eq_true (show a ≤ x ∧ x ≤ b from ⟨h1, h2⟩)]
      clear h1 h2
      go_enter Try.func63, Try.ntmps63
      go_wp2
      go_ret
      exact ⟨rfl, rfl⟩
    · rw [decide_eq_false h2] at o2
      rw [decide_eq_false (show ¬ (a ≤ x ∧ x ≤ b) from fun h => h2 h.2)]
      clear h1 h2
      go_enter Try.func63, Try.ntmps63
      go_wp2
      go_ret
      exact ⟨rfl, rfl⟩
  · rw [decide_eq_false h1] at o1
    rw [decide_eq_false (show ¬ (a ≤ x ∧ x ≤ b) from fun h => h1 h.1)]
    clear h1
    go_enter Try.func63, Try.ntmps63
    go_wp2
    go_ret
    exact ⟨rfl, rfl⟩
end Go.Proofs.Ytghmhheolbobpaa
