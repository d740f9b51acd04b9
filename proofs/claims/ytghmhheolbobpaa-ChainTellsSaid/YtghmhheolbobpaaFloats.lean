/- Floats of small whole numbers: they stand to each other as the numbers do, and back as a whole number each is the number. No program in sight; no conditions. -/
import GoSem.Core.Float
import GoSem.ClaimJoined
namespace Go.Proofs.Ytghmhheolbobpaa.Wire
open Go

/-- A whole number's float's bits. -/
def F (n : Int) : Nat := FloatKind.f64.nearest n
def okF (n : Int) : Bool :=
  (match FloatKind.f64.decode (F n) with
    | .number s m e => s == decide (n < 0) && decide (e ≤ 0) && m == n.natAbs * 2 ^ (-e).toNat
    | _ => false) && ((FloatKind.f64.decode (F n)).toInt .zero == some n)
theorem okF_all : ((List.range 4200).all fun k => okF (k : Int) && okF (-(k : Int))) = true := by decide +kernel
theorem okF_of {n : Int} (h : -4200 < n ∧ n < 4200) : okF n = true := by
  have h1 := List.all_eq_true.1 okF_all n.natAbs (List.mem_range.2 (by omega))
  rw [Bool.and_eq_true] at h1
  by_cases hn : 0 ≤ n
  · have : ((n.natAbs : Nat) : Int) = n := by omega
    rw [this] at h1; exact h1.1
  · have : -((n.natAbs : Nat) : Int) = n := by omega
    rw [this] at h1; exact h1.2
theorem F_read {n : Int} (h : -4200 < n ∧ n < 4200) : ∃ m e, FloatKind.f64.decode (F n) = .number (decide (n < 0)) m e ∧ e ≤ 0 ∧ m = n.natAbs * 2 ^ (-e).toNat := by
  have h1 := okF_of h
  unfold okF at h1
  rw [Bool.and_eq_true] at h1
  obtain ⟨h2, _⟩ := h1
  cases hd : FloatKind.f64.decode (F n) with
  | number s m e =>
    rw [hd] at h2
    simp at h2
    exact ⟨m, e, by rw [h2.1.1], h2.1.2, h2.2⟩
  | infinity s => rw [hd] at h2; simp at h2
  | nan s f => rw [hd] at h2; simp at h2
theorem F_int {n : Int} (h : -4200 < n ∧ n < 4200) : (FloatKind.f64.decode (F n)).toInt .zero = some n := by
  have h1 := okF_of h
  unfold okF at h1
  rw [Bool.and_eq_true] at h1
  simpa using h1.2
theorem signed_eq (n : Int) (m k d : Nat) (hm : m = n.natAbs * 2 ^ d) : Ieee.signed (decide (n < 0)) m k = n * ((2 ^ (d + k) : Nat) : Int) := by
  subst hm
  have e : ((n.natAbs * 2 ^ d) <<< k : Nat) = n.natAbs * 2 ^ (d + k) := by rw [Nat.shiftLeft_eq, Nat.mul_assoc, ← Nat.pow_add]
  unfold Ieee.signed
  by_cases hn : n < 0
  · rw [decide_eq_true hn, if_pos rfl, e, Int.natCast_mul, ← Int.neg_mul]
    congr 1
    omega
  · rw [decide_eq_false hn, if_neg (by decide), e, Int.natCast_mul]
    congr 1
    omega
theorem compare_mul (a b : Int) (p : Nat) (hp : 0 < p) : compare (a * (p : Int)) (b * (p : Int)) = compare a b := by
  have hp' : (0 : Int) < (p : Int) := by omega
  show compareOfLessAndEq _ _ = compareOfLessAndEq _ _
  unfold compareOfLessAndEq
  rcases Int.lt_trichotomy a b with h | h | h
  · have := Int.mul_lt_mul_of_pos_right h hp'
    rw [if_pos h, if_pos this]
  · subst h; simp
  · have := Int.mul_lt_mul_of_pos_right h hp'
    rw [if_neg (by omega), if_neg (by omega), if_neg (by omega), if_neg (by omega)]
/-- They stand to each other as the numbers do. -/
theorem F_order {a b : Int} (ha : -4200 < a ∧ a < 4200) (hb : -4200 < b ∧ b < 4200) : FloatKind.f64.format.order (F a) (F b) = some (compare a b) := by
  obtain ⟨m, i, h1, h2, h3⟩ := F_read ha
  obtain ⟨n, j, k1, k2, k3⟩ := F_read hb
  show (FloatKind.f64.decode (F a)).order (FloatKind.f64.decode (F b)) = _
  rw [h1, k1]
  unfold Ieee.Datum.order
  simp only
  rw [signed_eq a m _ _ h3, signed_eq b n _ _ k3]
  have e : (-i).toNat + (i - min i j).toNat = (-j).toNat + (j - min i j).toNat := by omega
  rw [e, compare_mul _ _ _ (Nat.two_pow_pos _)]
end Go.Proofs.Ytghmhheolbobpaa.Wire
