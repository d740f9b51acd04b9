/- Plain facts on numbers as bytes, seven bits a byte: what is written of a number, what is read of bytes, and that the one undoes the other. No program in sight; no conditions. -/
namespace Go.Proofs.Ytghmhheolbobpaa.Wire

/-- The greatest number that is written. -/
def maxNum : Nat := 1099511627775
/-- A number's bytes. -/
def num (n : Nat) : List UInt8 := if h : n < 128 then [UInt8.ofNat n] else UInt8.ofNat (n % 128 + 128) :: num (n / 128)
theorem num_small {n : Nat} (h : n < 128) : num n = [UInt8.ofNat n] := by rw [num, dif_pos h]
theorem num_great {n : Nat} (h : ¬ n < 128) : num n = UInt8.ofNat (n % 128 + 128) :: num (n / 128) := by rw [num, dif_neg h]
theorem num_pos (n : Nat) : 0 < (num n).length := by
  by_cases h : n < 128
  · rw [num_small h]; simp
  · rw [num_great h]; simp
/-- A number below 128 to the k-th has at most k bytes. -/
theorem num_length : ∀ (k n : Nat), 0 < k → n < 128 ^ k → (num n).length ≤ k
  | 0, _, h, _ => by omega
  | k + 1, n, _, hn => by
    by_cases h : n < 128
    · rw [num_small h]; simp
    · rw [num_great h, List.length_cons]
      have hk : 0 < k := by
        rcases Nat.eq_zero_or_pos k with rfl | h'
        · simp at hn; omega
        · exact h'
      have h2 : n / 128 < 128 ^ k := by
        rw [Nat.div_lt_iff_lt_mul (by omega)]
        rw [Nat.pow_succ] at hn
        exact hn
      have := num_length k (n / 128) hk h2
      omega
theorem num_six {n : Nat} (h : n ≤ maxNum) : (num n).length ≤ 6 := num_length 6 n (by omega) (by unfold maxNum at h; omega)
/-- A whole number brought into the range that is written. -/
def clamp (n : Int) : Nat := (max 0 (min n 1099511627775)).toNat
theorem clamp_le (n : Int) : clamp n ≤ maxNum := by unfold clamp maxNum; omega
theorem clamp_self {n : Nat} (h : n ≤ maxNum) : clamp n = n := by unfold clamp maxNum at *; omega

/-- What the bytes from some place on say, behind i bytes that came to n: the number and how many bytes it has in all; or the error's number. -/
def scan : Nat → Nat → List UInt8 → Nat ⊕ (Nat × Nat)
  | _, _, [] => .inl 3
  | i, n, b :: r =>
    if 128 ≤ b.toNat then
      if i + 1 = 6 then .inl 4 else scan (i + 1) (n + b.toNat % 128 * 128 ^ i) r
    else if b.toNat = 0 ∧ 0 < i then .inl 2 else .inr (n + b.toNat % 128 * 128 ^ i, i + 1)
/-- A number of at most most that is read: and how many bytes it has; or the error's number. -/
def readNum (most : Int) (l : List UInt8) : Nat ⊕ (Nat × Nat) :=
  match scan 0 0 l with
  | .inl e => .inl e
  | .inr (n, k) => if n ≤ maxNum ∧ (n : Int) ≤ most then .inr (n, k) else .inl 4

theorem byte_small {n : Nat} (h : n < 128) : (UInt8.ofNat n).toNat = n := by simp; omega
theorem byte_great (n : Nat) : (UInt8.ofNat (n % 128 + 128)).toNat = n % 128 + 128 := by simp; omega

/-- What is written is read. -/
theorem scan_num : ∀ (k i acc n : Nat) (r : List UInt8), i + k = 6 → 0 < k → n < 128 ^ k → (0 < i → 0 < n) → scan i acc (num n ++ r) = .inr (acc + n * 128 ^ i, i + (num n).length)
  | 0, _, _, _, _, _, h, _, _ => by omega
  | k + 1, i, acc, n, r, hik, _, hn, h0 => by
    by_cases h : n < 128
    · rw [num_small h]
      simp only [List.cons_append, List.nil_append, scan, byte_small h]
      rw [if_neg (by omega), if_neg (by intro hh; have := h0 hh.2; omega)]
      rw [Nat.mod_eq_of_lt h]
      simp
    · rw [num_great h]
      simp only [List.cons_append, scan, byte_great]
      have hk : 0 < k := by
        rcases Nat.eq_zero_or_pos k with rfl | h'
        · simp at hn; omega
        · exact h'
      have h2 : n / 128 < 128 ^ k := by
        rw [Nat.div_lt_iff_lt_mul (by omega)]
        rw [Nat.pow_succ] at hn
        exact hn
      rw [if_pos (by omega), if_neg (by omega), scan_num k (i + 1) _ (n / 128) r (by omega) hk h2 (fun _ => by omega)]
      have e1 : (n % 128 + 128) % 128 = n % 128 := by omega
      have e2 : n = n % 128 + 128 * (n / 128) := by omega
      have e3 : n % 128 * 128 ^ i + n / 128 * 128 ^ (i + 1) = n * 128 ^ i := by
        rw [Nat.pow_succ, Nat.mul_comm (128 ^ i) 128, ← Nat.mul_assoc, ← Nat.add_mul, Nat.mul_comm (n / 128) 128, ← e2]
      rw [e1, List.length_cons, Nat.add_assoc, e3]
      congr 2
      omega
theorem read_num {n : Nat} {most : Int} (h : n ≤ maxNum) (hm : (n : Int) ≤ most) (r : List UInt8) : readNum most (num n ++ r) = .inr (n, (num n).length) := by
  unfold readNum
  rw [scan_num 6 0 0 n r (by omega) (by omega) (by unfold maxNum at h; omega) (fun h => by omega)]
  simp only [Nat.pow_zero, Nat.mul_one, Nat.zero_add]
  rw [if_pos ⟨h, hm⟩]

/-- A number has one form. -/
theorem scan_one : ∀ (l : List UInt8) (i acc n : Nat), scan i acc l = .inr (n, i + l.length) → ∃ m, n = acc + m * 128 ^ i ∧ (0 < i → 0 < m) ∧ num m = l := by
  intro l
  induction l with
  | nil => intro i acc n h; simp [scan] at h
  | cons b r ih =>
    intro i acc n h
    simp only [scan] at h
    by_cases hb : 128 ≤ b.toNat
    · rw [if_pos hb] at h
      by_cases h6 : i + 1 = 6
      · rw [if_pos h6] at h; simp at h
      · rw [if_neg h6] at h
        rw [List.length_cons, show i + (r.length + 1) = i + 1 + r.length by omega] at h
        obtain ⟨m, hm, hp, hr⟩ := ih _ _ _ h
        have hmp : 0 < m := hp (by omega)
        have hlt := b.toNat_lt
        refine ⟨b.toNat % 128 + 128 * m, ?_, fun _ => by omega, ?_⟩
        · rw [hm, Nat.pow_succ, Nat.add_mul, Nat.mul_comm (128 ^ i) 128, ← Nat.mul_assoc, Nat.mul_comm m 128]; omega
        · rw [num_great (by omega)]
          have e1 : (b.toNat % 128 + 128 * m) % 128 + 128 = b.toNat := by omega
          have e2 : (b.toNat % 128 + 128 * m) / 128 = m := by omega
          rw [e1, e2, hr]
          simp
    · rw [if_neg hb] at h
      by_cases h2 : b.toNat = 0 ∧ 0 < i
      · rw [if_pos h2] at h; simp at h
      · rw [if_neg h2] at h
        simp only [Sum.inr.injEq, Prod.mk.injEq, List.length_cons] at h
        have hr : r = [] := by
          apply List.eq_nil_of_length_eq_zero
          omega
        subst hr
        have hlt : b.toNat < 128 := by omega
        refine ⟨b.toNat, ?_, fun hi => ?_, ?_⟩
        · rw [← h.1, Nat.mod_eq_of_lt hlt]
        · rcases Nat.eq_zero_or_pos b.toNat with h0 | h0
          · exact absurd ⟨h0, hi⟩ h2
          · exact h0
        · rw [num_small hlt]; simp
theorem read_one {l : List UInt8} {most : Int} {n : Nat} (h : readNum most l = .inr (n, l.length)) : num n = l ∧ n ≤ maxNum ∧ (n : Int) ≤ most := by
  unfold readNum at h
  cases hs : scan 0 0 l with
  | inl e => rw [hs] at h; simp at h
  | inr p =>
    obtain ⟨m, k⟩ := p
    rw [hs] at h
    simp only at h
    by_cases hc : m ≤ maxNum ∧ (m : Int) ≤ most
    · rw [if_pos hc] at h
      simp only [Sum.inr.injEq, Prod.mk.injEq] at h
      obtain ⟨rfl, rfl⟩ := h
      have := scan_one l 0 0 m (by rw [hs, Nat.zero_add])
      obtain ⟨m', h1, _, h3⟩ := this
      simp at h1
      subst h1
      exact ⟨h3, hc⟩
    · rw [if_neg hc] at h; simp at h
/-- How many bytes are looked at. -/
theorem scan_len : ∀ (l : List UInt8) (i acc n k : Nat), scan i acc l = .inr (n, k) → i < k ∧ k ≤ i + l.length := by
  intro l
  induction l with
  | nil => intro i acc n k h; simp [scan] at h
  | cons b r ih =>
    intro i acc n k h
    simp only [scan] at h
    by_cases hb : 128 ≤ b.toNat
    · rw [if_pos hb] at h
      by_cases h6 : i + 1 = 6
      · rw [if_pos h6] at h; simp at h
      · rw [if_neg h6] at h
        have := ih _ _ _ _ h
        simp only [List.length_cons]
        omega
    · rw [if_neg hb] at h
      by_cases h2 : b.toNat = 0 ∧ 0 < i
      · rw [if_pos h2] at h; simp at h
      · rw [if_neg h2] at h
        simp only [Sum.inr.injEq, Prod.mk.injEq, List.length_cons] at h ⊢
        omega
theorem readNum_len {most : Int} {l : List UInt8} {n k : Nat} (h : readNum most l = .inr (n, k)) : 0 < k ∧ k ≤ l.length ∧ n ≤ maxNum ∧ (n : Int) ≤ most := by
  unfold readNum at h
  cases hs : scan 0 0 l with
  | inl e => rw [hs] at h; simp at h
  | inr p =>
    obtain ⟨m, k'⟩ := p
    rw [hs] at h
    simp only at h
    by_cases hc : m ≤ maxNum ∧ (m : Int) ≤ most
    · rw [if_pos hc] at h
      simp only [Sum.inr.injEq, Prod.mk.injEq] at h
      obtain ⟨rfl, rfl⟩ := h
      have := scan_len l 0 0 m k' hs
      omega
    · rw [if_neg hc] at h; simp at h
end Go.Proofs.Ytghmhheolbobpaa.Wire
