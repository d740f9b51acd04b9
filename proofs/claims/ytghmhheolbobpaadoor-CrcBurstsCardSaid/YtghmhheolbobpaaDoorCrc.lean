/- Plain facts on CRC-32 as bit vectors: one step and its linearity, half bytes by a table, texts, zeros, seals and bursts. No program in sight; no conditions. -/
namespace Go.Proofs.YtghmhheolbobpaaDoor.Crc

/-- One step of the register. -/
def step (n : BitVec 32) : BitVec 32 := (n >>> 1) ^^^ (if n.getLsbD 0 then 0xedb88320#32 else 0#32)

theorem xor4 (a b c d : BitVec 32) : (a ^^^ b) ^^^ (c ^^^ d) = (a ^^^ c) ^^^ (b ^^^ d) := by
  rw [BitVec.xor_assoc, ← BitVec.xor_assoc b c d, BitVec.xor_comm b c, BitVec.xor_assoc c b d, ← BitVec.xor_assoc]

theorem step_xor (a b : BitVec 32) : step (a ^^^ b) = step a ^^^ step b := by
  unfold step
  rw [xor4, BitVec.ushiftRight_xor_distrib, BitVec.getLsbD_xor]
  congr 1
  cases a.getLsbD 0 <;> cases b.getLsbD 0 <;> simp

theorem step_zero : step 0#32 = 0#32 := by decide

theorem step_even {n : BitVec 32} (h : n.getLsbD 0 = false) : step n = n >>> 1 := by
  unfold step; rw [h]; simp

theorem step_eq_zero {n : BitVec 32} (h : step n = 0#32) : n = 0#32 := by
  unfold step at h
  cases h0 : n.getLsbD 0 with
  | true =>
    rw [h0] at h
    have := congrArg (fun x => BitVec.getLsbD x 31) h
    simp at this
  | false =>
    rw [h0] at h
    simp only [Bool.false_eq_true, if_false, BitVec.xor_zero] at h
    apply BitVec.eq_of_getLsbD_eq
    intro i hi
    rcases i with _ | i
    · simpa using h0
    · have := congrArg (fun x => BitVec.getLsbD x i) h
      simp only [BitVec.getLsbD_ushiftRight] at this
      rw [Nat.add_comm] at this
      simpa using this

/-- Some steps. -/
def steps : Nat → BitVec 32 → BitVec 32
  | 0, n => n
  | k + 1, n => steps k (step n)

theorem steps_xor (k : Nat) : ∀ a b, steps k (a ^^^ b) = steps k a ^^^ steps k b := by
  induction k with
  | zero => intro a b; rfl
  | succ k ih => intro a b; simp only [steps, step_xor, ih]

theorem steps_zero (k : Nat) : steps k 0#32 = 0#32 := by
  induction k with
  | zero => rfl
  | succ k ih => simp only [steps, step_zero, ih]

theorem steps_add (j k : Nat) : ∀ n, steps (j + k) n = steps k (steps j n) := by
  induction j with
  | zero => intro n; simp [steps]
  | succ j ih => intro n; rw [Nat.succ_add]; simp only [steps, ih]

theorem steps_eq_zero (k : Nat) : ∀ {n}, steps k n = 0#32 → n = 0#32 := by
  induction k with
  | zero => intro n h; exact h
  | succ k ih => intro n h; exact step_eq_zero (ih h)

theorem xor_eq_zero {a b : BitVec 32} (h : a ^^^ b = 0#32) : a = b := by
  have := congrArg (· ^^^ b) h
  simpa [BitVec.xor_assoc] using this

theorem steps_inj {k : Nat} {a b : BitVec 32} (h : steps k a = steps k b) : a = b := by
  apply xor_eq_zero
  apply steps_eq_zero k
  rw [steps_xor, h, BitVec.xor_self]

/-- Half a byte by the table: four steps. -/
def half (n : BitVec 32) : BitVec 32 := (n >>> 4) ^^^ steps 4 (n &&& 15#32)

theorem split4 (n : BitVec 32) : n = (n &&& 0xfffffff0#32) ^^^ (n &&& 15#32) := by
  apply BitVec.eq_of_getLsbD_eq
  intro i hi
  simp only [BitVec.getLsbD_xor, BitVec.getLsbD_and]
  have : (0xfffffff0#32).getLsbD i = !(15#32).getLsbD i := by
    revert i; decide
  rw [this]
  cases n.getLsbD i <;> cases (15#32).getLsbD i <;> rfl

theorem steps_high (n : BitVec 32) : steps 4 (n &&& 0xfffffff0#32) = n >>> 4 := by
  have e0 : (n &&& 0xfffffff0#32).getLsbD 0 = false := by simp
  have e1 : ((n &&& 0xfffffff0#32) >>> 1).getLsbD 0 = false := by simp
  have e2 : ((n &&& 0xfffffff0#32) >>> 1 >>> 1).getLsbD 0 = false := by simp
  have e3 : ((n &&& 0xfffffff0#32) >>> 1 >>> 1 >>> 1).getLsbD 0 = false := by simp
  simp only [steps]
  rw [step_even e0, step_even e1, step_even e2, step_even e3]
  apply BitVec.eq_of_getLsbD_eq
  intro i hi
  simp only [BitVec.getLsbD_ushiftRight, BitVec.getLsbD_and]
  have e : 1 + (1 + (1 + (1 + i))) = 4 + i := by omega
  rw [e]
  by_cases h : 4 + i < 32
  · have : (0xfffffff0#32).getLsbD (4 + i) = true := by
      have h4 : i < 28 := by omega
      clear e e0 e1 e2 e3 hi h
      revert i; decide
    rw [this, Bool.and_true]
  · rw [BitVec.getLsbD_of_ge n _ (by omega)]; rfl

theorem half_eq (n : BitVec 32) : half n = steps 4 n := by
  conv => rhs; rw [split4 n, steps_xor, steps_high]
  rfl

/-- A number fed a byte. -/
def feed (n : BitVec 32) (b : UInt8) : BitVec 32 := steps 8 (n ^^^ b.toBitVec.setWidth 32)

theorem feed_half (n : BitVec 32) (b : UInt8) : half (half (n ^^^ b.toBitVec.setWidth 32)) = feed n b := by
  rw [half_eq, half_eq, ← steps_add]; rfl

theorem feed_nul (n : BitVec 32) : feed n 0 = steps 8 n := by
  unfold feed
  rw [show (0 : UInt8).toBitVec.setWidth 32 = 0#32 by decide, BitVec.xor_zero]

theorem feed_xor (a b : BitVec 32) (c : UInt8) : feed (a ^^^ b) c = feed a c ^^^ steps 8 b := by
  unfold feed
  rw [BitVec.xor_assoc, BitVec.xor_comm b, ← BitVec.xor_assoc, steps_xor]

/-- A number fed a text. -/
def run (n : BitVec 32) (l : List UInt8) : BitVec 32 := l.foldl feed n

theorem run_nil (n : BitVec 32) : run n [] = n := rfl
theorem run_cons (n : BitVec 32) (b : UInt8) (l : List UInt8) : run n (b :: l) = run (feed n b) l := rfl
theorem run_append (n : BitVec 32) (l m : List UInt8) : run n (l ++ m) = run (run n l) m := by simp [run, List.foldl_append]
theorem run_snoc (n : BitVec 32) (l : List UInt8) (b : UInt8) : run n (l ++ [b]) = feed (run n l) b := by rw [run_append]; rfl

theorem run_xor (l : List UInt8) : ∀ a b, run (a ^^^ b) l = run a l ^^^ steps (8 * l.length) b := by
  induction l with
  | nil => intro a b; rfl
  | cons c l ih =>
    intro a b
    rw [run_cons, run_cons, feed_xor, ih, ← steps_add, List.length_cons, Nat.mul_add, Nat.add_comm (8 * _)]

/-- The sum of a text with more behind it; of a text. -/
def add (s : BitVec 32) (l : List UInt8) : BitVec 32 := ~~~ run (~~~ s) l
def sum (l : List UInt8) : BitVec 32 := add 0#32 l
theorem add_append (s : BitVec 32) (l m : List UInt8) : add (add s l) m = add s (l ++ m) := by
  unfold add; rw [BitVec.not_not, run_append]
theorem add_nil (s : BitVec 32) : add s [] = s := by unfold add; rw [run_nil, BitVec.not_not]
theorem sum_eq (l : List UInt8) : sum l = ~~~ run 0xffffffff#32 l := by
  unfold sum add; rw [show ~~~ 0#32 = 0xffffffff#32 by decide]

/-- Bytes 00. -/
def zeros (n : BitVec 32) (k : Nat) : BitVec 32 := steps (8 * k) n
theorem zeros_succ (n : BitVec 32) (k : Nat) : zeros n (k + 1) = feed (zeros n k) 0 := by
  unfold zeros; rw [feed_nul, ← steps_add]; rfl

theorem not_eq_xor (n : BitVec 32) : ~~~ n = n ^^^ 0xffffffff#32 := by
  rw [show 0xffffffff#32 = BitVec.allOnes 32 by decide, BitVec.xor_allOnes]

/-- THE JOIN. -/
theorem join (l m : List UInt8) : zeros (sum l) m.length ^^^ sum m = sum (l ++ m) := by
  rw [sum_eq, sum_eq, sum_eq, run_append]
  have e : run (run 0xffffffff#32 l) m = run 0xffffffff#32 m ^^^ steps (8 * m.length) (run 0xffffffff#32 l ^^^ 0xffffffff#32) := by
    rw [← run_xor, BitVec.xor_comm (run _ l), ← BitVec.xor_assoc, BitVec.xor_self, BitVec.zero_xor]
  rw [e]
  unfold zeros
  rw [not_eq_xor (run _ l), not_eq_xor (run _ m), not_eq_xor, ← BitVec.xor_assoc, BitVec.xor_comm (steps _ _)]

/-- A number's four bytes, the lowest first. -/
def le (n : BitVec 32) : List UInt8 := [⟨(n >>> 0).setWidth 8⟩, ⟨(n >>> 8).setWidth 8⟩, ⟨(n >>> 16).setWidth 8⟩, ⟨(n >>> 24).setWidth 8⟩]
theorem le_length (n : BitVec 32) : (le n).length = 4 := rfl
/-- A sealed text. -/
def sealed (l : List UInt8) : List UInt8 := l ++ le (sum l)
theorem sealed_length (l : List UInt8) : (sealed l).length = l.length + 4 := by unfold sealed; rw [List.length_append, le_length]

end Go.Proofs.YtghmhheolbobpaaDoor.Crc
