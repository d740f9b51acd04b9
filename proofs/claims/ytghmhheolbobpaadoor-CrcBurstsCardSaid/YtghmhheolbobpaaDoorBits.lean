/- Plain facts on CRC-32 bit by bit: the register is linear in the bits of a text, a burst of at most 32 bits turns it, and so a sealed text of which such a burst is turned is not unsealed. No program in sight; no conditions. -/
import Derived.Test.YtghmhheolbobpaaDoorCrc
namespace Go.Proofs.YtghmhheolbobpaaDoor.Crc

def bit (b : Bool) : BitVec 32 := if b then 1#32 else 0#32
theorem bit_xor (a b : Bool) : bit (a ^^ b) = bit a ^^^ bit b := by cases a <;> cases b <;> decide

/-- The first m bits, one by one. -/
def brun (f : Nat → Bool) : Nat → BitVec 32 → BitVec 32
  | 0, n => n
  | m + 1, n => step (brun f m n ^^^ bit (f m))

theorem brun_xor (f g : Nat → Bool) (m : Nat) (a b : BitVec 32) : brun (fun j => f j ^^ g j) m (a ^^^ b) = brun f m a ^^^ brun g m b := by
  induction m with
  | zero => rfl
  | succ m ih => simp only [brun, ih, bit_xor]; rw [xor4, step_xor]

theorem brun_congr {f g : Nat → Bool} {m : Nat} (h : ∀ j, j < m → f j = g j) (n : BitVec 32) : brun f m n = brun g m n := by
  induction m with
  | zero => rfl
  | succ m ih => simp only [brun]; rw [ih (fun j hj => h j (by omega)), h m (by omega)]

theorem brun_add (f : Nat → Bool) (a b : Nat) (n : BitVec 32) : brun f (a + b) n = brun (fun j => f (a + j)) b (brun f a n) := by
  induction b with
  | zero => rfl
  | succ b ih => rw [← Nat.add_assoc]; simp only [brun, ih]

/-- The first m bits as one number. -/
def pack (f : Nat → Bool) : Nat → BitVec 32
  | 0 => 0#32
  | m + 1 => pack f m ^^^ (bit (f m) <<< m)

theorem steps_out (k : Nat) (n : BitVec 32) : steps (k + 1) n = step (steps k n) := by rw [steps_add]; rfl
theorem steps_one : ∀ m : Nat, m < 32 → steps m (1#32 <<< m) = 1#32 := by decide +kernel
theorem steps_bit (b : Bool) (m : Nat) (h : m < 32) : steps m (bit b <<< m) = bit b := by
  cases b with
  | true => exact steps_one m h
  | false =>
    have e : bit false <<< m = 0#32 := by
      unfold bit
      apply BitVec.eq_of_toNat_eq
      rw [BitVec.toNat_shiftLeft]
      simp
    rw [e, steps_zero]; rfl
theorem brun_pack (f : Nat → Bool) (m : Nat) (h : m ≤ 32) (n : BitVec 32) : brun f m n = steps m (n ^^^ pack f m) := by
  induction m with
  | zero => simp [brun, pack, steps]
  | succ m ih =>
    simp only [brun, pack]
    rw [ih (by omega), steps_out, ← BitVec.xor_assoc, steps_xor m _ (bit (f m) <<< m), steps_bit _ _ (by omega)]
theorem one_bit : ∀ m : Nat, m < 32 → ∀ j : Nat, j < 32 → (1#32 <<< m).getLsbD j = decide (j = m) := by decide +kernel
theorem bit_at (b : Bool) (m j : Nat) (hm : m < 32) (hj : j < 32) : (bit b <<< m).getLsbD j = (b && decide (j = m)) := by
  cases b with
  | true => rw [Bool.true_and]; exact one_bit m hm j hj
  | false =>
    have e : bit false <<< m = 0#32 := by
      unfold bit
      apply BitVec.eq_of_toNat_eq
      rw [BitVec.toNat_shiftLeft]
      simp
    rw [e]; simp
theorem pack_bit (f : Nat → Bool) (m : Nat) (h : m ≤ 32) (j : Nat) (hj : j < 32) : (pack f m).getLsbD j = (decide (j < m) && f j) := by
  induction m with
  | zero => simp [pack]
  | succ m ih =>
    simp only [pack]
    rw [BitVec.getLsbD_xor, ih (by omega), bit_at _ _ _ (by omega) hj]
    by_cases h1 : j = m
    · subst h1; simp
    · by_cases h2 : j < m
      · have : j < m + 1 := by omega
        simp [h1, h2, this]
      · have : ¬ j < m + 1 := by omega
        simp [h1, h2, this]

theorem brun_false {f : Nat → Bool} {m : Nat} (h : ∀ j, j < m → f j = false) (n : BitVec 32) : brun f m n = steps m n := by
  induction m with
  | zero => rfl
  | succ m ih =>
    simp only [brun]
    rw [ih (fun j hj => h j (by omega)), h m (by omega), steps_out]
    congr 1
    exact BitVec.xor_zero

/-- A burst of at most 32 bits, from a place on: no trace is left only where nothing is turned. -/
theorem burst {e : Nat → Bool} {frm N : Nat} (h0 : ∀ j, j < frm → e j = false) (h1 : ∀ j, frm + 32 ≤ j → e j = false) (h : brun e N 0#32 = 0#32) : ∀ j, j < N → e j = false := by
  intro j hj
  by_cases hf : j < frm
  · exact h0 j hf
  · by_cases hg : frm + 32 ≤ j
    · exact h1 j hg
    · have hN : N = frm + (N - frm) := by omega
      rw [hN, brun_add, brun_false h0, steps_zero] at h
      have key : ∀ m, m ≤ 32 → j - frm < m → brun (fun j => e (frm + j)) m 0#32 = 0#32 → e j = false := by
        intro m hm hjm hz
        rw [brun_pack _ _ hm, BitVec.zero_xor] at hz
        have hp := steps_eq_zero m hz
        have hb := pack_bit (fun j => e (frm + j)) m hm (j - frm) (by omega)
        rw [hp] at hb
        have : frm + (j - frm) = j := by omega
        simp only [this] at hb
        simpa [hjm] using hb
      by_cases hs : N - frm ≤ 32
      · exact key (N - frm) hs (by omega) h
      · have h2 : N - frm = 32 + (N - frm - 32) := by omega
        rw [h2, brun_add] at h
        rw [brun_false (fun j hj => h1 _ (by omega))] at h
        exact key 32 (by omega) (by omega) (steps_eq_zero _ h)

/-- A bit of a text: a byte's lowest bit is the first. -/
def bitAt (l : List UInt8) (j : Nat) : Bool := (l.getD (j / 8) 0).toBitVec.getLsbD (j % 8)

theorem feed_brun (n : BitVec 32) (b : UInt8) : feed n b = brun (fun j => b.toBitVec.getLsbD j) 8 n := by
  rw [brun_pack _ _ (by omega)]
  unfold feed
  congr 2
  apply BitVec.eq_of_getLsbD_eq
  intro j hj
  rw [pack_bit _ _ (by omega) _ hj, BitVec.getLsbD_setWidth]
  by_cases h8 : j < 8
  · simp [h8, hj]
  · rw [BitVec.getLsbD_of_ge _ _ (by omega)]; simp

theorem run_brun (n : BitVec 32) (l : List UInt8) : run n l = brun (bitAt l) (8 * l.length) n := by
  have key : ∀ k, k ≤ l.length → run n (l.take k) = brun (bitAt l) (8 * k) n := by
    intro k
    induction k with
    | zero => intro _; rfl
    | succ k ih =>
      intro hk
      rw [List.take_succ_eq_append_getElem (by omega), run_snoc, ih (by omega), feed_brun, Nat.mul_add, brun_add]
      apply brun_congr
      intro j hj
      unfold bitAt
      have e2 : (8 * k + j) / 8 = k := by omega
      have e3 : (8 * k + j) % 8 = j := by omega
      rw [e2, e3, List.getD_eq_getElem?_getD, List.getElem?_eq_getElem (by omega)]
      rfl
  have h := key l.length (Nat.le_refl _)
  rwa [List.take_length] at h

theorem le_bit (x : BitVec 32) (j : Nat) (hj : j < 32) : bitAt (le x) j = x.getLsbD j := by
  unfold bitAt le
  have hd : j / 8 = 0 ∨ j / 8 = 1 ∨ j / 8 = 2 ∨ j / 8 = 3 := by omega
  rcases hd with h | h | h | h
  all_goals
    rw [h]
    show (BitVec.setWidth 8 _).getLsbD (j % 8) = _
    rw [BitVec.getLsbD_setWidth, BitVec.getLsbD_ushiftRight]
    have h8 : j % 8 < 8 := by omega
    simp only [h8, decide_true, Bool.true_and]
    congr 1
    omega

theorem run_le (n x : BitVec 32) : run n (le x) = steps 32 (n ^^^ x) := by
  rw [run_brun, le_length, brun_pack _ _ (by omega)]
  congr 2
  apply BitVec.eq_of_getLsbD_eq
  intro j hj
  rw [pack_bit _ _ (by omega) _ hj, le_bit x j hj]
  simp [hj]

/-- What the register holds behind any sealed text. -/
theorem run_sealed (l : List UInt8) : run 0xffffffff#32 (sealed l) = steps 32 0xffffffff#32 := by
  unfold sealed
  rw [run_append, sum_eq, run_le, not_eq_xor, ← BitVec.xor_assoc, BitVec.xor_self, BitVec.zero_xor]

/-- A sealed text's bits, some of them turned within 32 behind one another: sealed again only where none is turned. -/
theorem sealed_burst {l m u : List UInt8} {e : Nat → Bool} {frm : Nat} (h0 : ∀ j, j < frm → e j = false) (h1 : ∀ j, frm + 32 ≤ j → e j = false)
    (hl : m.length = (sealed l).length) (hb : ∀ j, j < 8 * m.length → bitAt m j = (bitAt (sealed l) j ^^ e j)) (hm : m = sealed u) : ∀ j, j < 8 * m.length → e j = false := by
  apply burst h0 h1
  have h2 : run 0xffffffff#32 m = run 0xffffffff#32 (sealed l) := by rw [run_sealed, hm, run_sealed]
  rw [run_brun, run_brun, brun_congr hb, ← hl] at h2
  have h3 := brun_xor (bitAt (sealed l)) e (8 * m.length) 0xffffffff#32 0#32
  rw [BitVec.xor_zero] at h3
  rw [h3] at h2
  have := congrArg (fun x => brun (bitAt (sealed l)) (8 * m.length) 0xffffffff#32 ^^^ x) h2
  simp only [← BitVec.xor_assoc, BitVec.xor_self, BitVec.zero_xor] at this
  exact this

theorem eq_of_bits {l m : List UInt8} (hl : l.length = m.length) (h : ∀ j, j < 8 * l.length → bitAt l j = bitAt m j) : l = m := by
  apply List.ext_getElem hl
  intro i h1 h2
  have : l[i].toBitVec = m[i].toBitVec := by
    apply BitVec.eq_of_getLsbD_eq
    intro j hj
    have := h (8 * i + j) (by omega)
    unfold bitAt at this
    rw [show (8 * i + j) / 8 = i by omega, show (8 * i + j) % 8 = j by omega, List.getD_eq_getElem?_getD, List.getD_eq_getElem?_getD, List.getElem?_eq_getElem h1, List.getElem?_eq_getElem h2] at this
    exact this
  exact UInt8.eq_of_toBitVec_eq this

/-- One bit turned. -/
def flipAt (l : List UInt8) (k : Nat) : List UInt8 := l.set (k / 8) (l.getD (k / 8) 0 ^^^ ⟨(1#8) <<< (k % 8)⟩)
theorem flipAt_length (l : List UInt8) (k : Nat) : (flipAt l k).length = l.length := by unfold flipAt; rw [List.length_set]
theorem one_byte : ∀ m : Nat, m < 8 → ∀ j : Nat, j < 8 → (1#8 <<< m).getLsbD j = decide (j = m) := by decide
theorem flipAt_bit (l : List UInt8) (k j : Nat) (hk : k < 8 * l.length) : bitAt (flipAt l k) j = (bitAt l j ^^ decide (j = k)) := by
  unfold bitAt flipAt
  have hj8 : j % 8 < 8 := by omega
  by_cases h : j / 8 = k / 8
  · rw [h, List.getD_eq_getElem?_getD, List.getElem?_set_self (by omega)]
    show ((l.getD (k / 8) 0).toBitVec ^^^ (1#8 <<< (k % 8))).getLsbD (j % 8) = _
    rw [BitVec.getLsbD_xor, one_byte _ (by omega) _ hj8]
    congr 1
    rw [decide_eq_decide]
    omega
  · rw [List.getD_eq_getElem?_getD, List.getElem?_set_ne (by omega), ← List.getD_eq_getElem?_getD]
    have : ¬ j = k := by intro e; subst e; exact h rfl
    simp [this]

/-- Is the i-th bit of the burst turned? -/
def hits (n frm : Nat) (x : BitVec 32) (i : Nat) : Bool := x.getLsbD i && decide (frm + i < 8 * n)
/-- The text behind i rounds. -/
def flips (l : List UInt8) (frm : Nat) (x : BitVec 32) : Nat → List UInt8
  | 0 => l
  | i + 1 => if hits l.length frm x i then flipAt (flips l frm x i) (frm + i) else flips l frm x i
/-- Has any bit been turned? -/
def turned (n frm : Nat) (x : BitVec 32) : Nat → Bool
  | 0 => false
  | i + 1 => turned n frm x i || hits n frm x i
theorem flips_length (l : List UInt8) (frm : Nat) (x : BitVec 32) (i : Nat) : (flips l frm x i).length = l.length := by
  induction i with
  | zero => rfl
  | succ i ih =>
    simp only [flips]
    split
    · rw [flipAt_length, ih]
    · exact ih
theorem turned_iff (n frm : Nat) (x : BitVec 32) (i : Nat) : turned n frm x i = true ↔ ∃ k, k < i ∧ hits n frm x k = true := by
  induction i with
  | zero => simp [turned]
  | succ i ih =>
    simp only [turned, Bool.or_eq_true, ih]
    constructor
    · rintro (⟨k, h1, h2⟩ | h)
      · exact ⟨k, by omega, h2⟩
      · exact ⟨i, by omega, h⟩
    · rintro ⟨k, h1, h2⟩
      by_cases hk : k = i
      · subst hk; exact .inr h2
      · exact .inl ⟨k, by omega, h2⟩
/-- What is turned, place by place. -/
def err (n frm : Nat) (x : BitVec 32) (i j : Nat) : Bool := decide (frm ≤ j ∧ j < frm + i) && hits n frm x (j - frm)
theorem flips_bit (l : List UInt8) (frm : Nat) (x : BitVec 32) (i : Nat) (j : Nat) : bitAt (flips l frm x i) j = (bitAt l j ^^ err l.length frm x i j) := by
  induction i with
  | zero =>
    have : err l.length frm x 0 j = false := by
      unfold err
      rw [decide_eq_false (by omega)]; rfl
    rw [this, Bool.xor_false]; rfl
  | succ i ih =>
    simp only [flips]
    by_cases hh : hits l.length frm x i = true
    · have hk : frm + i < 8 * l.length := by
        unfold hits at hh
        simp only [Bool.and_eq_true, decide_eq_true_eq] at hh
        exact hh.2
      rw [if_pos hh, flipAt_bit _ _ _ (by rw [flips_length]; exact hk), ih, Bool.xor_assoc]
      congr 1
      unfold err
      by_cases hj : j = frm + i
      · subst hj
        have e : frm + i - frm = i := by omega
        simp [e, hh]
      · by_cases h2 : frm ≤ j ∧ j < frm + i
        · have h3 : frm ≤ j ∧ j < frm + (i + 1) := by omega
          simp [hj, h2, h3]
        · have h3 : ¬ (frm ≤ j ∧ j < frm + (i + 1)) := by omega
          simp [hj, h2, h3]
    · rw [if_neg hh, ih]
      congr 1
      unfold err
      by_cases hj : j = frm + i
      · subst hj
        have e : frm + i - frm = i := by omega
        have hf : hits l.length frm x i = false := by simpa using hh
        simp [e, hf]
      · by_cases h2 : frm ≤ j ∧ j < frm + i
        · have h3 : frm ≤ j ∧ j < frm + (i + 1) := by omega
          simp [h2, h3]
        · have h3 : ¬ (frm ≤ j ∧ j < frm + (i + 1)) := by omega
          simp [h2, h3]

/-- THE BURST: nothing turned: the sealed text itself; something turned: no sealed text. -/
theorem flips_same {l : List UInt8} {frm : Nat} {x : BitVec 32} (h : turned l.length frm x 32 = false) : flips l frm x 32 = l := by
  apply eq_of_bits (flips_length _ _ _ _)
  intro j hj
  rw [flips_bit]
  have : err l.length frm x 32 j = false := by
    cases he : err l.length frm x 32 j with
    | false => rfl
    | true =>
      unfold err at he
      simp only [Bool.and_eq_true, decide_eq_true_eq] at he
      have := (turned_iff l.length frm x 32).2 ⟨j - frm, by omega, he.2⟩
      rw [h] at this; cases this
  rw [this, Bool.xor_false]
theorem flips_not {l u : List UInt8} {frm : Nat} {x : BitVec 32} (h : turned (sealed l).length frm x 32 = true) : flips (sealed l) frm x 32 ≠ sealed u := by
  intro hu
  obtain ⟨k, hk, hh⟩ := (turned_iff _ _ _ _).1 h
  have hlen := flips_length (sealed l) frm x 32
  have hk8 : frm + k < 8 * (sealed l).length := by
    unfold hits at hh
    simp only [Bool.and_eq_true, decide_eq_true_eq] at hh
    exact hh.2
  have := sealed_burst (l := l) (u := u) (m := flips (sealed l) frm x 32) (e := err (sealed l).length frm x 32) (frm := frm)
    (fun j hj => by have : ¬ (frm ≤ j ∧ j < frm + 32) := by omega
                    simp [err, this])
    (fun j hj => by have : ¬ (frm ≤ j ∧ j < frm + 32) := by omega
                    simp [err, this])
    hlen (fun j _ => flips_bit _ _ _ _ _) hu (frm + k) (by rw [hlen]; exact hk8)
  unfold err at this
  have e : frm + k - frm = k := by omega
  rw [e, hh] at this
  have h3 : frm ≤ frm + k ∧ frm + k < frm + 32 := by omega
  simp [h3] at this

end Go.Proofs.YtghmhheolbobpaaDoor.Crc
