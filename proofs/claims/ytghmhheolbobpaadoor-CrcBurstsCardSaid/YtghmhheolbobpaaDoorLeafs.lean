/- Contracts of the leaf functions of the CRC laws: crc.feed and sedimentref02.Step. Conditions: the table's cells hold what its initialiser lays. -/
import Derived.Test.YtghmhheolbobpaaDoorRows
import Derived.Test.YtghmhheolbobpaaDoorCrc
import Derived.WalkKit
import Derived.WalkSpells
import Derived.WalkLawsBesides
namespace Go.Proofs.YtghmhheolbobpaaDoor
open Go.RowKit Crc

/-- A 32-bit number as Go's value holds it. -/
def U (x : BitVec 32) : Int := x.toNat
theorem U_lo (x : BitVec 32) : 0 ≤ U x := by unfold U; omega
theorem U_hi (x : BitVec 32) : U x < 4294967296 := by unfold U; have := x.isLt; omega

theorem xor_U (a b : BitVec 32) : bits .xor .u32 (U a) (U b) = U (a ^^^ b) := by
  unfold U; rw [u32_xor_nat _ _ a.isLt b.isLt, BitVec.toNat_xor]
theorem and15_U (a : BitVec 32) : bits .and .u32 (U a) 15 = U (a &&& 15#32) := by
  unfold U; rw [show (15 : Int) = ((15 : Nat) : Int) by rfl, u32_and_nat _ _ a.isLt (by omega), BitVec.toNat_and]; rfl

/-- Some half bytes by the table. -/
def halves : Nat → BitVec 32 → BitVec 32
  | 0, n => n
  | k + 1, n => half (halves k n)

/-- The table lies in block 0. -/
def Tab (w : World) : Prop := ∀ i : Nat, i < 16 → w.cell? ⟨0, i, none⟩ = some (.int .u32 (U (steps 4 (BitVec.ofNat 32 i))))

theorem xor_byte (n : BitVec 32) (b : UInt8) : bits .xor .u32 (U n) ((b.toNat : Int) % 4294967296) = U (n ^^^ b.toBitVec.setWidth 32) := by
  have e : ((b.toNat : Int) % 4294967296) = U (b.toBitVec.setWidth 32) := by
    unfold U
    have := b.toNat_lt
    rw [BitVec.toNat_setWidth, UInt8.toNat_toBitVec]
    omega
  rw [e, xor_U]

theorem div16_U (a : BitVec 32) : U a / (16 : Int) = U (a >>> 4) := by
  unfold U; rw [BitVec.toNat_ushiftRight, Nat.shiftRight_eq_div_pow]; omega
theorem and15_lt (a : BitVec 32) : U (a &&& 15#32) < 16 := by
  unfold U; rw [BitVec.toNat_and]
  have := Nat.and_le_right (n := a.toNat) (m := (15#32).toNat)
  have e : (15#32).toNat = 15 := rfl
  omega
theorem Tab.cell {w : World} (h : Tab w) (a : BitVec 32) : w.cell? ⟨0, (U (a &&& 15#32)).toNat, none⟩ = some (.int .u32 (U (steps 4 (a &&& 15#32)))) := by
  have h1 := and15_lt a
  have h2 := U_lo (a &&& 15#32)
  have := h (U (a &&& 15#32)).toNat (by omega)
  rw [this]
  congr 5
  apply BitVec.eq_of_toNat_eq
  rw [BitVec.toNat_ofNat]
  unfold U at h1 ⊢
  rw [Int.toNat_natCast]
  omega

attribute [local go_sem] xor_U and15_U xor_byte

set_option maxHeartbeats 400000 in
theorem feed_any (n : BitVec 32) (b : UInt8) (w : World) (_ht : Tab w) :
    Calls Tryd.prog 23 #[.int .u32 (U n), .int .u8 (b.toNat : Int)] w fun e w' => e = .returned (.int .u32 (U (feed n b))) ∧ w = w' := by
  go_enter Tryd.func23, Tryd.ntmps23
  go_wp2
  go_loop [0, 9] (fun n' i => ∃ k : Nat, k ≤ 2 ∧ i = .int .i64 k ∧ n' = .int .u32 (U (halves k (n ^^^ b.toBitVec.setWidth 32)))) (fun _ i => 2 - (intOf i).toNat)
  case atStart => exact ⟨0, by omega, rfl, rfl⟩
  case round =>
    obtain ⟨k, hk, rfl, rfl⟩ := hrel
    have h1 := and15_lt (halves k (n ^^^ b.toBitVec.setWidth 32))
    have h2 := U_lo (halves k (n ^^^ b.toBitVec.setWidth 32) &&& 15#32)
    have hc := _ht.cell (halves k (n ^^^ b.toBitVec.setWidth 32))
    go_wp2
    · go_round
      case rel => exact ⟨k + 1, by omega, by go_num, by rw [div16_U, xor_U]; rfl⟩
      case measure => simp [intOf]; omega
    · go_ret
      obtain rfl : k = 2 := by omega
      exact ⟨by rw [← feed_half]; rfl, rfl⟩

/-- sedimentref02.Step: one step, bit by bit. -/
theorem half_U (n : BitVec 32) : (U n).tdiv 2 % (4294967296 : Int) = U (n >>> 1) := by
  have h := n.isLt
  unfold U; rw [BitVec.toNat_ushiftRight, Nat.shiftRight_eq_div_pow, Int.tdiv_eq_ediv_of_nonneg (by omega)]; omega
theorem odd_U (n : BitVec 32) : U n % (2 : Int) = if n.getLsbD 0 then 1 else 0 := by
  unfold U
  rw [BitVec.getLsbD, Nat.testBit_zero]
  by_cases h : n.toNat % 2 = 1
  · simp [h]; omega
  · simp [h]; omega
theorem odd_pos {n : BitVec 32} (h : U n % (2 : Int) = 1) : n.getLsbD 0 = true := by
  rw [odd_U] at h
  cases h0 : n.getLsbD 0 with
  | true => rfl
  | false => rw [h0] at h; simp at h
theorem odd_neg {n : BitVec 32} (h : U n % (2 : Int) = 0) : ¬ n.getLsbD 0 = true := by
  rw [odd_U] at h
  intro h0
  rw [h0] at h; simp at h
theorem ret_int {k : IntKind} {a b : Int} (h : a = b) : Ending.returned (.int k a) = .returned (.int k b) := by rw [h]
set_option maxHeartbeats 400000 in
theorem step_odd (n : BitVec 32) (w : World) (h : U n % (2 : Int) = 1) :
    Calls Tryd.prog 22 #[.int .u32 (U n)] w fun e w' => e = .returned (.int .u32 (U (Crc.step n))) ∧ w = w' := by
  have h0 := U_lo n
  go_enter Tryd.func22, Tryd.ntmps22
  go_wp2
  go_ret
  exact ⟨ret_int (by rw [half_U, show (3988292384 : Int) = U 0xedb88320#32 by rfl, xor_U]; unfold Crc.step; rw [if_pos (odd_pos h)]), rfl⟩
set_option maxHeartbeats 400000 in
theorem step_even (n : BitVec 32) (w : World) (h : U n % (2 : Int) = 0) :
    Calls Tryd.prog 22 #[.int .u32 (U n)] w fun e w' => e = .returned (.int .u32 (U (Crc.step n))) ∧ w = w' := by
  have h0 := U_lo n
  go_enter Tryd.func22, Tryd.ntmps22
  go_wp2
  go_ret
  exact ⟨ret_int (by rw [half_U]; unfold Crc.step; rw [if_neg (odd_neg h), BitVec.xor_zero]), rfl⟩
theorem step_any (n : BitVec 32) (w : World) :
    Calls Tryd.prog 22 #[.int .u32 (U n)] w fun e w' => e = .returned (.int .u32 (U (Crc.step n))) ∧ w = w' := by
  by_cases h : U n % (2 : Int) = 1
  · exact step_odd n w h
  · exact step_even n w (by omega)

/-- Some steps, the last one outermost. -/
theorem steps_succ (k : Nat) (n : BitVec 32) : Crc.step (steps k n) = steps (k + 1) n := by
  rw [steps_add]; rfl
set_option maxHeartbeats 400000 in
theorem rfeed_any (n : BitVec 32) (b : UInt8) (w : World) :
    Calls Tryd.prog 11 #[.int .u32 (U n), .int .u8 (b.toNat : Int)] w fun e w' => e = .returned (.int .u32 (U (feed n b))) ∧ w = w' := by
  go_enter Tryd.func11, Tryd.ntmps11
  go_wp2
  go_loop [0, 5] (fun n' i => ∃ k : Nat, k ≤ 8 ∧ i = .int .i64 k ∧ n' = .int .u32 (U (steps k (n ^^^ b.toBitVec.setWidth 32)))) (fun _ i => 8 - (intOf i).toNat)
  case atStart => exact ⟨0, by omega, rfl, rfl⟩
  case round =>
    obtain ⟨k, hk, rfl, rfl⟩ := hrel
    go_wp2_with (go_at_call 22; refine (step_any _ _).mono ?_; rintro e w' ⟨rfl, rfl⟩)
    · go_round
      case rel => exact ⟨k + 1, by omega, by go_num, by rw [steps_succ]⟩
      case measure => simp [intOf]; omega
    · go_ret
      obtain rfl : k = 8 := by omega
      exact ⟨rfl, rfl⟩
end Go.Proofs.YtghmhheolbobpaaDoor
