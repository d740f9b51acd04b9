/- Contracts of crc.Add, crc.Zeros, crc.Join and of the document's Sum and Zeros. Conditions: the table's cells hold what its initialiser lays; a text's length is within the form's reach. -/
import Derived.Test.YtghmhheolbobpaaDoorLeafs
namespace Go.Proofs.YtghmhheolbobpaaDoor
open Go.RowKit Crc
attribute [local go_sem] xor_U

theorem take_snoc (s : ByteArray) (k : Nat) (h : k < s.size) : s.data.toList.take (k + 1) = s.data.toList.take k ++ [s[k]] := by
  rw [List.take_succ_eq_append_getElem (by simpa using h)]; rfl
theorem run_take (s : ByteArray) (k : Nat) (h : k < s.size) (n : BitVec 32) : feed (run n (s.data.toList.take k)) s[k] = run n (s.data.toList.take (k + 1)) := by
  rw [take_snoc s k h, run_snoc]
theorem take_all (s : ByteArray) : s.data.toList.take s.size = s.data.toList := List.take_of_length_le (by simp)

theorem not_U (n : BitVec 32) : bits .xor .u32 (IntKind.max .u32) (U n) = U (~~~ n) := by
  rw [show IntKind.max .u32 = U 0xffffffff#32 by decide, xor_U, BitVec.xor_comm, ← not_eq_xor]
theorem sub_U (n : BitVec 32) : ((4294967295 : Int) - U n) % (4294967296 : Int) = U (~~~ n) := by
  have := n.isLt
  unfold U; rw [BitVec.toNat_not]; omega
set_option maxHeartbeats 400000 in
theorem add_any (n : BitVec 32) (s : ByteArray) (w : World) (_ht : Tab w) (hs : s.size ≤ maxLen) :
    Calls Tryd.prog 14 #[.int .u32 (U n), .string s] w fun e w' => e = .returned (.int .u32 (U (add n s.data.toList))) ∧ w = w' := by
  unfold maxLen at hs
  go_enter Tryd.func14, Tryd.ntmps14
  go_wp2
  go_loop [5, 11] (fun n' i => ∃ k : Nat, k ≤ s.size ∧ i = .int .i64 k ∧ n' = .int .u32 (U (run (~~~ n) (s.data.toList.take k)))) (fun _ i => s.size - (intOf i).toNat)
  case atStart => exact ⟨0, by omega, rfl, by rw [not_U]; rfl⟩
  case round =>
    obtain ⟨k, hk, rfl, rfl⟩ := hrel
    go_wp2_with (go_at_call 23; refine (feed_any _ _ _ _ht).mono ?_; rintro e w' ⟨rfl, rfl⟩)
    · go_round
      case rel => exact ⟨k + 1, by omega, by go_num, by rw [run_take]⟩
      case measure => simp [intOf]; omega
    · go_ret
      obtain rfl : k = s.size := by omega
      exact ⟨ret_int (by rw [take_all, not_U]; rfl), rfl⟩
set_option maxHeartbeats 400000 in
theorem rsum_any (s : ByteArray) (w : World) (hs : s.size ≤ maxLen) :
    Calls Tryd.prog 13 #[.string s] w fun e w' => e = .returned (.int .u32 (U (Crc.sum s.data.toList))) ∧ w = w' := by
  unfold maxLen at hs
  go_enter Tryd.func13, Tryd.ntmps13
  go_wp2
  go_loop [3, 4] (fun n' i => ∃ k : Nat, k ≤ s.size ∧ i = .int .i64 k ∧ n' = .int .u32 (U (run 0xffffffff#32 (s.data.toList.take k)))) (fun _ i => s.size - (intOf i).toNat)
  case atStart => exact ⟨0, by omega, rfl, rfl⟩
  case round =>
    obtain ⟨k, hk, rfl, rfl⟩ := hrel
    go_wp2_with (go_at_call 11; refine (rfeed_any _ _ _).mono ?_; rintro e w' ⟨rfl, rfl⟩)
    · go_round
      case rel => exact ⟨k + 1, by omega, by go_num, by rw [run_take]⟩
      case measure => simp [intOf]; omega
    · go_ret
      obtain rfl : k = s.size := by omega
      exact ⟨ret_int (by rw [take_all, sum_eq, sub_U]), rfl⟩
set_option maxHeartbeats 400000 in
theorem zeros_any (n : BitVec 32) (k : Int) (w : World) (_ht : Tab w) (hk : k ≤ 1048576) :
    Calls Tryd.prog 20 #[.int .u32 (U n), .int .i64 k] w fun e w' => e = .returned (.int .u32 (U (zeros n k.toNat))) ∧ w = w' := by
  go_enter Tryd.func20, Tryd.ntmps20
  go_wp2
  all_goals go_loop [0, 7] (fun n' i => ∃ j : Nat, j ≤ k.toNat ∧ i = .int .i64 j ∧ n' = .int .u32 (U (zeros n j))) (fun _ i => k.toNat - (intOf i).toNat)
  case atStart => exact ⟨0, by omega, rfl, rfl⟩
  case round =>
    obtain ⟨j, hj, rfl, rfl⟩ := hrel
    go_wp2_with (go_at_call 23; refine (feed_any _ 0 _ _ht).mono ?_; rintro e w' ⟨rfl, rfl⟩)
    · go_round
      case rel => exact ⟨j + 1, by omega, by go_num, by rw [zeros_succ]⟩
      case measure => simp [intOf]; omega
    · go_ret
      obtain rfl : j = k.toNat := by omega
      exact ⟨rfl, rfl⟩
set_option maxHeartbeats 400000 in
theorem rzeros_any (n : BitVec 32) (k : Int) (w : World) (hk : k ≤ 1048576) :
    Calls Tryd.prog 19 #[.int .u32 (U n), .int .i64 k] w fun e w' => e = .returned (.int .u32 (U (zeros n k.toNat))) ∧ w = w' := by
  go_enter Tryd.func19, Tryd.ntmps19
  go_wp2
  go_loop [0, 5] (fun n' i => ∃ j : Nat, j ≤ k.toNat ∧ i = .int .i64 j ∧ n' = .int .u32 (U (zeros n j))) (fun _ i => k.toNat - (intOf i).toNat)
  case atStart => exact ⟨0, by omega, rfl, rfl⟩
  case round =>
    obtain ⟨j, hj, rfl, rfl⟩ := hrel
    by_cases hlt : (j : Int) < k
    · have h2 : (j : Int) < 1048576 := by omega
      go_wp2_with (go_at_call 11; refine (rfeed_any _ 0 _).mono ?_; rintro e w' ⟨rfl, rfl⟩)
      go_round
      case rel => exact ⟨j + 1, by omega, by go_num, by rw [zeros_succ]⟩
      case measure => simp [intOf]; omega
    · have hd : decide ((j : Int) < k) = false := by simpa using hlt
      go_wp2
      go_ret
      obtain rfl : j = k.toNat := by omega
      exact ⟨rfl, rfl⟩
theorem join_any (a b : BitVec 32) (k : Int) (w : World) (_ht : Tab w) (hk : k ≤ 1048576) :
    Calls Tryd.prog 21 #[.int .u32 (U a), .int .u32 (U b), .int .i64 k] w fun e w' => e = .returned (.int .u32 (U (zeros a k.toNat ^^^ b))) ∧ w = w' := by
  go_enter Tryd.func21, Tryd.ntmps21
  go_wp2_with (go_at_call 20; refine (zeros_any _ _ _ _ht hk).mono ?_; rintro e w' ⟨rfl, rfl⟩)
  go_ret
  exact ⟨rfl, rfl⟩
end Go.Proofs.YtghmhheolbobpaaDoor
