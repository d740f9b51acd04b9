/- CrcZeros returns true, whatever the numbers: bytes 00 by the table and bit by bit, and the join. Condition: the table's cells hold what its initialiser lays. -/
import Derived.Test.YtghmhheolbobpaaDoorRefs
namespace Go.Proofs.YtghmhheolbobpaaDoor
open Go.RowKit Crc
attribute [local go_sem] xor_U

set_option maxHeartbeats 400000 in
theorem zerosLaw_less (a b : BitVec 32) (n : Int) (w : World) (_ht : Tab w) (hn : n ≤ 5000) :
    Calls Tryd.prog 6 #[.int .u32 (U a), .int .u32 (U b), .int .i64 n] w fun e w' => e = .returned (.bool true) ∧ Below w.heap.size w w' := by
  go_enter Tryd.func6, Tryd.ntmps6
  go_wp2_with fail
  refine (alive_any _ _ht).mono ?_
  rintro e w1 ⟨rfl, hb1⟩
  have ht1 := _ht.below hb1 _ht.pos
  go_wp2_with fail
  refine (rzeros_any _ _ _ (by omega)).mono ?_
  rintro e w2 ⟨rfl, rfl⟩
  go_wp2_with fail
  refine (alive_any _ ht1).mono ?_
  rintro e w2 ⟨rfl, hb2⟩
  have ht2 := ht1.below hb2 ht1.pos
  go_wp2_with fail
  refine (zeros_any _ _ _ ht2 (by omega)).mono ?_
  rintro e w3 ⟨rfl, rfl⟩
  go_wp2_with fail
  refine (join_any _ _ _ _ ht2 (by omega)).mono ?_
  rintro e w3 ⟨rfl, rfl⟩
  go_wp2
  go_ret
  exact ⟨rfl, hb1.trans (hb2.mono hb1.size)⟩
set_option maxHeartbeats 400000 in
theorem zerosLaw_more (a b : BitVec 32) (n : Int) (w : World) (_ht : Tab w) (hn : 5000 < n) :
    Calls Tryd.prog 6 #[.int .u32 (U a), .int .u32 (U b), .int .i64 n] w fun e w' => e = .returned (.bool true) ∧ Below w.heap.size w w' := by
  go_enter Tryd.func6, Tryd.ntmps6
  go_wp2_with fail
  refine (alive_any _ _ht).mono ?_
  rintro e w1 ⟨rfl, hb1⟩
  have ht1 := _ht.below hb1 _ht.pos
  go_wp2_with fail
  refine (rzeros_any _ _ _ (by omega)).mono ?_
  rintro e w2 ⟨rfl, rfl⟩
  go_wp2_with fail
  refine (alive_any _ ht1).mono ?_
  rintro e w2 ⟨rfl, hb2⟩
  have ht2 := ht1.below hb2 ht1.pos
  go_wp2_with fail
  refine (zeros_any _ _ _ ht2 (by omega)).mono ?_
  rintro e w3 ⟨rfl, rfl⟩
  go_wp2_with fail
  refine (join_any _ _ _ _ ht2 (by omega)).mono ?_
  rintro e w3 ⟨rfl, rfl⟩
  go_wp2
  go_ret
  exact ⟨rfl, hb1.trans (hb2.mono hb1.size)⟩
/-- CrcZeros: true. -/
theorem zerosLaw (a b : BitVec 32) (n : Int) (w : World) (_ht : Tab w) :
    Calls Tryd.prog 6 #[.int .u32 (U a), .int .u32 (U b), .int .i64 n] w fun e w' => e = .returned (.bool true) ∧ Below w.heap.size w w' := by
  by_cases hn : n ≤ 5000
  · exact zerosLaw_less a b n w _ht hn
  · exact zerosLaw_more a b n w _ht (by omega)
end Go.Proofs.YtghmhheolbobpaaDoor
