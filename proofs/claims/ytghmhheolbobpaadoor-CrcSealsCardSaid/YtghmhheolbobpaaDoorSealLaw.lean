/- CrcSeals returns true, whatever the text: sealing and unsealing are the document's, and what was sealed is unsealed. Condition: the table's cells hold what its initialiser lays. -/
import Derived.Test.YtghmhheolbobpaaDoorRefs
namespace Go.Proofs.YtghmhheolbobpaaDoor
open Go.RowKit Crc

set_option maxHeartbeats 400000 in
theorem sealsLaw_great (s : ByteArray) (w : World) (_ht : Tab w) (hs : 4000 < s.size) :
    Calls Tryd.prog 4 #[.string s] w fun e w' => e = .returned (.bool true) ∧ Below w.heap.size w w' := by
  go_enter Tryd.func4, Tryd.ntmps4
  go_wp2_with fail
  refine (alive_any _ _ht).mono ?_
  rintro e w1 ⟨rfl, hb1⟩
  have ht1 := _ht.below hb1 _ht.pos
  go_wp2_with fail
  refine (alive_any _ ht1).mono ?_
  rintro e w2 ⟨rfl, hb2⟩
  go_wp2
  go_ret
  exact ⟨rfl, below_step hb1 hb2⟩
set_option maxHeartbeats 400000 in
theorem sealsLaw_small (s : ByteArray) (w : World) (_ht : Tab w) (hs : s.size ≤ 4000) :
    Calls Tryd.prog 4 #[.string s] w fun e w' => e = .returned (.bool true) ∧ Below w.heap.size w w' := by
  go_enter Tryd.func4, Tryd.ntmps4
  go_wp2_with fail
  refine (alive_any _ _ht).mono ?_
  rintro e w1 ⟨rfl, hb1⟩
  have ht1 := _ht.below hb1 _ht.pos
  go_wp2_with fail
  refine (unseal_any s _ ht1 (by omega)).mono ?_
  rintro e w2 ⟨rfl, hb2⟩
  have ht2 := ht1.below hb2 ht1.pos
  go_wp2_with fail
  refine (runseal_any s _ (by omega)).mono ?_
  rintro e w3 ⟨rfl, hb3⟩
  have ht3 := ht2.below hb3 ht2.pos
  go_wp2_with fail
  refine (seal_any s _ ht3 hs).mono ?_
  rintro e w4 ⟨rfl, hb4⟩
  have ht4 := ht3.below hb4 ht3.pos
  go_wp2_with fail
  refine (unseal_back s _ ht4 hs).mono ?_
  rintro e w5 ⟨rfl, hb5⟩
  have ht5 := ht4.below hb5 ht4.pos
  go_wp2_with fail
  refine (alive_any _ ht5).mono ?_
  rintro e w6 ⟨rfl, hb6⟩
  have ht6 := ht5.below hb6 ht5.pos
  go_wp2_with fail
  refine (seal_any s _ ht6 hs).mono ?_
  rintro e w7 ⟨rfl, hb7⟩
  go_wp2_with fail
  refine (rseal_any s _ hs).mono ?_
  rintro e w8 ⟨rfl, hb8⟩
  go_wp2
  go_ret
  exact ⟨rfl, below_step (below_step (below_step (below_step (below_step (below_step (below_step hb1 hb2) hb3) hb4) hb5) hb6) hb7) hb8⟩
/-- CrcSeals: true. -/
theorem sealsLaw (s : ByteArray) (w : World) (_ht : Tab w) :
    Calls Tryd.prog 4 #[.string s] w fun e w' => e = .returned (.bool true) ∧ Below w.heap.size w w' := by
  by_cases hs : s.size ≤ 4000
  · exact sealsLaw_small s w _ht hs
  · exact sealsLaw_great s w _ht (by omega)
end Go.Proofs.YtghmhheolbobpaaDoor
