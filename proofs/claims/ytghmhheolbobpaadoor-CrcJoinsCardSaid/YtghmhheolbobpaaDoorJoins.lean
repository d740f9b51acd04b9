/- CrcJoins returns true, whatever the texts: the join of two sums is the sum of both texts. Condition: the table's cells hold what its initialiser lays. -/
import Derived.Test.YtghmhheolbobpaaDoorRefs
namespace Go.Proofs.YtghmhheolbobpaaDoor
open Go.RowKit Crc

/-- Two texts, one behind the other. -/
def both (s t : ByteArray) : List UInt8 := s.data.toList ++ t.data.toList
theorem join_texts (s t : ByteArray) (w : World) (ht : Tab w) (hs : t.size ≤ 4000) :
    Calls Tryd.prog 21 #[.int .u32 (U (Crc.sum s.data.toList)), .int .u32 (U (Crc.sum t.data.toList)), .int .i64 (t.size : Int)] w fun e w' => e = .returned (.int .u32 (U (Crc.sum (both s t)))) ∧ w = w' := by
  have h := join_any (Crc.sum s.data.toList) (Crc.sum t.data.toList) (t.size : Int) w ht (by omega)
  have e : zeros (Crc.sum s.data.toList) (t.size : Int).toNat ^^^ Crc.sum t.data.toList = Crc.sum (both s t) := by
    unfold both
    rw [← join, Int.toNat_natCast]
    congr 2
  rw [e] at h
  exact h
theorem add_texts (s t : ByteArray) (w : World) (ht : Tab w) (hs : t.size ≤ 4000) :
    Calls Tryd.prog 14 #[.int .u32 (U (Crc.sum s.data.toList)), .string t] w fun e w' => e = .returned (.int .u32 (U (Crc.sum (both s t)))) ∧ w = w' := by
  have h := add_any (Crc.sum s.data.toList) t w ht (by unfold maxLen; omega)
  have e : Crc.add (Crc.sum s.data.toList) t.data.toList = Crc.sum (both s t) := by
    unfold both Crc.sum
    rw [add_append]
  rw [e] at h
  exact h
theorem sum_two (s t : ByteArray) (W : World) (g cap : Nat) (ht : Tab W) (hs : s.size ≤ 4000) (hs' : t.size ≤ 4000) (h0 : W.cell? ⟨g, 0, none⟩ = some (.string s)) (h1 : W.cell? ⟨g, 1, none⟩ = some (.string t)) :
    Calls Tryd.prog 12 #[.slice (some ⟨g, 0, none⟩) 2 cap] W fun e w' => e = .returned (.int .u32 (U (Crc.sum (both s t)))) ∧ W = w' := by
  have h := sum_any (some ⟨g, 0, none⟩) cap [s, t] W ht (by simp [maxLen]) (by
    intro x hx
    unfold maxLen
    rcases List.mem_cons.1 hx with rfl | hx
    · omega
    · rcases List.mem_cons.1 hx with rfl | hx
      · omega
      · cases hx) (fun k hk => ⟨_, rfl, by
    match k, hk with
    | 0, _ => exact h0
    | 1, _ => exact h1⟩)
  have e : flat [s, t] = both s t := by unfold flat both; rw [List.flatMap_cons, List.flatMap_cons, List.flatMap_nil, List.append_nil]
  rw [e] at h
  exact h

set_option maxHeartbeats 400000 in
theorem joinsLaw_great1 (s t : ByteArray) (w : World) (_ht : Tab w) (hs : 4000 < s.size) :
    Calls Tryd.prog 7 #[.string s, .string t] w fun e w' => e = .returned (.bool true) ∧ Below w.heap.size w w' := by
  have hd : decide ((4000 : Int) < (s.size : Int)) = true := by simp; omega
  go_enter Tryd.func7, Tryd.ntmps7
  go_wp2_with fail
  refine (alive_any _ _ht).mono ?_
  rintro e w1 ⟨rfl, hb1⟩
  have ht1 := _ht.below hb1 _ht.pos
  go_wp2_with fail
  refine (alive_any _ ht1).mono ?_
  rintro e w2 ⟨rfl, hb2⟩
  go_wp2
  go_ret
  exact ⟨rfl, hb1.trans (hb2.mono hb1.size)⟩
set_option maxHeartbeats 400000 in
theorem joinsLaw_great2 (s t : ByteArray) (w : World) (_ht : Tab w) (hs : s.size ≤ 4000) (hs' : 4000 < t.size) :
    Calls Tryd.prog 7 #[.string s, .string t] w fun e w' => e = .returned (.bool true) ∧ Below w.heap.size w w' := by
  have hd : decide ((4000 : Int) < (s.size : Int)) = false := by simp; omega
  go_enter Tryd.func7, Tryd.ntmps7
  go_wp2_with fail
  refine (alive_any _ _ht).mono ?_
  rintro e w1 ⟨rfl, hb1⟩
  have ht1 := _ht.below hb1 _ht.pos
  go_wp2_with fail
  refine (alive_any _ ht1).mono ?_
  rintro e w2 ⟨rfl, hb2⟩
  go_wp2
  go_ret
  exact ⟨rfl, hb1.trans (hb2.mono hb1.size)⟩
set_option maxHeartbeats 400000 in
theorem joinsLaw_small (s t : ByteArray) (w : World) (_ht : Tab w) (hs : s.size ≤ 4000) (hs' : t.size ≤ 4000) :
    Calls Tryd.prog 7 #[.string s, .string t] w fun e w' => e = .returned (.bool true) ∧ Below w.heap.size w w' := by
  have hd : decide ((4000 : Int) < (s.size : Int)) = false := by simp; omega
  have hd' : decide ((4000 : Int) < (t.size : Int)) = false := by simp; omega
  go_enter Tryd.func7, Tryd.ntmps7
  go_wp2_with fail
  refine (alive_any _ _ht).mono ?_
  rintro e w1 ⟨rfl, hb1⟩
  have ht1 := _ht.below hb1 _ht.pos
  have ht1' := ht1.alloc (.cells #[.string s, .string t] 9)
  go_wp2_with fail
  refine (sum_two s t _ _ _ ht1' hs hs' (by simp) (by simp)).mono ?_
  rintro e w2 ⟨rfl, rfl⟩
  go_wp2_with fail
  refine (alive_any _ ht1').mono ?_
  rintro e w2 ⟨rfl, hb2⟩
  have ht2 := ht1'.below hb2 ht1'.pos
  have ht3 := ht2.alloc (.cells #[.string s] 9)
  go_wp2_with fail
  refine (sum_one _ _ s _ ht3 (by unfold maxLen; omega) (by simp)).mono ?_
  rintro e w3 ⟨rfl, rfl⟩
  have ht4 := ht3.alloc (.cells #[.string t] 9)
  go_wp2_with fail
  refine (sum_one _ _ t _ ht4 (by unfold maxLen; omega) (by simp)).mono ?_
  rintro e w3 ⟨rfl, rfl⟩
  go_wp2_with fail
  refine (join_texts s t _ ht4 hs').mono ?_
  rintro e w3 ⟨rfl, rfl⟩
  have ht5 := ht4.alloc (.cells #[.string s] 9)
  go_wp2_with fail
  refine (sum_one _ _ s _ ht5 (by unfold maxLen; omega) ((Go.Joins.cell_alloc_mark_at _ _ _ _ _ _ (by simp)).trans rfl)).mono ?_
  rintro e w3 ⟨rfl, rfl⟩
  go_wp2_with fail
  refine (add_texts s t _ ht5 hs').mono ?_
  rintro e w3 ⟨rfl, rfl⟩
  go_wp2
  go_ret
  exact ⟨rfl, below_lay (below_lay (below_lay (below_step (below_lay hb1 _) hb2) _) _) _⟩
/-- CrcJoins: true. -/
theorem joinsLaw (s t : ByteArray) (w : World) (_ht : Tab w) :
    Calls Tryd.prog 7 #[.string s, .string t] w fun e w' => e = .returned (.bool true) ∧ Below w.heap.size w w' := by
  by_cases hs : s.size ≤ 4000
  · by_cases hs' : t.size ≤ 4000
    · exact joinsLaw_small s t w _ht hs hs'
    · exact joinsLaw_great2 s t w _ht hs (by omega)
  · exact joinsLaw_great1 s t w _ht (by omega)
end Go.Proofs.YtghmhheolbobpaaDoor
