/- Contracts of the document's Seal, Unseal and Join, and of the law's own 'alive' and 'great'. Conditions: the table's cells hold what its initialiser lays; texts of at most 4,100 bytes. -/
import Derived.Test.YtghmhheolbobpaaDoorSeals
import Derived.Lib.Split
namespace Go.Proofs.YtghmhheolbobpaaDoor
open Go.RowKit Crc

theorem conv4r (w : World) (n : BitVec 32) :
    (convert 36 9 (.slice (some ⟨w.heap.size, 0, none⟩) 4 4)).run Tryd.prog (w.alloc (.cells #[.int .u8 (U n % (256 : Int)), .int .u8 (U n / (256 : Int) % (256 : Int)), .int .u8 (U n / (65536 : Int) % (256 : Int)), .int .u8 (U n / (16777216 : Int))] 5)) =
      .ok (.string ⟨(le n).toArray⟩) (w.alloc (.cells #[.int .u8 (U n % (256 : Int)), .int .u8 (U n / (256 : Int) % (256 : Int)), .int .u8 (U n / (65536 : Int) % (256 : Int)), .int .u8 (U n / (16777216 : Int))] 5)) := by
  have e : U n / (16777216 : Int) = U n / (16777216 : Int) % (256 : Int) := by
    have h0 := U_lo n
    have h1 := U_hi n
    omega
  rw [e, bytes_U]
  refine run_convert_bytes_back _ 36 9 5 ⟨w.heap.size, 0, none⟩ 4 (le n) Tryd.underlying36 Tryd.underlying5 Tryd.underlying9 fun j hj => ?_
  have e : (⟨w.heap.size, 0, none⟩ : Addr).add j = ⟨w.heap.size, j, none⟩ := by unfold Addr.add; split <;> simp_all
  rw [e, Go.Joins.cell_alloc_mark_at _ _ _ _ _ _ rfl]
  simp [List.getElem?_eq_getElem hj]
set_option maxHeartbeats 400000 in
theorem rseal_any (s : ByteArray) (w : World) (hs : s.size ≤ 4000) :
    Calls Tryd.prog 18 #[.string s] w fun e w' => e = .returned (.string ⟨(sealed s.data.toList).toArray⟩) ∧ Below w.heap.size w w' := by
  have hle : (⟨(le (Crc.sum s.data.toList)).toArray⟩ : ByteArray).size = 4 := rfl
  have h0 := U_lo (Crc.sum s.data.toList)
  have h1 := U_hi (Crc.sum s.data.toList)
  have hcv := conv4r w (Crc.sum s.data.toList)
  go_enter Tryd.func18, Tryd.ntmps18
  go_wp2_with (go_at_call 13; refine (rsum_any s _ (by unfold maxLen; omega)).mono ?_; rintro e w' ⟨rfl, rfl⟩)
  go_ret
  exact ⟨by rw [str_append]; rfl, (Below.refl _ _).alloc (Nat.le_refl _) _⟩

set_option maxHeartbeats 400000 in
theorem runseal_short (s : ByteArray) (w : World) (h4 : s.size < 4) :
    Calls Tryd.prog 16 #[.string s] w fun e w' => e = .returned (.tuple #[.string ByteArray.empty, .bool false]) ∧ Below w.heap.size w w' := by
  have hd : decide ((s.size : Int) < 4) = true := by simp; omega
  go_enter Tryd.func16, Tryd.ntmps16
  go_wp2
  go_ret2
  exact ⟨rfl, Below.refl _ _⟩
set_option maxHeartbeats 400000 in
theorem runseal_no (s : ByteArray) (w : World) (h4 : ¬ s.size < 4) (hs : s.size ≤ 4004) (hne : sealed (front s).data.toList ≠ s.data.toList) :
    Calls Tryd.prog 16 #[.string s] w fun e w' => e = .returned (.tuple #[.string ByteArray.empty, .bool false]) ∧ Below w.heap.size w w' := by
  have hd : decide ((s.size : Int) < 4) = false := by simp; omega
  have hf : (front s).size ≤ 4000 := by unfold front; simp; omega
  have hb : (!sealed (front s).data.toList == s.toList) = true := by rw [Go.ByteArray.toList_eq]; simpa using hne
  clear hne
  go_enter Tryd.func16, Tryd.ntmps16
  go_wp2_with (go_at_call 18; refine (rseal_any (front s) _ hf).mono ?_; rintro e w' ⟨rfl, hbl⟩)
  go_ret2
  exact ⟨rfl, hbl⟩
set_option maxHeartbeats 400000 in
theorem runseal_yes (s : ByteArray) (w : World) (h4 : ¬ s.size < 4) (hs : s.size ≤ 4004) (hne : sealed (front s).data.toList = s.data.toList) :
    Calls Tryd.prog 16 #[.string s] w fun e w' => e = .returned (.tuple #[.string (front s), .bool true]) ∧ Below w.heap.size w w' := by
  have hd : decide ((s.size : Int) < 4) = false := by simp; omega
  have hf : (front s).size ≤ 4000 := by unfold front; simp; omega
  have hb : (!sealed (front s).data.toList == s.toList) = false := by rw [Go.ByteArray.toList_eq]; simpa using hne
  clear hne
  go_enter Tryd.func16, Tryd.ntmps16
  go_wp2_with (go_at_call 18; refine (rseal_any (front s) _ hf).mono ?_; rintro e w' ⟨rfl, hbl⟩)
  go_ret2
  exact ⟨rfl, hbl⟩
theorem runseal_any (s : ByteArray) (w : World) (hs : s.size ≤ 4004) :
    Calls Tryd.prog 16 #[.string s] w fun e w' => e = .returned (.tuple #[.string (unsealed s), .bool (unsealedB s)]) ∧ Below w.heap.size w w' := by
  unfold unsealed
  by_cases h4 : s.size < 4
  · have e : unsealedB s = false := by unfold unsealedB; simp; omega
    rw [e]; exact runseal_short s w h4
  · by_cases hne : sealed (front s).data.toList = s.data.toList
    · have e : unsealedB s = true := by unfold unsealedB; simp only [decide_eq_true_eq]; exact ⟨by omega, hne⟩
      rw [e]; exact runseal_yes s w h4 hs hne
    · have e : unsealedB s = false := by unfold unsealedB; simp [hne]
      rw [e]; exact runseal_no s w h4 hs hne

/-- Sealed and unsealed again. -/
theorem unsealed_sealed (s t : ByteArray) (h : t.data.toList = sealed s.data.toList) : unsealedB t = true ∧ unsealed t = s := by
  have hl : t.size = s.size + 4 := by
    have := congrArg List.length h
    rw [sealed_length] at this
    simpa using this
  have hf : front t = s := by
    unfold front
    apply ByteArray.ext
    apply Array.ext'
    rw [Lib.extract_from_zero, h, hl]
    unfold sealed
    rw [List.take_append_of_le_length (by simp)]
    exact List.take_of_length_le (by simp)
  have hb : unsealedB t = true := by unfold unsealedB; rw [hf, h]; simp; omega
  exact ⟨hb, by unfold unsealed; rw [hb, hf]; rfl⟩

theorem unseal_back (s : ByteArray) (w : World) (_ht : Tab w) (hs : s.size ≤ 4000) :
    Calls Tryd.prog 15 #[.string ⟨(sealed s.data.toList).toArray⟩] w fun e w' => e = .returned (.tuple #[.string s, .bool true]) ∧ Below w.heap.size w w' := by
  have h := unsealed_sealed s ⟨(sealed s.data.toList).toArray⟩ rfl
  have hc := unseal_any ⟨(sealed s.data.toList).toArray⟩ w _ht (by
    show (sealed s.data.toList).toArray.size ≤ 4004
    rw [List.size_toArray, sealed_length]
    simpa using hs)
  rw [h.1, h.2] at hc
  exact hc
theorem sum_check (W : World) (g cap : Nat) (ht : Tab W) (h0 : W.cell? ⟨g, 0, none⟩ = some (.string ⟨#[49, 50, 51, 52]⟩)) (h1 : W.cell? ⟨g, 1, none⟩ = some (.string ⟨#[53, 54, 55, 56, 57]⟩)) :
    Calls Tryd.prog 12 #[.slice (some ⟨g, 0, none⟩) 2 cap] W fun e w' => e = .returned (.int .u32 3421780262) ∧ W = w' := by
  have h := sum_any (some ⟨g, 0, none⟩) cap [⟨#[49, 50, 51, 52]⟩, ⟨#[53, 54, 55, 56, 57]⟩] W ht (by simp [maxLen]) (by
    intro s hs
    rcases List.mem_cons.1 hs with rfl | hs
    · decide
    · rcases List.mem_cons.1 hs with rfl | hs
      · decide
      · cases hs) (fun k hk => ⟨_, rfl, by
    match k, hk with
    | 0, _ => exact h0
    | 1, _ => exact h1⟩)
  have e : U (Crc.sum (flat [⟨#[49, 50, 51, 52]⟩, ⟨#[53, 54, 55, 56, 57]⟩])) = 3421780262 := by decide +kernel
  rw [e] at h
  exact h
theorem below_step {W w1 w2 : World} (h : Below W.heap.size W w1) (k : Below w1.heap.size w1 w2) : Below W.heap.size W w2 := h.trans (k.mono h.size)
theorem below_lay {W w1 : World} (h : Below W.heap.size W w1) (o : Obj) : Below W.heap.size W (w1.alloc o) := h.alloc h.size o
theorem bcell {W w1 : World} (hb : Below W.heap.size W w1) : (∀ b o, b < W.heap.size → w1.cell? ⟨b, o, none⟩ = W.cell? ⟨b, o, none⟩) ∧ (∀ b o, b < W.heap.size → w1.frozen? ⟨b, o, none⟩ = W.frozen? ⟨b, o, none⟩) :=
  ⟨fun b o h => hb.cell (p := ⟨b, o, none⟩) h, fun b o h => hb.frozen (p := ⟨b, o, none⟩) h⟩
set_option maxHeartbeats 400000 in
theorem alive_any (w : World) (_ht : Tab w) : Calls Tryd.prog 8 #[] w fun e w' => e = .returned (.bool true) ∧ Below w.heap.size w w' := by
  go_enter Tryd.func8, Tryd.ntmps8
  go_wp2_with fail
  refine (seal_any ⟨#[97, 98, 99]⟩ _ _ht (by decide)).mono ?_
  rintro e w1 ⟨rfl, hb1⟩
  have ht1 := _ht.below hb1 _ht.pos
  go_wp2_with fail
  refine (unseal_back ⟨#[97, 98, 99]⟩ _ ht1 (by decide)).mono ?_
  rintro e w2 ⟨rfl, hb2⟩
  have ht2 := ht1.below hb2 ht1.pos
  have ht3 := ht2.alloc (.cells #[.string ⟨#[49, 50, 51, 52]⟩, .string ⟨#[53, 54, 55, 56, 57]⟩] 9)
  go_wp2_with fail
  refine (sum_check _ _ _ ht3 (by simp) (by simp)).mono ?_
  rintro e w3 ⟨rfl, rfl⟩
  go_wp2
  go_ret
  exact ⟨rfl, ((hb1.trans (hb2.mono hb1.size)).alloc (Nat.le_trans hb1.size hb2.size) _)⟩
end Go.Proofs.YtghmhheolbobpaaDoor
