/- Contracts of crc.Unseal and of the document's Seal and Unseal. Conditions: the table's cells hold what its initialiser lays; texts of at most 4,100 bytes. -/
import Derived.Test.YtghmhheolbobpaaDoorTexts
namespace Go.Proofs.YtghmhheolbobpaaDoor
open Go.RowKit Crc

/-- All but the last four bytes. -/
def front (s : ByteArray) : ByteArray := s.extract 0 (s.size - 4)

set_option maxHeartbeats 400000 in
theorem unseal_short (s : ByteArray) (w : World) (h4 : s.size < 4) :
    Calls Tryd.prog 15 #[.string s] w fun e w' => e = .returned (.tuple #[.string ByteArray.empty, .bool false]) ∧ Below w.heap.size w w' := by
  have hd : decide ((s.size : Int) < 4) = true := by simp; omega
  go_enter Tryd.func15, Tryd.ntmps15
  go_wp2
  go_ret2
  exact ⟨rfl, Below.refl _ _⟩
set_option maxHeartbeats 400000 in
theorem unseal_no (s : ByteArray) (w : World) (_ht : Tab w) (h4 : ¬ s.size < 4) (hs : s.size ≤ 4004) (hne : sealed (front s).data.toList ≠ s.data.toList) :
    Calls Tryd.prog 15 #[.string s] w fun e w' => e = .returned (.tuple #[.string ByteArray.empty, .bool false]) ∧ Below w.heap.size w w' := by
  have hd : decide ((s.size : Int) < 4) = false := by simp; omega
  have hf : (front s).size ≤ 4000 := by unfold front; simp; omega
  have hb : (!sealed (front s).data.toList == s.toList) = true := by rw [Go.ByteArray.toList_eq]; simpa using hne
  clear hne
  go_enter Tryd.func15, Tryd.ntmps15
  go_wp2_with (go_at_call 17; refine (seal_any (front s) _ _ht hf).mono ?_; rintro e w' ⟨rfl, hbl⟩)
  go_ret2
  exact ⟨rfl, hbl⟩
set_option maxHeartbeats 400000 in
theorem unseal_yes (s : ByteArray) (w : World) (_ht : Tab w) (h4 : ¬ s.size < 4) (hs : s.size ≤ 4004) (hne : sealed (front s).data.toList = s.data.toList) :
    Calls Tryd.prog 15 #[.string s] w fun e w' => e = .returned (.tuple #[.string (front s), .bool true]) ∧ Below w.heap.size w w' := by
  have hd : decide ((s.size : Int) < 4) = false := by simp; omega
  have hf : (front s).size ≤ 4000 := by unfold front; simp; omega
  have hb : (!sealed (front s).data.toList == s.toList) = false := by rw [Go.ByteArray.toList_eq]; simpa using hne
  clear hne
  go_enter Tryd.func15, Tryd.ntmps15
  go_wp2_with (go_at_call 17; refine (seal_any (front s) _ _ht hf).mono ?_; rintro e w' ⟨rfl, hbl⟩)
  go_ret2
  exact ⟨rfl, hbl⟩
/-- What is unsealed of a text. -/
def unsealedB (s : ByteArray) : Bool := decide (4 ≤ s.size ∧ sealed (front s).data.toList = s.data.toList)
def unsealed (s : ByteArray) : ByteArray := if unsealedB s then front s else ByteArray.empty
theorem unseal_any (s : ByteArray) (w : World) (_ht : Tab w) (hs : s.size ≤ 4004) :
    Calls Tryd.prog 15 #[.string s] w fun e w' => e = .returned (.tuple #[.string (unsealed s), .bool (unsealedB s)]) ∧ Below w.heap.size w w' := by
  unfold unsealed
  by_cases h4 : s.size < 4
  · have e : unsealedB s = false := by unfold unsealedB; simp; omega
    rw [e]; exact unseal_short s w h4
  · by_cases hne : sealed (front s).data.toList = s.data.toList
    · have e : unsealedB s = true := by unfold unsealedB; simp only [decide_eq_true_eq]; exact ⟨by omega, hne⟩
      rw [e]; exact unseal_yes s w _ht h4 hs hne
    · have e : unsealedB s = false := by unfold unsealedB; simp [hne]
      rw [e]; exact unseal_no s w _ht h4 hs hne
end Go.Proofs.YtghmhheolbobpaaDoor
