/- Contracts of crc.Sum, crc.Seal, crc.Unseal, of the document's Seal, Unseal and Join, and of the law's own 'great'. Conditions: the table's cells hold what its initialiser lays; texts within the form's reach. -/
import Derived.Test.YtghmhheolbobpaaDoorSums
import Derived.Lib.Hide
import Derived.Lib.SmallJoins
namespace Go.Proofs.YtghmhheolbobpaaDoor
open Go.RowKit Crc
attribute [local go_sem] xor_U

/-- A slice value that reads as a list of texts. -/
def Strs (w : World) (A : Option Addr) (l : List ByteArray) : Prop :=
  ∀ k (h : k < l.length), ∃ ad, A = some ad ∧ w.cell? (ad.add k) = some (.string l[k])
/-- The texts, one behind the other. -/
def flat (l : List ByteArray) : List UInt8 := l.flatMap (·.data.toList)
theorem flat_take (l : List ByteArray) (k : Nat) (h : k < l.length) : flat (l.take (k + 1)) = flat (l.take k) ++ l[k].data.toList := by
  unfold flat; rw [List.take_succ_eq_append_getElem h, List.flatMap_append, List.flatMap_cons, List.flatMap_nil, List.append_nil]

theorem sum_none : U (Crc.sum (flat [])) = 0 := by decide
set_option maxHeartbeats 400000 in
theorem sum_any (A : Option Addr) (cap : Nat) (l : List ByteArray) (w : World) (_ht : Tab w) (hl : l.length ≤ maxLen) (hs : ∀ s ∈ l, s.size ≤ maxLen) (hc : Strs w A l) :
    Calls Tryd.prog 12 #[.slice A l.length cap] w fun e w' => e = .returned (.int .u32 (U (Crc.sum (flat l)))) ∧ w = w' := by
  unfold maxLen at hl
  have HS := Lib.hid hs
  have HC := Lib.hid hc
  clear hs hc
  go_enter Tryd.func12, Tryd.ntmps12
  go_wp2
  go_loop [3, 8] (fun n' i => ∃ k : Nat, k ≤ l.length ∧ i = .int .i64 k ∧ n' = .int .u32 (U (Crc.sum (flat (l.take k))))) (fun _ i => l.length - (intOf i).toNat)
  case atStart => exact ⟨0, by omega, rfl, by rw [List.take_zero, sum_none]⟩
  case round =>
    obtain ⟨k, hk, rfl, rfl⟩ := hrel
    by_cases hlt : k < l.length
    · obtain ⟨ad, rfl, hcell⟩ := HC.out k hlt
      go_wp2_with (go_at_call 14; refine (add_any _ _ _ _ht (HS.out _ (List.getElem_mem hlt))).mono ?_; rintro e w' ⟨rfl, rfl⟩)
      go_round
      case rel => exact ⟨k + 1, by omega, by go_num, by rw [flat_take l k hlt]; unfold Crc.sum; rw [add_append]⟩
      case measure => simp [intOf]; omega
    · go_wp2
      go_ret
      obtain rfl : k = l.length := by omega
      exact ⟨ret_int (by rw [List.take_length]), rfl⟩

theorem Tab.below {B : Nat} {w w' : World} (h : Tab w) (hb : Below B w w') (hB : 0 < B) : Tab w' := fun i hi => (hb.cell (p := ⟨0, i, none⟩) hB).trans (h i hi)
theorem Tab.pos {w : World} (h : Tab w) : 0 < w.heap.size := World.block_lt_of_cell? _ _ (h 0 (by omega))
theorem Tab.alloc {w : World} (h : Tab w) (o : Obj) : Tab (w.alloc o) := h.below ((Below.refl _ _).alloc (Nat.le_refl _) _) h.pos
theorem sum_one (g cap : Nat) (s : ByteArray) (w : World) (ht : Tab w) (hs : s.size ≤ maxLen) (hc : w.cell? ⟨g, 0, none⟩ = some (.string s)) :
    Calls Tryd.prog 12 #[.slice (some ⟨g, 0, none⟩) 1 cap] w fun e w' => e = .returned (.int .u32 (U (Crc.sum s.data.toList))) ∧ w = w' := by
  have h := sum_any (some ⟨g, 0, none⟩) cap [s] w ht (by simp [maxLen]) (by simpa using hs) (fun k hk => ⟨_, rfl, by
    obtain rfl : k = 0 := by simpa using hk
    exact hc⟩)
  have e : flat [s] = s.data.toList := by unfold flat; rw [List.flatMap_cons, List.flatMap_nil, List.append_nil]
  rw [e] at h
  exact h

theorem byte_U (n : BitVec 32) (k : Nat) (d : Int) (hd : d = ((2 ^ k : Nat) : Int)) : U n / d % (256 : Int) = ((⟨(n >>> k).setWidth 8⟩ : UInt8).toNat : Int) := by
  subst hd
  unfold U
  rw [show ((⟨(n >>> k).setWidth 8⟩ : UInt8).toNat) = ((n >>> k).setWidth 8).toNat from rfl, BitVec.toNat_setWidth, BitVec.toNat_ushiftRight, Nat.shiftRight_eq_div_pow]
  rw [← Int.natCast_ediv]
  omega
theorem bytes_U (n : BitVec 32) : (#[.int .u8 (U n % (256 : Int)), .int .u8 (U n / (256 : Int) % (256 : Int)), .int .u8 (U n / (65536 : Int) % (256 : Int)), .int .u8 (U n / (16777216 : Int) % (256 : Int))] : Array Value) = ((le n).map fun b => Value.int .u8 (b.toNat : Int)).toArray := by
  have h0 := byte_U n 0 1 rfl
  rw [Int.ediv_one] at h0
  rw [h0, byte_U n 8 256 rfl, byte_U n 16 65536 rfl, byte_U n 24 16777216 rfl]
  rfl
theorem conv4 (w : World) (o : Obj) (n : BitVec 32) :
    (convert 36 9 (.slice (some ⟨w.heap.size + 1, 0, none⟩) 4 4)).run Tryd.prog ((w.alloc o).alloc (.cells #[.int .u8 (U n % (256 : Int)), .int .u8 (U n / (256 : Int) % (256 : Int)), .int .u8 (U n / (65536 : Int) % (256 : Int)), .int .u8 (U n / (16777216 : Int) % (256 : Int))] 44)) =
      .ok (.string ⟨(le n).toArray⟩) ((w.alloc o).alloc (.cells #[.int .u8 (U n % (256 : Int)), .int .u8 (U n / (256 : Int) % (256 : Int)), .int .u8 (U n / (65536 : Int) % (256 : Int)), .int .u8 (U n / (16777216 : Int) % (256 : Int))] 44)) := by
  rw [bytes_U]
  refine run_convert_bytes_back _ 36 9 5 ⟨w.heap.size + 1, 0, none⟩ 4 (le n) Tryd.underlying36 Tryd.underlying5 Tryd.underlying9 fun j hj => ?_
  have e : (⟨w.heap.size + 1, 0, none⟩ : Addr).add j = ⟨w.heap.size + 1, j, none⟩ := by unfold Addr.add; split <;> simp_all
  rw [e, Go.Joins.cell_alloc_mark_at _ _ _ _ _ _ (by simp)]
  simp [List.getElem?_eq_getElem hj]

theorem str_append (s : ByteArray) (l : List UInt8) : s ++ (⟨l.toArray⟩ : ByteArray) = ⟨(s.data.toList ++ l).toArray⟩ := by
  apply ByteArray.ext
  apply Array.ext'
  simp
set_option maxHeartbeats 400000 in
theorem seal_any (s : ByteArray) (w : World) (_ht : Tab w) (hs : s.size ≤ 4000) :
    Calls Tryd.prog 17 #[.string s] w fun e w' => e = .returned (.string ⟨(sealed s.data.toList).toArray⟩) ∧ Below w.heap.size w w' := by
  have htw := _ht.alloc (.cells #[.string s] 9)
  have hcv := conv4 w (.cells #[.string s] 9) (Crc.sum s.data.toList)
  have hle : (⟨(le (Crc.sum s.data.toList)).toArray⟩ : ByteArray).size = 4 := rfl
  go_enter Tryd.func17, Tryd.ntmps17
  go_wp2_with (go_at_call 12; refine (sum_one _ _ s _ htw (by unfold maxLen; omega) (by simp)).mono ?_; rintro e w' ⟨rfl, rfl⟩)
  refine wp_loop_rounds 5 ?_
  rw [rounds_succ]; go_wp2
  rw [rounds_succ]; go_wp2
  rw [rounds_succ]; go_wp2
  rw [rounds_succ]; go_wp2
  rw [rounds_succ]; go_wp2
  go_ret
  exact ⟨by rw [str_append]; rfl, ((Below.refl _ _).alloc (Nat.le_refl _) _).alloc (by simp) _⟩
end Go.Proofs.YtghmhheolbobpaaDoor
