/- CrcSums returns true, whatever the parts: the sum of the parts is that of the joined text, by table as bit by bit. Conditions: the table's cells hold what its initialiser lays; the parts lie in memory as a slice of texts. -/
import Derived.Test.YtghmhheolbobpaaDoorRefs
namespace Go.Proofs.YtghmhheolbobpaaDoor
open Go.RowKit Crc

/-- Are there more parts, or longer ones, than are looked at? -/
def greatB (l : List ByteArray) : Bool := decide (40 < l.length) || l.any fun s => decide (1000 < s.size)

set_option maxHeartbeats 400000 in
theorem great_many (A : Option Addr) (cap : Nat) (l : List ByteArray) (w : World) (hl : 40 < l.length) :
    Calls Tryd.prog 9 #[.slice A l.length cap] w fun e w' => e = .returned (.bool true) ∧ w = w' := by
  go_enter Tryd.func9, Tryd.ntmps9
  go_wp2
  go_ret
  exact ⟨rfl, rfl⟩
set_option maxHeartbeats 400000 in
theorem great_few (A : Option Addr) (cap : Nat) (l : List ByteArray) (w : World) (hl : l.length ≤ 40) (hs : ∀ s ∈ l, s.size ≤ maxLen) (hc : Strs w A l) :
    Calls Tryd.prog 9 #[.slice A l.length cap] w fun e w' => e = .returned (.bool (l.any fun s => decide (1000 < s.size))) ∧ w = w' := by
  have HS := Lib.hid hs
  have HC := Lib.hid hc
  clear hs hc
  go_enter Tryd.func9, Tryd.ntmps9
  go_wp2
  go_loop [3] (fun i => ∃ k : Nat, k ≤ l.length ∧ i = .int .i64 k ∧ Hid ((l.take k).any (fun s => decide (1000 < s.size)) = false)) (fun i => l.length - (intOf i).toNat)
  case atStart => exact ⟨0, by omega, rfl, Lib.hid rfl⟩
  case round =>
    obtain ⟨k, hk, rfl, H⟩ := hrel
    by_cases hlt : k < l.length
    · obtain ⟨ad, rfl, hcell⟩ := HC.out k hlt
      have hsz := HS.out _ (List.getElem_mem hlt)
      unfold maxLen at hsz
      by_cases hg : 1000 < l[k].size
      · go_wp2
        go_ret
        refine ⟨?_, rfl⟩
        have : l.any (fun s => decide (1000 < s.size)) = true := by
          rw [List.any_eq_true]
          exact ⟨l[k], List.getElem_mem hlt, by simpa using hg⟩
        rw [this]; rfl
      · go_wp2
        go_round
        case rel => exact ⟨k + 1, by omega, by go_num, Lib.hid (by rw [List.take_succ_eq_append_getElem hlt, List.any_append, H.out]; simpa using hg)⟩
        case measure => simp [intOf]; omega
    · go_wp2
      go_ret
      obtain rfl : k = l.length := by omega
      have h := H.out
      rw [List.take_length] at h
      exact ⟨by rw [h]; rfl, rfl⟩
theorem great_any (A : Option Addr) (cap : Nat) (l : List ByteArray) (w : World) (hs : ∀ s ∈ l, s.size ≤ maxLen) (hc : Strs w A l) :
    Calls Tryd.prog 9 #[.slice A l.length cap] w fun e w' => e = .returned (.bool (greatB l)) ∧ w = w' := by
  unfold greatB
  by_cases hl : 40 < l.length
  · have h := great_many A cap l w hl
    simpa [hl] using h
  · have h := great_few A cap l w (by omega) hs hc
    simpa [hl] using h

/-- The joined text. -/
def flatB (l : List ByteArray) : ByteArray := ⟨(flat l).toArray⟩
theorem flatB_data (l : List ByteArray) : (flatB l).data.toList = flat l := rfl
theorem flatB_snoc (l : List ByteArray) (k : Nat) (h : k < l.length) : flatB (l.take k) ++ l[k] = flatB (l.take (k + 1)) := by
  unfold flatB
  rw [flat_take l k h]
  apply ByteArray.ext
  apply Array.ext'
  simp
theorem flat_len (l : List ByteArray) (h : ∀ s ∈ l, s.size ≤ 1000) : (flat l).length ≤ 1000 * l.length := by
  induction l with
  | nil => simp [flat]
  | cons a l ih =>
    have h1 := h a List.mem_cons_self
    have h2 := ih (fun s hs => h s (List.mem_cons_of_mem _ hs))
    have e : flat (a :: l) = a.data.toList ++ flat l := rfl
    rw [e, List.length_append, List.length_cons]
    have : a.data.toList.length = a.size := by simp
    omega
set_option maxHeartbeats 400000 in
theorem rjoin_any (A : Option Addr) (cap : Nat) (l : List ByteArray) (w : World) (hl : l.length ≤ 40) (hs : ∀ s ∈ l, s.size ≤ 1000) (hc : Strs w A l) :
    Calls Tryd.prog 10 #[.slice A l.length cap] w fun e w' => e = .returned (.string (flatB l)) ∧ w = w' := by
  have HS := Lib.hid hs
  have HC := Lib.hid hc
  clear hs hc
  go_enter Tryd.func10, Tryd.ntmps10
  go_wp2
  go_loop [3, 4] (fun t i => ∃ k : Nat, k ≤ l.length ∧ i = .int .i64 k ∧ t = .string (flatB (l.take k))) (fun _ i => l.length - (intOf i).toNat)
  case atStart => exact ⟨0, by omega, rfl, rfl⟩
  case round =>
    obtain ⟨k, hk, rfl, rfl⟩ := hrel
    by_cases hlt : k < l.length
    · obtain ⟨ad, rfl, hcell⟩ := HC.out k hlt
      have hsz := HS.out _ (List.getElem_mem hlt)
      have hfl : (flatB (l.take k)).size ≤ 40000 := by
        have h := flat_len (l.take k) (fun s h => HS.out s (List.mem_of_mem_take h))
        rw [List.length_take] at h
        show (flat (l.take k)).toArray.size ≤ 40000
        rw [List.size_toArray]
        omega
      go_wp2
      go_round
      case rel => exact ⟨k + 1, by omega, by go_num, by rw [flatB_snoc l k hlt]⟩
      case measure => simp [intOf]; omega
    · go_wp2
      go_ret
      obtain rfl : k = l.length := by omega
      exact ⟨by rw [List.take_length]; rfl, rfl⟩

theorem Strs.below {w w' : World} {A : Option Addr} {l : List ByteArray} (h : Strs w A l) (hb : Below w.heap.size w w') : Strs w' A l := fun k hk => by
  obtain ⟨ad, e, hc⟩ := h k hk
  exact ⟨ad, e, cell_later hb hc⟩
theorem great_false {l : List ByteArray} (h : greatB l = false) : l.length ≤ 40 ∧ ∀ s ∈ l, s.size ≤ 1000 := by
  unfold greatB at h
  rw [Bool.or_eq_false_iff, List.any_eq_false] at h
  refine ⟨by simpa using h.1, fun s hs => ?_⟩
  have := h.2 s hs
  simpa using this
theorem rsum_flat (l : List ByteArray) (w : World) (hl : (flat l).length ≤ maxLen) :
    Calls Tryd.prog 13 #[.string (flatB l)] w fun e w' => e = .returned (.int .u32 (U (Crc.sum (flat l)))) ∧ w = w' :=
  rsum_any (flatB l) w (by show (flat l).toArray.size ≤ maxLen; rwa [List.size_toArray])
theorem add_flat (x : BitVec 32) (l : List ByteArray) (w : World) (ht : Tab w) (hl : (flat l).length ≤ maxLen) :
    Calls Tryd.prog 14 #[.int .u32 (U x), .string (flatB l)] w fun e w' => e = .returned (.int .u32 (U (Crc.add x (flat l)))) ∧ w = w' :=
  add_any x (flatB l) w ht (by show (flat l).toArray.size ≤ maxLen; rwa [List.size_toArray])
set_option maxHeartbeats 400000 in
theorem sumsLaw_great (A : Option Addr) (cap : Nat) (l : List ByteArray) (x : BitVec 32) (w : World) (_ht : Tab w) (hs : ∀ s ∈ l, s.size ≤ maxLen) (hc : Strs w A l) (hg : greatB l = true) :
    Calls Tryd.prog 3 #[.slice A l.length cap, .int .u32 (U x)] w fun e w' => e = .returned (.bool true) ∧ Below w.heap.size w w' := by
  have HS := Lib.hid hs
  have HC := Lib.hid hc
  have HG := Lib.hid hg
  clear hs hc hg
  go_enter Tryd.func3, Tryd.ntmps3
  go_wp2_with fail
  refine (alive_any _ _ht).mono ?_
  rintro e w1 ⟨rfl, hb1⟩
  have ht1 := _ht.below hb1 _ht.pos
  go_wp2_with fail
  refine (great_any A cap l _ HS.out (HC.out.below hb1)).mono ?_
  rintro e w2 ⟨rfl, rfl⟩
  rw [HG.out]
  go_wp2_with fail
  refine (alive_any _ ht1).mono ?_
  rintro e w2 ⟨rfl, hb2⟩
  go_wp2
  go_ret
  exact ⟨rfl, below_step hb1 hb2⟩
set_option maxHeartbeats 400000 in
theorem sumsLaw_small (A : Option Addr) (cap : Nat) (l : List ByteArray) (x : BitVec 32) (w : World) (_ht : Tab w) (hc : Strs w A l) (hg : greatB l = false) :
    Calls Tryd.prog 3 #[.slice A l.length cap, .int .u32 (U x)] w fun e w' => e = .returned (.bool true) ∧ Below w.heap.size w w' := by
  have hl := (great_false hg).1
  have HS := Lib.hid (great_false hg).2
  have hfl : (flat l).length ≤ 40000 := by
    have := flat_len l (great_false hg).2
    omega
  have hfb : (flatB l).size ≤ 40000 := by show (flat l).toArray.size ≤ 40000; rwa [List.size_toArray]
  have HF := Lib.hid hfl
  have HC := Lib.hid hc
  have HG := Lib.hid hg
  clear hc hg hfl
  go_enter Tryd.func3, Tryd.ntmps3
  go_wp2_with fail
  refine (alive_any _ _ht).mono ?_
  rintro e w1 ⟨rfl, hb1⟩
  have ht1 := _ht.below hb1 _ht.pos
  have HC1 := Lib.hid (HC.out.below hb1)
  go_wp2_with fail
  refine (great_any A cap l _ (fun s hs => by have := HS.out s hs; unfold maxLen; omega) HC1.out).mono ?_
  rintro e w2 ⟨rfl, rfl⟩
  rw [HG.out]
  go_wp2_with fail
  refine (rjoin_any A cap l _ hl HS.out HC1.out).mono ?_
  rintro e w2 ⟨rfl, rfl⟩
  go_wp2_with fail
  go_loop [6, 7] (fun n' i => ∃ k : Nat, k ≤ (flatB l).size ∧ i = .int .i64 k ∧ n' = .int .u32 (U (run (~~~ x) ((flatB l).data.toList.take k)))) (fun _ i => (flatB l).size - (intOf i).toNat)
  case atStart => exact ⟨0, by omega, rfl, by rw [sub_U]; rfl⟩
  case round =>
    obtain ⟨k, hk, rfl, rfl⟩ := hrel
    by_cases hlt : k < (flatB l).size
    · go_wp2_with (go_at_call 11; refine (rfeed_any _ _ _).mono ?_; rintro e w' ⟨rfl, rfl⟩)
      go_round
      case rel => exact ⟨k + 1, by omega, by go_num, by rw [run_take]⟩
      case measure => simp [intOf]; omega
    · have HK := Lib.hid (show k = (flatB l).size by omega)
      rw [HK.out, take_all, flatB_data]
      have hfin : ((4294967295 : Int) - U (run (~~~ x) (flat l))) % (4294967296 : Int) = U (Crc.add x (flat l)) := by rw [sub_U]; rfl
      go_wp2_with fail
      refine (alive_any _ ht1).mono ?_
      rintro e w2 ⟨rfl, hb2⟩
      have ht2 := ht1.below hb2 ht1.pos
      go_wp2_with fail
      refine (sum_any A cap l _ ht2 (by unfold maxLen; omega) (fun s hs => by have := HS.out s hs; unfold maxLen; omega) (HC1.out.below hb2)).mono ?_
      rintro e w3 ⟨rfl, rfl⟩
      go_wp2_with fail
      refine (rsum_flat l _ (by have := HF.out; unfold maxLen; omega)).mono ?_
      rintro e w3 ⟨rfl, rfl⟩
      go_wp2_with fail
      refine (add_flat x l _ ht2 (by have := HF.out; unfold maxLen; omega)).mono ?_
      rintro e w3 ⟨rfl, rfl⟩
      go_wp2
      go_ret
      exact ⟨rfl, below_step hb1 hb2⟩
/-- CrcSums: true. -/
theorem sumsLaw (A : Option Addr) (cap : Nat) (l : List ByteArray) (x : BitVec 32) (w : World) (_ht : Tab w) (hs : ∀ s ∈ l, s.size ≤ maxLen) (hc : Strs w A l) :
    Calls Tryd.prog 3 #[.slice A l.length cap, .int .u32 (U x)] w fun e w' => e = .returned (.bool true) ∧ Below w.heap.size w w' := by
  cases hg : greatB l with
  | true => exact sumsLaw_great A cap l x w _ht hs hc hg
  | false => exact sumsLaw_small A cap l x w _ht hc hg
end Go.Proofs.YtghmhheolbobpaaDoor
