/- A slice of parts in memory, and the reference's own 'Great'; an argument of that type, opened. Conditions: the parts lie in memory as a slice of structs. -/
import Derived.Test.YtghmhheolbobpaaItemsRow
set_option linter.unusedVariables false
set_option maxRecDepth 100000
namespace Go.Proofs.Ytghmhheolbobpaa
open Go.ChangeShapes Go.WideShapes Go.ChangeAt Go.RowKit Wire

/-- A part: is it a delta, its base, its text. -/
structure Pt where
  delta : Bool
  base : Int
  text : ByteArray
def Pt.cells (x : Pt) : List Value := [.bool x.delta, .int .i64 x.base, .string x.text]
/-- A slice value that reads as a list of parts. -/
def Pts (w : World) (A : Option Addr) (l : List Pt) : Prop :=
  ∀ k (h : k < l.length), ∃ b o, A = some ⟨b, o, none⟩ ∧ w.rangeAt b (o + k * 3) l[k].cells
theorem Pts.below {w w' : World} {A : Option Addr} {l : List Pt} (h : Pts w A l) (hb : Below w.heap.size w w') : Pts w' A l := fun k hk => by
  obtain ⟨b, o, e, hr⟩ := h k hk
  exact ⟨b, o, e, rangeAt_below hr hb⟩
theorem Pts.take {w : World} {A : Option Addr} {l : List Pt} (h : Pts w A l) (n : Nat) : Pts w A (l.take n) := fun k hk => by
  rw [List.length_take] at hk
  obtain ⟨b, o, e, hr⟩ := h k (by omega)
  exact ⟨b, o, e, by rw [List.getElem_take]; exact hr⟩
theorem Pt.at0 {w : World} {b o : Nat} {x : Pt} (h : w.rangeAt b o x.cells) : w.cell? ⟨b, o, none⟩ = some (.bool x.delta) := h 0 _ rfl
theorem Pt.at1 {w : World} {b o : Nat} {x : Pt} (h : w.rangeAt b o x.cells) : w.cell? ⟨b, o + 1, none⟩ = some (.int .i64 x.base) := h 1 _ rfl
theorem Pt.at2 {w : World} {b o : Nat} {x : Pt} (h : w.rangeAt b o x.cells) : w.cell? ⟨b, o + 2, none⟩ = some (.string x.text) := h 2 _ rfl

/-! ### Great -/
def sizes (l : List Pt) : Nat := (l.map fun x => x.text.size).sum
theorem sizes_take (l : List Pt) (k : Nat) (h : k < l.length) : sizes (l.take (k + 1)) = sizes (l.take k) + l[k].text.size := by
  unfold sizes
  rw [List.take_succ_eq_append_getElem h, List.map_append, List.sum_append]
  simp
theorem sizes_le : ∀ (l : List Pt) (k : Nat), sizes (l.take k) ≤ sizes l
  | [], k => by simp [sizes]
  | x :: l, 0 => by simp [sizes]
  | x :: l, k + 1 => by
    have := sizes_le l k
    unfold sizes at *
    simp only [List.take_succ_cons, List.map_cons, List.sum_cons]
    omega
def greatP (l : List Pt) : Bool := decide (210 < l.length) || decide (30000 < sizes l)
set_option maxHeartbeats 400000 in
theorem greatP_many (A : Option Addr) (cap : Nat) (l : List Pt) (w : World) (hl : 210 < l.length) :
    Calls Try.prog 28 #[.slice A l.length cap] w fun e w' => e = .returned (.bool true) ∧ w = w' := by
  go_enter Try.func28, Try.ntmps28
  go_wp2
  go_ret
  exact ⟨rfl, rfl⟩
set_option maxHeartbeats 400000 in
theorem greatP_few (A : Option Addr) (cap : Nat) (l : List Pt) (w : World) (hl : l.length ≤ 210) (hs : ∀ x ∈ l, x.text.size ≤ 4611686018427387904) (hc : Pts w A l) :
    Calls Try.prog 28 #[.slice A l.length cap] w fun e w' => e = .returned (.bool (decide (30000 < sizes l))) ∧ w = w' := by
  have HS := Lib.hid hs
  have HC := Lib.hid hc
  clear hs hc
  go_enter Try.func28, Try.ntmps28
  go_wp2
  go_loop [3, 4] (fun n i => ∃ k : Nat, k ≤ l.length ∧ i = .int .i64 k ∧ n = .int .i64 (sizes (l.take k) : Nat) ∧ Hid (sizes (l.take k) ≤ 30000)) (fun _ i => l.length - (intOf i).toNat)
  case atStart => exact ⟨0, by omega, rfl, rfl, Lib.hid (by simp [sizes])⟩
  case round =>
    obtain ⟨k, hk, rfl, rfl, H⟩ := hrel
    by_cases hlt : k < l.length
    · obtain ⟨b, o, rfl, hr⟩ := HC.out k hlt
      have hc2 := Pt.at2 hr
      clear hr
      have hsz := HS.out _ (List.getElem_mem hlt)
      have h30 := H.out
      have hst := sizes_take l k hlt
      have hle := sizes_le l (k + 1)
      by_cases hg : 30000 < sizes (l.take k) + l[k].text.size
      · go_wp2
        go_ret
        refine ⟨?_, rfl⟩
        rw [decide_eq_true (show 30000 < sizes l by omega)]
        rfl
      · go_wp2
        go_round
        case rel => exact ⟨k + 1, by omega, by go_num, by rw [hst]; go_num, Lib.hid (by omega)⟩
        case measure => simp [intOf]; omega
    · go_wp2
      go_ret
      obtain rfl : k = l.length := by omega
      have h := H.out
      rw [List.take_length] at h
      refine ⟨?_, rfl⟩
      rw [decide_eq_false (show ¬ 30000 < sizes l by omega)]
      rfl
end Go.Proofs.Ytghmhheolbobpaa
