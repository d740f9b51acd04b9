/- A slice of items in memory, and the wire laws' own 'great'. Conditions: the items lie in memory as a slice of structs. -/
import Derived.Test.YtghmhheolbobpaaWireAlive
set_option linter.unusedVariables false
namespace Go.Proofs.Ytghmhheolbobpaa
open Go.RowKit Wire

/-- An item: its kind, two numbers, a text, an id. -/
structure It where
  kind : Int
  n : Int
  most : Int
  s : ByteArray
  id : List UInt8
def It.cells (x : It) : List Value := [.int .i64 x.kind, .int .i64 x.n, .int .i64 x.most, .string x.s] ++ idCells x.id
/-- A slice value that reads as a list of items. -/
def Its (w : World) (A : Option Addr) (l : List It) : Prop :=
  ∀ k (h : k < l.length), ∃ b o, A = some ⟨b, o, none⟩ ∧ w.rangeAt b (o + k * 36) l[k].cells
theorem rangeAt_below {w w' : World} {b o : Nat} {cs : List Value} (h : w.rangeAt b o cs) (hb : Below w.heap.size w w') : w'.rangeAt b o cs := fun j v hv => cell_later hb (h j v hv)
theorem Its.below {w w' : World} {A : Option Addr} {l : List It} (h : Its w A l) (hb : Below w.heap.size w w') : Its w' A l := fun k hk => by
  obtain ⟨b, o, e, hr⟩ := h k hk
  exact ⟨b, o, e, rangeAt_below hr hb⟩
theorem It.at0 {w : World} {b o : Nat} {x : It} (h : w.rangeAt b o x.cells) : w.cell? ⟨b, o, none⟩ = some (.int .i64 x.kind) := h 0 _ rfl
theorem It.at1 {w : World} {b o : Nat} {x : It} (h : w.rangeAt b o x.cells) : w.cell? ⟨b, o + 1, none⟩ = some (.int .i64 x.n) := h 1 _ rfl
theorem It.at2 {w : World} {b o : Nat} {x : It} (h : w.rangeAt b o x.cells) : w.cell? ⟨b, o + 2, none⟩ = some (.int .i64 x.most) := h 2 _ rfl
theorem It.at3 {w : World} {b o : Nat} {x : It} (h : w.rangeAt b o x.cells) : w.cell? ⟨b, o + 3, none⟩ = some (.string x.s) := h 3 _ rfl
theorem It.at4 {w : World} {b o : Nat} {x : It} (h : w.rangeAt b o x.cells) : w.rangeAt b (o + 4) (idCells x.id) := fun j v hv => by
  have := h (4 + j) v (by unfold It.cells; rw [List.getElem?_append_right (by simp)]; simpa using hv)
  rw [← Nat.add_assoc] at this
  exact this

/-- Are there more things than are looked at? -/
def greatB (l : List It) : Bool := decide (60 < l.length) || l.any fun x => decide (500 < x.s.size)
set_option maxHeartbeats 400000 in
theorem great_many (A : Option Addr) (cap : Nat) (l : List It) (w : World) (hl : 60 < l.length) :
    Calls Try.prog 11 #[.slice A l.length cap] w fun e w' => e = .returned (.bool true) ∧ w = w' := by
  go_enter Try.func11, Try.ntmps11
  go_wp2
  go_ret
  exact ⟨rfl, rfl⟩
set_option maxHeartbeats 400000 in
theorem great_few (A : Option Addr) (cap : Nat) (l : List It) (w : World) (hl : l.length ≤ 60) (hs : ∀ x ∈ l, x.s.size ≤ maxLen) (hc : Its w A l) :
    Calls Try.prog 11 #[.slice A l.length cap] w fun e w' => e = .returned (.bool (l.any fun x => decide (500 < x.s.size))) ∧ w = w' := by
  have HS := Lib.hid hs
  have HC := Lib.hid hc
  clear hs hc
  go_enter Try.func11, Try.ntmps11
  go_wp2
  go_loop [3] (fun i => ∃ k : Nat, k ≤ l.length ∧ i = .int .i64 k ∧ Hid ((l.take k).any (fun x => decide (500 < x.s.size)) = false)) (fun i => l.length - (intOf i).toNat)
  case atStart => exact ⟨0, by omega, rfl, Lib.hid rfl⟩
  case round =>
    obtain ⟨k, hk, rfl, H⟩ := hrel
    by_cases hlt : k < l.length
    · obtain ⟨b, o, rfl, hr⟩ := HC.out k hlt
      have hc3 := It.at3 hr
      clear hr
      have hsz := HS.out _ (List.getElem_mem hlt)
      unfold maxLen at hsz
      by_cases hg : 500 < l[k].s.size
      · go_wp2
        go_ret
        refine ⟨?_, rfl⟩
        have : l.any (fun x => decide (500 < x.s.size)) = true := by
          rw [List.any_eq_true]
          exact ⟨l[k], List.getElem_mem hlt, by simpa using hg⟩
        rw [this]; rfl
      · go_wp2
        go_round
        case rel => exact ⟨k + 1, by omega, by go_num, Lib.hid (by rw [List.take_succ_eq_append_getElem hlt, List.any_append, H.out]; simpa using hg)⟩
        case measure => simp [intOf]; omega
    · go_wp2
      go_ret
      obtain rfl : k = l.length := by omega
      have h := H.out
      rw [List.take_length] at h
      exact ⟨by rw [h]; rfl, rfl⟩
theorem great_any (A : Option Addr) (cap : Nat) (l : List It) (w : World) (hs : ∀ x ∈ l, x.s.size ≤ maxLen) (hc : Its w A l) :
    Calls Try.prog 11 #[.slice A l.length cap] w fun e w' => e = .returned (.bool (greatB l)) ∧ w = w' := by
  unfold greatB
  by_cases hl : 60 < l.length
  · have h := great_many A cap l w hl
    simpa [hl] using h
  · have h := great_few A cap l w (by omega) hs hc
    simpa [hl] using h
theorem great_false {l : List It} (h : greatB l = false) : l.length ≤ 60 ∧ ∀ x ∈ l, x.s.size ≤ 500 := by
  unfold greatB at h
  rw [Bool.or_eq_false_iff, List.any_eq_false] at h
  refine ⟨by simpa using h.1, fun s hs => ?_⟩
  have := h.2 s hs
  simpa using this
end Go.Proofs.Ytghmhheolbobpaa
