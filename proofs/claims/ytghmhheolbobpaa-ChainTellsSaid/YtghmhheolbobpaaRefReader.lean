/- Contracts of the reference's Reader: Number, Raw, End. Conditions: the reader lies in a block of its own, its place within the text, the text within the form's reach. -/
import Derived.Test.YtghmhheolbobpaaReadNum
set_option linter.unusedVariables false
set_option maxRecDepth 100000
namespace Go.Proofs.Ytghmhheolbobpaa
open Go.RowKit Wire

/-- The reference's reader in block b: its text, its place, its first error. -/
def Rr (b : Nat) (s : ByteArray) (at_ : Nat) (err : Int) (w : World) : Prop := w.heap[b]? = some (.cells #[.string s, .int .i64 (at_ : Int), .int .i64 err] 102 (0, 0))
section
variable {b : Nat} {s : ByteArray} {p : Nat} {err : Int} {w : World}
theorem Rr.cell0 (h : Rr b s p err w) : w.cell? ⟨b, 0, none⟩ = some (.string s) := by rw [Lib.cell_of_heap h]; rfl
theorem Rr.cell1 (h : Rr b s p err w) : w.cell? ⟨b, 1, none⟩ = some (.int .i64 (p : Int)) := by rw [Lib.cell_of_heap h]; rfl
theorem Rr.cell2 (h : Rr b s p err w) : w.cell? ⟨b, 2, none⟩ = some (.int .i64 err) := by rw [Lib.cell_of_heap h]; rfl
theorem Rr.frozen (h : Rr b s p err w) (i : Nat) : w.frozen? ⟨b, i, none⟩ = false := Lib.frozen_of_heap h i
theorem Rr.lt (h : Rr b s p err w) : b < w.heap.size := by
  rcases Nat.lt_or_ge b w.heap.size with h' | h'
  · exact h'
  · unfold Rr at h; simp [Array.getElem?_eq_none h'] at h
theorem Rr.drewN (h : Rr b s p err w) (n : Nat) : Rr b s p err (w.drewN n) := h
theorem Rr.drew (h : Rr b s p err w) : Rr b s p err w.drew := h
theorem Rr.alloc (h : Rr b s p err w) (o : Obj) : Rr b s p err (w.alloc o) := (Lib.alloc_old w o b h.lt).trans h
theorem Rr.setAt (h : Rr b s p err w) (q : Nat) : Rr b s q err (w.setCell ⟨b, 1, none⟩ (.int .i64 (q : Int))) := by
  unfold Rr at h ⊢
  simp [World.setCell, Array.getElem?_modify, h]
theorem Rr.setErr (h : Rr b s p err w) (e : Int) : Rr b s p e (w.setCell ⟨b, 2, none⟩ (.int .i64 e)) := by
  unfold Rr at h ⊢
  simp [World.setCell, Array.getElem?_modify, h]
end
theorem rend_err (b : Nat) (s : ByteArray) (p : Nat) (err : Int) (w : World) (h : Rr b s p err w) (he : err ≠ 0) :
    Calls Try.prog 55 #[.pointer (some ⟨b, 0, none⟩)] w fun e w' => e = .returned (.int .i64 (endOf s p err)) ∧ Rr b s p err w' ∧ Ko b w w' := by
  have hb : (!err == 0) = true := by simpa using he
  have hb' : (err == 0) = false := by simpa using he
  have c2 := h.cell2
  go_enter Try.func55, Try.ntmps55
  go_wp2
  go_ret
  exact ⟨by unfold endOf; rw [if_neg he]; rfl, h, Ko.refl _ _⟩
theorem rend_ok (b : Nat) (s : ByteArray) (p : Nat) (w : World) (h : Rr b s p 0 w) (hs : s.size ≤ maxLen) :
    Calls Try.prog 55 #[.pointer (some ⟨b, 0, none⟩)] w fun e w' => e = .returned (.int .i64 (endOf s p 0)) ∧ Rr b s p 0 w' ∧ Ko b w w' := by
  have c0 := h.cell0
  have c1 := h.cell1
  have c2 := h.cell2
  unfold maxLen at hs
  go_enter Try.func55, Try.ntmps55
  go_wp2
  go_quiet (fail)
  by_cases hp : p < s.size
  · go_wp2
    go_ret
    exact ⟨by unfold endOf; rw [if_pos rfl, if_pos hp]; rfl, h.drewN _, (Ko.refl _ _).drewN _⟩
  · go_wp2
    go_ret
    exact ⟨by unfold endOf; rw [if_pos rfl, if_neg hp]; rfl, h.drewN _, (Ko.refl _ _).drewN _⟩
theorem rend_any (b : Nat) (s : ByteArray) (p : Nat) (err : Int) (w : World) (h : Rr b s p err w) (hs : s.size ≤ maxLen) :
    Calls Try.prog 55 #[.pointer (some ⟨b, 0, none⟩)] w fun e w' => e = .returned (.int .i64 (endOf s p err)) ∧ Rr b s p err w' ∧ Ko b w w' := by
  by_cases he : err = 0
  · subst he; exact rend_ok b s p w h hs
  · exact rend_err b s p err w h he
theorem rraw_err (b : Nat) (s : ByteArray) (p : Nat) (err n : Int) (w : World) (h : Rr b s p err w) (he : err ≠ 0) :
    Calls Try.prog 54 #[.pointer (some ⟨b, 0, none⟩), .int .i64 n] w fun e w' => e = .returned (.string ByteArray.empty) ∧ Rr b s p err w' ∧ Ko b w w' := by
  have hb : (!err == 0) = true := by simpa using he
  have hb' : (err == 0) = false := by simpa using he
  have c2 := h.cell2
  go_enter Try.func54, Try.ntmps54
  go_wp2
  go_ret
  exact ⟨rfl, h, Ko.refl _ _⟩
theorem rraw_short (b : Nat) (s : ByteArray) (p : Nat) (n : Int) (w : World) (h : Rr b s p 0 w) (hs : s.size ≤ maxLen) (hp : p ≤ s.size) (hn : 0 ≤ n) (hsh : (s.size : Int) - (p : Int) < n) :
    Calls Try.prog 54 #[.pointer (some ⟨b, 0, none⟩), .int .i64 n] w fun e w' => e = .returned (.string ByteArray.empty) ∧ Rr b s p 3 w' ∧ Ko b w w' := by
  have c0 := h.cell0
  have c1 := h.cell1
  have c2 := h.cell2
  have f2 := h.frozen 2
  unfold maxLen at hs
  go_enter Try.func54, Try.ntmps54
  go_wp2
  go_quiet (fail)
  go_wp2
  go_ret
  exact ⟨rfl, (h.drewN _).setErr 3, ((Ko.refl _ _).drewN _).setCell 2 _⟩
theorem rraw_ok (b : Nat) (s : ByteArray) (p n : Nat) (w : World) (h : Rr b s p 0 w) (hs : s.size ≤ maxLen) (hp : p + n ≤ s.size) :
    Calls Try.prog 54 #[.pointer (some ⟨b, 0, none⟩), .int .i64 (n : Int)] w fun e w' => e = .returned (.string (s.extract p (p + n))) ∧ Rr b s (p + n) 0 w' ∧ Ko b w w' := by
  have c0 := h.cell0
  have c1 := h.cell1
  have c2 := h.cell2
  have f1 := h.frozen 1
  unfold maxLen at hs
  go_enter Try.func54, Try.ntmps54
  go_wp2
  go_quiet (fail)
  go_wp2
  go_quiet (fail)
  go_wp2
  go_ret
  exact ⟨rfl, (h.drewN _).setAt (p + n), ((Ko.refl _ _).drewN _).setCell 1 _⟩
theorem rnumber_err (b : Nat) (s : ByteArray) (p : Nat) (err most : Int) (w : World) (h : Rr b s p err w) (he : err ≠ 0) :
    Calls Try.prog 53 #[.pointer (some ⟨b, 0, none⟩), .int .i64 most] w fun e w' => e = .returned (.int .i64 0) ∧ Rr b s p err w' ∧ Ko b w w' := by
  have hb : (!err == 0) = true := by simpa using he
  have hb' : (err == 0) = false := by simpa using he
  have c2 := h.cell2
  go_enter Try.func53, Try.ntmps53
  go_wp2
  go_ret
  exact ⟨rfl, h, Ko.refl _ _⟩
end Go.Proofs.Ytghmhheolbobpaa
