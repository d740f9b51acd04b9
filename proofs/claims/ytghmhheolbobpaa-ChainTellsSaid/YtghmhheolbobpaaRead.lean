/- Contracts of wire.Reader's small methods (NewReader, Err, At, fail, End, Raw), the reader in a block of its own. Conditions: the block is a reader's, its place lies within the text, the text is within the form's reach. -/
import Derived.Test.YtghmhheolbobpaaRows
import Derived.Test.YtghmhheolbobpaaNum
import Derived.WalkKit
import Derived.WalkSpells
import Derived.WalkLawsBesides
import Derived.BigQuiet
import Derived.Deep.QuietTactic
import Derived.Lib.Hide
import Derived.Lib.SmallJoins
import Derived.Lib.Split
import Derived.Lib.Builder
set_option linter.unusedVariables false
namespace Go.Proofs.Ytghmhheolbobpaa
open Go.RowKit Wire

/-- A reader in block b: its text, its place, its first error. -/
def Rd (b : Nat) (s : ByteArray) (at_ : Nat) (err : Int) (w : World) : Prop := w.heap[b]? = some (.cells #[.string s, .int .i64 (at_ : Int), .int .i64 err] 78 (0, 0))
section
variable {b : Nat} {s : ByteArray} {p : Nat} {err : Int} {w : World}
theorem Rd.cell0 (h : Rd b s p err w) : w.cell? ⟨b, 0, none⟩ = some (.string s) := by rw [Lib.cell_of_heap h]; rfl
theorem Rd.cell1 (h : Rd b s p err w) : w.cell? ⟨b, 1, none⟩ = some (.int .i64 (p : Int)) := by rw [Lib.cell_of_heap h]; rfl
theorem Rd.cell2 (h : Rd b s p err w) : w.cell? ⟨b, 2, none⟩ = some (.int .i64 err) := by rw [Lib.cell_of_heap h]; rfl
theorem Rd.frozen (h : Rd b s p err w) (i : Nat) : w.frozen? ⟨b, i, none⟩ = false := Lib.frozen_of_heap h i
theorem Rd.lt (h : Rd b s p err w) : b < w.heap.size := by
  rcases Nat.lt_or_ge b w.heap.size with h' | h'
  · exact h'
  · unfold Rd at h; simp [Array.getElem?_eq_none h'] at h
theorem Rd.drewN (h : Rd b s p err w) (n : Nat) : Rd b s p err (w.drewN n) := h
theorem Rd.drew (h : Rd b s p err w) : Rd b s p err w.drew := h
theorem Rd.alloc (h : Rd b s p err w) (o : Obj) : Rd b s p err (w.alloc o) := (Lib.alloc_old w o b h.lt).trans h
theorem Rd.setAt (h : Rd b s p err w) (q : Nat) : Rd b s q err (w.setCell ⟨b, 1, none⟩ (.int .i64 (q : Int))) := by
  unfold Rd at h ⊢
  simp [World.setCell, Array.getElem?_modify, h]
theorem Rd.setErr (h : Rd b s p err w) (e : Int) : Rd b s p e (w.setCell ⟨b, 2, none⟩ (.int .i64 e)) := by
  unfold Rd at h ⊢
  simp [World.setCell, Array.getElem?_modify, h]
end
/-- What a call on the reader b leaves of memory: it alone may have turned. -/
def Ko (b : Nat) (w w' : World) : Prop := w.grownBy w' (some b)
theorem Ko.refl (b : Nat) (w : World) : Ko b w w := World.grownBy.refl w _
theorem Ko.drewN {b : Nat} {a w : World} (h : Ko b a w) (n : Nat) : Ko b a (w.drewN n) := ⟨h.os, h.tape, h.output, h.size, h.block⟩
theorem Ko.drew {b : Nat} {a w : World} (h : Ko b a w) : Ko b a w.drew := ⟨h.os, h.tape, h.output, h.size, h.block⟩
theorem Ko.setCell {b : Nat} {a w : World} (h : Ko b a w) (i : Nat) (u : Value) : Ko b a (w.setCell ⟨b, i, none⟩ u) :=
  ⟨h.os, h.tape, h.output, by simpa [World.setCell] using h.size, fun k hk hne => (Below.heap_setCell w _ u k (fun e => hne (by rw [e]))).trans (h.block k hk hne)⟩
theorem Ko.trans {b : Nat} {a c d : World} (h : Ko b a c) (k : Ko b c d) : Ko b a d :=
  ⟨k.os.trans h.os, k.tape.trans h.tape, k.output.trans h.output, Nat.le_trans h.size k.size, fun i hi hne => (k.block i (Nat.lt_of_lt_of_le hi h.size) hne).trans (h.block i hi hne)⟩
theorem Ko.below {B b : Nat} {a w : World} (h : Ko b a w) (hB : B ≤ b) (hBa : B ≤ a.heap.size) : Below B a w :=
  ⟨h.os, h.tape, h.output, h.size, fun k hk => h.block k (by omega) (fun e => by injection e with e; omega)⟩

theorem newReader (s : ByteArray) (w : World) : Calls Try.prog 20 #[.string s] w fun e w' => e = .returned (.pointer (some ⟨w.heap.size, 0, none⟩)) ∧ w.alloc (.cells #[.string s, .int .i64 0, .int .i64 0] 78) = w' := by
  go_enter Try.func20, Try.ntmps20
  go_wp2
  go_ret
  exact ⟨rfl, rfl⟩
theorem err_of (b : Nat) (s : ByteArray) (p : Nat) (err : Int) (w : World) (h : Rd b s p err w) : Calls Try.prog 26 #[.pointer (some ⟨b, 0, none⟩)] w fun e w' => e = .returned (.int .i64 err) ∧ w = w' := by
  have c2 := h.cell2
  go_enter Try.func26, Try.ntmps26
  go_wp2
  go_ret
  exact ⟨rfl, rfl⟩
theorem at_of (b : Nat) (s : ByteArray) (p : Nat) (err : Int) (w : World) (h : Rd b s p err w) : Calls Try.prog 41 #[.pointer (some ⟨b, 0, none⟩)] w fun e w' => e = .returned (.int .i64 (p : Int)) ∧ w = w' := by
  have c1 := h.cell1
  go_enter Try.func41, Try.ntmps41
  go_wp2
  go_ret
  exact ⟨rfl, rfl⟩
/-- The first error is noted, and the place. -/
theorem fail_of (b : Nat) (s : ByteArray) (p : Nat) (e0 : Int) (q : Nat) (w : World) (h : Rd b s p 0 w) :
    Calls Try.prog 40 #[.pointer (some ⟨b, 0, none⟩), .int .i64 e0, .int .i64 (q : Int)] w fun e w' => e = .returned (.tuple #[]) ∧ Rd b s q e0 w' ∧ Ko b w w' := by
  have c2 := h.cell2
  have c1 := h.cell1
  have f1 := h.frozen 1
  have f2 := h.frozen 2
  go_enter Try.func40, Try.ntmps40
  go_wp2
  go_end0
  exact ⟨rfl, (h.setErr e0).setAt q, ((Ko.refl b w).setCell 2 _).setCell 1 _⟩
/-- Is all read? -/
def endOf (s : ByteArray) (p : Nat) (err : Int) : Int := if err = 0 then (if p < s.size then 5 else 0) else err
theorem end_err (b : Nat) (s : ByteArray) (p : Nat) (err : Int) (w : World) (h : Rd b s p err w) (he : err ≠ 0) :
    Calls Try.prog 25 #[.pointer (some ⟨b, 0, none⟩)] w fun e w' => e = .returned (.int .i64 (endOf s p err)) ∧ Rd b s p err w' ∧ Ko b w w' := by
  have hb : (!err == 0) = true := by simpa using he
  have hb' : (err == 0) = false := by simpa using he
  go_enter Try.func25, Try.ntmps25
  go_wp2_with (go_at_call 26; refine (err_of b s p err _ h).mono ?_; rintro e w' ⟨rfl, rfl⟩)
  go_ret
  exact ⟨by unfold endOf; rw [if_neg he]; rfl, h, Ko.refl _ _⟩
theorem end_ok (b : Nat) (s : ByteArray) (p : Nat) (w : World) (h : Rd b s p 0 w) (hs : s.size ≤ maxLen) :
    Calls Try.prog 25 #[.pointer (some ⟨b, 0, none⟩)] w fun e w' => e = .returned (.int .i64 (endOf s p 0)) ∧ Rd b s p 0 w' ∧ Ko b w w' := by
  have c0 := h.cell0
  have c1 := h.cell1
  unfold maxLen at hs
  go_enter Try.func25, Try.ntmps25
  go_wp2_with (go_at_call 26; refine (err_of b s p 0 _ h).mono ?_; rintro e w' ⟨rfl, rfl⟩)
  go_quiet (fail)
  by_cases hp : p < s.size
  · go_wp2
    go_ret
    exact ⟨by unfold endOf; rw [if_pos rfl, if_pos hp]; rfl, h.drewN _, (Ko.refl _ _).drewN _⟩
  · go_wp2
    go_ret
    exact ⟨by unfold endOf; rw [if_pos rfl, if_neg hp]; rfl, h.drewN _, (Ko.refl _ _).drewN _⟩
theorem end_any (b : Nat) (s : ByteArray) (p : Nat) (err : Int) (w : World) (h : Rd b s p err w) (hs : s.size ≤ maxLen) :
    Calls Try.prog 25 #[.pointer (some ⟨b, 0, none⟩)] w fun e w' => e = .returned (.int .i64 (endOf s p err)) ∧ Rd b s p err w' ∧ Ko b w w' := by
  by_cases he : err = 0
  · subst he; exact end_ok b s p w h hs
  · exact end_err b s p err w h he

/-- What is read of some bytes, as they are: the text; and where the reader then stands, its first error. -/
def rawOk (s : ByteArray) (p : Nat) (n : Int) : Prop := 0 ≤ n ∧ n ≤ (s.size : Int) - (p : Int)
theorem raw_err (b : Nat) (s : ByteArray) (p : Nat) (err n : Int) (w : World) (h : Rd b s p err w) (he : err ≠ 0) :
    Calls Try.prog 24 #[.pointer (some ⟨b, 0, none⟩), .int .i64 n] w fun e w' => e = .returned (.string ByteArray.empty) ∧ Rd b s p err w' ∧ Ko b w w' := by
  have hb : (!err == 0) = true := by simpa using he
  have hb' : (err == 0) = false := by simpa using he
  go_enter Try.func24, Try.ntmps24
  go_wp2_with (go_at_call 26; refine (err_of b s p err _ h).mono ?_; rintro e w' ⟨rfl, rfl⟩)
  go_ret
  exact ⟨rfl, h, Ko.refl _ _⟩
theorem raw_neg (b : Nat) (s : ByteArray) (p : Nat) (n : Int) (w : World) (h : Rd b s p 0 w) (hn : n < 0) :
    Calls Try.prog 24 #[.pointer (some ⟨b, 0, none⟩), .int .i64 n] w fun e w' => e = .returned (.string ByteArray.empty) ∧ Rd b s p 2 w' ∧ Ko b w w' := by
  have c1 := h.cell1
  go_enter Try.func24, Try.ntmps24
  go_wp2_with (go_at_call 26; refine (err_of b s p 0 _ h).mono ?_; rintro e w' ⟨rfl, rfl⟩)
  refine (fail_of b s p 2 p _ h).mono ?_
  rintro e w1 ⟨rfl, h1, k1⟩
  go_wp2
  go_ret
  exact ⟨rfl, h1, k1⟩
theorem raw_short (b : Nat) (s : ByteArray) (p : Nat) (n : Int) (w : World) (h : Rd b s p 0 w) (hs : s.size ≤ maxLen) (hp : p ≤ s.size) (hn : 0 ≤ n) (hsh : (s.size : Int) - (p : Int) < n) :
    Calls Try.prog 24 #[.pointer (some ⟨b, 0, none⟩), .int .i64 n] w fun e w' => e = .returned (.string ByteArray.empty) ∧ Rd b s p 3 w' ∧ Ko b w w' := by
  have c1 := h.cell1
  have c0 := h.cell0
  unfold maxLen at hs
  go_enter Try.func24, Try.ntmps24
  go_wp2_with (go_at_call 26; refine (err_of b s p 0 _ h).mono ?_; rintro e w' ⟨rfl, rfl⟩)
  go_quiet (fail)
  go_wp2_with fail
  refine (fail_of b s p 3 p _ (h.drewN _)).mono ?_
  rintro e w1 ⟨rfl, h1, k1⟩
  go_wp2
  go_ret
  exact ⟨rfl, h1, ((Ko.refl _ _).drewN _).trans k1⟩
theorem raw_ok (b : Nat) (s : ByteArray) (p n : Nat) (w : World) (h : Rd b s p 0 w) (hs : s.size ≤ maxLen) (hp : p + n ≤ s.size) :
    Calls Try.prog 24 #[.pointer (some ⟨b, 0, none⟩), .int .i64 (n : Int)] w fun e w' => e = .returned (.string (s.extract p (p + n))) ∧ Rd b s (p + n) 0 w' ∧ Ko b w w' := by
  have c1 := h.cell1
  have c0 := h.cell0
  have f1 := h.frozen 1
  unfold maxLen at hs
  go_enter Try.func24, Try.ntmps24
  go_wp2_with (go_at_call 26; refine (err_of b s p 0 _ h).mono ?_; rintro e w' ⟨rfl, rfl⟩)
  go_quiet (fail)
  go_wp2
  go_quiet (fail)
  go_wp2
  go_ret
  exact ⟨rfl, (h.drewN _).setAt (p + n), ((Ko.refl _ _).drewN _).setCell 1 _⟩
theorem number_err (b : Nat) (s : ByteArray) (p : Nat) (err most : Int) (w : World) (h : Rd b s p err w) (he : err ≠ 0) :
    Calls Try.prog 21 #[.pointer (some ⟨b, 0, none⟩), .int .i64 most] w fun e w' => e = .returned (.int .i64 0) ∧ Rd b s p err w' ∧ Ko b w w' := by
  have hb : (!err == 0) = true := by simpa using he
  have hb' : (err == 0) = false := by simpa using he
  go_enter Try.func21, Try.ntmps21
  go_wp2
  go_step3
  go_wp2_with (go_at_call 26; refine (err_of b s p err _ h).mono ?_; rintro e w' ⟨rfl, rfl⟩)
  rw [Exit.noGoto_ret]
  go_ret
  exact ⟨rfl, h, Ko.refl _ _⟩
end Go.Proofs.Ytghmhheolbobpaa
