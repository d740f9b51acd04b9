/- delta's own copied and length, on pieces whose numbers are small and whole. Conditions: the numbers are small and whole; the base is of at most 4099 bytes. -/
import Derived.Test.YtghmhheolbobpaaPiece
import Derived.Test.YtghmhheolbobpaaBackPlain
set_option linter.unusedVariables false
set_option maxRecDepth 100000
namespace Go.Proofs.Ytghmhheolbobpaa
open Go.RowKit Wire

/-- A piece: a copy's place and count, a text. -/
structure Pc where
  re : Nat
  im : Nat
  text : ByteArray
def Pc.cells (p : Pc) : List Value := [.complex .f64 (F p.re) (F p.im), .string p.text]
def Pc.small (p : Pc) : Prop := p.re ≤ 4099 ∧ p.im ≤ 4099
/-- Is it a copy that is right for a base of some bytes? -/
def Pc.isCopy (p : Pc) (b : Int) : Bool := decide (1 ≤ p.im) && (decide (p.text.size = 0) && decide ((p.re : Int) ≤ b - (p.im : Int)))
set_option maxHeartbeats 1000000 in
theorem copied_bad (re im : Nat) (t : ByteArray) (b : Int) (w : World) (hre : re ≤ 4099) (him : im ≤ 4099) (hb : 0 ≤ b ∧ b ≤ 4099) (h : ¬ 1 ≤ im) :
    Calls Try.prog 59 #[.agg #[.complex .f64 (F re) (F im), .string t], .int .i64 b] w fun e w' => e = .returned (.tuple #[.int .i64 0, .int .i64 0, .bool false]) ∧ Below w.heap.size w w' := by
  have hw := fun W => whole_of (im : Int) 1 4099 W ⟨by omega, by omega⟩ ⟨by omega, by omega⟩ ⟨by omega, by omega⟩
  rw [decide_eq_false (by omega)] at hw
  have HW := Lib.hid hw
  clear hw hb h
  go_enter Try.func59, Try.ntmps59
  go_wp2_with fail
  refine (HW.out _).mono ?_
  rintro e w1 ⟨rfl, rfl⟩
  go_wp2
  go_ret3
  exact ⟨rfl, below_lay (Below.refl _ _) _⟩
theorem empty_not {t : ByteArray} (h : t.size ≠ 0) : (t.toList == []) = false := by
  rw [ByteArray.toList_eq]
  cases hl : t.data.toList with
  | nil => exact absurd (by rw [← size_list, hl]; rfl) h
  | cons a l => rfl
theorem empty_of {t : ByteArray} (h : t.size = 0) : t = ⟨#[]⟩ := by
  apply ByteArray.ext
  apply Array.toList_inj.1
  exact List.eq_nil_of_length_eq_zero (by rw [size_list, h])
set_option maxHeartbeats 1000000 in
theorem copied_text (re im : Nat) (t : ByteArray) (b : Int) (w : World) (hre : re ≤ 4099) (him : im ≤ 4099) (hb : 0 ≤ b ∧ b ≤ 4099) (h : 1 ≤ im) (ht : t.size ≠ 0) :
    Calls Try.prog 59 #[.agg #[.complex .f64 (F re) (F im), .string t], .int .i64 b] w fun e w' => e = .returned (.tuple #[.int .i64 0, .int .i64 0, .bool false]) ∧ Below w.heap.size w w' := by
  have hw := fun W => whole_of (im : Int) 1 4099 W ⟨by omega, by omega⟩ ⟨by omega, by omega⟩ ⟨by omega, by omega⟩
  rw [decide_eq_true (by omega)] at hw
  have HW := Lib.hid hw
  have t1 := empty_not ht
  clear hw hb h ht
  go_enter Try.func59, Try.ntmps59
  go_wp2_with fail
  refine (HW.out _).mono ?_
  rintro e w1 ⟨rfl, rfl⟩
  go_wp2
  go_ret3
  exact ⟨rfl, below_lay (Below.refl _ _) _⟩
set_option maxHeartbeats 1000000 in
theorem copied_far (re im : Nat) (b : Int) (w : World) (hre : re ≤ 4099) (him : im ≤ 4099) (hb : 0 ≤ b ∧ b ≤ 4099) (h : 1 ≤ im) (hf : ¬ (re : Int) ≤ b - (im : Int)) :
    Calls Try.prog 59 #[.agg #[.complex .f64 (F re) (F im), .string ⟨#[]⟩], .int .i64 b] w fun e w' => e = .returned (.tuple #[.int .i64 0, .int .i64 0, .bool false]) ∧ Below w.heap.size w w' := by
  have hw := fun W => whole_of (im : Int) 1 4099 W ⟨by omega, by omega⟩ ⟨by omega, by omega⟩ ⟨by omega, by omega⟩
  rw [decide_eq_true (by omega)] at hw
  have HW := Lib.hid hw
  have hv := fun W => whole_of (re : Int) 0 (b - (im : Int)) W ⟨by omega, by omega⟩ ⟨by omega, by omega⟩ ⟨by omega, by omega⟩
  rw [decide_eq_false (by omega)] at hv
  have HV := Lib.hid hv
  have hcv := conv_f (x := (im : Int)) ⟨by omega, by omega⟩
  clear hw hv h hf
  obtain ⟨hb1, hb2⟩ := hb
  go_enter Try.func59, Try.ntmps59
  go_wp2_with fail
  refine (HW.out _).mono ?_
  rintro e w1 ⟨rfl, rfl⟩
  go_wp2_with fail
  refine (HV.out _).mono ?_
  rintro e w1 ⟨rfl, rfl⟩
  go_wp2
  go_ret3
  exact ⟨rfl, below_lay (Below.refl _ _) _⟩
set_option maxHeartbeats 1000000 in
theorem copied_good (re im : Nat) (b : Int) (w : World) (hre : re ≤ 4099) (him : im ≤ 4099) (hb : 0 ≤ b ∧ b ≤ 4099) (h : 1 ≤ im) (hf : (re : Int) ≤ b - (im : Int)) :
    Calls Try.prog 59 #[.agg #[.complex .f64 (F re) (F im), .string ⟨#[]⟩], .int .i64 b] w fun e w' => e = .returned (.tuple #[.int .i64 re, .int .i64 im, .bool true]) ∧ Below w.heap.size w w' := by
  have hw := fun W => whole_of (im : Int) 1 4099 W ⟨by omega, by omega⟩ ⟨by omega, by omega⟩ ⟨by omega, by omega⟩
  rw [decide_eq_true (by omega)] at hw
  have HW := Lib.hid hw
  have hv := fun W => whole_of (re : Int) 0 (b - (im : Int)) W ⟨by omega, by omega⟩ ⟨by omega, by omega⟩ ⟨by omega, by omega⟩
  rw [decide_eq_true (by omega)] at hv
  have HV := Lib.hid hv
  have hcv := conv_f (x := (im : Int)) ⟨by omega, by omega⟩
  have hcu := conv_f (x := (re : Int)) ⟨by omega, by omega⟩
  clear hw hv h hf
  obtain ⟨hb1, hb2⟩ := hb
  go_enter Try.func59, Try.ntmps59
  go_wp2_with fail
  refine (HW.out _).mono ?_
  rintro e w1 ⟨rfl, rfl⟩
  go_wp2_with fail
  refine (HV.out _).mono ?_
  rintro e w1 ⟨rfl, rfl⟩
  go_wp2
  go_ret3
  exact ⟨rfl, below_lay (Below.refl _ _) _⟩
/-- What copied answers. -/
def Pc.copied (p : Pc) (b : Int) : Int × Int × Bool := if p.isCopy b then ((p.re : Int), (p.im : Int), true) else (0, 0, false)
theorem copied_of (p : Pc) (b : Int) (w : World) (hp : p.small) (hb : 0 ≤ b ∧ b ≤ 4099) :
    Calls Try.prog 59 #[.agg p.cells.toArray, .int .i64 b] w fun e w' => e = .returned (.tuple #[.int .i64 (p.copied b).1, .int .i64 (p.copied b).2.1, .bool (p.copied b).2.2]) ∧ Below w.heap.size w w' := by
  obtain ⟨re, im, t⟩ := p
  obtain ⟨h1, h2⟩ := hp
  show Calls Try.prog 59 #[.agg #[.complex .f64 (F re) (F im), .string t], .int .i64 b] w _
  by_cases h : 1 ≤ im
  · by_cases ht : t.size = 0
    · by_cases hf : (re : Int) ≤ b - (im : Int)
      · have e : (Pc.mk re im t).copied b = ((re : Int), (im : Int), true) := by unfold Pc.copied Pc.isCopy; simp [h, ht, hf]
        rw [e, empty_of ht]
        exact copied_good re im b w h1 h2 hb h hf
      · have e : (Pc.mk re im t).copied b = (0, 0, false) := by unfold Pc.copied Pc.isCopy; simp [h, ht, hf]
        rw [e, empty_of ht]
        exact copied_far re im b w h1 h2 hb h hf
    · have e : (Pc.mk re im t).copied b = (0, 0, false) := by unfold Pc.copied Pc.isCopy; simp [h, ht]
      rw [e]
      exact copied_text re im t b w h1 h2 hb h ht
  · have e : (Pc.mk re im t).copied b = (0, 0, false) := by unfold Pc.copied Pc.isCopy; simp [h]
    rw [e]
    exact copied_bad re im t b w h1 h2 hb h
end Go.Proofs.Ytghmhheolbobpaa
