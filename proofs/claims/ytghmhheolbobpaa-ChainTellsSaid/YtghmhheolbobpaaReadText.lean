/- Contracts of wire.Reader's Text and Id. Conditions: the block is a reader's, its place lies within the text, the text is within the form's reach; an id is read where 32 bytes are left. -/
import Derived.Test.YtghmhheolbobpaaReadNum
import Derived.Deep.MidRow
import Derived.Deep.WholeRow
set_option linter.unusedVariables false
namespace Go.Proofs.Ytghmhheolbobpaa
open Go.RowKit Wire

theorem numRes_le (s : ByteArray) (p : Nat) (most : Int) (hp : p ≤ s.size) : (numRes p (readNum most (s.data.toList.drop p))).2.1 ≤ s.size := by
  cases hr : readNum most (s.data.toList.drop p) with
  | inl e => exact hp
  | inr x =>
    have h := readNum_len (n := x.1) (k := x.2) hr
    have : (s.data.toList.drop p).length = s.size - p := by simp
    show p + x.2 ≤ s.size
    omega
/-- What Text answers, where the reader then stands, its error. -/
def txtRes (s : ByteArray) (p : Nat) : Nat ⊕ (Nat × Nat) → ByteArray × Nat × Int
  | .inl e => (ByteArray.empty, p, (e : Int))
  | .inr (n, k) => if p + k + n ≤ s.size then (s.extract (p + k) (p + k + n), p + k + n, 0) else (ByteArray.empty, p, 3)
theorem readNum_err {most : Int} {l : List UInt8} {e : Nat} (h : readNum most l = .inl e) : e ≠ 0 := by
  have key : ∀ (l : List UInt8) (i n : Nat), scan i n l = .inl e → e ≠ 0 := by
    intro l
    induction l with
    | nil => intro i n h; simp [scan] at h; omega
    | cons b r ih =>
      intro i n h
      simp only [scan] at h
      split at h
      · split at h
        · simp at h; omega
        · exact ih _ _ h
      · split at h
        · simp at h; omega
        · simp at h
  unfold readNum at h
  cases hs : scan 0 0 l with
  | inl e' => rw [hs] at h; simp at h; subst h; exact key _ _ _ hs
  | inr x =>
    rw [hs] at h
    simp only at h
    split at h
    · simp at h
    · simp at h; omega
set_option maxHeartbeats 1000000 in
theorem text_bad (b : Nat) (s : ByteArray) (p : Nat) (most : Int) (e : Nat) (w : World) (h : Rd b s p 0 w) (hs : s.size ≤ maxLen) (hp : p ≤ s.size) (hr : readNum most (s.data.toList.drop p) = .inl e) :
    Calls Try.prog 22 #[.pointer (some ⟨b, 0, none⟩), .int .i64 most] w fun e' w' => e' = .returned (.string ByteArray.empty) ∧ Rd b s p (e : Int) w' ∧ Ko b w w' := by
  have he := readNum_err hr
  have hc := number_ok b s p most w h hs hp
  rw [hr] at hc
  have HR := Lib.hid hr
  have hb : (!((e : Int) == 0)) = true := by simpa using he
  have hb' : ((e : Int) == 0) = false := by simpa using he
  clear hr
  go_enter Try.func22, Try.ntmps22
  go_wp2_with (go_at_call 41; refine (at_of b s p 0 _ h).mono ?_; rintro e w' ⟨rfl, rfl⟩)
  refine hc.mono ?_
  rintro e' w1 ⟨rfl, h1, k1⟩
  go_wp2_with fail
  refine (raw_err b s p (e : Int) _ _ h1 (by omega)).mono ?_
  rintro e' w2 ⟨rfl, h2, k2⟩
  have c2 := h2.cell2
  have c1 := h2.cell1
  have f1 := h2.frozen 1
  go_wp2_with fail
  go_ret
  exact ⟨rfl, h2.setAt p, (k1.trans k2).setCell 1 _⟩
set_option maxHeartbeats 1000000 in
theorem text_short (b : Nat) (s : ByteArray) (p : Nat) (most : Int) (n k : Nat) (w : World) (h : Rd b s p 0 w) (hs : s.size ≤ maxLen) (hp : p ≤ s.size) (hr : readNum most (s.data.toList.drop p) = .inr (n, k)) (hsh : s.size < p + k + n) :
    Calls Try.prog 22 #[.pointer (some ⟨b, 0, none⟩), .int .i64 most] w fun e' w' => e' = .returned (.string ByteArray.empty) ∧ Rd b s p 3 w' ∧ Ko b w w' := by
  have hle := numRes_le s p most hp
  have hc := number_ok b s p most w h hs hp
  rw [hr] at hc hle
  have hle : p + k ≤ s.size := hle
  clear hr
  go_enter Try.func22, Try.ntmps22
  go_wp2_with (go_at_call 41; refine (at_of b s p 0 _ h).mono ?_; rintro e w' ⟨rfl, rfl⟩)
  refine hc.mono ?_
  rintro e' w1 ⟨rfl, h1, k1⟩
  go_wp2_with fail
  refine (raw_short b s (p + k) (n : Int) _ h1 hs hle (by omega) (by omega)).mono ?_
  rintro e' w2 ⟨rfl, h2, k2⟩
  have c2 := h2.cell2
  have c1 := h2.cell1
  have f1 := h2.frozen 1
  go_wp2_with fail
  all_goals
    go_ret
    refine ⟨rfl, ?_, (k1.trans k2).setCell 1 _⟩
  all_goals first | exact h2.setAt p | (have h3 := h2.setAt p; have e : k = 0 := by omega); subst e; exact h3
set_option maxHeartbeats 1000000 in
theorem text_good (b : Nat) (s : ByteArray) (p : Nat) (most : Int) (n k : Nat) (w : World) (h : Rd b s p 0 w) (hs : s.size ≤ maxLen) (hp : p ≤ s.size) (hr : readNum most (s.data.toList.drop p) = .inr (n, k)) (hsh : p + k + n ≤ s.size) :
    Calls Try.prog 22 #[.pointer (some ⟨b, 0, none⟩), .int .i64 most] w fun e' w' => e' = .returned (.string (s.extract (p + k) (p + k + n))) ∧ Rd b s (p + k + n) 0 w' ∧ Ko b w w' := by
  have hc := number_ok b s p most w h hs hp
  rw [hr] at hc
  clear hr
  go_enter Try.func22, Try.ntmps22
  go_wp2_with (go_at_call 41; refine (at_of b s p 0 _ h).mono ?_; rintro e w' ⟨rfl, rfl⟩)
  refine hc.mono ?_
  rintro e' w1 ⟨rfl, h1, k1⟩
  go_wp2_with fail
  refine (raw_ok b s (p + k) n _ h1 hs hsh).mono ?_
  rintro e' w2 ⟨rfl, h2, k2⟩
  have c2 := h2.cell2
  go_wp2_with fail
  go_ret
  exact ⟨rfl, h2, k1.trans k2⟩
theorem text_any (b : Nat) (s : ByteArray) (p : Nat) (most : Int) (w : World) (h : Rd b s p 0 w) (hs : s.size ≤ maxLen) (hp : p ≤ s.size) :
    Calls Try.prog 22 #[.pointer (some ⟨b, 0, none⟩), .int .i64 most] w fun e' w' => e' = .returned (.string (txtRes s p (readNum most (s.data.toList.drop p))).1) ∧
      Rd b s (txtRes s p (readNum most (s.data.toList.drop p))).2.1 (txtRes s p (readNum most (s.data.toList.drop p))).2.2 w' ∧ Ko b w w' := by
  cases hr : readNum most (s.data.toList.drop p) with
  | inl e => exact text_bad b s p most e w h hs hp hr
  | inr x =>
    obtain ⟨n, k⟩ := x
    unfold txtRes
    by_cases hsh : p + k + n ≤ s.size
    · simp only [hsh, if_true]; exact text_good b s p most n k w h hs hp hr hsh
    · simp only [hsh, if_false]; exact text_short b s p most n k w h hs hp hr (by omega)
end Go.Proofs.Ytghmhheolbobpaa
