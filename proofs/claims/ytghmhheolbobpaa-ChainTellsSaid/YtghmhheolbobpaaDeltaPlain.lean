/- What a delta's bytes say, and what they make of a text, as plain Lean; the texts of a list of parts. No program in sight; no conditions. -/
import Derived.Test.YtghmhheolbobpaaPathPlain
import Derived.Test.YtghmhheolbobpaaCheck
set_option linter.unusedVariables false
namespace Go.Proofs.Ytghmhheolbobpaa
open Wire

/-- A delta's piece at a place, and where the next one stands. -/
def pieceAt (s : ByteArray) (p : Nat) : Option (Pc × Nat) :=
  match readNum 8199 (s.data.toList.drop p) with
  | .inl _ => none
  | .inr (n, k) => if n % 2 = 1 then (match readNum 4099 (s.data.toList.drop (p + k)) with
      | .inl _ => none
      | .inr (c, j) => some (⟨c, n / 2, ⟨#[]⟩⟩, p + k + j))
    else if p + k + n / 2 ≤ s.size then some (⟨0, 0, s.extract (p + k) (p + k + n / 2)⟩, p + k + n / 2) else none
/-- All pieces from a place on; none: they are wrong, or there are too many. -/
def gatherD : Nat → ByteArray → Nat → Option (List Pc)
  | 0, _, _ => none
  | f + 1, s, p => if s.size ≤ p then some [] else match pieceAt s p with
    | none => none
    | some (x, q) => (gatherD f s q).map (x :: ·)
/-- What has been gathered, ahead of the rest. -/
def ahead (out : List Pc) (r : Option (List Pc)) : Option (List Pc) := r.map (out ++ ·)
theorem ahead_nil (r : Option (List Pc)) : ahead [] r = r := by cases r <;> rfl
theorem gather_end {s : ByteArray} {f p : Nat} (h : s.size ≤ p) (out : List Pc) : ahead out (gatherD (f + 1) s p) = some out := by
  unfold gatherD; rw [if_pos h]; simp [ahead]
theorem gather_bad {s : ByteArray} {f p : Nat} (h : ¬ s.size ≤ p) (hp : pieceAt s p = none) (out : List Pc) : ahead out (gatherD (f + 1) s p) = none := by
  unfold gatherD; rw [if_neg h, hp]; rfl
theorem gather_next {s : ByteArray} {f p q : Nat} {x : Pc} (h : ¬ s.size ≤ p) (hp : pieceAt s p = some (x, q)) (out : List Pc) : ahead out (gatherD (f + 1) s p) = ahead (out ++ [x]) (gatherD f s q) := by
  rw [gatherD, if_neg h, hp]
  simp only
  unfold ahead
  cases gatherD f s q <;> simp
theorem gather_none (s : ByteArray) (p : Nat) (out : List Pc) : ahead out (gatherD 0 s p) = none := rfl
/-- A piece's numbers are small. -/
theorem piece_small {s : ByteArray} {p q : Nat} {x : Pc} (h : pieceAt s p = some (x, q)) : x.small := by
  unfold pieceAt at h
  cases h1 : readNum 8199 (s.data.toList.drop p) with
  | inl e => rw [h1] at h; cases h
  | inr y =>
    obtain ⟨n, k⟩ := y
    have hn := (readNum_len h1).2.2.2
    rw [h1] at h
    simp only at h
    split at h
    · cases h2 : readNum 4099 (s.data.toList.drop (p + k)) with
      | inl e => rw [h2] at h; cases h
      | inr z =>
        obtain ⟨c, j⟩ := z
        have hc := (readNum_len h2).2.2.2
        rw [h2] at h
        simp only [Option.some.injEq, Prod.mk.injEq] at h
        obtain ⟨rfl, _⟩ := h
        refine ⟨?_, ?_⟩ <;> simp only <;> omega
    · split at h
      · simp only [Option.some.injEq, Prod.mk.injEq] at h
        obtain ⟨rfl, _⟩ := h
        refine ⟨?_, ?_⟩ <;> simp only <;> omega
      · cases h
/-- The next piece stands behind, and not behind the end. -/
theorem piece_on {s : ByteArray} {p q : Nat} {x : Pc} (hp : p ≤ s.size) (h : pieceAt s p = some (x, q)) : p < q ∧ q ≤ s.size := by
  unfold pieceAt at h
  cases h1 : readNum 8199 (s.data.toList.drop p) with
  | inl e => rw [h1] at h; cases h
  | inr y =>
    obtain ⟨n, k⟩ := y
    obtain ⟨hk, hn, _, _⟩ := readNum_len h1
    have hd : (s.data.toList.drop p).length = s.size - p := by simp
    rw [h1] at h
    simp only at h
    split at h
    · cases h2 : readNum 4099 (s.data.toList.drop (p + k)) with
      | inl e => rw [h2] at h; cases h
      | inr z =>
        obtain ⟨c, j⟩ := z
        obtain ⟨hj, hc, _, _⟩ := readNum_len h2
        have hd2 : (s.data.toList.drop (p + k)).length = s.size - (p + k) := by simp
        rw [h2] at h
        simp only [Option.some.injEq, Prod.mk.injEq] at h
        obtain ⟨_, rfl⟩ := h
        omega
    · split at h
      · simp only [Option.some.injEq, Prod.mk.injEq] at h
        obtain ⟨_, rfl⟩ := h
        omega
      · cases h
/-- The base's size and the pieces, if they are right. -/
def readFin (b many : Nat) : Option (List Pc) → Option (Nat × List Pc)
  | none => none
  | some l => if checkL (b : Int) l = (many, 0) then some (b, l) else none
/-- What a delta's bytes say. -/
def readD (s : ByteArray) : Option (Nat × List Pc) :=
  match readNum 4099 (s.data.toList.drop 0) with
  | .inl _ => none
  | .inr (b, k) => match readNum 4099 (s.data.toList.drop k) with
    | .inl _ => none
    | .inr (many, j) => readFin b many (gatherD 4100 s (k + j))
theorem gather_small {s : ByteArray} : ∀ {f p : Nat} {l : List Pc}, gatherD f s p = some l → ∀ x ∈ l, x.small
  | 0, p, l, h => by cases h
  | f + 1, p, l, h => by
    unfold gatherD at h
    split at h
    · injection h with h; subst h; intro x hx; cases hx
    · cases hp : pieceAt s p with
      | none => rw [hp] at h; cases h
      | some y =>
        obtain ⟨x, q⟩ := y
        rw [hp] at h
        simp only at h
        cases hg : gatherD f s q with
        | none => rw [hg] at h; cases h
        | some m =>
          rw [hg] at h
          simp only [Option.map_some, Option.some.injEq] at h
          subst h
          intro z hz
          rcases List.mem_cons.1 hz with rfl | hz
          · exact piece_small hp
          · exact gather_small hg z hz
theorem read_some {s : ByteArray} {b : Nat} {l : List Pc} (h : readD s = some (b, l)) : (∀ x ∈ l, x.small) ∧ (checkL (b : Int) l).2 = 0 ∧ b ≤ 4099 := by
  unfold readD at h
  cases h1 : readNum 4099 (s.data.toList.drop 0) with
  | inl e => rw [h1] at h; cases h
  | inr y =>
    obtain ⟨c, k⟩ := y
    have hc := (readNum_len h1).2.2.2
    rw [h1] at h
    simp only at h
    cases h2 : readNum 4099 (s.data.toList.drop k) with
    | inl e => rw [h2] at h; cases h
    | inr z =>
      obtain ⟨m, j⟩ := z
      rw [h2] at h
      simp only at h
      cases h3 : gatherD 4100 s (k + j) with
      | none => rw [h3] at h; cases h
      | some l' =>
        rw [h3] at h
        unfold readFin at h
        simp only at h
        split at h
        · rename_i hk
          simp only [Option.some.injEq, Prod.mk.injEq] at h
          obtain ⟨rfl, rfl⟩ := h
          exact ⟨gather_small h3, by rw [hk], by omega⟩
        · cases h
/-- A piece's bytes. -/
def Pc.bytes (x : Pc) (base : ByteArray) : List UInt8 := (if x.isCopy base.size then base.data.toList.drop x.re |>.take x.im else []) ++ x.text.data.toList
def bytesL (base : ByteArray) (l : List Pc) : List UInt8 := l.flatMap fun x => x.bytes base
/-- What pieces make of a base; the error's number. -/
def textD (base : ByteArray) (l : List Pc) : ByteArray ⊕ Nat := if (checkL base.size l).2 = 0 then .inl ⟨(bytesL base l).toArray⟩ else .inr (checkL base.size l).2.toNat
/-- What a delta makes of a text; the error's number. -/
def applyD (base d : ByteArray) : ByteArray ⊕ Nat :=
  match readD d with
  | none => .inr 2
  | some (b, l) => if b = base.size then .inl ⟨(bytesL base l).toArray⟩ else .inr 19
/-- A part's text by its base's; the error's number. -/
def partText (x : Pt) (base : ByteArray) : ByteArray ⊕ Nat := if x.delta then applyD base x.text else if 4099 < x.text.size then .inr 19 else .inl x.text
/-- The text of a path's first part; the error's number. -/
def textPath (l : List Pt) : List Nat → ByteArray ⊕ Nat
  | [] => .inl ⟨#[]⟩
  | k :: r => match textPath l r with
    | .inr e => .inr e
    | .inl s => partText (l.getD k ⟨false, 0, ⟨#[]⟩⟩) s
/-- A part's text; the error's number. -/
def textL (l : List Pt) (k : Int) : ByteArray ⊕ Nat :=
  match pathL l k with
  | .inr e => .inr e
  | .inl r => textPath l r
/-- The texts of some first parts; the first error's number. -/
def textsN (l : List Pt) : Nat → List ByteArray ⊕ Nat
  | 0 => .inl []
  | k + 1 => match textsN l k with
    | .inr e => .inr e
    | .inl ts => match textL l (k : Int) with
      | .inr e => .inr e
      | .inl s => .inl (ts ++ [s])
def allL (l : List Pt) : List ByteArray ⊕ Nat := if 200 < l.length then .inr 1 else textsN l l.length
end Go.Proofs.Ytghmhheolbobpaa
