/- The texts of a list of parts by one another's, and of a beginning of the list, as plain Lean. No program in sight; no conditions. -/
import Derived.Test.YtghmhheolbobpaaDeltaPlain
set_option linter.unusedVariables false
namespace Go.Proofs.Ytghmhheolbobpaa
open Wire

theorem path_inl {l : List Pt} {f k : Nat} {r : List Nat} (h : pathFrom l (f + 1) k = .inl r) : ∃ (hk : k < l.length) (r' : List Nat), r = k :: r' ∧ l[k].wrong k = false ∧
    ((l[k].delta = false ∧ r' = []) ∨ (l[k].delta = true ∧ 0 ≤ l[k].base ∧ l[k].base.toNat < k ∧ ∃ g, f = g + 1 ∧ pathFrom l (g + 1) l[k].base.toNat = .inl r')) := by
  by_cases hk : k < l.length
  · refine ⟨hk, ?_⟩
    cases hw : l[k].wrong k with
    | true =>
      have := path_wrong (f := f) hk hw []
      rw [onto_nil, h] at this
      cases this
    | false =>
      cases hd : l[k].delta with
      | false =>
        have := path_end (f := f) hk hw hd []
        rw [onto_nil, h] at this
        injection this with this
        subst this
        exact ⟨[], rfl, rfl, .inl ⟨rfl, rfl⟩⟩
      | true =>
        cases f with
        | zero =>
          have := path_deep hk hw hd []
          rw [onto_nil, h] at this
          cases this
        | succ g =>
          have := path_next (f := g) hk hw hd []
          rw [onto_nil, h] at this
          have hb := base_lt hw hd
          cases hp : pathFrom l (g + 1) l[k].base.toNat with
          | inl r' =>
            rw [hp] at this
            simp only [onto, List.nil_append] at this
            injection this with this
            exact ⟨r', this, rfl, .inr ⟨rfl, hb.1, by omega, g, rfl, hp⟩⟩
          | inr e =>
            rw [hp] at this
            cases this
  · unfold pathFrom at h
    rw [List.getElem?_eq_none (by omega)] at h
    cases h
/-- With more room a path is the same. -/
theorem path_more {l : List Pt} : ∀ (f k : Nat) (r : List Nat), pathFrom l f k = .inl r → pathFrom l (f + 1) k = .inl r
  | 0, k, r, h => by cases h
  | f + 1, k, r, h => by
    obtain ⟨hk, r', rfl, hw, h1⟩ := path_inl h
    rcases h1 with ⟨hd, rfl⟩ | ⟨hd, hb, hlt, g, rfl, hp⟩
    · have := path_end (f := f + 1) hk hw hd []
      rw [onto_nil] at this
      exact this
    · have ih := path_more (g + 1) _ _ hp
      have := path_next (f := g + 1) hk hw hd []
      rw [onto_nil, ih] at this
      exact this
/-- A path begins at its part, and goes on with its base's path. -/
theorem pathL_inl {l : List Pt} {k : Nat} {r : List Nat} (h : pathL l (k : Int) = .inl r) : ∃ (hk : k < l.length) (r' : List Nat), r = k :: r' ∧ l.length ≤ 200 ∧ r'.length ≤ 4 ∧
    (r' = [] ∨ ∃ j r2, j < k ∧ r' = j :: r2 ∧ pathL l (j : Int) = .inl r') := by
  unfold pathL at h
  split at h
  · cases h
  · rename_i hn
    rw [Int.toNat_natCast] at h
    obtain ⟨hk, r', rfl, hw, h1⟩ := path_inl h
    refine ⟨hk, r', rfl, by omega, ?_, ?_⟩
    · have len : ∀ (f k : Nat) (r : List Nat), pathFrom l f k = .inl r → r.length ≤ f := by
        intro f
        induction f with
        | zero => intro k r h; cases h
        | succ f ih =>
          intro k r h
          obtain ⟨_, r', rfl, _, h2⟩ := path_inl h
          rcases h2 with ⟨_, rfl⟩ | ⟨_, _, _, g, rfl, hp⟩
          · simp
          · have := ih _ _ hp
            simp; omega
      have := len _ _ _ h
      simp at this; omega
    · rcases h1 with ⟨_, rfl⟩ | ⟨_, hb, hlt, g, hg, hp⟩
      · exact .inl rfl
      · obtain rfl : g = 3 := by omega
        obtain ⟨hk2, r2, hr2, _, _⟩ := path_inl hp
        refine .inr ⟨l[k].base.toNat, r2, hlt, hr2, ?_⟩
        unfold pathL
        rw [if_neg (by omega), Int.toNat_natCast]
        exact path_more _ _ _ hp
/-- A part's text by its base's. -/
theorem textL_plain {l : List Pt} {k : Nat} (hk : k < l.length) (h : pathL l (k : Int) = .inl [k]) : textL l (k : Int) = partText l[k] ⟨#[]⟩ := by
  unfold textL
  rw [h]
  simp only [textPath]
  rw [List.getD_eq_getElem?_getD, List.getElem?_eq_getElem hk]; rfl
theorem textL_delta {l : List Pt} {k j : Nat} {r : List Nat} {s : ByteArray} (hk : k < l.length) (h : pathL l (k : Int) = .inl (k :: r)) (hj : pathL l (j : Int) = .inl r) (hs : textL l (j : Int) = .inl s) : textL l (k : Int) = partText l[k] s := by
  unfold textL at hs ⊢
  rw [hj] at hs
  rw [h]
  simp only at hs ⊢
  rw [textPath, hs]
  simp only
  rw [List.getD_eq_getElem?_getD, List.getElem?_eq_getElem hk]; rfl
theorem textL_bad {l : List Pt} {k : Int} {e : Nat} (h : pathL l k = .inr e) : textL l k = .inr e := by unfold textL; rw [h]

/-! ### A beginning of a list -/
theorem pathFrom_take (l : List Pt) (n : Nat) : ∀ (f k : Nat), k < n → n ≤ l.length → pathFrom (l.take n) f k = pathFrom l f k
  | 0, k, _, _ => rfl
  | f + 1, k, h, hn => by
    have hk : k < l.length := by omega
    have hk2 : k < (l.take n).length := by rw [List.length_take]; omega
    have he : (l.take n)[k] = l[k] := List.getElem_take
    cases hw : l[k].wrong k with
    | true =>
      have h1 := path_wrong (f := f) hk hw []
      have h2 := path_wrong (f := f) hk2 (by rw [he]; exact hw) []
      rw [onto_nil] at h1 h2
      rw [h1, h2]
    | false =>
      cases hd : l[k].delta with
      | false =>
        have h1 := path_end (f := f) hk hw hd []
        have h2 := path_end (f := f) hk2 (by rw [he]; exact hw) (by rw [he]; exact hd) []
        rw [onto_nil] at h1 h2
        rw [h1, h2]
      | true =>
        cases f with
        | zero =>
          have h1 := path_deep hk hw hd []
          have h2 := path_deep hk2 (by rw [he]; exact hw) (by rw [he]; exact hd) []
          rw [onto_nil] at h1 h2
          rw [h1, h2]
        | succ g =>
          have hb := base_lt hw hd
          have h1 := path_next (f := g) hk hw hd []
          have h2 := path_next (f := g) hk2 (by rw [he]; exact hw) (by rw [he]; exact hd) []
          rw [onto_nil] at h1 h2
          rw [he, pathFrom_take l n (g + 1) _ (by omega) hn] at h2
          rw [h1, h2]
theorem textPath_take (l : List Pt) (n : Nat) (hn : n ≤ l.length) : ∀ r : List Nat, (∀ k ∈ r, k < n) → textPath (l.take n) r = textPath l r
  | [], _ => rfl
  | k :: r, h => by
    have hk := h k (List.mem_cons_self ..)
    rw [textPath, textPath, textPath_take l n hn r fun x hx => h x (List.mem_cons_of_mem _ hx)]
    have e : (l.take n).getD k ⟨false, 0, ⟨#[]⟩⟩ = l.getD k ⟨false, 0, ⟨#[]⟩⟩ := by
      rw [List.getD_eq_getElem?_getD, List.getD_eq_getElem?_getD, List.getElem?_take, if_pos hk]
    rw [e]
theorem path_below {l : List Pt} : ∀ (f k : Nat) (r : List Nat), pathFrom l f k = .inl r → ∀ x ∈ r, x ≤ k
  | 0, _, _, h => by cases h
  | f + 1, k, r, h => by
    obtain ⟨_, r', rfl, _, h2⟩ := path_inl h
    intro x hx
    rcases List.mem_cons.1 hx with rfl | hx
    · exact Nat.le_refl _
    · rcases h2 with ⟨_, rfl⟩ | ⟨_, _, hlt, g, rfl, hp⟩
      · cases hx
      · have := path_below _ _ _ hp x hx
        omega
theorem textL_take (l : List Pt) (n k : Nat) (h : k < n) (hn : n ≤ l.length) (hl : l.length ≤ 200) : textL (l.take n) (k : Int) = textL l (k : Int) := by
  have e : pathL (l.take n) (k : Int) = pathL l (k : Int) := by
    unfold pathL
    rw [if_neg (by rw [List.length_take]; omega), if_neg (by omega), Int.toNat_natCast]
    exact pathFrom_take l n 5 k h hn
  unfold textL
  rw [e]
  cases hp : pathL l (k : Int) with
  | inr e => rfl
  | inl r =>
    simp only
    refine textPath_take l n hn r fun x hx => ?_
    unfold pathL at hp
    rw [if_neg (by omega), Int.toNat_natCast] at hp
    have := path_below _ _ _ hp x hx
    omega
theorem textsN_len {l : List Pt} : ∀ {k : Nat} {ts : List ByteArray}, textsN l k = .inl ts → ts.length = k
  | 0, ts, h => by injection h with h; subst h; rfl
  | k + 1, ts, h => by
    rw [textsN] at h
    cases h1 : textsN l k with
    | inr e => rw [h1] at h; cases h
    | inl us =>
      rw [h1] at h
      simp only at h
      cases h2 : textL l (k : Int) with
      | inr e => rw [h2] at h; cases h
      | inl s =>
        rw [h2] at h
        injection h with h
        subst h
        simp [textsN_len h1]
theorem textsN_at {l : List Pt} : ∀ {k : Nat} {ts : List ByteArray}, textsN l k = .inl ts → ∀ j (h : j < ts.length), textL l (j : Int) = .inl ts[j]
  | 0, ts, h => by injection h with h; subst h; intro j h; simp at h
  | k + 1, ts, h => by
    rw [textsN] at h
    cases h1 : textsN l k with
    | inr e => rw [h1] at h; cases h
    | inl us =>
      rw [h1] at h
      simp only at h
      cases h2 : textL l (k : Int) with
      | inr e => rw [h2] at h; cases h
      | inl s =>
        rw [h2] at h
        injection h with h
        subst h
        intro j hj
        have hlen := textsN_len h1
        by_cases hju : j < us.length
        · rw [List.getElem_append_left hju]; exact textsN_at h1 j hju
        · have hj' : j = us.length := by simp at hj; omega
          subst hj'
          simp [hlen, h2]
theorem textsN_prefix {l : List Pt} {n : Nat} : ∀ {k : Nat} {ts : List ByteArray}, textsN l n = .inl ts → k ≤ n → textsN l k = .inl (ts.take k) := by
  induction n with
  | zero =>
    intro k ts h hk
    obtain rfl : k = 0 := by omega
    injection h with h
    subst h; rfl
  | succ n ih =>
    intro k ts h hk
    by_cases hkn : k = n + 1
    · subst hkn
      have := textsN_len h
      rw [h, List.take_of_length_le (by omega)]
    · rw [textsN] at h
      cases h1 : textsN l n with
      | inr e => rw [h1] at h; cases h
      | inl us =>
        rw [h1] at h
        simp only at h
        cases h2 : textL l (n : Int) with
        | inr e => rw [h2] at h; cases h
        | inl s =>
          rw [h2] at h
          injection h with h
          subst h
          have hlen := textsN_len h1
          rw [ih h1 (by omega), List.take_append_of_le_length (by omega)]
theorem textsN_take (l : List Pt) (n : Nat) (hn : n ≤ l.length) (hl : l.length ≤ 200) : ∀ k, k ≤ n → textsN (l.take n) k = textsN l k
  | 0, _ => rfl
  | k + 1, h => by rw [textsN, textsN, textsN_take l n hn hl k (by omega), textL_take l n k (by omega) hn hl]
/-- A beginning of a list that may be may be, with the same texts. -/
theorem all_take {l : List Pt} {ts : List ByteArray} (n : Nat) (hn : n ≤ l.length) (h : allL l = .inl ts) : allL (l.take n) = .inl (ts.take n) ∧ ts.length = l.length ∧ l.length ≤ 200 := by
  unfold allL at h ⊢
  split at h
  · cases h
  · rename_i hl
    rw [if_neg (by rw [List.length_take]; omega), List.length_take, Nat.min_eq_left hn, textsN_take l n hn (by omega) n (Nat.le_refl _)]
    exact ⟨textsN_prefix h hn, textsN_len h, by omega⟩
end Go.Proofs.Ytghmhheolbobpaa
