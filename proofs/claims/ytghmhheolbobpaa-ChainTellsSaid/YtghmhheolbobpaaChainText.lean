/- chain's own Depth and Text. Conditions: the parts lie in memory as a slice of structs, their texts within the form's reach. -/
import Derived.Test.YtghmhheolbobpaaDeltaText
set_option linter.unusedVariables false
set_option maxRecDepth 100000
namespace Go.Proofs.Ytghmhheolbobpaa
open Go.RowKit Wire

/-! ### plain -/
theorem apply_size {base d s : ByteArray} (h : applyD base d = .inl s) : s.size ≤ 4099 := by
  unfold applyD at h
  cases hr : readD d with
  | none => rw [hr] at h; cases h
  | some y =>
    obtain ⟨b, l⟩ := y
    obtain ⟨_, hck, _⟩ := read_some hr
    rw [hr] at h
    simp only at h
    split at h
    · rename_i hb
      injection h with h
      subst h
      rw [hb] at hck
      have := bytesL_few hck l.length
      rw [List.take_length] at this
      show (bytesL base l).toArray.size ≤ 4099
      rw [List.size_toArray]; exact this
    · cases h
theorem part_size {x : Pt} {base s : ByteArray} (h : partText x base = .inl s) : s.size ≤ 4099 := by
  unfold partText at h
  split at h
  · exact apply_size h
  · split at h
    · cases h
    · injection h with h; subst h; omega
theorem part_err {x : Pt} {base : ByteArray} {e : Nat} (h : partText x base = .inr e) : e = 2 ∨ e = 19 := by
  unfold partText at h
  split at h
  · unfold applyD at h
    cases hr : readD x.text with
    | none => rw [hr] at h; injection h with h; omega
    | some y =>
      obtain ⟨b, l⟩ := y
      rw [hr] at h
      simp only at h
      split at h
      · cases h
      · injection h with h; omega
  · split at h
    · injection h with h; omega
    · cases h
theorem textPath_size {l : List Pt} : ∀ {r : List Nat} {s : ByteArray}, textPath l r = .inl s → s.size ≤ 4099
  | [], s, h => by injection h with h; subst h; decide
  | k :: r, s, h => by
    rw [textPath] at h
    cases h1 : textPath l r with
    | inr e => rw [h1] at h; cases h
    | inl t => rw [h1] at h; exact part_size h
theorem textPath_step {l : List Pt} {r : List Nat} {i : Nat} {s : ByteArray} (h : i < r.length) (hr : r[i] < l.length) (hs : textPath l (r.drop (i + 1)) = .inl s) : textPath l (r.drop i) = partText l[r[i]] s := by
  rw [List.drop_eq_getElem_cons h, textPath, hs]
  simp only
  rw [List.getD_eq_getElem?_getD, List.getElem?_eq_getElem hr]; rfl
theorem textPath_err {l : List Pt} {e : Nat} : ∀ {r : List Nat} (i : Nat), textPath l (r.drop i) = .inr e → textPath l r = .inr e
  | r, 0, h => h
  | [], i + 1, h => by cases h
  | k :: r, i + 1, h => by
    have ih := textPath_err (r := r) i h
    rw [textPath, ih]
theorem pathFrom_err {l : List Pt} {e : Nat} : ∀ {f k : Nat}, pathFrom l f k = .inr e → e = 1 ∨ e = 2 ∨ e = 11
  | 0, k, h => by injection h with h; omega
  | f + 1, k, h => by
    unfold pathFrom at h
    cases hx : l[k]? with
    | none => rw [hx] at h; injection h with h; omega
    | some x =>
      rw [hx] at h
      simp only at h
      split at h
      · injection h with h; omega
      · split at h
        · cases h
        · split at h
          · injection h with h; omega
          · cases hp : pathFrom l f x.base.toNat with
            | inl r => rw [hp] at h; cases h
            | inr e' => rw [hp] at h; injection h with h; subst h; exact pathFrom_err hp
theorem pathL_err {l : List Pt} {k : Int} {e : Nat} (h : pathL l k = .inr e) : e = 1 ∨ e = 2 ∨ e = 11 := by
  unfold pathL at h
  split at h
  · injection h with h; omega
  · exact pathFrom_err h
theorem pathL_in {l : List Pt} {k : Int} {r : List Nat} (h : pathL l k = .inl r) : (∀ x ∈ r, x < l.length) ∧ 0 < r.length ∧ r.length ≤ 5 := by
  have hk : ∃ n : Nat, k = (n : Int) := by
    unfold pathL at h
    split at h
    · cases h
    · exact ⟨k.toNat, by omega⟩
  obtain ⟨n, rfl⟩ := hk
  obtain ⟨hn, r', rfl, hl, h4, _⟩ := pathL_inl h
  refine ⟨fun x hx => ?_, by simp, by simp; omega⟩
  unfold pathL at h
  rw [if_neg (by omega), Int.toNat_natCast] at h
  have := path_below _ _ _ h x hx
  omega

/-! ### Depth -/
/-- What Depth hands back. -/
def depthRes : List Nat ⊕ Nat → Int × Int
  | .inl r => ((r.length : Int) - 1, 0)
  | .inr e => (0, (e : Int))
theorem places_slice {B : Nat} {v : Value} {r : List Nat} {w : World} (h : w.ownsRowF B 3 1 v r.length (places r)) (h0 : 0 < r.length) : ∃ g cp, v = .slice (some ⟨g, 0, none⟩) r.length cp ∧ ∀ j (hj : j < r.length), w.cell? ⟨g, j, none⟩ = some (.int .i64 (r[j] : Int)) := by
  have hat : ∀ j (hj : j < r.length), (places r)[j]? = some (.int .i64 (r[j] : Int)) := fun j hj => by
    unfold places; rw [List.getElem?_map, List.getElem?_eq_getElem hj]; rfl
  obtain ⟨g, cp, hv, _, _⟩ := ends_cell h h0 (hat 0 h0)
  refine ⟨g, cp, hv, fun j hj => ?_⟩
  obtain ⟨g', cp', hv', _, hc⟩ := ends_cell h hj (hat j hj)
  rw [hv] at hv'
  injection hv' with hv'
  injection hv' with hv'
  injection hv' with hv'
  subst hv'
  exact hc
set_option maxHeartbeats 1000000 in
theorem depth_of (A : Option Addr) (cap : Nat) (l : List Pt) (p : Int) (w : World) (hc : Pts w A l) :
    Calls Try.prog 29 #[.slice A l.length cap, .int .i64 p] w fun e w' => e = .returned (.tuple #[.int .i64 (depthRes (pathL l p)).1, .int .i64 (depthRes (pathL l p)).2]) ∧ Below w.heap.size w w' := by
  have C42 := path_of A cap l p w hc
  cases hp : pathL l p with
  | inr e =>
    have he : ((e : Int) == 0) = false := by have := pathL_err hp; rw [beq_eq_false_iff_ne]; omega
    rw [hp] at C42
    clear hp
    go_enter Try.func29, Try.ntmps29
    go_wp2_with (go_at_call 42; refine C42.mono ?_; rintro e w1 ⟨hR, b1⟩; obtain rfl := hR)
    go_ret2
    exact ⟨rfl, b1⟩
  | inl r =>
    obtain ⟨_, h0, h5⟩ := pathL_in hp
    rw [hp] at C42
    clear hp
    go_enter Try.func29, Try.ntmps29
    go_wp2_with (go_at_call 42; refine C42.mono ?_; rintro e w1 ⟨hR, b1⟩; obtain ⟨v, rfl, hO⟩ := hR; obtain ⟨g, cp, rfl, hcl⟩ := places_slice hO h0)
    go_ret2
    exact ⟨rfl, b1⟩

/-! ### Text -/
set_option maxHeartbeats 2000000 in
theorem chainText_of (A : Option Addr) (cap : Nat) (l : List Pt) (p : Int) (w : World) (hs : ∀ x ∈ l, x.text.size ≤ maxLen) (hc : Pts w A l) :
    Calls Try.prog 30 #[.slice A l.length cap, .int .i64 p] w fun e w' => TextOut (textL l p) e ∧ Below w.heap.size w w' := by
  have C42 := path_of A cap l p w hc
  cases hp : pathL l p with
  | inr e =>
    have he : ((e : Int) == 0) = false := by have := pathL_err hp; rw [beq_eq_false_iff_ne]; omega
    rw [textL_bad hp]
    rw [hp] at C42
    clear hp
    go_enter Try.func30, Try.ntmps30
    go_wp2_with (go_at_call 42; refine C42.mono ?_; rintro e w1 ⟨hR, b1⟩; obtain rfl := hR)
    go_ret2
    exact ⟨rfl, b1⟩
  | inl r =>
    obtain ⟨hin, h0, h5⟩ := pathL_in hp
    have HT : Hid (textL l p = textPath l r) := Lib.hid (by unfold textL; rw [hp])
    rw [hp] at C42
    have HIN := Lib.hid hin
    have HS := Lib.hid hs
    have HC := Lib.hid hc
    clear hp hin hs hc
    go_enter Try.func30, Try.ntmps30
    go_wp2_with (go_at_call 42; refine C42.mono ?_; rintro e w1 ⟨hR, b1⟩; obtain ⟨v, rfl, hO⟩ := hR; obtain ⟨g, cp, rfl, hcl⟩ := places_slice hO h0)
    have HCL := Lib.hid hcl
    have HO := Lib.hid hO
    clear hcl hO C42
    go_loopw [8, 9] (fun s i wr => ∃ (j : Nat) (t : ByteArray), j ≤ r.length ∧ s = .string t ∧ i = .int .i64 ((j : Int) - 1) ∧ Hid (textPath l (r.drop j) = .inl t) ∧ Below w1.heap.size w1 wr) (fun _ i _ => (intOf i + 1).toNat)
    case atStart => exact ⟨r.length, ⟨#[]⟩, by omega, rfl, by go_num, Lib.hid (by rw [List.drop_length]; rfl), Below.refl _ _⟩
    case round =>
      obtain ⟨j, t, hj, rfl, rfl, HTP, hBel⟩ := hrel
      cases j with
      | zero =>
        go_wp2
        go_ret2
        rw [HT.out]
        rw [List.drop_zero] at HTP
        rw [HTP.out]
        exact ⟨rfl, below_step b1 hBel⟩
      | succ m =>
        have hm : m < r.length := by omega
        have ci := cell_later hBel (HCL.out m hm)
        have hlt := HIN.out _ (List.getElem_mem hm)
        obtain ⟨bb, o, rfl, hr0⟩ := HC.out _ hlt
        have hr := rangeAt_below hr0 (below_step b1 hBel)
        have c0 := Pt.at0 hr
        have c1 := Pt.at1 hr
        have c2 := Pt.at2 hr
        have hst := textPath_step hm hlt HTP.out
        have htz := textPath_size HTP.out
        have C43 : Hid (∀ W, Calls Try.prog 43 #[.agg #[.bool l[r[m]].delta, .int .i64 l[r[m]].base, .string l[r[m]].text], .string t] W fun e w' => TextOut (partText l[r[m]] t) e ∧ Below W.heap.size W w') := Lib.hid (fun W => part_of l[r[m]] t W (HS.out _ (List.getElem_mem hlt)) (by unfold maxLen; omega))
        generalize hx : l[r[m]] = x at *
        generalize hrm : r[m] = q at *
        clear hr hr0
        have hi : ((m + 1 : Nat) : Int) - 1 = (m : Int) := by omega
        rw [hi]
        cases hpt : partText x t with
        | inl s =>
          rw [hpt] at C43 hst
          have HST := Lib.hid hst
          clear hst hpt hi
          go_wp2_with (go_at_call 43; refine (C43.out _).mono ?_; rintro e w2 ⟨hR, b2⟩; obtain rfl := hR)
          exact ⟨⟨m, s, by omega, rfl, by go_num, HST, below_step hBel b2⟩, by simp [intOf]⟩
        | inr e =>
          have he : ((e : Int) == 0) = false := by have := part_err hpt; rw [beq_eq_false_iff_ne]; omega
          rw [hpt] at C43 hst
          have HST := Lib.hid (textPath_err m hst)
          clear hst hpt hi
          go_wp2_with (go_at_call 43; refine (C43.out _).mono ?_; rintro e w2 ⟨hR, b2⟩; obtain rfl := hR)
          go_ret2
          rw [HT.out, HST.out]
          exact ⟨rfl, below_step b1 (below_step hBel b2)⟩
end Go.Proofs.Ytghmhheolbobpaa
