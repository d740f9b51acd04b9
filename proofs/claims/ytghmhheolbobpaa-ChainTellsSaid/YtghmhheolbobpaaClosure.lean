/- The closure of chain.All: a part's text by its base's, which lies in a map. Conditions: the parts lie in memory as a slice of structs, their texts within the form's reach; the map holds the texts of all parts ahead. -/
import Derived.Test.YtghmhheolbobpaaChainText
import Derived.Maps.Own
import Derived.Maps.OwnOps
import Derived.Maps.StringElems
set_option linter.unusedVariables false
set_option maxRecDepth 100000
namespace Go.Proofs.Ytghmhheolbobpaa
open Go.RowKit Wire Go.Maps

/-- Block mb is a map that holds, for each place, the text. -/
def Kn (mb : Nat) (ts : List ByteArray) (w : World) : Prop :=
  ∃ D : DataW Unit, IsMap D ∧ w.ownsMap Try.prog 3 (plainElem Try.prog 9) mb ts.length D ∧ ∀ j (h : j < ts.length), D.atKey (.int .i64 (j : Int)) (.lit (.string [])) = .lit (.string ts[j].data.toList)
theorem key3 : Keyed Try.prog 3 := int_keyed Try.underlying3
theorem zero9 (w : World) : (zeroValue 9).run Try.prog w = .ok (.string ⟨#[]⟩) w := by kernel_rfl
theorem Kn.grown {mb : Nat} {ts : List ByteArray} {w w' : World} {row : Option Nat} (h : Kn mb ts w) (hg : w.grownBy w' row) (hne : some mb ≠ row) : Kn mb ts w' := by
  obtain ⟨D, h1, h2, h3⟩ := h
  exact ⟨D, h1, h2.kept hg hne, h3⟩
theorem Kn.below {mb : Nat} {ts : List ByteArray} {w w' : World} (h : Kn mb ts w) (hb : Below w.heap.size w w') : Kn mb ts w' := h.grown (grown_of_below hb) (by simp)
theorem Kn.lookup {mb : Nat} {ts : List ByteArray} {w : World} (h : Kn mb ts w) {j : Nat} (hj : j < ts.length) (hl : ts.length ≤ 200) :
    (Instr.lookup 87 (.map (some mb)) (.int .i64 (j : Int)) false).run Try.prog w = .ok (.string ts[j]) w := by
  obtain ⟨D, _, h2, h3⟩ := h
  obtain ⟨v, ps, hrun, hv⟩ := h2.lookup key3 Try.underlying87 (zero9 w) (plainElem_string Try.underlying9 (by decide)) (keyOf_int_mk Try.underlying3 (WalkArith.wf_i64 (n := (j : Int)) (by omega)))
  have e := h3 j hj
  have e0 : (⟨#[]⟩ : ByteArray).data.toList = [] := rfl
  rw [e0, e] at hv
  obtain ⟨s, rfl, hs, _⟩ := plainElem_string_inv Try.underlying9 hv
  simp only [Prod.mk.injEq, DataW.lit.injEq, Lit.string.injEq] at hs
  have : s = ts[j] := by
    apply ByteArray.ext
    apply Array.toList_inj.1
    exact hs.1.symm
  rw [hrun, this]
theorem Kn.updated {mb : Nat} {ts : List ByteArray} {D : DataW Unit} {w : World} (hD : IsMap D) (h3 : ∀ j (h : j < ts.length), D.atKey (.int .i64 (j : Int)) (.lit (.string [])) = .lit (.string ts[j].data.toList)) (s : ByteArray)
    (h2 : w.ownsMap Try.prog 3 (plainElem Try.prog 9) mb (ts.length + 1) (D.put (.int .i64 (ts.length : Int)) (.lit (.string s.data.toList)))) : Kn mb (ts ++ [s]) w := by
  refine ⟨_, ?_, by rw [List.length_append]; exact h2, fun j hj => ?_⟩
  · obtain ⟨es, rfl⟩ := hD
    exact ⟨_, rfl⟩
  · by_cases hjt : j < ts.length
    · rw [atKey_put_other (by intro e; injection e with _ e; omega), h3 j hjt, List.getElem_append_left hjt]
    · have hjt2 : j = ts.length := by rw [List.length_append] at hj; simp at hj; omega
      subst hjt2
      rw [atKey_put_same hD (by trivial)]
      simp

/-- What a call of the closure leaves: the text is in the map; only the map has turned. -/
def FindOut (mb : Nat) (ts : List ByteArray) (r : ByteArray ⊕ Nat) (e : Ending) (w w' : World) : Prop :=
  TextOut r e ∧ w.grownBy w' (some mb) ∧ (∀ s, r = .inl s → Kn mb (ts ++ [s]) w')
theorem grown_some {w w' : World} (h : Below w.heap.size w w') (b : Nat) : w.grownBy w' (some b) := ⟨h.os, h.tape, h.output, h.size, fun k hk _ => h.block k hk⟩
set_option maxHeartbeats 1000000 in
theorem find_bad (A : Option Addr) (cap : Nat) (l : List Pt) (k p1 p2 mb : Nat) (ts : List ByteArray) (e : Nat) (w : World) (hc : Pts w A l) (hl : w.cell? ⟨p1, 0, none⟩ = some (.slice A l.length cap)) (hp : pathL l (k : Int) = .inr e) :
    Calls Try.prog 45 #[.int .i64 (k : Int), .pointer (some ⟨p1, 0, none⟩), .pointer (some ⟨p2, 0, none⟩)] w fun e w' => FindOut mb ts (textL l (k : Int)) e w w' := by
  have C42 := path_of A cap l (k : Int) w hc
  have he : ((e : Int) == 0) = false := by have := pathL_err hp; rw [beq_eq_false_iff_ne]; omega
  rw [textL_bad hp]
  rw [hp] at C42
  clear hp
  go_enter Try.func45, Try.ntmps45
  go_wp2_with (go_at_call 42; refine C42.mono ?_; rintro e w1 ⟨hR, b1⟩; obtain rfl := hR)
  go_ret2
  exact ⟨rfl, grown_some b1 mb, fun s h => by cases h⟩
set_option maxHeartbeats 2000000 in
theorem find_plain (A : Option Addr) (cap : Nat) (l : List Pt) (k p1 p2 mb : Nat) (ts : List ByteArray) (w : World) (hs : ∀ x ∈ l, x.text.size ≤ maxLen) (hc : Pts w A l) (hl : w.cell? ⟨p1, 0, none⟩ = some (.slice A l.length cap))
    (hm : w.cell? ⟨p2, 0, none⟩ = some (.map (some mb))) (hk : k < l.length) (hk2 : k = ts.length) (hk3 : ts.length ≤ 200) (hn : Kn mb ts w) (hp : pathL l (k : Int) = .inl [k]) :
    Calls Try.prog 45 #[.int .i64 (k : Int), .pointer (some ⟨p1, 0, none⟩), .pointer (some ⟨p2, 0, none⟩)] w fun e w' => FindOut mb ts (textL l (k : Int)) e w w' := by
  have C42 := path_of A cap l (k : Int) w hc
  have HT := textL_plain hk hp
  rw [hp] at C42
  obtain ⟨bb, o, rfl, hr0⟩ := hc k hk
  have C43 : Hid (∀ W, Calls Try.prog 43 #[.agg #[.bool l[k].delta, .int .i64 l[k].base, .string l[k].text], .string ⟨#[]⟩] W fun e w' => TextOut (partText l[k] ⟨#[]⟩) e ∧ Below W.heap.size W w') := Lib.hid (fun W => part_of l[k] ⟨#[]⟩ W (hs _ (List.getElem_mem hk)) (by decide))
  rw [HT]
  have HR := Lib.hid hr0
  have HN := Lib.hid hn
  have HK2 := Lib.hid hk2
  have hk4 : k ≤ 200 := by omega
  generalize hx : l[k] = x at *
  clear hc hp hr0 hn HT hk2 hs
  cases hpt : partText x ⟨#[]⟩ with
  | inl s =>
    have hsz := part_size hpt
    rw [hpt] at C43
    clear hpt
    go_enter Try.func45, Try.ntmps45
    go_wp2_with (first
      | (go_at_call 42; refine C42.mono ?_; rintro e w1 ⟨hR, b1⟩; obtain ⟨v, rfl, hO⟩ := hR; obtain ⟨g, cp, rfl, hcl⟩ := places_slice hO (by simp); have d1 := cell_later b1 hl; have d2 := cell_later b1 hm; have hr := rangeAt_below HR.out b1; have c0 := Pt.at0 hr; have c1 := Pt.at1 hr; have c2 := Pt.at2 hr; clear hr hcl hO)
      | (go_at_call 43; refine (C43.out _).mono ?_; rintro e w2 ⟨hR, b2⟩; obtain rfl := hR; have d5 := cell_later b2 d2)
      | (at_mapUpdate; obtain ⟨D, hD1, hD2, hD3⟩ := (HN.out.below b1).below b2; refine wpList_mapUpdate_own _ rfl _ _ _ 87 rfl 3 9 key3 Try.underlying87 _ mb ts.length D rfl hD2 (by unfold maxLen; omega) _ _ _ rfl rfl (keyOf_int_mk Try.underlying3 (WalkArith.wf_i64 (n := (k : Int)) (by omega))) _ [] (plainElem_string Try.underlying9 (s := s) (by unfold maxLen; omega)) ?_; intro w3 hown3 hgrow3))
    go_ret2
    refine ⟨rfl, (Ko.trans (b := mb) (grown_some (below_step b1 b2) mb) hgrow3), fun s' h => ?_⟩
    injection h with h
    subst h
    exact Kn.updated hD1 hD3 s (by have := HK2.out; subst this; exact hown3)
  | inr e =>
    have he : ((e : Int) == 0) = false := by have := part_err hpt; rw [beq_eq_false_iff_ne]; omega
    rw [hpt] at C43
    clear hpt
    go_enter Try.func45, Try.ntmps45
    go_wp2_with (first
      | (go_at_call 42; refine C42.mono ?_; rintro e w1 ⟨hR, b1⟩; obtain ⟨v, rfl, hO⟩ := hR; obtain ⟨g, cp, rfl, hcl⟩ := places_slice hO (by simp); have d1 := cell_later b1 hl; have d2 := cell_later b1 hm; have hr := rangeAt_below HR.out b1; have c0 := Pt.at0 hr; have c1 := Pt.at1 hr; have c2 := Pt.at2 hr; clear hr hcl hO)
      | (go_at_call 43; refine (C43.out _).mono ?_; rintro e w2 ⟨hR, b2⟩; obtain rfl := hR; have d5 := cell_later b2 d2)
      | (at_mapUpdate; obtain ⟨D, hD1, hD2, hD3⟩ := (HN.out.below b1).below b2; refine wpList_mapUpdate_own _ rfl _ _ _ 87 rfl 3 9 key3 Try.underlying87 _ mb ts.length D rfl hD2 (by unfold maxLen; omega) _ _ _ rfl rfl (keyOf_int_mk Try.underlying3 (WalkArith.wf_i64 (n := (k : Int)) (by omega))) _ [] (plainElem_string Try.underlying9 (s := ⟨#[]⟩) (by decide)) ?_; intro w3 hown3 hgrow3))
    go_ret2
    refine ⟨rfl, (Ko.trans (b := mb) (grown_some (below_step b1 b2) mb) hgrow3), fun s' h => ?_⟩
    cases h
set_option maxHeartbeats 2000000 in
theorem find_delta (A : Option Addr) (cap : Nat) (l : List Pt) (k p1 p2 mb : Nat) (ts : List ByteArray) (w : World) (hs : ∀ x ∈ l, x.text.size ≤ maxLen) (hc : Pts w A l) (hl : w.cell? ⟨p1, 0, none⟩ = some (.slice A l.length cap))
    (hm : w.cell? ⟨p2, 0, none⟩ = some (.map (some mb))) (hk : k < l.length) (hk2 : k = ts.length) (hk3 : ts.length ≤ 200) (hn : Kn mb ts w) (j : Nat) (r : List Nat) (hp : pathL l (k : Int) = .inl (k :: j :: r)) (hj : j < ts.length) (hjp : pathL l (j : Int) = .inl (j :: r)) (hjt : textL l (j : Int) = .inl ts[j]) (hjs : ts[j].size ≤ maxLen) :
    Calls Try.prog 45 #[.int .i64 (k : Int), .pointer (some ⟨p1, 0, none⟩), .pointer (some ⟨p2, 0, none⟩)] w fun e w' => FindOut mb ts (textL l (k : Int)) e w w' := by
  have C42 := path_of A cap l (k : Int) w hc
  have HT := textL_delta hk hp hjp hjt
  rw [hp] at C42
  obtain ⟨bb, o, rfl, hr0⟩ := hc k hk
  have C43 : Hid (∀ W, Calls Try.prog 43 #[.agg #[.bool l[k].delta, .int .i64 l[k].base, .string l[k].text], .string ts[j]] W fun e w' => TextOut (partText l[k] ts[j]) e ∧ Below W.heap.size W w') := Lib.hid (fun W => part_of l[k] ts[j] W (hs _ (List.getElem_mem hk)) hjs)
  rw [HT]
  have HR := Lib.hid hr0
  have HN := Lib.hid hn
  have HK2 := Lib.hid hk2
  have hk4 : k ≤ 200 := by omega
  generalize hx : l[k] = x at *
  clear hc hp hr0 hn HT hk2 hs
  cases hpt : partText x ts[j] with
  | inl s =>
    have hsz := part_size hpt
    rw [hpt] at C43
    clear hpt
    go_enter Try.func45, Try.ntmps45
    go_wp2_with (go_at_call 42; refine C42.mono ?_; rintro e w1 ⟨hR, b1⟩; obtain ⟨v, rfl, hO⟩ := hR; obtain ⟨g, cp, rfl, hcl⟩ := places_slice hO (by simp); have d1 := cell_later b1 hl; have d2 := cell_later b1 hm; have hr := rangeAt_below HR.out b1; have c0 := Pt.at0 hr; have c1 := Pt.at1 hr; have c2 := Pt.at2 hr; have c4 := hcl 1 (by simp); have bd := Below.drew b1; have hlk := Kn.lookup (HN.out.below bd) hj hk3; have d6 : w1.drew.cell? ⟨p1, 0, none⟩ = some (.slice (some ⟨bb, o, none⟩) l.length cap) := d1; have d7 : w1.drew.cell? ⟨p2, 0, none⟩ = some (.map (some mb)) := d2; have e0 : w1.drew.cell? ⟨bb, o + k * 3, none⟩ = some (.bool x.delta) := c0; have e1 : w1.drew.cell? ⟨bb, o + k * 3 + 1, none⟩ = some (.int .i64 x.base) := c1; have e2 : w1.drew.cell? ⟨bb, o + k * 3 + 2, none⟩ = some (.string x.text) := c2; have e4 : w1.drew.cell? ⟨g, 1, none⟩ = some (.int .i64 (j : Int)) := c4; clear hr hcl hO)
    go_region
    all_goals
     go_wp2_with (first
      | (go_at_call 43; refine (C43.out _).mono ?_; rintro e w2 ⟨hR, b2⟩; obtain rfl := hR; have d5 := cell_later b2 d7)
      | (at_mapUpdate; obtain ⟨D, hD1, hD2, hD3⟩ := (HN.out.below bd).below b2; refine wpList_mapUpdate_own _ rfl _ _ _ 87 rfl 3 9 key3 Try.underlying87 _ mb ts.length D rfl hD2 (by unfold maxLen; omega) _ _ _ rfl rfl (keyOf_int_mk Try.underlying3 (WalkArith.wf_i64 (n := (k : Int)) (by omega))) _ [] (plainElem_string Try.underlying9 (s := s) (by unfold maxLen; omega)) ?_; intro w3 hown3 hgrow3))
    go_ret2
    refine ⟨rfl, (Ko.trans (b := mb) (grown_some (below_step bd b2) mb) hgrow3), fun s' h => ?_⟩
    injection h with h
    subst h
    exact Kn.updated hD1 hD3 s (by have := HK2.out; subst this; exact hown3)
  | inr e =>
    have he : ((e : Int) == 0) = false := by have := part_err hpt; rw [beq_eq_false_iff_ne]; omega
    rw [hpt] at C43
    clear hpt
    go_enter Try.func45, Try.ntmps45
    go_wp2_with (go_at_call 42; refine C42.mono ?_; rintro e w1 ⟨hR, b1⟩; obtain ⟨v, rfl, hO⟩ := hR; obtain ⟨g, cp, rfl, hcl⟩ := places_slice hO (by simp); have d1 := cell_later b1 hl; have d2 := cell_later b1 hm; have hr := rangeAt_below HR.out b1; have c0 := Pt.at0 hr; have c1 := Pt.at1 hr; have c2 := Pt.at2 hr; have c4 := hcl 1 (by simp); have bd := Below.drew b1; have hlk := Kn.lookup (HN.out.below bd) hj hk3; have d6 : w1.drew.cell? ⟨p1, 0, none⟩ = some (.slice (some ⟨bb, o, none⟩) l.length cap) := d1; have d7 : w1.drew.cell? ⟨p2, 0, none⟩ = some (.map (some mb)) := d2; have e0 : w1.drew.cell? ⟨bb, o + k * 3, none⟩ = some (.bool x.delta) := c0; have e1 : w1.drew.cell? ⟨bb, o + k * 3 + 1, none⟩ = some (.int .i64 x.base) := c1; have e2 : w1.drew.cell? ⟨bb, o + k * 3 + 2, none⟩ = some (.string x.text) := c2; have e4 : w1.drew.cell? ⟨g, 1, none⟩ = some (.int .i64 (j : Int)) := c4; clear hr hcl hO)
    go_region
    all_goals
     go_wp2_with (first
      | (go_at_call 43; refine (C43.out _).mono ?_; rintro e w2 ⟨hR, b2⟩; obtain rfl := hR; have d5 := cell_later b2 d7)
      | (at_mapUpdate; obtain ⟨D, hD1, hD2, hD3⟩ := (HN.out.below bd).below b2; refine wpList_mapUpdate_own _ rfl _ _ _ 87 rfl 3 9 key3 Try.underlying87 _ mb ts.length D rfl hD2 (by unfold maxLen; omega) _ _ _ rfl rfl (keyOf_int_mk Try.underlying3 (WalkArith.wf_i64 (n := (k : Int)) (by omega))) _ [] (plainElem_string Try.underlying9 (s := ⟨#[]⟩) (by decide)) ?_; intro w3 hown3 hgrow3))
    go_ret2
    refine ⟨rfl, (Ko.trans (b := mb) (grown_some (below_step bd b2) mb) hgrow3), fun s' h => ?_⟩
    cases h
end Go.Proofs.Ytghmhheolbobpaa
