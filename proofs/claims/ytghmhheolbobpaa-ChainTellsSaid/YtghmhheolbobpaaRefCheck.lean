/- The reference's near, Copy, Right and Check on pieces whose numbers are small and whole: they answer as delta's own. Conditions: the numbers are small and whole; the pieces lie in memory as a slice of structs. -/
import Derived.Test.YtghmhheolbobpaaDeltaText
set_option linter.unusedVariables false
set_option maxRecDepth 100000
namespace Go.Proofs.Ytghmhheolbobpaa
open Go.RowKit Wire

def nearR (x a b : Int) : Int × Bool := if a ≤ x ∧ x ≤ b then (x, true) else (0, false)
set_option maxHeartbeats 400000 in
theorem near_of (x a b : Int) (w : World) (hx : Sm x) (ha : Sm a) (hb : Sm b) :
    Calls Try.prog 61 #[.float .f64 (F x), .int .i64 a, .int .i64 b] w fun e w' => e = .returned (.tuple #[.int .i64 (nearR x a b).1, .bool (nearR x a b).2]) ∧ w = w' := by
  have o1 : (FloatKind.f64.format.order (F x) (floatOfInt .f64 a) == some Ordering.gt || FloatKind.f64.format.order (F x) (floatOfInt .f64 a) == some Ordering.eq) = decide (a ≤ x) := by
    rw [fint, F_order hx ha]; exact cmp_gt
  have o2 : (FloatKind.f64.format.order (F x) (floatOfInt .f64 b) == some Ordering.lt || FloatKind.f64.format.order (F x) (floatOfInt .f64 b) == some Ordering.eq) = decide (x ≤ b) := by
    rw [fint, F_order hx hb]; exact cmp_lt
  have o3 : (FloatKind.f64.format.order (floatOfInt .f64 x) (F x) == some Ordering.eq) = true := by
    rw [fint, F_order hx hx, cmp_eq]; simp
  have hcv := conv_f hx
  clear hx ha hb
  by_cases h1 : a ≤ x
  · rw [decide_eq_true h1] at o1
    by_cases h2 : x ≤ b
    · rw [decide_eq_true h2] at o2
      have e : nearR x a b = (x, true) := by unfold nearR; rw [if_pos ⟨h1, h2⟩]
      rw [e]
      clear h1 h2 e
      go_enter Try.func61, Try.ntmps61
      go_wp2
      go_ret2
      exact ⟨rfl, rfl⟩
    · rw [decide_eq_false h2] at o2
      have e : nearR x a b = (0, false) := by unfold nearR; rw [if_neg (fun h => h2 h.2)]
      rw [e]
      clear h1 h2 e
      go_enter Try.func61, Try.ntmps61
      go_wp2
      go_ret2
      exact ⟨rfl, rfl⟩
  · rw [decide_eq_false h1] at o1
    have e : nearR x a b = (0, false) := by unfold nearR; rw [if_neg (fun h => h1 h.1)]
    rw [e]
    clear h1 e
    go_enter Try.func61, Try.ntmps61
    go_wp2
    go_ret2
    exact ⟨rfl, rfl⟩
/-- What Copy answers. -/
def Pc.copy (p : Pc) (b : Int) : Int × Int × Bool := if 1 ≤ p.im ∧ p.text.size = 0 ∧ (p.im : Int) ≤ b then (if (p.re : Int) ≤ b - (p.im : Int) then ((p.re : Int), (p.im : Int), true) else (0, (p.im : Int), false)) else (0, 0, false)
theorem copy_ok (p : Pc) (b : Int) : (p.copy b).2.2 = p.isCopy b ∧ (p.isCopy b = true → p.copy b = ((p.re : Int), (p.im : Int), true)) := by
  unfold Pc.copy Pc.isCopy
  by_cases h1 : 1 ≤ p.im
  · by_cases h2 : p.text.size = 0
    · by_cases h4 : (p.re : Int) ≤ b - (p.im : Int)
      · have h3 : (p.im : Int) ≤ b := by omega
        simp [h1, h2, h3, h4]
      · by_cases h3 : (p.im : Int) ≤ b
        · simp [h1, h2, h3, h4]
        · simp [h1, h2, h3, h4]
    · simp [h1, h2]
  · simp [h1]
set_option maxHeartbeats 2000000 in
theorem copy_of (p : Pc) (b : Int) (w : World) (hp : p.small) (hb : 0 ≤ b ∧ b ≤ 4099) :
    Calls Try.prog 57 #[.agg p.cells.toArray, .int .i64 b] w fun e w' => e = .returned (.tuple #[.int .i64 (p.copy b).1, .int .i64 (p.copy b).2.1, .bool (p.copy b).2.2]) ∧ Below w.heap.size w w' := by
  obtain ⟨re, im, t⟩ := p
  obtain ⟨h1, h2⟩ := hp
  simp only at h1 h2
  obtain ⟨hb1, hb2⟩ := hb
  show Calls Try.prog 57 #[.agg #[.complex .f64 (F re) (F im), .string t], .int .i64 b] w _
  have hw := fun W => near_of (im : Int) 1 4099 W ⟨by omega, by omega⟩ ⟨by omega, by omega⟩ ⟨by omega, by omega⟩
  by_cases h : 1 ≤ im
  · have e1 : nearR (im : Int) 1 4099 = ((im : Int), true) := by unfold nearR; rw [if_pos ⟨by omega, by omega⟩]
    rw [e1] at hw
    have HW := Lib.hid hw
    clear hw e1
    by_cases ht : t.size = 0
    · by_cases hib : (im : Int) ≤ b
      · have hv := fun W => near_of (re : Int) 0 (b - (im : Int)) W ⟨by omega, by omega⟩ ⟨by omega, by omega⟩ ⟨by omega, by omega⟩
        by_cases hf : (re : Int) ≤ b - (im : Int)
        · have e : (Pc.mk re im t).copy b = ((re : Int), (im : Int), true) := by unfold Pc.copy; simp [h, ht, hf, hib]
          have e2 : nearR (re : Int) 0 (b - (im : Int)) = ((re : Int), true) := by unfold nearR; rw [if_pos ⟨by omega, by omega⟩]
          rw [e2] at hv
          have HV := Lib.hid hv
          rw [e, empty_of ht]
          clear hv h hf ht e e2
          go_enter Try.func57, Try.ntmps57
          go_wp2_with (first | (go_at_call 61; have hh := HW; clear HW; refine (hh.out _).mono ?_; rintro e w1 ⟨rfl, rfl⟩) | (go_at_call 61; refine (HV.out _).mono ?_; rintro e w1 ⟨rfl, rfl⟩))
          go_ret3
          exact ⟨rfl, below_lay (Below.refl _ _) _⟩
        · have e : (Pc.mk re im t).copy b = (0, (im : Int), false) := by unfold Pc.copy; simp [h, ht, hf, hib]
          have e2 : nearR (re : Int) 0 (b - (im : Int)) = (0, false) := by unfold nearR; rw [if_neg (fun h => hf h.2)]
          rw [e2] at hv
          have HV := Lib.hid hv
          rw [e, empty_of ht]
          clear hv h hf ht e e2
          go_enter Try.func57, Try.ntmps57
          go_wp2_with (first | (go_at_call 61; have hh := HW; clear HW; refine (hh.out _).mono ?_; rintro e w1 ⟨rfl, rfl⟩) | (go_at_call 61; refine (HV.out _).mono ?_; rintro e w1 ⟨rfl, rfl⟩))
          go_ret3
          exact ⟨rfl, below_lay (Below.refl _ _) _⟩
      · have e : (Pc.mk re im t).copy b = (0, 0, false) := by unfold Pc.copy; simp [hib]
        rw [e, empty_of ht]
        clear h ht e
        go_enter Try.func57, Try.ntmps57
        go_wp2_with (go_at_call 61; refine (HW.out _).mono ?_; rintro e w1 ⟨rfl, rfl⟩)
        go_ret3
        exact ⟨rfl, below_lay (Below.refl _ _) _⟩
    · have e : (Pc.mk re im t).copy b = (0, 0, false) := by unfold Pc.copy; simp [ht]
      have ht2 : 0 < t.size := by omega
      rw [e]
      clear h ht e
      go_enter Try.func57, Try.ntmps57
      go_wp2_with (go_at_call 61; refine (HW.out _).mono ?_; rintro e w1 ⟨rfl, rfl⟩)
      go_ret3
      exact ⟨rfl, below_lay (Below.refl _ _) _⟩
  · have e1 : nearR (im : Int) 1 4099 = (0, false) := by unfold nearR; rw [if_neg (by omega)]
    rw [e1] at hw
    have HW := Lib.hid hw
    have e : (Pc.mk re im t).copy b = (0, 0, false) := by unfold Pc.copy; simp [h]
    rw [e]
    clear hw h e e1
    go_enter Try.func57, Try.ntmps57
    go_wp2_with (go_at_call 61; refine (HW.out _).mono ?_; rintro e w1 ⟨rfl, rfl⟩)
    go_ret3
    exact ⟨rfl, below_lay (Below.refl _ _) _⟩
/-! ### Right -/
theorem len_zero {p : Pc} {b : Int} (h : ¬ (p.re = 0 ∧ p.im = 0)) : (p.len b != 0) = p.isCopy b := by
  unfold Pc.len
  rw [if_neg (fun x => h ⟨x.1, x.2.1⟩)]
  by_cases hc : p.isCopy b = true
  · rw [if_pos hc, hc]
    unfold Pc.isCopy at hc
    simp at hc
    simp; omega
  · rw [if_neg hc, Bool.not_eq_true] at *
    rw [hc]; rfl
set_option maxHeartbeats 1000000 in
theorem rightP_plain (t : ByteArray) (b : Int) (w : World) (ht : t.size ≤ maxLen) :
    Calls Try.prog 60 #[.agg #[.complex .f64 (F 0) (F 0), .string t], .int .i64 b] w fun e w' => e = .returned (.bool ((Pc.mk 0 0 t).len b != 0)) ∧ Below w.heap.size w w' := by
  have h0 : (FloatKind.f64.format.order (F 0) 0 == some Ordering.eq) = true := F_null (n := 0) (by omega)
  have hc : (Pc.mk 0 0 t).isCopy b = false := by unfold Pc.isCopy; simp
  by_cases h1 : 1 ≤ t.size
  · by_cases h2 : t.size ≤ 4099
    · have e : ((Pc.mk 0 0 t).len b != 0) = true := by unfold Pc.len; rw [if_pos ⟨rfl, rfl, h2⟩]; exact bne_iff_ne.2 (show t.size ≠ 0 by omega)
      rw [e]
      clear e hc
      go_enter Try.func60, Try.ntmps60
      go_wp2
      go_ret
      refine ⟨?_, below_lay (Below.refl _ _) _⟩
      show Ending.returned (.bool (decide ((t.size : Int) ≤ 4099))) = _
      rw [decide_eq_true (by omega)]
    · have e : ((Pc.mk 0 0 t).len b != 0) = false := by unfold Pc.len; rw [if_neg (fun h => h2 h.2.2), hc]; rfl
      rw [e]
      clear e hc
      go_enter Try.func60, Try.ntmps60
      go_wp2
      go_ret
      refine ⟨?_, below_lay (Below.refl _ _) _⟩
      show Ending.returned (.bool (decide ((t.size : Int) ≤ 4099))) = _
      rw [decide_eq_false (by omega)]
  · have e : ((Pc.mk 0 0 t).len b != 0) = false := by unfold Pc.len; rw [if_pos ⟨rfl, rfl, (show t.size ≤ 4099 by omega)⟩]; exact bne_eq_false_iff_eq.2 (show t.size = 0 by omega)
    rw [e]
    clear e hc
    go_enter Try.func60, Try.ntmps60
    go_wp2
    go_ret
    exact ⟨rfl, below_lay (Below.refl _ _) _⟩
set_option maxHeartbeats 1000000 in
theorem rightP_other (p : Pc) (b : Int) (w : World) (hp : p.small) (hb : 0 ≤ b ∧ b ≤ 4099) (h : ¬ (p.re = 0 ∧ p.im = 0)) :
    Calls Try.prog 60 #[.agg p.cells.toArray, .int .i64 b] w fun e w' => e = .returned (.bool (p.len b != 0)) ∧ Below w.heap.size w w' := by
  rw [len_zero h, ← (copy_ok p b).1]
  obtain ⟨re, im, t⟩ := p
  have hA := F_null hp.1
  have hI := F_null hp.2
  have HC : Hid (∀ W, Calls Try.prog 57 #[.agg #[.complex .f64 (F re) (F im), .string t], .int .i64 b] W fun e w' => e = .returned (.tuple #[.int .i64 ((Pc.mk re im t).copy b).1, .int .i64 ((Pc.mk re im t).copy b).2.1, .bool ((Pc.mk re im t).copy b).2.2]) ∧ Below W.heap.size W w') := Lib.hid (fun W => copy_of ⟨re, im, t⟩ b W hp hb)
  show Calls Try.prog 60 #[.agg #[.complex .f64 (F re) (F im), .string t], .int .i64 b] w _
  simp only at h hA hI
  clear hp hb
  generalize (Pc.mk re im t).copy b = r at *
  have cases2 : (re ≠ 0) ∨ (re = 0 ∧ im ≠ 0) := by omega
  rcases cases2 with h | ⟨h, h2⟩
  · rw [decide_eq_false h] at hA
    clear h hI
    go_enter Try.func60, Try.ntmps60
    go_wp2_with (go_at_call 57; refine (HC.out _).mono ?_; rintro e w1 ⟨rfl, b1⟩)
    go_ret
    exact ⟨rfl, below_step (below_lay (Below.refl _ _) _) b1⟩
  · rw [decide_eq_true h] at hA
    rw [decide_eq_false h2] at hI
    clear h h2
    go_enter Try.func60, Try.ntmps60
    go_wp2_with (go_at_call 57; refine (HC.out _).mono ?_; rintro e w1 ⟨rfl, b1⟩)
    go_ret
    exact ⟨rfl, below_step (below_lay (Below.refl _ _) _) b1⟩
theorem rightP_of (p : Pc) (b : Int) (w : World) (hp : p.small) (ht : p.text.size ≤ maxLen) (hb : 0 ≤ b ∧ b ≤ 4099) :
    Calls Try.prog 60 #[.agg p.cells.toArray, .int .i64 b] w fun e w' => e = .returned (.bool (p.len b != 0)) ∧ Below w.heap.size w w' := by
  by_cases h : p.re = 0 ∧ p.im = 0
  · obtain ⟨re, im, t⟩ := p
    obtain ⟨rfl, rfl⟩ := h
    exact rightP_plain t b w ht
  · exact rightP_other p b w hp hb h

/-! ### Check -/
/-- How many bytes a right piece has, as the reference reckons it. -/
theorem len_right {p : Pc} {b : Int} (h : p.len b ≠ 0) : p.len b = if p.isCopy b then p.im else p.text.size := by
  unfold Pc.len at h ⊢
  by_cases hz : p.re = 0 ∧ p.im = 0 ∧ p.text.size ≤ 4099
  · have hc : p.isCopy b = false := by unfold Pc.isCopy; simp [hz.2.1]
    rw [if_pos hz, hc]; rfl
  · rw [if_neg hz] at h ⊢
    by_cases hc : p.isCopy b = true
    · rw [if_pos hc, if_pos hc]
    · rw [if_neg hc] at h; exact absurd rfl h
set_option maxHeartbeats 2000000 in
theorem rcheck_few (A : Option Addr) (cap : Nat) (l : List Pc) (b : Int) (w : World) (hs : ∀ p ∈ l, p.small) (ht : ∀ p ∈ l, p.text.size ≤ maxLen) (hc : Pcs w A l) (hb : 0 ≤ b ∧ b ≤ 4099) (hl : l.length ≤ 140737488355328) :
    Calls Try.prog 56 #[.int .i64 b, .slice A l.length cap] w fun e w' => e = .returned (.tuple #[.int .i64 (checkL b l).1, .int .i64 (checkL b l).2]) ∧ Below w.heap.size w w' := by
  have HS := Lib.hid hs
  have HT := Lib.hid ht
  have HC := Lib.hid hc
  have HB := Lib.hid hb
  obtain ⟨hb1, hb2⟩ := hb
  clear hs hc ht
  go_enter Try.func56, Try.ntmps56
  go_wp2
  go_loopw [6] (fun i wr => ∃ k : Nat, k ≤ l.length ∧ i = .int .i64 k ∧ Hid (∀ j (h : j < l.length), j < k → l[j].len b ≠ 0) ∧ Below w.heap.size w wr) (fun i _ => l.length - (intOf i).toNat)
  case atStart => exact ⟨0, by omega, rfl, Lib.hid (fun j _ h => absurd h (by omega)), Below.refl _ _⟩
  case round =>
    obtain ⟨k, hk, rfl, H, hBel⟩ := hrel
    by_cases hlt : k < l.length
    · obtain ⟨bb, o, rfl, hr0⟩ := HC.out k hlt
      have hr := rangeAt_below hr0 hBel
      have c0 := Pc.at0 hr
      have c1 := Pc.at1 hr
      have C60 : Hid (∀ W, Calls Try.prog 60 #[.agg #[.complex .f64 (F l[k].re) (F l[k].im), .string l[k].text], .int .i64 b] W fun e w' => e = .returned (.bool (l[k].len b != 0)) ∧ Below W.heap.size W w') := Lib.hid (fun W => rightP_of l[k] b W (HS.out _ (List.getElem_mem hlt)) (HT.out _ (List.getElem_mem hlt)) HB.out)
      by_cases h0 : l[k].len b = 0
      · have hck : checkL b l = (0, 1) := by
          unfold checkL
          rw [if_neg (by omega), if_pos (List.any_eq_true.2 ⟨l[k], List.getElem_mem hlt, by simp [h0]⟩)]
        have HCK := Lib.hid hck
        have e0 : (l[k].len b != 0) = false := by rw [h0]; rfl
        rw [e0] at C60
        generalize l[k] = x at *
        clear hr hr0 hck e0 h0
        go_wp2_with (go_at_call 60; refine (C60.out _).mono ?_; rintro e w1 ⟨rfl, b1⟩)
        go_ret2
        rw [HCK.out]
        exact ⟨rfl, below_step hBel b1⟩
      · have e0 : (l[k].len b != 0) = true := by simpa using h0
        rw [e0] at C60
        have HNX : Hid (∀ j (h : j < l.length), j < k + 1 → l[j].len b ≠ 0) := Lib.hid (fun j hj hjk => by
          by_cases hjk2 : j < k
          · exact H.out j hj hjk2
          · obtain rfl : j = k := by omega
            exact h0)
        generalize l[k] = x at *
        clear hr hr0 e0 h0
        go_wp2_with (go_at_call 60; refine (C60.out _).mono ?_; rintro e w1 ⟨rfl, b1⟩)
        exact ⟨⟨k + 1, by omega, by go_num, HNX, below_step hBel b1⟩, by simp [intOf]; omega⟩
    · obtain rfl : k = l.length := by omega
      have HNE : Hid (∀ p ∈ l, p.len b ≠ 0) := Lib.hid (fun p hp => by
        obtain ⟨j, hj, rfl⟩ := List.mem_iff_getElem.1 hp
        exact H.out j hj hj)
      go_wp2
      go_loopw [7, 8] (fun n i wr2 => ∃ k : Nat, k ≤ l.length ∧ i = .int .i64 k ∧ n = .int .i64 (lens b (l.take k) : Nat) ∧ lens b (l.take k) ≤ 4099 ∧ Below w.heap.size w wr2) (fun _ i _ => l.length - (intOf i).toNat)
      case atStart => exact ⟨0, by omega, rfl, rfl, by simp [lens], hBel⟩
      case round =>
        obtain ⟨k, hk, rfl, rfl, hS, hB2⟩ := hrel
        by_cases hlt2 : k < l.length
        · obtain ⟨bb, o, rfl, hr0⟩ := HC.out k hlt2
          have hr := rangeAt_below hr0 hB2
          have c0 := Pc.at0 hr
          have c1 := Pc.at1 hr
          have hne := HNE.out _ (List.getElem_mem hlt2)
          have hst := lens_take b l k hlt2
          have hle := lens_le b l (k + 1)
          obtain ⟨hcp1, hcp2⟩ := copy_ok l[k] b
          have hlr := len_right hne
          have hl5 := Pc.len_le l[k] b (HS.out _ (List.getElem_mem hlt2))
          have C57 : Hid (∀ W, Calls Try.prog 57 #[.agg #[.complex .f64 (F l[k].re) (F l[k].im), .string l[k].text], .int .i64 b] W fun e w' => e = .returned (.tuple #[.int .i64 (l[k].copy b).1, .int .i64 (l[k].copy b).2.1, .bool (l[k].copy b).2.2]) ∧ Below W.heap.size W w') := Lib.hid (fun W => copy_of l[k] b W (HS.out _ (List.getElem_mem hlt2)) HB.out)
          have HBIG : Hid (4099 < lens b (l.take (k + 1)) → checkL b l = (0, 19)) := Lib.hid (fun h => by
            unfold checkL
            rw [if_neg (by omega), if_neg (by rw [List.any_eq_true]; rintro ⟨p, hp, he⟩; exact HNE.out p hp (by simpa using he)), if_pos (by omega)])
          generalize hL : l[k].len b = L at *
          generalize hS2 : lens b (l.take k) = S at *
          generalize hR : l[k].re = re at *
          generalize hI : l[k].im = im at *
          generalize hTx : l[k].text = tx at *
          cases hic : l[k].isCopy b with
          | true =>
            rw [hcp2 hic] at C57
            rw [hic, if_pos rfl] at hlr
            subst hlr
            have HST := Lib.hid hst
            clear hr hr0 hL hS2 hcp1 hcp2 hic hst hle hR hI hTx hne
            by_cases hbig : 4099 < S + L
            · have HCK := Lib.hid (HBIG.out (by rw [HST.out]; exact hbig))
              go_wp2_with (go_at_call 57; refine (C57.out _).mono ?_; rintro e w1 ⟨rfl, b1⟩)
              go_ret2
              rw [HCK.out]
              exact ⟨rfl, below_step hB2 b1⟩
            · go_wp2_with (go_at_call 57; refine (C57.out _).mono ?_; rintro e w1 ⟨rfl, b1⟩)
              exact ⟨⟨k + 1, by omega, by go_num, by rw [HST.out]; go_num, by rw [HST.out]; omega, below_step hB2 b1⟩, by simp [intOf]; omega⟩
          | false =>
            rw [hic] at hcp1
            rw [hcp1] at C57
            rw [hic, if_neg (by decide)] at hlr
            have HST := Lib.hid hst
            generalize l[k].copy b = cpy at *
            clear hr hr0 hL hS2 hcp1 hcp2 hic hst hle hR hI hTx hne
            by_cases hbig : 4099 < S + L
            · have HCK := Lib.hid (HBIG.out (by rw [HST.out]; exact hbig))
              go_wp2_with (go_at_call 57; refine (C57.out _).mono ?_; rintro e w1 ⟨rfl, b1⟩; have c1' := cell_later b1 c1)
              go_ret2
              rw [HCK.out]
              exact ⟨rfl, below_step hB2 b1⟩
            · go_wp2_with (go_at_call 57; refine (C57.out _).mono ?_; rintro e w1 ⟨rfl, b1⟩; have c1' := cell_later b1 c1)
              exact ⟨⟨k + 1, by omega, by go_num, by rw [HST.out]; go_num, by rw [HST.out]; omega, below_step hB2 b1⟩, by simp [intOf]; omega⟩
        · obtain rfl : k = l.length := by omega
          rw [List.take_length] at hS ⊢
          have HCK := Lib.hid (show checkL b l = (lens b l, 0) by
            unfold checkL
            rw [if_neg (by omega), if_neg (by rw [List.any_eq_true]; rintro ⟨p, hp, he⟩; exact HNE.out p hp (by simpa using he)), if_neg (by omega)])
          go_wp2
          go_ret2
          rw [HCK.out]
          exact ⟨rfl, hB2⟩
set_option maxHeartbeats 400000 in
theorem rcheck_out (A : Option Addr) (cap n : Nat) (b : Int) (w : World) (hb : b < 0 ∨ 4099 < b) :
    Calls Try.prog 56 #[.int .i64 b, .slice A n cap] w fun e w' => e = .returned (.tuple #[.int .i64 0, .int .i64 1]) ∧ w = w' := by
  by_cases h : b < 0
  · go_enter Try.func56, Try.ntmps56
    go_wp2
    go_ret2
    exact ⟨rfl, rfl⟩
  · have h2 : 4099 < b := by omega
    clear hb
    go_enter Try.func56, Try.ntmps56
    go_wp2
    go_ret2
    exact ⟨rfl, rfl⟩
theorem rcheck_of (A : Option Addr) (cap : Nat) (l : List Pc) (b : Int) (w : World) (hs : ∀ p ∈ l, p.small) (ht : ∀ p ∈ l, p.text.size ≤ maxLen) (hc : Pcs w A l) (hl : l.length ≤ 140737488355328) :
    Calls Try.prog 56 #[.int .i64 b, .slice A l.length cap] w fun e w' => e = .returned (.tuple #[.int .i64 (checkL b l).1, .int .i64 (checkL b l).2]) ∧ Below w.heap.size w w' := by
  by_cases hb : b < 0 ∨ 4099 < b
  · have e : checkL b l = (0, 1) := by unfold checkL; rw [if_pos hb]
    rw [e]
    refine (rcheck_out A cap l.length b w hb).mono ?_
    rintro e w' ⟨rfl, rfl⟩
    exact ⟨rfl, Below.refl _ _⟩
  · exact rcheck_few A cap l b w hs ht hc (by omega) hl
end Go.Proofs.Ytghmhheolbobpaa
