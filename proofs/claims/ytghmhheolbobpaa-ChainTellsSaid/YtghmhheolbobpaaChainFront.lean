/- ChainFront returns true, whatever the parts and the number: a beginning of a list that may be may be, with the same texts. Conditions: the parts lie in memory as a slice of structs, their texts within the form's reach. -/
import Derived.Test.YtghmhheolbobpaaSame
set_option linter.unusedVariables false
set_option maxRecDepth 100000
namespace Go.Proofs.Ytghmhheolbobpaa
open Go.RowKit Wire

theorem greatP_any (A : Option Addr) (cap : Nat) (l : List Pt) (w : World) (hs : ∀ x ∈ l, x.text.size ≤ 4611686018427387904) (hc : Pts w A l) :
    Calls Try.prog 28 #[.slice A l.length cap] w fun e w' => e = .returned (.bool (greatP l)) ∧ w = w' := by
  unfold greatP
  by_cases hl : 210 < l.length
  · rw [decide_eq_true hl]; exact greatP_many A cap l w hl
  · rw [decide_eq_false hl]; exact greatP_few A cap l w (by omega) hs hc
set_option maxHeartbeats 2000000 in
theorem front_of (A : Option Addr) (cap : Nat) (l : List Pt) (n : Nat) (w : World) (hs : ∀ x ∈ l, x.text.size ≤ 4611686018427387904) (hc : Pts w A l) (hcap : l.length ≤ cap) (hcm : cap ≤ maxLen) (hA : A = none → cap = 0) (hn : n < 256) :
    Calls Try.prog 9 #[.slice A l.length cap, .int .u8 (n : Int)] w fun e w' => e = .returned (.bool true) ∧ Below w.heap.size w w' := by
  have hs2 : ∀ x ∈ l, x.text.size ≤ maxLen := fun x hx => by have := hs x hx; unfold maxLen; omega
  have C28 := Lib.hid (fun W (h : Pts W A l) => greatP_any A cap l W hs h)
  have C35 := Lib.hid (fun W (h : Pts W A l) => all_of A cap l W hs2 h)
  have CA := Lib.hid chainAlive
  cases hg : greatP l with
  | true =>
    rw [hg] at C28
    clear hg hs hs2
    go_enter Try.func9, Try.ntmps9
    go_wp2_with (first
      | (go_at_call 27; have hC := CA; clear CA; refine (hC.out _).mono ?_; rintro e w1 ⟨rfl, b1⟩; have CB := hC)
      | (go_at_call 27; refine (CB.out _).mono ?_; rintro e w2 ⟨rfl, b2⟩)
      | (go_at_call 28; refine (C28.out _ (hc.below b1)).mono ?_; rintro e w3 ⟨rfl, rfl⟩))
    go_ret
    exact ⟨rfl, below_step b1 b2⟩
  | false =>
    rw [hg] at C28
    cases ha : allL l with
    | inr e =>
      have he : ((e : Int) == 0) = false := by have := allL_err ha; rw [beq_eq_false_iff_ne]; omega
      rw [ha] at C35
      clear hg hs hs2 ha
      go_enter Try.func9, Try.ntmps9
      go_wp2_with (first
        | (go_at_call 27; have hC := CA; clear CA; refine (hC.out _).mono ?_; rintro e w1 ⟨rfl, b1⟩; have CB := hC; have P1 := hc.below b1)
        | (go_at_call 27; refine (CB.out _).mono ?_; rintro e w2 ⟨rfl, b2⟩)
        | (go_at_call 28; refine (C28.out _ (hc.below b1)).mono ?_; rintro e w3 ⟨rfl, rfl⟩)
        | (go_at_call 35; refine (C35.out _ P1).mono ?_; rintro e w4 ⟨hR, b4⟩; obtain rfl := hR))
      go_ret
      exact ⟨rfl, below_step b1 (below_step b4 b2)⟩
    | inl ts =>
      obtain ⟨k, hk⟩ : ∃ k, k = n % (l.length + 1) := ⟨_, rfl⟩
      have hkl : k ≤ l.length := by have := Nat.mod_lt n (show 0 < l.length + 1 by omega); omega
      obtain ⟨hat, htl, hl2⟩ := all_take k hkl ha
      have hmod : (n : Int) % ((l.length : Int) + 1) = (k : Int) := by rw [hk, Int.natCast_emod]; rfl
      have hmod2 : (n : Int).tmod ((l.length : Int) + 1) = (k : Int) := by rw [Int.tmod_eq_emod_of_nonneg (by omega)]; exact hmod
      have htk : (l.take k).length = k := by rw [List.length_take]; omega
      have htk2 : (ts.take k).length = k := by rw [List.length_take]; omega
      have SAME : ∀ (A A' : Option Addr) (c c' : Nat) (W : World), Txs W A (ts.take k) → Txs W A' (ts.take k) → Calls Try.prog 36 #[.slice A k c, .slice A' k c'] W fun e w' => e = .returned (.bool true) ∧ Below W.heap.size W w' := fun A A' c c' W h h' => by
        have := same_of A A' c c' (ts.take k) W h h' (by omega)
        rw [htk2] at this
        exact this
      have C36 := Lib.hid (fun W (h : Pts W A l) => all_of A cap (l.take k) W (fun x hx => hs2 x (List.mem_of_mem_take hx)) (h.take k))
      rw [hat, htk] at C36
      rw [ha] at C35
      have HTL := Lib.hid htl
      clear hg hs hs2 ha hat htk hk
      go_enter Try.func9, Try.ntmps9
      go_wp2_with (first
        | (go_at_call 27; have hC := CA; clear CA; refine (hC.out _).mono ?_; rintro e w1 ⟨rfl, b1⟩; have CB := hC; have P1 := hc.below b1)
        | (go_at_call 28; refine (C28.out _ (hc.below b1)).mono ?_; rintro e w3 ⟨rfl, rfl⟩)
        | (go_at_call 35; have hD := C35; clear C35; refine (hD.out _ P1).mono ?_; rintro e w4 ⟨hR, b4⟩; obtain ⟨v, rfl, hO⟩ := hR; obtain ⟨A2, cap2, rfl, T2, hcap2⟩ := txs_of_owns hO; have P4 := P1.below b4)
        | (go_at_call 35; go_loud (refine (C36.out _ P4).mono ?_; rintro e w5 ⟨hR, b5⟩; obtain ⟨v2, rfl, hO2⟩ := hR; obtain ⟨A3, cap3, hv3, T3, hcap3⟩ := txs_of_owns hO2; rw [htk2] at hv3; subst hv3))
        | (go_at_call 27; refine (CB.out _).mono ?_; rintro e w6 ⟨rfl, b6⟩)
        | (go_at_call 36; go_loud (refine (SAME A3 A2 cap3 cap2 w6 (T3.below b6) (((T2.below b5).below b6).take k)).mono ?_; rintro e w7 ⟨rfl, b7⟩)))
      go_ret
      exact ⟨rfl, below_step b1 (below_step b4 (below_step b5 (below_step b6 b7)))⟩
end Go.Proofs.Ytghmhheolbobpaa
