/- ChainTells returns true, whatever the parts and the place. Conditions: the parts lie in memory as a slice of structs, their texts within the form's reach. -/
import Derived.Test.YtghmhheolbobpaaChainLaws
set_option linter.unusedVariables false
set_option maxRecDepth 100000
namespace Go.Proofs.Ytghmhheolbobpaa
open Go.RowKit Wire

set_option maxHeartbeats 8000000 in
theorem tells_of (A : Option Addr) (cap : Nat) (l : List Pt) (p : Int) (w : World) (hs : ∀ x ∈ l, x.text.size ≤ 4611686018427387904) (hc : Pts w A l) :
    Calls Try.prog 7 #[.slice A l.length cap, .int .i64 p] w fun e w' => e = .returned (.bool true) ∧ Below w.heap.size w w' := by
  have hs2 : ∀ x ∈ l, x.text.size ≤ maxLen := fun x hx => by have := hs x hx; unfold maxLen; omega
  have C28 := Lib.hid (fun W (h : Pts W A l) => greatP_any A cap l W hs h)
  have CA := Lib.hid chainAlive
  cases hg : greatP l with
  | true =>
    rw [hg] at C28
    clear hg hs hs2
    go_enter Try.func7, Try.ntmps7
    go_wp2_with (first
      | (go_at_call 27; have hC := CA; clear CA; refine (hC.out _).mono ?_; rintro e w1 ⟨rfl, b1⟩; have CB := hC)
      | (go_at_call 27; refine (CB.out _).mono ?_; rintro e w2 ⟨rfl, b2⟩)
      | (go_at_call 28; refine (C28.out _ (hc.below b1)).mono ?_; rintro e w3 ⟨rfl, rfl⟩))
    go_ret
    exact ⟨rfl, below_step b1 b2⟩
  | false =>
    obtain ⟨hl210, hs3⟩ := great_few_sizes hg
    have C33 := Lib.hid (fun W (h : Pts W A l) => refAll_of A cap l W hs3 h)
    have C34 := Lib.hid (fun W (h : Pts W A l) => right_of A cap l W hs2 h)
    have C29 := Lib.hid (fun q W (h : Pts W A l) => depth_of A cap l q W h)
    have C30 := Lib.hid (fun q W (h : Pts W A l) => chainText_of A cap l q W hs2 h)
    have C31 := Lib.hid (fun q W (h : Pts W A l) => refPath_of A cap l q W h)
    have C32 := Lib.hid (fun q W (h : Pts W A l) => refTextL_of A cap l q W hs3 h)
    rw [hg] at C28
    clear hg hs hs2 hs3
    go_enter Try.func7, Try.ntmps7
    go_wp2_with (first
      | (go_at_call 27; have hC := CA; clear CA; refine (hC.out _).mono ?_; rintro e w1 ⟨rfl, b1⟩; have CB := hC; have P1 := hc.below b1)
      | (go_at_call 28; refine (C28.out _ P1).mono ?_; rintro e w3 ⟨rfl, rfl⟩))
    go_loopw [5] (fun i wr => ∃ k : Nat, k ≤ 13 ∧ i = .int .i64 ((k : Int) - 1) ∧ Below w.heap.size w wr) (fun i _ => (13 - intOf i).toNat)
    case atStart => exact ⟨0, by omega, rfl, b1⟩
    case round =>
      obtain ⟨k, hk, rfl, hBel⟩ := hrel
      have P2 := hc.below hBel
      by_cases hgo : (k : Int) - 1 ≤ l.length ∧ (k : Int) - 1 < 12
      · obtain ⟨hg1, hg2⟩ := hgo
        by_cases hneg : (k : Int) - 1 < 0
        · cases hp : pathL l p with
          | inr e =>
            have ht := textL_bad hp
            have he : ((e : Int) == 0) = false := by have := pathL_err hp; rw [beq_eq_false_iff_ne]; omega
            have D29 : Hid (∀ W, Pts W A l → Calls Try.prog 29 #[.slice A l.length cap, .int .i64 p] W fun e' w' => e' = .returned (.tuple #[.int .i64 0, .int .i64 (e : Int)]) ∧ Below W.heap.size W w') := Lib.hid (fun W h => by have := C29.out p W h; rw [hp] at this; exact this)
            have D30 : Hid (∀ W, Pts W A l → Calls Try.prog 30 #[.slice A l.length cap, .int .i64 p] W fun e' w' => e' = .returned (.tuple #[.string ⟨#[]⟩, .int .i64 (e : Int)]) ∧ Below W.heap.size W w') := Lib.hid (fun W h => (C30.out p W h).mono fun e' w' h' => by rw [ht] at h'; exact h')
            have D31 : Hid (∀ W, Pts W A l → Calls Try.prog 31 #[.slice A l.length cap, .int .i64 p] W fun e' w' => e' = .returned (.tuple #[.slice none 0 0, .int .i64 (e : Int)]) ∧ Below W.heap.size W w') := Lib.hid (fun W h => (C31.out p W h).mono fun e' w' h' => by rw [hp] at h'; exact h')
            have D32 : Hid (∀ W, Pts W A l → Calls Try.prog 32 #[.slice A l.length cap, .int .i64 p] W fun e' w' => e' = .returned (.tuple #[.string ⟨#[]⟩, .int .i64 (e : Int)]) ∧ Below W.heap.size W w') := Lib.hid (fun W h => (C32.out p W h).mono fun e' w' h' => by rw [ht] at h'; exact h')
            clear hp ht
            go_wp2_with (first
              | (go_at_call 29; refine (D29.out _ P2).mono ?_; rintro e w4 ⟨rfl, b4⟩; have P4 := P2.below b4)
              | (go_at_call 30; refine (D30.out _ P4).mono ?_; rintro e w5 ⟨rfl, b5⟩; have P5 := P4.below b5)
              | (go_at_call 31; refine (D31.out _ P5).mono ?_; rintro e w6 ⟨rfl, b6⟩; have P6 := P5.below b6)
              | (go_at_call 32; refine (D32.out _ P6).mono ?_; rintro e w7 ⟨rfl, b7⟩))
            all_goals exact ⟨⟨k + 1, by omega, by go_num, below_step hBel (below_step b4 (below_step b5 (below_step b6 b7)))⟩, by simp [intOf]; omega⟩
          | inl r =>
            obtain ⟨_, h0, h5⟩ := pathL_in hp
            cases ht : textL l p with
            | inl s =>
              have D29 : Hid (∀ W, Pts W A l → Calls Try.prog 29 #[.slice A l.length cap, .int .i64 p] W fun e' w' => e' = .returned (.tuple #[.int .i64 ((r.length : Int) - 1), .int .i64 0]) ∧ Below W.heap.size W w') := Lib.hid (fun W h => by have := C29.out p W h; rw [hp] at this; exact this)
              have D30 : Hid (∀ W, Pts W A l → Calls Try.prog 30 #[.slice A l.length cap, .int .i64 p] W fun e' w' => e' = .returned (.tuple #[.string s, .int .i64 0]) ∧ Below W.heap.size W w') := Lib.hid (fun W h => (C30.out p W h).mono fun e' w' h' => by rw [ht] at h'; exact h')
              have D31 : Hid (∀ W, Pts W A l → Calls Try.prog 31 #[.slice A l.length cap, .int .i64 p] W fun e' w' => (∃ g cp, e' = .returned (.tuple #[.slice (some ⟨g, 0, none⟩) r.length cp, .int .i64 0])) ∧ Below W.heap.size W w') := Lib.hid (fun W h => (C31.out p W h).mono fun e' w' h' => by
                rw [hp] at h'
                obtain ⟨⟨v, he, hO⟩, hb⟩ := h'
                obtain ⟨g, cp, rfl, _⟩ := places_slice hO h0
                exact ⟨⟨g, cp, he⟩, hb⟩)
              have D32 : Hid (∀ W, Pts W A l → Calls Try.prog 32 #[.slice A l.length cap, .int .i64 p] W fun e' w' => e' = .returned (.tuple #[.string s, .int .i64 0]) ∧ Below W.heap.size W w') := Lib.hid (fun W h => (C32.out p W h).mono fun e' w' h' => by rw [ht] at h'; exact h')
              clear hp ht
              go_wp2_with (first
                | (go_at_call 29; refine (D29.out _ P2).mono ?_; rintro e w4 ⟨rfl, b4⟩; have P4 := P2.below b4)
                | (go_at_call 30; refine (D30.out _ P4).mono ?_; rintro e w5 ⟨rfl, b5⟩; have P5 := P4.below b5)
                | (go_at_call 31; refine (D31.out _ P5).mono ?_; rintro e w6 ⟨⟨g, cp, rfl⟩, b6⟩; have P6 := P5.below b6)
                | (go_at_call 32; refine (D32.out _ P6).mono ?_; rintro e w7 ⟨rfl, b7⟩))
              all_goals exact ⟨⟨k + 1, by omega, by go_num, below_step hBel (below_step b4 (below_step b5 (below_step b6 b7)))⟩, by simp [intOf]; omega⟩
            | inr f =>
              have he : ((f : Int) == 0) = false := by have := text_errL ht; rw [beq_eq_false_iff_ne]; omega
              have D29 : Hid (∀ W, Pts W A l → Calls Try.prog 29 #[.slice A l.length cap, .int .i64 p] W fun e' w' => e' = .returned (.tuple #[.int .i64 ((r.length : Int) - 1), .int .i64 0]) ∧ Below W.heap.size W w') := Lib.hid (fun W h => by have := C29.out p W h; rw [hp] at this; exact this)
              have D30 : Hid (∀ W, Pts W A l → Calls Try.prog 30 #[.slice A l.length cap, .int .i64 p] W fun e' w' => e' = .returned (.tuple #[.string ⟨#[]⟩, .int .i64 (f : Int)]) ∧ Below W.heap.size W w') := Lib.hid (fun W h => (C30.out p W h).mono fun e' w' h' => by rw [ht] at h'; exact h')
              have D31 : Hid (∀ W, Pts W A l → Calls Try.prog 31 #[.slice A l.length cap, .int .i64 p] W fun e' w' => (∃ g cp, e' = .returned (.tuple #[.slice (some ⟨g, 0, none⟩) r.length cp, .int .i64 0])) ∧ Below W.heap.size W w') := Lib.hid (fun W h => (C31.out p W h).mono fun e' w' h' => by
                rw [hp] at h'
                obtain ⟨⟨v, he, hO⟩, hb⟩ := h'
                obtain ⟨g, cp, rfl, _⟩ := places_slice hO h0
                exact ⟨⟨g, cp, he⟩, hb⟩)
              have D32 : Hid (∀ W, Pts W A l → Calls Try.prog 32 #[.slice A l.length cap, .int .i64 p] W fun e' w' => e' = .returned (.tuple #[.string ⟨#[]⟩, .int .i64 (f : Int)]) ∧ Below W.heap.size W w') := Lib.hid (fun W h => (C32.out p W h).mono fun e' w' h' => by rw [ht] at h'; exact h')
              clear hp ht
              go_wp2_with (first
                | (go_at_call 29; refine (D29.out _ P2).mono ?_; rintro e w4 ⟨rfl, b4⟩; have P4 := P2.below b4)
                | (go_at_call 30; refine (D30.out _ P4).mono ?_; rintro e w5 ⟨rfl, b5⟩; have P5 := P4.below b5)
                | (go_at_call 31; refine (D31.out _ P5).mono ?_; rintro e w6 ⟨⟨g, cp, rfl⟩, b6⟩; have P6 := P5.below b6)
                | (go_at_call 32; refine (D32.out _ P6).mono ?_; rintro e w7 ⟨rfl, b7⟩))
              all_goals exact ⟨⟨k + 1, by omega, by go_num, below_step hBel (below_step b4 (below_step b5 (below_step b6 b7)))⟩, by simp [intOf]; omega⟩
        · cases hp : pathL l ((k : Int) - 1) with
          | inr e =>
            have ht := textL_bad hp
            have he : ((e : Int) == 0) = false := by have := pathL_err hp; rw [beq_eq_false_iff_ne]; omega
            have D29 : Hid (∀ W, Pts W A l → Calls Try.prog 29 #[.slice A l.length cap, .int .i64 ((k : Int) - 1)] W fun e' w' => e' = .returned (.tuple #[.int .i64 0, .int .i64 (e : Int)]) ∧ Below W.heap.size W w') := Lib.hid (fun W h => by have := C29.out ((k : Int) - 1) W h; rw [hp] at this; exact this)
            have D30 : Hid (∀ W, Pts W A l → Calls Try.prog 30 #[.slice A l.length cap, .int .i64 ((k : Int) - 1)] W fun e' w' => e' = .returned (.tuple #[.string ⟨#[]⟩, .int .i64 (e : Int)]) ∧ Below W.heap.size W w') := Lib.hid (fun W h => (C30.out ((k : Int) - 1) W h).mono fun e' w' h' => by rw [ht] at h'; exact h')
            have D31 : Hid (∀ W, Pts W A l → Calls Try.prog 31 #[.slice A l.length cap, .int .i64 ((k : Int) - 1)] W fun e' w' => e' = .returned (.tuple #[.slice none 0 0, .int .i64 (e : Int)]) ∧ Below W.heap.size W w') := Lib.hid (fun W h => (C31.out ((k : Int) - 1) W h).mono fun e' w' h' => by rw [hp] at h'; exact h')
            have D32 : Hid (∀ W, Pts W A l → Calls Try.prog 32 #[.slice A l.length cap, .int .i64 ((k : Int) - 1)] W fun e' w' => e' = .returned (.tuple #[.string ⟨#[]⟩, .int .i64 (e : Int)]) ∧ Below W.heap.size W w') := Lib.hid (fun W h => (C32.out ((k : Int) - 1) W h).mono fun e' w' h' => by rw [ht] at h'; exact h')
            clear hp ht
            go_wp2_with (first
              | (go_at_call 29; refine (D29.out _ P2).mono ?_; rintro e w4 ⟨rfl, b4⟩; have P4 := P2.below b4)
              | (go_at_call 30; refine (D30.out _ P4).mono ?_; rintro e w5 ⟨rfl, b5⟩; have P5 := P4.below b5)
              | (go_at_call 31; refine (D31.out _ P5).mono ?_; rintro e w6 ⟨rfl, b6⟩; have P6 := P5.below b6)
              | (go_at_call 32; refine (D32.out _ P6).mono ?_; rintro e w7 ⟨rfl, b7⟩))
            all_goals exact ⟨⟨k + 1, by omega, by go_num, below_step hBel (below_step b4 (below_step b5 (below_step b6 b7)))⟩, by simp [intOf]; omega⟩
          | inl r =>
            obtain ⟨_, h0, h5⟩ := pathL_in hp
            cases ht : textL l ((k : Int) - 1) with
            | inl s =>
              have D29 : Hid (∀ W, Pts W A l → Calls Try.prog 29 #[.slice A l.length cap, .int .i64 ((k : Int) - 1)] W fun e' w' => e' = .returned (.tuple #[.int .i64 ((r.length : Int) - 1), .int .i64 0]) ∧ Below W.heap.size W w') := Lib.hid (fun W h => by have := C29.out ((k : Int) - 1) W h; rw [hp] at this; exact this)
              have D30 : Hid (∀ W, Pts W A l → Calls Try.prog 30 #[.slice A l.length cap, .int .i64 ((k : Int) - 1)] W fun e' w' => e' = .returned (.tuple #[.string s, .int .i64 0]) ∧ Below W.heap.size W w') := Lib.hid (fun W h => (C30.out ((k : Int) - 1) W h).mono fun e' w' h' => by rw [ht] at h'; exact h')
              have D31 : Hid (∀ W, Pts W A l → Calls Try.prog 31 #[.slice A l.length cap, .int .i64 ((k : Int) - 1)] W fun e' w' => (∃ g cp, e' = .returned (.tuple #[.slice (some ⟨g, 0, none⟩) r.length cp, .int .i64 0])) ∧ Below W.heap.size W w') := Lib.hid (fun W h => (C31.out ((k : Int) - 1) W h).mono fun e' w' h' => by
                rw [hp] at h'
                obtain ⟨⟨v, he, hO⟩, hb⟩ := h'
                obtain ⟨g, cp, rfl, _⟩ := places_slice hO h0
                exact ⟨⟨g, cp, he⟩, hb⟩)
              have D32 : Hid (∀ W, Pts W A l → Calls Try.prog 32 #[.slice A l.length cap, .int .i64 ((k : Int) - 1)] W fun e' w' => e' = .returned (.tuple #[.string s, .int .i64 0]) ∧ Below W.heap.size W w') := Lib.hid (fun W h => (C32.out ((k : Int) - 1) W h).mono fun e' w' h' => by rw [ht] at h'; exact h')
              clear hp ht
              go_wp2_with (first
                | (go_at_call 29; refine (D29.out _ P2).mono ?_; rintro e w4 ⟨rfl, b4⟩; have P4 := P2.below b4)
                | (go_at_call 30; refine (D30.out _ P4).mono ?_; rintro e w5 ⟨rfl, b5⟩; have P5 := P4.below b5)
                | (go_at_call 31; refine (D31.out _ P5).mono ?_; rintro e w6 ⟨⟨g, cp, rfl⟩, b6⟩; have P6 := P5.below b6)
                | (go_at_call 32; refine (D32.out _ P6).mono ?_; rintro e w7 ⟨rfl, b7⟩))
              all_goals exact ⟨⟨k + 1, by omega, by go_num, below_step hBel (below_step b4 (below_step b5 (below_step b6 b7)))⟩, by simp [intOf]; omega⟩
            | inr f =>
              have he : ((f : Int) == 0) = false := by have := text_errL ht; rw [beq_eq_false_iff_ne]; omega
              have D29 : Hid (∀ W, Pts W A l → Calls Try.prog 29 #[.slice A l.length cap, .int .i64 ((k : Int) - 1)] W fun e' w' => e' = .returned (.tuple #[.int .i64 ((r.length : Int) - 1), .int .i64 0]) ∧ Below W.heap.size W w') := Lib.hid (fun W h => by have := C29.out ((k : Int) - 1) W h; rw [hp] at this; exact this)
              have D30 : Hid (∀ W, Pts W A l → Calls Try.prog 30 #[.slice A l.length cap, .int .i64 ((k : Int) - 1)] W fun e' w' => e' = .returned (.tuple #[.string ⟨#[]⟩, .int .i64 (f : Int)]) ∧ Below W.heap.size W w') := Lib.hid (fun W h => (C30.out ((k : Int) - 1) W h).mono fun e' w' h' => by rw [ht] at h'; exact h')
              have D31 : Hid (∀ W, Pts W A l → Calls Try.prog 31 #[.slice A l.length cap, .int .i64 ((k : Int) - 1)] W fun e' w' => (∃ g cp, e' = .returned (.tuple #[.slice (some ⟨g, 0, none⟩) r.length cp, .int .i64 0])) ∧ Below W.heap.size W w') := Lib.hid (fun W h => (C31.out ((k : Int) - 1) W h).mono fun e' w' h' => by
                rw [hp] at h'
                obtain ⟨⟨v, he, hO⟩, hb⟩ := h'
                obtain ⟨g, cp, rfl, _⟩ := places_slice hO h0
                exact ⟨⟨g, cp, he⟩, hb⟩)
              have D32 : Hid (∀ W, Pts W A l → Calls Try.prog 32 #[.slice A l.length cap, .int .i64 ((k : Int) - 1)] W fun e' w' => e' = .returned (.tuple #[.string ⟨#[]⟩, .int .i64 (f : Int)]) ∧ Below W.heap.size W w') := Lib.hid (fun W h => (C32.out ((k : Int) - 1) W h).mono fun e' w' h' => by rw [ht] at h'; exact h')
              clear hp ht
              go_wp2_with (first
                | (go_at_call 29; refine (D29.out _ P2).mono ?_; rintro e w4 ⟨rfl, b4⟩; have P4 := P2.below b4)
                | (go_at_call 30; refine (D30.out _ P4).mono ?_; rintro e w5 ⟨rfl, b5⟩; have P5 := P4.below b5)
                | (go_at_call 31; refine (D31.out _ P5).mono ?_; rintro e w6 ⟨⟨g, cp, rfl⟩, b6⟩; have P6 := P5.below b6)
                | (go_at_call 32; refine (D32.out _ P6).mono ?_; rintro e w7 ⟨rfl, b7⟩))
              all_goals exact ⟨⟨k + 1, by omega, by go_num, below_step hBel (below_step b4 (below_step b5 (below_step b6 b7)))⟩, by simp [intOf]; omega⟩
      · by_cases h1 : (k : Int) - 1 ≤ l.length
        · have h2 : ¬ (k : Int) - 1 < 12 := fun h => hgo ⟨h1, h⟩
          clear hgo
          cases ha : allL l with
          | inl ts =>
            have hr : rightL l = true := by unfold rightL; rw [ha]
            have D33 : Hid (∀ W, Pts W A l → Calls Try.prog 33 #[.slice A l.length cap] W fun e' w' => (∃ v, e' = .returned (.tuple #[v, .int .i64 0])) ∧ Below W.heap.size W w') := Lib.hid (fun W h => (C33.out W h).mono fun e' w' h' => by
              rw [ha] at h'
              obtain ⟨⟨v, he, _⟩, hb⟩ := h'
              exact ⟨⟨v, he⟩, hb⟩)
            rw [hr] at C34
            clear ha hr
            go_wp2_with (first
              | (go_at_call 33; refine (D33.out _ P2).mono ?_; rintro e w4 ⟨⟨v, rfl⟩, b4⟩; have P4 := P2.below b4)
              | (go_at_call 27; refine (CB.out _).mono ?_; rintro e w5 ⟨rfl, b5⟩; have P5 := P4.below b5)
              | (go_at_call 34; refine (C34.out _ P5).mono ?_; rintro e w6 ⟨rfl, b6⟩))
            go_ret
            exact ⟨rfl, below_step hBel (below_step b4 (below_step b5 b6))⟩
          | inr n =>
            have he : ((n : Int) == 0) = false := by have := allL_err ha; rw [beq_eq_false_iff_ne]; omega
            have hr : rightL l = false := by unfold rightL; rw [ha]
            have D33 : Hid (∀ W, Pts W A l → Calls Try.prog 33 #[.slice A l.length cap] W fun e' w' => e' = .returned (.tuple #[.slice none 0 0, .int .i64 (n : Int)]) ∧ Below W.heap.size W w') := Lib.hid (fun W h => (C33.out W h).mono fun e' w' h' => by
              rw [ha] at h'
              exact h')
            rw [hr] at C34
            clear ha hr
            go_wp2_with (first
              | (go_at_call 33; refine (D33.out _ P2).mono ?_; rintro e w4 ⟨rfl, b4⟩; have P4 := P2.below b4)
              | (go_at_call 27; refine (CB.out _).mono ?_; rintro e w5 ⟨rfl, b5⟩; have P5 := P4.below b5)
              | (go_at_call 34; refine (C34.out _ P5).mono ?_; rintro e w6 ⟨rfl, b6⟩))
            go_ret
            exact ⟨rfl, below_step hBel (below_step b4 (below_step b5 b6))⟩
        · clear hgo
          cases ha : allL l with
          | inl ts =>
            have hr : rightL l = true := by unfold rightL; rw [ha]
            have D33 : Hid (∀ W, Pts W A l → Calls Try.prog 33 #[.slice A l.length cap] W fun e' w' => (∃ v, e' = .returned (.tuple #[v, .int .i64 0])) ∧ Below W.heap.size W w') := Lib.hid (fun W h => (C33.out W h).mono fun e' w' h' => by
              rw [ha] at h'
              obtain ⟨⟨v, he, _⟩, hb⟩ := h'
              exact ⟨⟨v, he⟩, hb⟩)
            rw [hr] at C34
            clear ha hr
            go_wp2_with (first
              | (go_at_call 33; refine (D33.out _ P2).mono ?_; rintro e w4 ⟨⟨v, rfl⟩, b4⟩; have P4 := P2.below b4)
              | (go_at_call 27; refine (CB.out _).mono ?_; rintro e w5 ⟨rfl, b5⟩; have P5 := P4.below b5)
              | (go_at_call 34; refine (C34.out _ P5).mono ?_; rintro e w6 ⟨rfl, b6⟩))
            go_ret
            exact ⟨rfl, below_step hBel (below_step b4 (below_step b5 b6))⟩
          | inr n =>
            have he : ((n : Int) == 0) = false := by have := allL_err ha; rw [beq_eq_false_iff_ne]; omega
            have hr : rightL l = false := by unfold rightL; rw [ha]
            have D33 : Hid (∀ W, Pts W A l → Calls Try.prog 33 #[.slice A l.length cap] W fun e' w' => e' = .returned (.tuple #[.slice none 0 0, .int .i64 (n : Int)]) ∧ Below W.heap.size W w') := Lib.hid (fun W h => (C33.out W h).mono fun e' w' h' => by
              rw [ha] at h'
              exact h')
            rw [hr] at C34
            clear ha hr
            go_wp2_with (first
              | (go_at_call 33; refine (D33.out _ P2).mono ?_; rintro e w4 ⟨rfl, b4⟩; have P4 := P2.below b4)
              | (go_at_call 27; refine (CB.out _).mono ?_; rintro e w5 ⟨rfl, b5⟩; have P5 := P4.below b5)
              | (go_at_call 34; refine (C34.out _ P5).mono ?_; rintro e w6 ⟨rfl, b6⟩))
            go_ret
            exact ⟨rfl, below_step hBel (below_step b4 (below_step b5 b6))⟩
end Go.Proofs.Ytghmhheolbobpaa
