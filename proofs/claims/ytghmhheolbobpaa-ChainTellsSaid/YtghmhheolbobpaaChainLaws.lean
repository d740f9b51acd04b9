/- The reference's All; ChainAll returns true, whatever the parts. Conditions: the parts lie in memory as a slice of structs, their texts within the form's reach. -/
import Derived.Test.YtghmhheolbobpaaRefApply
import Derived.Test.YtghmhheolbobpaaChainFront
set_option linter.unusedVariables false
set_option maxRecDepth 100000
namespace Go.Proofs.Ytghmhheolbobpaa
open Go.RowKit Wire

theorem great_few_sizes {l : List Pt} (h : greatP l = false) : l.length ≤ 210 ∧ ∀ x ∈ l, x.text.size ≤ 30000 := by
  unfold greatP at h
  simp at h
  refine ⟨h.1, fun x hx => ?_⟩
  have key : ∀ m : List Pt, x ∈ m → x.text.size ≤ sizes m := by
    intro m
    induction m with
    | nil => intro h; cases h
    | cons y m ih =>
      intro h
      unfold sizes at *
      rw [List.map_cons, List.sum_cons]
      rcases List.mem_cons.1 h with rfl | h
      · omega
      · have := ih h; omega
  have := key l hx
  omega
/-- What stands ahead of each round. -/
structure RA (l : List Pt) (w0 : World) (k : Nat) (ts : List ByteArray) (v : Value) (w : World) : Prop where
  own : w.ownsRowF w0.heap.size 9 1 v ts.length (txs ts)
  below : Below w0.heap.size w0 w
  law : textsN l k = .inl ts
theorem RA.next {l : List Pt} {w0 : World} {k : Nat} {ts : List ByteArray} {v v' : Value} {w w5 : World} {s : ByteArray} (h : RA l w0 k ts v w)
    (hlaw : textsN l (k + 1) = .inl (ts ++ [s])) (o : Obj) (ho : w5.ownsRowF w0.heap.size 9 1 v' (k + 1) (txs ts ++ [.string s])) (hgrow : (w.alloc o).grownBy w5 v.ownBlock) : RA l w0 (k + 1) (ts ++ [s]) v' w5 := by
  have hlen := textsN_len h.law
  refine ⟨?_, ?_, hlaw⟩
  · rw [List.length_append, hlen]
    unfold txs at ho ⊢
    rw [List.map_append]
    exact ho
  · exact (below_lay h.below o).grown hgrow (by have := h.below.size; simp; omega) (fun g hg => (h.own.lt g hg).1)
theorem RA.step {l : List Pt} {w0 : World} {k : Nat} {ts : List ByteArray} {v : Value} {w w' : World} (h : RA l w0 k ts v w) (hb : Below w.heap.size w w') : RA l w0 k ts v w' :=
  ⟨h.own.kept (below_grown hb) (by cases v.ownBlock <;> simp), below_step h.below hb, h.law⟩
set_option maxHeartbeats 2000000 in
theorem refAll_of (A : Option Addr) (cap : Nat) (l : List Pt) (w : World) (hs : ∀ x ∈ l, x.text.size ≤ 30000) (hc : Pts w A l) :
    Calls Try.prog 33 #[.slice A l.length cap] w fun e w' => AllOut w.heap.size (allL l) e w' ∧ Below w.heap.size w w' := by
  by_cases hl : 200 < l.length
  · have HALL : Hid (allL l = .inr 1) := Lib.hid (by unfold allL; rw [if_pos hl])
    clear hs hc
    go_enter Try.func33, Try.ntmps33
    go_wp2
    go_ret2
    rw [HALL.out]
    exact ⟨rfl, Below.refl _ _⟩
  · obtain ⟨i0, hi, hz0, hz1, hz2⟩ := info9
    have HALL : Hid (allL l = textsN l l.length) := Lib.hid (by unfold allL; rw [if_neg (by omega)])
    have HS := Lib.hid hs
    have HC := Lib.hid hc
    clear hs hc
    go_enter Try.func33, Try.ntmps33
    go_wp2
    go_loopw [4, 5] (fun v i wr => ∃ (k : Nat) (ts : List ByteArray), k ≤ l.length ∧ i = .int .i64 k ∧ RA l w k ts v wr) (fun _ i _ => l.length - (intOf i).toNat)
    case atStart => exact ⟨0, [], by omega, rfl, World.ownsRowF_nil _ _ _ _, Below.refl _ _, rfl⟩
    case round =>
      obtain ⟨k, ts, hk, rfl, hA⟩ := hrel
      have hlen := textsN_len hA.law
      by_cases hlt : k < l.length
      · have C32 := refTextL_of A cap l (k : Int) wr HS.out (HC.out.below hA.below)
        cases ht : textL l (k : Int) with
        | inr e =>
          have he : ((e : Int) == 0) = false := by have := text_errL ht; rw [beq_eq_false_iff_ne]; omega
          have HE : Hid (textsN l l.length = .inr e) := Lib.hid (textsN_err (k := k + 1) (by rw [textsN, hA.law]; simp only; rw [ht]) (by omega))
          rw [ht] at C32
          clear ht
          go_wp2_with (go_at_call 32; refine C32.mono ?_; rintro e w1 ⟨hR, b1⟩; obtain rfl := hR)
          go_ret2
          rw [HALL.out, HE.out]
          exact ⟨rfl, below_step hA.below b1⟩
        | inl s =>
          have HL : Hid (textsN l (k + 1) = .inl (ts ++ [s])) := Lib.hid (by rw [textsN, hA.law]; simp only; rw [ht])
          rw [ht] at C32
          clear ht
          go_wp2_with (first
            | (go_at_call 32; have hC := C32; clear C32; refine hC.mono ?_; rintro e w1 ⟨hR, b1⟩; obtain rfl := hR; have hA1 := hA.step b1)
            | (at_builtin; refine wpList_append_ownF _ rfl _ _ 63 rfl w.heap.size 9 i0 (.string ByteArray.empty) 1 16 Try.underlying63 hi hz0 hz1 hz2 rfl (by decide) _ _ _ rfl (hA1.own.alloc _) ⟨w1.heap.size, 0, none⟩ 1 1 [.string s] rfl rfl ?c1 ?c2 ?c3 ?c4 ?c5 ?_))
          case c1 =>
            intro j u hj
            match j, hj with
            | 0, hj => simp at hj; subst hj; simp [Addr.add]
          case c2 => intro u hu; simp at hu; subst hu; rfl
          case c3 => unfold maxLen; omega
          case c4 => omega
          case c5 => have := hA1.below.size; simp; omega
          intro v' w5 hown' hgrow _
          have hNext := hA1.next HL.out _ hown' hgrow
          go_wp2
          exact ⟨⟨k + 1, ts ++ [s], by omega, by go_num, hNext⟩, by simp [intOf]; omega⟩
      · obtain rfl : k = l.length := by omega
        have HLAW := Lib.hid hA.law
        have HOWN := Lib.hid hA.own
        have hbel := hA.below
        clear hA
        go_wp2
        go_ret2
        rw [HALL.out, HLAW.out]
        exact ⟨⟨_, rfl, HOWN.out⟩, hbel⟩
set_option maxHeartbeats 2000000 in
theorem all_law (A : Option Addr) (cap : Nat) (l : List Pt) (w : World) (hs : ∀ x ∈ l, x.text.size ≤ 4611686018427387904) (hc : Pts w A l) :
    Calls Try.prog 8 #[.slice A l.length cap] w fun e w' => e = .returned (.bool true) ∧ Below w.heap.size w w' := by
  have hs2 : ∀ x ∈ l, x.text.size ≤ maxLen := fun x hx => by have := hs x hx; unfold maxLen; omega
  have C28 := Lib.hid (fun W (h : Pts W A l) => greatP_any A cap l W hs h)
  have C35 := Lib.hid (fun W (h : Pts W A l) => all_of A cap l W hs2 h)
  have CA := Lib.hid chainAlive
  cases hg : greatP l with
  | true =>
    rw [hg] at C28
    clear hg hs hs2
    go_enter Try.func8, Try.ntmps8
    go_wp2_with (first
      | (go_at_call 27; have hC := CA; clear CA; refine (hC.out _).mono ?_; rintro e w1 ⟨rfl, b1⟩; have CB := hC)
      | (go_at_call 27; refine (CB.out _).mono ?_; rintro e w2 ⟨rfl, b2⟩)
      | (go_at_call 28; refine (C28.out _ (hc.below b1)).mono ?_; rintro e w3 ⟨rfl, rfl⟩))
    go_ret
    exact ⟨rfl, below_step b1 b2⟩
  | false =>
    obtain ⟨_, hs3⟩ := great_few_sizes hg
    have C33 := Lib.hid (fun W (h : Pts W A l) => refAll_of A cap l W hs3 h)
    rw [hg] at C28
    cases ha : allL l with
    | inr e =>
      have he : ((e : Int) == 0) = false := by have := allL_err ha; rw [beq_eq_false_iff_ne]; omega
      have SAME : Hid (∀ W : World, Calls Try.prog 36 #[.slice none 0 0, .slice none 0 0] W fun e w' => e = .returned (.bool true) ∧ Below W.heap.size W w') := Lib.hid (fun W => same_of none none 0 0 [] W (fun k hk => by simp at hk) (fun k hk => by simp at hk) (by simp))
      rw [ha] at C35 C33
      clear hg hs hs2 hs3 ha
      go_enter Try.func8, Try.ntmps8
      go_wp2_with (first
        | (go_at_call 27; have hC := CA; clear CA; refine (hC.out _).mono ?_; rintro e w1 ⟨rfl, b1⟩; have CB := hC; have P1 := hc.below b1)
        | (go_at_call 27; refine (CB.out _).mono ?_; rintro e w2 ⟨rfl, b2⟩)
        | (go_at_call 28; refine (C28.out _ (hc.below b1)).mono ?_; rintro e w3 ⟨rfl, rfl⟩)
        | (go_at_call 35; refine (C35.out _ P1).mono ?_; rintro e w4 ⟨hR, b4⟩; obtain rfl := hR; have P4 := P1.below b4)
        | (go_at_call 33; refine (C33.out _ P4).mono ?_; rintro e w5 ⟨hR, b5⟩; obtain rfl := hR)
        | (go_at_call 36; refine (SAME.out _).mono ?_; rintro e w7 ⟨rfl, b7⟩))
      go_ret
      exact ⟨rfl, below_step b1 (below_step b4 (below_step b5 (below_step b2 b7)))⟩
    | inl ts =>
      have htl : ts.length ≤ 200 := by
        obtain ⟨_, h1, h2⟩ := all_take 0 (Nat.zero_le _) ha
        omega
      rw [ha] at C35 C33
      clear hg hs hs2 hs3 ha
      go_enter Try.func8, Try.ntmps8
      go_wp2_with (first
        | (go_at_call 27; have hC := CA; clear CA; refine (hC.out _).mono ?_; rintro e w1 ⟨rfl, b1⟩; have CB := hC; have P1 := hc.below b1)
        | (go_at_call 27; refine (CB.out _).mono ?_; rintro e w6 ⟨rfl, b6⟩)
        | (go_at_call 28; refine (C28.out _ (hc.below b1)).mono ?_; rintro e w3 ⟨rfl, rfl⟩)
        | (go_at_call 35; refine (C35.out _ P1).mono ?_; rintro e w4 ⟨hR, b4⟩; obtain ⟨v, rfl, hO⟩ := hR; obtain ⟨A2, cap2, rfl, T2, _⟩ := txs_of_owns hO; have P4 := P1.below b4)
        | (go_at_call 33; refine (C33.out _ P4).mono ?_; rintro e w5 ⟨hR, b5⟩; obtain ⟨v, rfl, hO2⟩ := hR; obtain ⟨A3, cap3, rfl, T3, _⟩ := txs_of_owns hO2)
        | (go_at_call 36; refine (same_of A2 A3 cap2 cap3 ts w6 ((T2.below b5).below b6) (T3.below b6) htl).mono ?_; rintro e w7 ⟨rfl, b7⟩))
      go_ret
      exact ⟨rfl, below_step b1 (below_step b4 (below_step b5 (below_step b6 b7)))⟩
end Go.Proofs.Ytghmhheolbobpaa
