/- The reference's Read: what a delta's bytes say. Conditions: the text is of at most 30000 bytes. -/
import Derived.Test.YtghmhheolbobpaaRefState
set_option linter.unusedVariables false
set_option maxRecDepth 100000
namespace Go.Proofs.Ytghmhheolbobpaa
open Go.RowKit Wire

/-- What the reference's Read hands back. -/
def RefReadOut (B : Nat) (r : Option (Nat × List Pc)) (e : Ending) (w : World) : Prop :=
  match r with
  | some (b, l) => ∃ v, e = .returned (.tuple #[.int .i64 (b : Int), v, .bool true]) ∧ w.ownsRowF B 105 2 v l.length (pcells l)
  | none => e = .returned (.tuple #[.int .i64 0, .slice none 0 0, .bool false])
theorem pz_one : (#[Value.complex .f64 0 0, .string ⟨#[]⟩] : Array Value).all (·.oneCell') = true := all_oneCell_toArray (fun v hv => by
  simp at hv
  rcases hv with rfl | rfl <;> rfl)
theorem cell_new (W : World) (g : Nat) (hg : g = W.heap.size) (c : Array Value) (t : TypeId) (j : Nat) (u : Value) (h : c[j]? = some u) : (W.alloc (.cells c t)).cell? ⟨g, j, none⟩ = some u := by
  subst hg
  rw [Lib.cell_of_heap (heap_alloc_new W _)]; exact h
theorem meas_next {v v' : Value} {n : Nat} {x : Pc} {out : List Pc} (h : out.length + 1 ≤ n) (h' : ∃ A cp, v' = .slice A (out ++ [x]).length cp) (hv : ∃ A cp, v = .slice A out.length cp) : n + 5 - lenOf v' < n + 5 - lenOf v := by
  obtain ⟨A, cp, rfl⟩ := h'
  obtain ⟨A', cp', rfl⟩ := hv
  show n + 5 - (out ++ [x]).length < n + 5 - out.length
  rw [List.length_append]; simp; omega
set_option maxHeartbeats 4000000 in
theorem refRead_loop (s : ByteArray) (b k many j : Nat) (w : World) (hs : s.size ≤ 30000) (hr1 : readNum 4099 (s.data.toList.drop 0) = .inr (b, k)) (hr2 : readNum 4099 (s.data.toList.drop k) = .inr (many, j)) :
    Calls Try.prog 48 #[.string s] w fun e w' => RefReadOut w.heap.size (readD s) e w' ∧ Below w.heap.size w w' := by
  obtain ⟨i0, hi, hz0, hz1, hz2⟩ := info105
  have HS : Hid (s.size ≤ 140737488355328) := Lib.hid (by omega)
  have HM : Hid (s.size ≤ maxLen) := Lib.hid (by unfold maxLen; omega)
  have hk1 : k ≤ s.size := by
    have hd : (s.data.toList.drop 0).length = s.size := by simp
    have := (readNum_len hr1).2.1
    omega
  have hj1 : k + j ≤ s.size := by
    have hd : (s.data.toList.drop k).length = s.size - k := by simp
    have := (readNum_len hr2).2.1
    omega
  have HN0 : Hid (readD s = readFin b many (gatherD (s.size + 2) s (k + j))) := Lib.hid (by
    rw [read_full s b many _ hj1]; unfold readD; rw [hr1]; simp only; rw [hr2])
  have R00 : RS s w (.slice none 0 0) [] 0 0 (w.alloc (.cells #[.string s, .int .i64 0, .int .i64 0] 102)) := ⟨Rr.made s w, World.ownsRowF_nil _ _ _ _, below_lay (Below.refl _ _) _⟩
  have CA : Hid (∀ W, RS s w (.slice none 0 0) [] 0 0 W → Calls Try.prog 53 #[.pointer (some ⟨w.heap.size, 0, none⟩), .int .i64 4099] W fun e' w' => e' = .returned (.int .i64 (b : Int)) ∧ RS s w (.slice none 0 0) [] k 0 w' ∧ Ko w.heap.size W w') := Lib.hid (fun W h => by
    have := h.number 4099 HS.out (Nat.zero_le _); rw [hr1] at this; have e0 : (numRes 0 (.inr (b, k))).2.1 = k := by show 0 + k = k; omega
    rw [e0] at this; exact this)
  have CB : Hid (∀ W, RS s w (.slice none 0 0) [] k 0 W → Calls Try.prog 53 #[.pointer (some ⟨w.heap.size, 0, none⟩), .int .i64 4099] W fun e' w' => e' = .returned (.int .i64 (many : Int)) ∧ RS s w (.slice none 0 0) [] (k + j) 0 w' ∧ Ko w.heap.size W w') := Lib.hid (fun W h => by
    have := h.number 4099 HS.out hk1; rw [hr2] at this; exact this)
  have HJ := Lib.hid hj1
  clear hr1 hr2 hk1 hj1
  go_enter Try.func48, Try.ntmps48
  go_wp2_with (first
    | (go_at_call 53; have hC := CA; clear CA; refine (hC.out _ R00).mono ?_; rintro e w1 ⟨rfl, R01, _⟩)
    | (go_at_call 53; refine (CB.out _ R01).mono ?_; rintro e w2 ⟨rfl, R02, _⟩))
  go_loopw [8] (fun vs wr => ∃ (v : Value) (out : List Pc) (p : Nat) (err : Int), v = vs ∧ Hid (∀ x ∈ out, x.small ∧ x.text.size ≤ s.size) ∧ out.length ≤ s.size ∧ RS s w v out p err wr ∧ Hid ((err ≠ 0 ∧ readD s = none) ∨ (err = 0 ∧ p ≤ s.size ∧ out.length ≤ p ∧ readD s = readFin b many (ahead out (gatherD (s.size + 2 - out.length) s p))))) (fun v _ => s.size + 5 - lenOf v)
  case atStart => exact ⟨_, [], k + j, 0, rfl, Lib.hid (by simp), by simp, R02, Lib.hid (Or.inr ⟨rfl, HJ.out, by simp, by rw [ahead_nil]; exact HN0.out⟩)⟩
  case round =>
    obtain ⟨v, out, p, err, rfl, HSM, hfew, R0, HE⟩ := hrel
    have c1 := R0.rd.cell1
    have c2 := R0.rd.cell2
    have S0 := R0
    rcases HE.out with ⟨he, HR⟩ | ⟨rfl, hp, hfp, HR⟩
    · have HN := Lib.hid HR
      have hb : (err == 0) = false := by simpa using he
      have hend : endOf s p err = err := by unfold endOf; rw [if_neg he]
      have C55 := Lib.hid (fun W (h : RS s w v out p err W) => h.call (rend_any _ _ _ _ _ h.rd HM.out))
      rw [hend] at C55
      clear hend he
      go_wp2_with (go_at_call 55; refine (C55.out _ R0).mono ?_; rintro e w3 ⟨rfl, R1, _⟩)
      go_ret3
      rw [HN.out]
      exact ⟨rfl, R1.below⟩
    · by_cases hpe : p < s.size
      · have hfew2 : out.length + 1 ≤ s.size := by omega
        cases hr : readNum 8199 (s.data.toList.drop p) with
        | inl e =>
          have he := readNum_err hr
          have hpc : pieceAt s p = none := by unfold pieceAt; rw [hr]
          have HN : Hid (readD s = none) := Lib.hid (by
            obtain ⟨f, hf⟩ : ∃ f, s.size + 2 - out.length = f + 1 := ⟨s.size + 1 - out.length, by omega⟩
            rw [HR, hf, gather_bad (by omega) hpc]; rfl)
          have C21 : Hid (∀ W, RS s w v out p 0 W → Calls Try.prog 53 #[.pointer (some ⟨w.heap.size, 0, none⟩), .int .i64 8199] W fun e' w' => e' = .returned (.int .i64 0) ∧ RS s w v out p (e : Int) w' ∧ Ko w.heap.size W w') := Lib.hid (fun W h => by
            have := h.number 8199 HS.out hp; rw [hr] at this; exact this)
          have C22 : Hid (∀ W, RS s w v out p (e : Int) W → Calls Try.prog 54 #[.pointer (some ⟨w.heap.size, 0, none⟩), .int .i64 0] W fun e' w' => e' = .returned (.string ByteArray.empty) ∧ RS s w v out p (e : Int) w' ∧ Ko w.heap.size W w') := Lib.hid (fun W h => by
            exact h.call (rraw_err _ s p (e : Int) 0 W h.rd (by omega)))
          clear HR hpc hr
          have H105 := Lib.hid size105
          go_wp2_with (first
            | (go_at_call 53; have hC := C21; clear C21; refine (hC.out _ R0).mono ?_; rintro e w2 ⟨rfl, R1, k1⟩; obtain ⟨n1, n2, n3⟩ := R1.behind; have R2 := R1.alloc (.cells #[.complex .f64 0 0, .string ⟨#[]⟩] 105); have P2 : Pb w2.heap.size 0 0 ⟨#[]⟩ (w2.alloc (.cells #[.complex .f64 0 0, .string ⟨#[]⟩] 105)) := heap_alloc_new _ _)
            | (have hh := H105.out; clear H105; refine wpList_store_row rfl 105 _ _ rfl w2.heap.size #[.complex .f64 0 0, .string ⟨#[]⟩] rfl rfl 105 _ (heap_alloc_new w2 _) hh rfl pz_one ?_; rw [World.setRow_alloc_new])
            | (go_at_call 54; have hD := C22; clear C22; refine (hD.out _ R2).mono ?_; rintro e w3 ⟨rfl, R3, k3⟩; have P3 := P2.call k3 n1.symm; have q0 := P3.cell0; have q1 := P3.cell1; have f0 := P3.frozen 0; have f1 := P3.frozen 1; have R4 := R3.setCell (i := 1) (u := .string ByteArray.empty) n1 n2 n3; have P4 := P3.set1 (t' := ByteArray.empty); have q4 := P4.cell0; have q5 := P4.cell1)
            | (at_builtin; refine wpList_append_ownF _ rfl _ _ 91 rfl (w.heap.size + 1) 105 i0 (.agg #[.complex .f64 0 0, .string ByteArray.empty]) 2 32 Try.underlying91 hi hz0 hz1 hz2 rfl (by decide) _ _ _ rfl (R4.own.alloc _) ⟨_, 0, none⟩ 1 1 [.complex .f64 0 0, .string ByteArray.empty] rfl rfl ?c1 ?c2 ?c3 ?c4 ?c5 ?_))
          case c1 =>
            intro j u hj
            match j, hj with
            | 0, hj => simp at hj; subst hj; simp [Addr.add]; exact cell_new _ _ (by simp [World.setCell]) _ _ _ _ rfl
            | 1, hj => simp at hj; subst hj; simp [Addr.add]; exact cell_new _ _ (by simp [World.setCell]) _ _ _ _ rfl
          case c2 => intro u hu; simp at hu; rcases hu with rfl | rfl <;> rfl
          case c3 => unfold maxLen; omega
          case c4 => omega
          case c5 => have := R3.rd.lt; have := R3.below.size; simp; omega
          intro v' w5 hown' hgrow _
          have S5 := R4.appended ⟨0, 0, ⟨#[]⟩⟩ _ hown' hgrow
          go_wp2
          refine ⟨⟨_, out ++ [(⟨0, 0, ⟨#[]⟩⟩ : Pc)], _, (e : Int), rfl, Lib.hid (fun y hy => ?_), by rw [List.length_append]; simp; omega, S5, Lib.hid (Or.inl ⟨by omega, HN.out⟩)⟩, ?_⟩
          · rcases List.mem_append.1 hy with h | h
            · exact HSM.out y h
            · rw [List.mem_singleton.1 h]; exact ⟨⟨by simp only; omega, by simp only; omega⟩, Nat.zero_le _⟩
          · exact meas_next hfew2 S5.slice S0.slice
        | inr y =>
          obtain ⟨n, k⟩ := y
          obtain ⟨hk0, hk1, _, hn⟩ := readNum_len hr
          have hk1 : p + k ≤ s.size := by
            have hd : (s.data.toList.drop p).length = s.size - p := by simp
            omega
          by_cases hodd : n % 2 = 1
          · obtain ⟨m, rfl⟩ : ∃ m, n = 2 * m + 1 := ⟨n / 2, by omega⟩
            have hm1 : (2 * m + 1) / 2 = m := by omega
            have hq2 : (2 * (m : Int) + 1) / 2 = (m : Int) := by omega
            have C21 : Hid (∀ W, RS s w v out p 0 W → Calls Try.prog 53 #[.pointer (some ⟨w.heap.size, 0, none⟩), .int .i64 8199] W fun e' w' => e' = .returned (.int .i64 (2 * (m : Int) + 1)) ∧ RS s w v out (p + k) 0 w' ∧ Ko w.heap.size W w') := Lib.hid (fun W h => by
              have := h.number 8199 HS.out hp; rw [hr] at this; exact this)
            cases hr2 : readNum 4099 (s.data.toList.drop (p + k)) with
            | inl e =>
              have he := readNum_err hr2
              have hpc : pieceAt s p = none := by unfold pieceAt; rw [hr]; simp only; rw [if_pos hodd, hr2]
              have HN : Hid (readD s = none) := Lib.hid (by
                obtain ⟨f, hf⟩ : ∃ f, s.size + 2 - out.length = f + 1 := ⟨s.size + 1 - out.length, by omega⟩
                rw [HR, hf, gather_bad (by omega) hpc]; rfl)
              have C22 : Hid (∀ W, RS s w v out (p + k) 0 W → Calls Try.prog 53 #[.pointer (some ⟨w.heap.size, 0, none⟩), .int .i64 4099] W fun e' w' => e' = .returned (.int .i64 0) ∧ RS s w v out (p + k) (e : Int) w' ∧ Ko w.heap.size W w') := Lib.hid (fun W h => by
                have := h.number 4099 HS.out hk1; rw [hr2] at this; exact this)
              clear HR hpc hr hr2
              have hst : ∀ (a : Addr) (re im : Nat) (W : World), (store a (.complex .f64 re im)).run Try.prog W = Go.stored Try.prog W a (.complex .f64 re im) .plain := fun _ _ _ _ => run_store _ _ _ _ _ rfl
              have H105 := Lib.hid size105
              go_wp2_with (first
                | (go_at_call 53; have hC := C21; clear C21; refine (hC.out _ R0).mono ?_; rintro e w2 ⟨rfl, R1, k1⟩; obtain ⟨n1, n2, n3⟩ := R1.behind; have R2 := R1.alloc (.cells #[.complex .f64 0 0, .string ⟨#[]⟩] 105); have P2 : Pb w2.heap.size 0 0 ⟨#[]⟩ (w2.alloc (.cells #[.complex .f64 0 0, .string ⟨#[]⟩] 105)) := heap_alloc_new _ _)
                | (have hh := H105.out; clear H105; refine wpList_store_row rfl 105 _ _ rfl w2.heap.size #[.complex .f64 0 0, .string ⟨#[]⟩] rfl rfl 105 _ (heap_alloc_new w2 _) hh rfl pz_one ?_; rw [World.setRow_alloc_new])
                | (go_at_call 53; have hD := C22; clear C22; refine (hD.out _ R2).mono ?_; rintro e w3 ⟨rfl, R3, k3⟩; have P3 := P2.call k3 n1.symm; have q0 := P3.cell0; have q1 := P3.cell1; have f0 := P3.frozen 0; have f1 := P3.frozen 1; have R4 := R3.setCell (i := 0) (u := .complex .f64 (floatOfInt .f64 0) (floatOfInt .f64 (m : Int))) n1 n2 n3; have P4 := P3.set0 (re' := floatOfInt .f64 0) (im' := floatOfInt .f64 (m : Int)); have q4 := P4.cell0; have q5 := P4.cell1)
                | (at_builtin; refine wpList_append_ownF _ rfl _ _ 91 rfl (w.heap.size + 1) 105 i0 (.agg #[.complex .f64 0 0, .string ByteArray.empty]) 2 32 Try.underlying91 hi hz0 hz1 hz2 rfl (by decide) _ _ _ rfl (R4.own.alloc _) ⟨_, 0, none⟩ 1 1 [.complex .f64 (floatOfInt .f64 0) (floatOfInt .f64 (m : Int)), .string ⟨#[]⟩] rfl rfl ?c1 ?c2 ?c3 ?c4 ?c5 ?_))
              case c1 =>
                intro j u hj
                match j, hj with
                | 0, hj => simp at hj; subst hj; simp [Addr.add]; exact cell_new _ _ (by simp [World.setCell]) _ _ _ _ rfl
                | 1, hj => simp at hj; subst hj; simp [Addr.add]; exact cell_new _ _ (by simp [World.setCell]) _ _ _ _ rfl
              case c2 => intro u hu; simp at hu; rcases hu with rfl | rfl <;> rfl
              case c3 => unfold maxLen; omega
              case c4 => omega
              case c5 => have := R3.rd.lt; have := R3.below.size; simp; omega
              intro v' w5 hown' hgrow _
              have S5 := R4.appended ⟨0, m, ⟨#[]⟩⟩ _ hown' hgrow
              go_wp2
              refine ⟨⟨_, out ++ [(⟨0, m, ⟨#[]⟩⟩ : Pc)], _, (e : Int), rfl, Lib.hid (fun y hy => ?_), by rw [List.length_append]; simp; omega, S5, Lib.hid (Or.inl ⟨by omega, HN.out⟩)⟩, ?_⟩
              · rcases List.mem_append.1 hy with h | h
                · exact HSM.out y h
                · rw [List.mem_singleton.1 h]; exact ⟨⟨by simp only; omega, by simp only; omega⟩, Nat.zero_le _⟩
              · exact meas_next hfew2 S5.slice S0.slice
            | inr z =>
              obtain ⟨c, j⟩ := z
              have hpc : pieceAt s p = some (⟨c, m, ⟨#[]⟩⟩, p + k + j) := by unfold pieceAt; rw [hr]; simp only; rw [if_pos hodd, hr2, hm1]
              have hq := piece_on hp hpc
              have HQ : Hid (p + k + j ≤ s.size) := Lib.hid hq.2
              have HSX := Lib.hid (And.intro (piece_small hpc) (piece_text hpc))
              have HN : Hid (readD s = readFin b many (ahead (out ++ [(⟨c, m, ⟨#[]⟩⟩ : Pc)]) (gatherD (s.size + 2 - (out ++ [(⟨c, m, ⟨#[]⟩⟩ : Pc)]).length) s (p + k + j)))) := Lib.hid (by
                obtain ⟨f, hf⟩ : ∃ f, s.size + 2 - out.length = f + 1 := ⟨s.size + 1 - out.length, by omega⟩
                have hf2 : s.size + 2 - (out ++ [(⟨c, m, ⟨#[]⟩⟩ : Pc)]).length = f := by rw [List.length_append]; simp; omega
                rw [HR, hf, gather_next (by omega) hpc, hf2])
              have C22 : Hid (∀ W, RS s w v out (p + k) 0 W → Calls Try.prog 53 #[.pointer (some ⟨w.heap.size, 0, none⟩), .int .i64 4099] W fun e' w' => e' = .returned (.int .i64 (c : Int)) ∧ RS s w v out (p + k + j) 0 w' ∧ Ko w.heap.size W w') := Lib.hid (fun W h => by
                have := h.number 4099 HS.out hk1; rw [hr2] at this; exact this)
              clear HR hpc hr hr2
              have hst : ∀ (a : Addr) (re im : Nat) (W : World), (store a (.complex .f64 re im)).run Try.prog W = Go.stored Try.prog W a (.complex .f64 re im) .plain := fun _ _ _ _ => run_store _ _ _ _ _ rfl
              have H105 := Lib.hid size105
              go_wp2_with (first
                | (go_at_call 53; have hC := C21; clear C21; refine (hC.out _ R0).mono ?_; rintro e w2 ⟨rfl, R1, k1⟩; obtain ⟨n1, n2, n3⟩ := R1.behind; have R2 := R1.alloc (.cells #[.complex .f64 0 0, .string ⟨#[]⟩] 105); have P2 : Pb w2.heap.size 0 0 ⟨#[]⟩ (w2.alloc (.cells #[.complex .f64 0 0, .string ⟨#[]⟩] 105)) := heap_alloc_new _ _)
                | (have hh := H105.out; clear H105; refine wpList_store_row rfl 105 _ _ rfl w2.heap.size #[.complex .f64 0 0, .string ⟨#[]⟩] rfl rfl 105 _ (heap_alloc_new w2 _) hh rfl pz_one ?_; rw [World.setRow_alloc_new])
                | (go_at_call 53; have hD := C22; clear C22; refine (hD.out _ R2).mono ?_; rintro e w3 ⟨rfl, R3, k3⟩; have P3 := P2.call k3 n1.symm; have q0 := P3.cell0; have q1 := P3.cell1; have f0 := P3.frozen 0; have f1 := P3.frozen 1; have R4 := R3.setCell (i := 0) (u := .complex .f64 (floatOfInt .f64 (c : Int)) (floatOfInt .f64 (m : Int))) n1 n2 n3; have P4 := P3.set0 (re' := floatOfInt .f64 (c : Int)) (im' := floatOfInt .f64 (m : Int)); have q4 := P4.cell0; have q5 := P4.cell1)
                | (at_builtin; refine wpList_append_ownF _ rfl _ _ 91 rfl (w.heap.size + 1) 105 i0 (.agg #[.complex .f64 0 0, .string ByteArray.empty]) 2 32 Try.underlying91 hi hz0 hz1 hz2 rfl (by decide) _ _ _ rfl (R4.own.alloc _) ⟨_, 0, none⟩ 1 1 [.complex .f64 (floatOfInt .f64 (c : Int)) (floatOfInt .f64 (m : Int)), .string ⟨#[]⟩] rfl rfl ?c1 ?c2 ?c3 ?c4 ?c5 ?_))
              case c1 =>
                intro j u hj
                match j, hj with
                | 0, hj => simp at hj; subst hj; simp [Addr.add]; exact cell_new _ _ (by simp [World.setCell]) _ _ _ _ rfl
                | 1, hj => simp at hj; subst hj; simp [Addr.add]; exact cell_new _ _ (by simp [World.setCell]) _ _ _ _ rfl
              case c2 => intro u hu; simp at hu; rcases hu with rfl | rfl <;> rfl
              case c3 => unfold maxLen; omega
              case c4 => omega
              case c5 => have := R3.rd.lt; have := R3.below.size; simp; omega
              intro v' w5 hown' hgrow _
              have S5 := R4.appended ⟨c, m, ⟨#[]⟩⟩ _ hown' hgrow
              go_wp2
              refine ⟨⟨_, out ++ [(⟨c, m, ⟨#[]⟩⟩ : Pc)], p + k + j, 0, rfl, Lib.hid (fun y hy => ?_), by rw [List.length_append]; simp; omega, S5, Lib.hid (Or.inr ⟨rfl, HQ.out, by rw [List.length_append]; simp; omega, HN.out⟩)⟩, ?_⟩
              · rcases List.mem_append.1 hy with h | h
                · exact HSM.out y h
                · rw [List.mem_singleton.1 h]; exact HSX.out
              · exact meas_next hfew2 S5.slice S0.slice
          · obtain ⟨m, rfl⟩ : ∃ m, n = 2 * m := ⟨n / 2, by omega⟩
            have hm1 : 2 * m / 2 = m := by omega
            have C21 : Hid (∀ W, RS s w v out p 0 W → Calls Try.prog 53 #[.pointer (some ⟨w.heap.size, 0, none⟩), .int .i64 8199] W fun e' w' => e' = .returned (.int .i64 (2 * (m : Int))) ∧ RS s w v out (p + k) 0 w' ∧ Ko w.heap.size W w') := Lib.hid (fun W h => by
              have := h.number 8199 HS.out hp; rw [hr] at this; exact this)
            by_cases hfit : p + k + m ≤ s.size
            · have hpc : pieceAt s p = some (⟨0, 0, s.extract (p + k) (p + k + m)⟩, p + k + m) := by unfold pieceAt; rw [hr]; simp only; rw [if_neg hodd, hm1, if_pos hfit]
              obtain ⟨tx, htx⟩ : ∃ tx, tx = s.extract (p + k) (p + k + m) := ⟨_, rfl⟩
              rw [← htx] at hpc
              have hq := piece_on hp hpc
              have HQ : Hid (p + k + m ≤ s.size) := Lib.hid hq.2
              have HSX := Lib.hid (And.intro (piece_small hpc) (piece_text hpc))
              have HN : Hid (readD s = readFin b many (ahead (out ++ [(⟨0, 0, tx⟩ : Pc)]) (gatherD (s.size + 2 - (out ++ [(⟨0, 0, tx⟩ : Pc)]).length) s (p + k + m)))) := Lib.hid (by
                obtain ⟨f, hf⟩ : ∃ f, s.size + 2 - out.length = f + 1 := ⟨s.size + 1 - out.length, by omega⟩
                have hf2 : s.size + 2 - (out ++ [(⟨0, 0, tx⟩ : Pc)]).length = f := by rw [List.length_append]; simp; omega
                rw [HR, hf, gather_next (by omega) hpc, hf2])
              have C22 : Hid (∀ W, RS s w v out (p + k) 0 W → Calls Try.prog 54 #[.pointer (some ⟨w.heap.size, 0, none⟩), .int .i64 (m : Int)] W fun e' w' => e' = .returned (.string tx) ∧ RS s w v out (p + k + m) 0 w' ∧ Ko w.heap.size W w') := Lib.hid (fun W h => by
                rw [htx]; exact h.call (rraw_ok _ s (p + k) m W h.rd HM.out hfit))
              clear HR hpc hr htx
              have H105 := Lib.hid size105
              go_wp2_with (first
                | (go_at_call 53; have hC := C21; clear C21; refine (hC.out _ R0).mono ?_; rintro e w2 ⟨rfl, R1, k1⟩; obtain ⟨n1, n2, n3⟩ := R1.behind; have R2 := R1.alloc (.cells #[.complex .f64 0 0, .string ⟨#[]⟩] 105); have P2 : Pb w2.heap.size 0 0 ⟨#[]⟩ (w2.alloc (.cells #[.complex .f64 0 0, .string ⟨#[]⟩] 105)) := heap_alloc_new _ _)
                | (have hh := H105.out; clear H105; refine wpList_store_row rfl 105 _ _ rfl w2.heap.size #[.complex .f64 0 0, .string ⟨#[]⟩] rfl rfl 105 _ (heap_alloc_new w2 _) hh rfl pz_one ?_; rw [World.setRow_alloc_new])
                | (go_at_call 54; have hD := C22; clear C22; refine (hD.out _ R2).mono ?_; rintro e w3 ⟨rfl, R3, k3⟩; have P3 := P2.call k3 n1.symm; have q0 := P3.cell0; have q1 := P3.cell1; have f0 := P3.frozen 0; have f1 := P3.frozen 1; have R4 := R3.setCell (i := 1) (u := .string tx) n1 n2 n3; have P4 := P3.set1 (t' := tx); have q4 := P4.cell0; have q5 := P4.cell1)
                | (at_builtin; refine wpList_append_ownF _ rfl _ _ 91 rfl (w.heap.size + 1) 105 i0 (.agg #[.complex .f64 0 0, .string ByteArray.empty]) 2 32 Try.underlying91 hi hz0 hz1 hz2 rfl (by decide) _ _ _ rfl (R4.own.alloc _) ⟨_, 0, none⟩ 1 1 [.complex .f64 0 0, .string tx] rfl rfl ?c1 ?c2 ?c3 ?c4 ?c5 ?_))
              case c1 =>
                intro j u hj
                match j, hj with
                | 0, hj => simp at hj; subst hj; simp [Addr.add]; exact cell_new _ _ (by simp [World.setCell]) _ _ _ _ rfl
                | 1, hj => simp at hj; subst hj; simp [Addr.add]; exact cell_new _ _ (by simp [World.setCell]) _ _ _ _ rfl
              case c2 => intro u hu; simp at hu; rcases hu with rfl | rfl <;> rfl
              case c3 => unfold maxLen; omega
              case c4 => omega
              case c5 => have := R3.rd.lt; have := R3.below.size; simp; omega
              intro v' w5 hown' hgrow _
              have S5 := R4.appended ⟨0, 0, tx⟩ _ hown' hgrow
              go_wp2
              refine ⟨⟨_, out ++ [(⟨0, 0, tx⟩ : Pc)], p + k + m, 0, rfl, Lib.hid (fun y hy => ?_), by rw [List.length_append]; simp; omega, S5, Lib.hid (Or.inr ⟨rfl, HQ.out, by rw [List.length_append]; simp; omega, HN.out⟩)⟩, ?_⟩
              · rcases List.mem_append.1 hy with h | h
                · exact HSM.out y h
                · rw [List.mem_singleton.1 h]; exact HSX.out
              · exact meas_next hfew2 S5.slice S0.slice
            · have hpc : pieceAt s p = none := by unfold pieceAt; rw [hr]; simp only; rw [if_neg hodd, hm1, if_neg hfit]
              have HN : Hid (readD s = none) := Lib.hid (by
                obtain ⟨f, hf⟩ : ∃ f, s.size + 2 - out.length = f + 1 := ⟨s.size + 1 - out.length, by omega⟩
                rw [HR, hf, gather_bad (by omega) hpc]; rfl)
              have C22 : Hid (∀ W, RS s w v out (p + k) 0 W → Calls Try.prog 54 #[.pointer (some ⟨w.heap.size, 0, none⟩), .int .i64 (m : Int)] W fun e' w' => e' = .returned (.string ByteArray.empty) ∧ RS s w v out (p + k) 3 w' ∧ Ko w.heap.size W w') := Lib.hid (fun W h => by
                exact h.call (rraw_short _ s (p + k) (m : Int) W h.rd HM.out hk1 (by omega) (by omega)))
              clear HR hpc hr
              have H105 := Lib.hid size105
              go_wp2_with (first
                | (go_at_call 53; have hC := C21; clear C21; refine (hC.out _ R0).mono ?_; rintro e w2 ⟨rfl, R1, k1⟩; obtain ⟨n1, n2, n3⟩ := R1.behind; have R2 := R1.alloc (.cells #[.complex .f64 0 0, .string ⟨#[]⟩] 105); have P2 : Pb w2.heap.size 0 0 ⟨#[]⟩ (w2.alloc (.cells #[.complex .f64 0 0, .string ⟨#[]⟩] 105)) := heap_alloc_new _ _)
                | (have hh := H105.out; clear H105; refine wpList_store_row rfl 105 _ _ rfl w2.heap.size #[.complex .f64 0 0, .string ⟨#[]⟩] rfl rfl 105 _ (heap_alloc_new w2 _) hh rfl pz_one ?_; rw [World.setRow_alloc_new])
                | (go_at_call 54; have hD := C22; clear C22; refine (hD.out _ R2).mono ?_; rintro e w3 ⟨rfl, R3, k3⟩; have P3 := P2.call k3 n1.symm; have q0 := P3.cell0; have q1 := P3.cell1; have f0 := P3.frozen 0; have f1 := P3.frozen 1; have R4 := R3.setCell (i := 1) (u := .string ByteArray.empty) n1 n2 n3; have P4 := P3.set1 (t' := ByteArray.empty); have q4 := P4.cell0; have q5 := P4.cell1)
                | (at_builtin; refine wpList_append_ownF _ rfl _ _ 91 rfl (w.heap.size + 1) 105 i0 (.agg #[.complex .f64 0 0, .string ByteArray.empty]) 2 32 Try.underlying91 hi hz0 hz1 hz2 rfl (by decide) _ _ _ rfl (R4.own.alloc _) ⟨_, 0, none⟩ 1 1 [.complex .f64 0 0, .string ByteArray.empty] rfl rfl ?c1 ?c2 ?c3 ?c4 ?c5 ?_))
              case c1 =>
                intro j u hj
                match j, hj with
                | 0, hj => simp at hj; subst hj; simp [Addr.add]; exact cell_new _ _ (by simp [World.setCell]) _ _ _ _ rfl
                | 1, hj => simp at hj; subst hj; simp [Addr.add]; exact cell_new _ _ (by simp [World.setCell]) _ _ _ _ rfl
              case c2 => intro u hu; simp at hu; rcases hu with rfl | rfl <;> rfl
              case c3 => unfold maxLen; omega
              case c4 => omega
              case c5 => have := R3.rd.lt; have := R3.below.size; simp; omega
              intro v' w5 hown' hgrow _
              have S5 := R4.appended ⟨0, 0, ⟨#[]⟩⟩ _ hown' hgrow
              go_wp2
              refine ⟨⟨_, out ++ [(⟨0, 0, ⟨#[]⟩⟩ : Pc)], _, 3, rfl, Lib.hid (fun y hy => ?_), by rw [List.length_append]; simp; omega, S5, Lib.hid (Or.inl ⟨by omega, HN.out⟩)⟩, ?_⟩
              · rcases List.mem_append.1 hy with h | h
                · exact HSM.out y h
                · rw [List.mem_singleton.1 h]; exact ⟨⟨by simp only; omega, by simp only; omega⟩, Nat.zero_le _⟩
              · exact meas_next hfew2 S5.slice S0.slice
      · have HSZ := Lib.hid (show readD s = readFin b many (some out) by
          obtain ⟨f, hf⟩ : ∃ f, s.size + 2 - out.length = f + 1 := ⟨s.size + 1 - out.length, by omega⟩
          rw [HR, hf, gather_end (by omega)])
        have hend : endOf s p 0 = 0 := by unfold endOf; rw [if_pos rfl, if_neg hpe]
        have C55 := Lib.hid (fun W (h : RS s w v out p 0 W) => h.call (rend_any _ _ _ _ _ h.rd HM.out))
        rw [hend] at C55
        obtain ⟨A, cp, rfl, _⟩ := pcs_of_owns R0.own
        have C56 : Hid (∀ W, RS s w (.slice A out.length cp) out p 0 W → Calls Try.prog 56 #[.int .i64 (b : Int), .slice A out.length cp] W fun e w' => e = .returned (.tuple #[.int .i64 (checkL (b : Int) out).1, .int .i64 (checkL (b : Int) out).2]) ∧ Below W.heap.size W w') := Lib.hid (fun W h => by
          obtain ⟨A', cp', hv, hP⟩ := pcs_of_owns h.own
          injection hv with hv1 hv2 hv3
          subst hv1; subst hv3
          exact rcheck_of A cp out (b : Int) W (fun x hx => (HSM.out x hx).1) (fun x hx => by have := (HSM.out x hx).2; have := HM.out; omega) hP (by omega))
        clear HR hend
        by_cases hok : checkL (b : Int) out = (many, 0)
        · rw [hok] at C56
          have HR2 : Hid (readD s = some (b, out)) := Lib.hid (by rw [HSZ.out]; unfold readFin; simp only; rw [if_pos hok])
          clear hok
          go_wp2_with (first
            | (go_at_call 55; refine (C55.out _ R0).mono ?_; rintro e w3 ⟨rfl, R1, _⟩)
            | (go_at_call 56; refine (C56.out _ R1).mono ?_; rintro e w4 ⟨rfl, b4⟩))
          go_ret3
          rw [HR2.out]
          exact ⟨⟨_, rfl, World.ownsRowF.wider (R1.own.kept (below_grown b4) (by cases A <;> simp [Value.ownBlock])) (by omega)⟩, below_step R1.below b4⟩
        · have HR2 : Hid (readD s = none) := Lib.hid (by rw [HSZ.out]; unfold readFin; simp only; rw [if_neg hok])
          generalize checkL (b : Int) out = r at C56 hok
          obtain ⟨c, e⟩ := r
          by_cases he : e = 0
          · subst he
            have hb : ((c : Int) == (many : Int)) = false := by rw [beq_eq_false_iff_ne]; intro h; exact hok (by rw [show c = many by omega])
            clear hok
            go_wp2_with (first
              | (go_at_call 55; refine (C55.out _ R0).mono ?_; rintro e w3 ⟨rfl, R1, _⟩)
              | (go_at_call 56; refine (C56.out _ R1).mono ?_; rintro e w4 ⟨rfl, b4⟩))
            go_ret3
            rw [HR2.out]
            exact ⟨rfl, below_step R1.below b4⟩
          · have hb : (e == 0) = false := by simpa using he
            clear hok
            go_wp2_with (first
              | (go_at_call 55; refine (C55.out _ R0).mono ?_; rintro e w3 ⟨rfl, R1, _⟩)
              | (go_at_call 56; refine (C56.out _ R1).mono ?_; rintro e w4 ⟨rfl, b4⟩))
            go_ret3
            rw [HR2.out]
            exact ⟨rfl, below_step R1.below b4⟩
end Go.Proofs.Ytghmhheolbobpaa
