/- delta's own Read: what a delta's bytes say. Conditions: the text is within the form's reach. -/
import Derived.Test.YtghmhheolbobpaaDeltaState
set_option linter.unusedVariables false
set_option maxRecDepth 100000
namespace Go.Proofs.Ytghmhheolbobpaa
open Go.RowKit Wire

/-- A frame of 68 slots, written out. -/
theorem frame68 (a : Act) (h : a.tmps.size = 68) (hd : a.defers = []) : ∃ u : Nat → Value, (∀ k, a.tmps.getD k undef = u k) ∧ a = { tmps := #[u 0, u 1, u 2, u 3, u 4, u 5, u 6, u 7, u 8, u 9, u 10, u 11, u 12, u 13, u 14, u 15, u 16, u 17, u 18, u 19, u 20, u 21, u 22, u 23, u 24, u 25, u 26, u 27, u 28, u 29, u 30, u 31, u 32, u 33, u 34, u 35, u 36, u 37, u 38, u 39, u 40, u 41, u 42, u 43, u 44, u 45, u 46, u 47, u 48, u 49, u 50, u 51, u 52, u 53, u 54, u 55, u 56, u 57, u 58, u 59, u 60, u 61, u 62, u 63, u 64, u 65, u 66, u 67], defers := [] } := by
  refine ⟨fun k => a.tmps.getD k undef, fun _ => rfl, ?_⟩
  obtain ⟨t, d⟩ := a
  subst hd
  have e := frame_lit t h
  exact congrArg (fun x => ({ tmps := x, defers := [] } : Act)) e
theorem below_grown {w w' : World} (h : Below w.heap.size w w') : w.grownBy w' none := ⟨h.os, h.tape, h.output, h.size, fun k hk _ => h.block k hk⟩
/-- What Read hands back. -/
def ReadOut (B : Nat) (r : Option (Nat × List Pc)) (e : Ending) (w : World) : Prop :=
  match r with
  | some (b, l) => ∃ v, e = .returned (.tuple #[.int .i64 (b : Int), v, .int .i64 0]) ∧ w.ownsRowF B 105 2 v l.length (pcells l)
  | none => e = .returned (.tuple #[.int .i64 0, .slice none 0 0, .int .i64 2])
/-- The frame at a jump. -/
structure RF (B : Nat) (a : Act) : Prop where
  size : a.tmps.size = 68
  defers : a.defers = []
  s5 : a.tmps.getD 5 undef = .pointer (some ⟨B, 0, none⟩)
/-- What holds at a jump to the label 'more' (1), to 'done' (0) and to 'wrong' (2). -/
def ReadAt (s : ByteArray) (w0 : World) : Nat → Act → World → Prop
  | 1, a, w => RF w0.heap.size a ∧ ∃ (b many : Int) (p : Nat) (err : Int) (out : List Pc) (v : Value), a.tmps.getD 6 undef = .int .i64 b ∧ a.tmps.getD 7 undef = .int .i64 many ∧ a.tmps.getD 8 undef = v ∧
      out.length ≤ 4099 ∧ Hid (∀ x ∈ out, x.small) ∧ St s w0 v out p err w ∧ Hid ((err ≠ 0 ∧ out = [] ∧ readD s = none) ∨
        (err = 0 ∧ p ≤ s.size ∧ ∃ b' many' : Nat, b = (b' : Int) ∧ many = (many' : Int) ∧ readD s = readFin b' many' (ahead out (gatherD (4100 - out.length) s p))))
  | 0, a, w => RF w0.heap.size a ∧ ∃ (b many p : Nat) (out : List Pc) (v : Value), a.tmps.getD 6 undef = .int .i64 (b : Int) ∧ a.tmps.getD 7 undef = .int .i64 (many : Int) ∧ a.tmps.getD 8 undef = v ∧
      out.length ≤ 4099 ∧ Hid (∀ x ∈ out, x.small) ∧ St s w0 v out p 0 w ∧ Hid (readD s = readFin b many (some out))
  | 2, a, w => RF w0.heap.size a ∧ Below w0.heap.size w0 w ∧ Hid (readD s = none)
  | _, _, _ => False
def lenOf : Value → Nat
  | .slice _ n _ => n
  | _ => 0
def readMeasure (l : Nat) (a : Act) (_ : World) : Nat := if l = 1 then 5000 - lenOf (a.tmps.getD 8 undef) else 0
set_option maxHeartbeats 4000000 in
theorem read_of (s : ByteArray) (w : World) (hs : s.size ≤ maxLen) :
    Calls Try.prog 51 #[.string s] w fun e w' => ReadOut w.heap.size (readD s) e w' ∧ Below w.heap.size w w' := by
  obtain ⟨i0, hi, hz0, hz1, hz2⟩ := info105
  have HS := Lib.hid hs
  clear hs
  go_enter Try.func51, Try.ntmps51
  go_wp2
  refine wp_scope_heads (ReadAt s w) readMeasure ?_ ?_
  · intro lb a w1 hJ
    match lb, hJ with
    | 2, hJ =>
      obtain ⟨hF, hB, HE⟩ := hJ
      obtain ⟨u, hu, rfl⟩ := frame68 a hF.size hF.defers
      clear hu hF
      refine ⟨_, rfl, ?_⟩
      go_wp2
      rw [jumps_ret]
      go_ret3
      rw [HE.out]
      exact ⟨rfl, hB⟩
    | 0, hJ =>
      obtain ⟨hF, b, many, p, out, v, hs6, hs7, hs8, hfew, HSM, S0, HE⟩ := hJ
      obtain ⟨u, hu, rfl⟩ := frame68 a hF.size hF.defers
      have h5 := (hu 5).symm.trans hF.s5
      have h6 := (hu 6).symm.trans hs6
      have h7 := (hu 7).symm.trans hs7
      have h8 := (hu 8).symm.trans hs8
      obtain ⟨A, cp, rfl, hP⟩ := pcs_of_owns S0.own
      clear hu hF hs6 hs7 hs8
      rw [h5, h6, h7, h8]
      clear h5 h6 h7 h8
      refine ⟨_, rfl, ?_⟩
      have hck := check_of A cp out (b : Int) w1 HSM.out hP (by omega)
      by_cases hok : checkL (b : Int) out = (many, 0)
      · rw [hok] at hck
        have HR : Hid (readD s = some (b, out)) := Lib.hid (by rw [HE.out]; unfold readFin; simp only; rw [if_pos hok])
        clear hok
        go_wp2_with (go_at_call 58; refine hck.mono ?_; rintro e w2 ⟨rfl, b2⟩)
        rw [jumps_ret]
        go_ret3
        rw [HR.out]
        exact ⟨⟨_, rfl, World.ownsRowF.wider (S0.own.kept (below_grown b2) (by cases A <;> simp [Value.ownBlock])) (by omega)⟩, below_step S0.below b2⟩
      · have HR : Hid (readD s = none) := Lib.hid (by rw [HE.out]; unfold readFin; simp only; rw [if_neg hok])
        generalize checkL (b : Int) out = r at hck hok
        obtain ⟨c, e⟩ := r
        by_cases he : e = 0
        · subst he
          have hb : ((c : Int) == (many : Int)) = false := by rw [beq_eq_false_iff_ne]; intro h; exact hok (by rw [show c = many by omega])
          clear hok
          go_wp2_with (go_at_call 58; refine hck.mono ?_; rintro e w2 ⟨rfl, b2⟩)
          refine wp_label ?_
          simp only [Exit.then]
          rename_i hK'
          refine hK' _ _ ?_
          clear hK'
          go_wp2
          rw [jumps_ret]
          go_ret3
          rw [HR.out]
          exact ⟨rfl, below_step S0.below b2⟩
        · have hb : (e == 0) = false := by simpa using he
          clear hok
          go_wp2_with (go_at_call 58; refine hck.mono ?_; rintro e w2 ⟨rfl, b2⟩)
          refine wp_label ?_
          simp only [Exit.then]
          rename_i hK'
          refine hK' _ _ ?_
          clear hK'
          go_wp2
          rw [jumps_ret]
          go_ret3
          rw [HR.out]
          exact ⟨rfl, below_step S0.below b2⟩
    | 1, hJ =>
      obtain ⟨hF, b, many, p, err, out, v, hs6, hs7, hs8, hfew, HSM, S0, HE⟩ := hJ
      obtain ⟨u, hu, rfl⟩ := frame68 a hF.size hF.defers
      have h5 := (hu 5).symm.trans hF.s5
      have h6 := (hu 6).symm.trans hs6
      have h7 := (hu 7).symm.trans hs7
      have h8 := (hu 8).symm.trans hs8
      have HV := Lib.hid S0.slice
      clear hu hF hs6 hs7 hs8
      rw [h5, h6, h7, h8]
      clear h5 h6 h7 h8
      refine ⟨_, rfl, ?_⟩
      have hme : ∀ a' : Act, 0 < 5000 - lenOf v := fun _ => by obtain ⟨A, cp, hv⟩ := HV.out; rw [hv]; show 0 < 5000 - out.length; omega
      have HME := Lib.hid hme
      clear hme
      rcases HE.out with ⟨he, rfl, HR⟩ | ⟨rfl, hp, b', many', rfl, rfl, HR⟩
      · have HR := Lib.hid HR
        have C25 := Lib.hid (fun W (h : St s w v [] p err W) => h.call (end_any _ _ _ _ _ h.rd HS.out))
        have C21 := Lib.hid (fun W (h : St s w v [] p err W) => h.call (number_err _ _ _ _ 8199 _ h.rd he))
        have C24 := Lib.hid (fun W (h : St s w v [] p err W) => h.call (raw_err _ _ _ _ 0 _ h.rd he))
        have hend : endOf s p err = err := by unfold endOf; rw [if_neg he]
        rw [hend] at C25
        have hb : (err == 0) = false := by simpa using he
        go_wp2_with (first | (go_at_call 25; refine (C25.out _ (by assumption)).mono ?_; rintro e w2 ⟨rfl, S1⟩) | (go_at_call 21; refine (C21.out _ (by assumption)).mono ?_; rintro e w3 ⟨rfl, S2⟩) | (go_at_call 24; refine (C24.out _ (by assumption)).mono ?_; rintro e w4 ⟨rfl, S3⟩) | (at_builtin; refine wpList_append_ownF _ rfl _ _ 91 rfl (w.heap.size + 1) 105 i0 (.agg #[.complex .f64 0 0, .string ByteArray.empty]) 2 32 Try.underlying91 hi hz0 hz1 hz2 rfl (by decide) _ _ _ rfl (S3.own.alloc _) ⟨w4.heap.size, 0, none⟩ 1 1 [.complex .f64 0 0, .string ByteArray.empty] rfl rfl ?c1 ?c2 ?c3 ?c4 ?c5 ?_))
        case c1 =>
          intro j u hj
          match j, hj with
          | 0, hj => simp at hj; subst hj; simp [Addr.add]
          | 1, hj => simp at hj; subst hj; simp [Addr.add]
        case c2 => intro u hu; simp at hu; rcases hu with rfl | rfl <;> rfl
        case c3 => unfold maxLen; simp
        case c4 => simp
        case c5 => have := S3.below.size; simp; omega
        intro v' w5 hown' hgrow _
        have S5 := S3.appended ⟨0, 0, ⟨#[]⟩⟩ _ hown' hgrow
        obtain ⟨A', cp', rfl⟩ : ∃ A' cp', v' = .slice A' (0 + 1) cp' := by
          obtain ⟨A', cp', hv⟩ := S5.slice
          exact ⟨A', cp', by rw [hv]; rfl⟩
        have C26 := err_of _ _ _ _ _ S5.rd
        go_wp2_with (go_at_call 26; refine C26.mono ?_; rintro e w6 ⟨rfl, rfl⟩)
        go_step3
        exact ⟨⟨⟨rfl, rfl, rfl⟩, S5.below, HR⟩, HME.out ⟨#[], []⟩⟩
      · have HP := Lib.hid hp
        have hfew2 : ¬ (4099 : Int) < (out.length : Int) := by omega
        have C25 := Lib.hid (fun W (h : St s w v out p 0 W) => h.call (end_any _ _ _ _ _ h.rd HS.out))
        by_cases hpe : p < s.size
        · have hend : endOf s p 0 = 5 := by unfold endOf; rw [if_pos rfl, if_pos hpe]
          rw [hend] at C25
          cases hr : readNum 8199 (s.data.toList.drop p) with
          | inl e =>
            have he := readNum_err hr
            have hpc : pieceAt s p = none := by unfold pieceAt; rw [hr]
            have hb : ((e : Int) == 0) = false := by rw [beq_eq_false_iff_ne]; omega
            have HN : Hid (readD s = none) := Lib.hid (by
              obtain ⟨f, hf⟩ : ∃ f, 4100 - out.length = f + 1 := ⟨4099 - out.length, by omega⟩
              rw [HR, hf, gather_bad (by omega) hpc]; rfl)
            have C21 : Hid (∀ W, St s w v out p 0 W → Calls Try.prog 21 #[.pointer (some ⟨w.heap.size, 0, none⟩), .int .i64 8199] W fun e' w' => e' = .returned (.int .i64 0) ∧ St s w v out p (e : Int) w') := Lib.hid (fun W h => by
              have := h.number 8199 HS.out hp; rw [hr] at this; exact this)
            have C24 := Lib.hid (fun W (h : St s w v out p (e : Int) W) => h.call (raw_err _ _ _ _ 0 _ h.rd (by omega)))
            clear HR hpc hr
            go_wp2_with (first | (go_at_call 25; refine (C25.out _ (by assumption)).mono ?_; rintro e w2 ⟨rfl, S1⟩) | (go_at_call 21; have hC := C21; clear C21; refine (hC.out _ (by assumption)).mono ?_; rintro e w3 ⟨rfl, S2⟩) | (go_at_call 24; refine (C24.out _ (by assumption)).mono ?_; rintro e w4 ⟨rfl, S3⟩) | (at_builtin; refine wpList_append_ownF _ rfl _ _ 91 rfl (w.heap.size + 1) 105 i0 (.agg #[.complex .f64 0 0, .string ByteArray.empty]) 2 32 Try.underlying91 hi hz0 hz1 hz2 rfl (by decide) _ _ _ rfl (S3.own.alloc _) ⟨w4.heap.size, 0, none⟩ 1 1 [.complex .f64 0 0, .string ByteArray.empty] rfl rfl ?c1 ?c2 ?c3 ?c4 ?c5 ?_))
            case c1 =>
              intro j u hj
              match j, hj with
              | 0, hj => simp at hj; subst hj; simp [Addr.add]
              | 1, hj => simp at hj; subst hj; simp [Addr.add]
            case c2 => intro u hu; simp at hu; rcases hu with rfl | rfl <;> rfl
            case c3 => unfold maxLen; omega
            case c4 => omega
            case c5 => have := S3.below.size; simp; omega
            intro v' w5 hown' hgrow _
            have S5 := S3.appended ⟨0, 0, ⟨#[]⟩⟩ _ hown' hgrow
            obtain ⟨A', cp', rfl⟩ : ∃ A' cp', v' = .slice A' (out.length + 1) cp' := by
              obtain ⟨A', cp', hv⟩ := S5.slice
              exact ⟨A', cp', by rw [hv, List.length_append]; rfl⟩
            have C26 := err_of _ _ _ _ _ S5.rd
            go_wp2_with (go_at_call 26; refine C26.mono ?_; rintro e w6 ⟨rfl, rfl⟩)
            go_step3
            exact ⟨⟨⟨rfl, rfl, rfl⟩, S5.below, HN⟩, HME.out ⟨#[], []⟩⟩
          | inr y =>
            obtain ⟨n, k⟩ := y
            obtain ⟨hk0, hk1, _, hn⟩ := readNum_len hr
            have hk1 : p + k ≤ s.size := by
              have hd : (s.data.toList.drop p).length = s.size - p := by simp
              omega
            by_cases hodd : n % 2 = 1
            · obtain ⟨m, rfl⟩ : ∃ m, n = 2 * m + 1 := ⟨n / 2, by omega⟩
              have hm1 : (2 * m + 1) / 2 = m := by omega
              have hq2 : (2 * (m : Int) + 1) / 2 = (m : Int) := by omega
              have C21 : Hid (∀ W, St s w v out p 0 W → Calls Try.prog 21 #[.pointer (some ⟨w.heap.size, 0, none⟩), .int .i64 8199] W fun e' w' => e' = .returned (.int .i64 (2 * (m : Int) + 1)) ∧ St s w v out (p + k) 0 w') := Lib.hid (fun W h => by
                have := h.number 8199 HS.out hp; rw [hr] at this; exact this)
              cases hr2 : readNum 4099 (s.data.toList.drop (p + k)) with
              | inl e =>
                have he := readNum_err hr2
                have hpc : pieceAt s p = none := by unfold pieceAt; rw [hr]; simp only; rw [if_pos hodd, hr2]
                have hb : ((e : Int) == 0) = false := by rw [beq_eq_false_iff_ne]; omega
                have HN : Hid (readD s = none) := Lib.hid (by
                  obtain ⟨f, hf⟩ : ∃ f, 4100 - out.length = f + 1 := ⟨4099 - out.length, by omega⟩
                  rw [HR, hf, gather_bad (by omega) hpc]; rfl)
                have C22 : Hid (∀ W, St s w v out (p + k) 0 W → Calls Try.prog 21 #[.pointer (some ⟨w.heap.size, 0, none⟩), .int .i64 4099] W fun e' w' => e' = .returned (.int .i64 0) ∧ St s w v out (p + k) (e : Int) w') := Lib.hid (fun W h => by
                  have := h.number 4099 HS.out hk1; rw [hr2] at this; exact this)
                clear HR hpc hr hr2
                go_wp2_with (first | (go_at_call 25; refine (C25.out _ (by assumption)).mono ?_; rintro e w2 ⟨rfl, S1⟩) | (go_at_call 21; have hC := C21; clear C21; refine (hC.out _ (by assumption)).mono ?_; rintro e w3 ⟨rfl, S2⟩) | (go_at_call 21; refine (C22.out _ (by assumption)).mono ?_; rintro e w4 ⟨rfl, S3⟩) | (at_builtin; refine wpList_append_ownF _ rfl _ _ 91 rfl (w.heap.size + 1) 105 i0 (.agg #[.complex .f64 0 0, .string ByteArray.empty]) 2 32 Try.underlying91 hi hz0 hz1 hz2 rfl (by decide) _ _ _ rfl (S3.own.alloc _) ⟨w4.heap.size, 0, none⟩ 1 1 [.complex .f64 (floatOfInt .f64 0) (floatOfInt .f64 (m : Int)), .string ⟨#[]⟩] rfl rfl ?c1 ?c2 ?c3 ?c4 ?c5 ?_))
                case c1 =>
                  intro j u hj
                  match j, hj with
                  | 0, hj => simp at hj; subst hj; simp [Addr.add]
                  | 1, hj => simp at hj; subst hj; simp [Addr.add]
                case c2 => intro u hu; simp at hu; rcases hu with rfl | rfl <;> rfl
                case c3 => unfold maxLen; omega
                case c4 => omega
                case c5 => have := S3.below.size; simp; omega
                intro v' w5 hown' hgrow _
                have S5 := S3.appended ⟨0, m, ⟨#[]⟩⟩ _ hown' hgrow
                obtain ⟨A', cp', rfl⟩ : ∃ A' cp', v' = .slice A' (out.length + 1) cp' := by
                  obtain ⟨A', cp', hv⟩ := S5.slice
                  exact ⟨A', cp', by rw [hv, List.length_append]; rfl⟩
                have C26 := err_of _ _ _ _ _ S5.rd
                go_wp2_with (go_at_call 26; refine C26.mono ?_; rintro e w6 ⟨rfl, rfl⟩)
                go_step3
                exact ⟨⟨⟨rfl, rfl, rfl⟩, S5.below, HN⟩, HME.out ⟨#[], []⟩⟩
              | inr z =>
                obtain ⟨c, j⟩ := z
                have hpc : pieceAt s p = some (⟨c, m, ⟨#[]⟩⟩, p + k + j) := by unfold pieceAt; rw [hr]; simp only; rw [if_pos hodd, hr2, hm1]
                have C22 : Hid (∀ W, St s w v out (p + k) 0 W → Calls Try.prog 21 #[.pointer (some ⟨w.heap.size, 0, none⟩), .int .i64 4099] W fun e' w' => e' = .returned (.int .i64 (c : Int)) ∧ St s w v out (p + k + j) 0 w') := Lib.hid (fun W h => by
                  have := h.number 4099 HS.out hk1; rw [hr2] at this; exact this)
                clear hr hr2
                go_wp2_with (first | (go_at_call 25; refine (C25.out _ (by assumption)).mono ?_; rintro e w2 ⟨rfl, S1⟩) | (go_at_call 21; have hC := C21; clear C21; refine (hC.out _ (by assumption)).mono ?_; rintro e w3 ⟨rfl, S2⟩) | (go_at_call 21; refine (C22.out _ (by assumption)).mono ?_; rintro e w4 ⟨rfl, S3⟩) | (at_builtin; refine wpList_append_ownF _ rfl _ _ 91 rfl (w.heap.size + 1) 105 i0 (.agg #[.complex .f64 0 0, .string ByteArray.empty]) 2 32 Try.underlying91 hi hz0 hz1 hz2 rfl (by decide) _ _ _ rfl (S3.own.alloc _) ⟨w4.heap.size, 0, none⟩ 1 1 [.complex .f64 (floatOfInt .f64 (c : Int)) (floatOfInt .f64 (m : Int)), .string ⟨#[]⟩] rfl rfl ?c1 ?c2 ?c3 ?c4 ?c5 ?_))
                case c1 =>
                  intro j u hj
                  match j, hj with
                  | 0, hj => simp at hj; subst hj; simp [Addr.add]
                  | 1, hj => simp at hj; subst hj; simp [Addr.add]
                case c2 => intro u hu; simp at hu; rcases hu with rfl | rfl <;> rfl
                case c3 => unfold maxLen; omega
                case c4 => omega
                case c5 => have := S3.below.size; simp; omega
                intro v' w5 hown' hgrow _
                have S5 := S3.appended ⟨c, m, ⟨#[]⟩⟩ _ hown' hgrow
                obtain ⟨A', cp', rfl⟩ : ∃ A' cp', v' = .slice A' (out.length + 1) cp' := by
                  obtain ⟨A', cp', hv⟩ := S5.slice
                  exact ⟨A', cp', by rw [hv, List.length_append]; rfl⟩
                have C26 := err_of _ _ _ _ _ S5.rd
                have hq := piece_on hp hpc
                have hsx := piece_small hpc
                by_cases hmany : out.length + 1 ≤ 4099
                · have hm2 : ¬ (4099 : Int) < (out.length : Int) + 1 := by omega
                  have HN : Hid (readD s = readFin b' many' (ahead (out ++ [(⟨c, m, ⟨#[]⟩⟩ : Pc)]) (gatherD (4100 - (out ++ [(⟨c, m, ⟨#[]⟩⟩ : Pc)]).length) s (p + k + j)))) := Lib.hid (by
                    obtain ⟨f, hf⟩ : ∃ f, 4100 - out.length = f + 1 := ⟨4099 - out.length, by omega⟩
                    have hf2 : 4100 - (out ++ [(⟨c, m, ⟨#[]⟩⟩ : Pc)]).length = f := by rw [List.length_append]; simp; omega
                    rw [HR, hf, gather_next (by omega) hpc, hf2])
                  have HSM2 : Hid (∀ y ∈ out ++ [(⟨c, m, ⟨#[]⟩⟩ : Pc)], y.small) := Lib.hid (fun y hy => by
                    rcases List.mem_append.1 hy with h | h
                    · exact HSM.out y h
                    · rw [List.mem_singleton.1 h]; exact hsx)
                  have HQ := Lib.hid hq.2
                  clear HR hpc hsx hq
                  go_wp2_with (go_at_call 26; refine C26.mono ?_; rintro e w6 ⟨rfl, rfl⟩)
                  go_step3
                  refine ⟨⟨⟨rfl, rfl, rfl⟩, _, _, p + k + j, 0, out ++ [(⟨c, m, ⟨#[]⟩⟩ : Pc)], _, rfl, rfl, rfl, by rw [List.length_append]; simpa using hmany, HSM2, S5, Lib.hid (Or.inr ⟨rfl, HQ.out, b', many', rfl, rfl, HN.out⟩)⟩, ?_⟩
                  obtain ⟨A, cp, hv⟩ := HV.out
                  show 5000 - (out.length + 1) < 5000 - lenOf v
                  rw [hv]
                  show 5000 - (out.length + 1) < 5000 - out.length
                  omega
                · have hm2 : (4099 : Int) < (out.length : Int) + 1 := by omega
                  have HN : Hid (readD s = none) := Lib.hid (by
                    have hf : 4100 - out.length = 0 + 1 := by omega
                    rw [HR, hf, gather_next (by omega) hpc]; rfl)
                  clear HR hpc hsx hq
                  go_wp2_with (go_at_call 26; refine C26.mono ?_; rintro e w6 ⟨rfl, rfl⟩)
                  go_step3
                  exact ⟨⟨⟨rfl, rfl, rfl⟩, S5.below, HN⟩, HME.out ⟨#[], []⟩⟩
            · obtain ⟨m, rfl⟩ : ∃ m, n = 2 * m := ⟨n / 2, by omega⟩
              have hm1 : 2 * m / 2 = m := by omega
              have C21 : Hid (∀ W, St s w v out p 0 W → Calls Try.prog 21 #[.pointer (some ⟨w.heap.size, 0, none⟩), .int .i64 8199] W fun e' w' => e' = .returned (.int .i64 (2 * (m : Int))) ∧ St s w v out (p + k) 0 w') := Lib.hid (fun W h => by
                have := h.number 8199 HS.out hp; rw [hr] at this; exact this)
              by_cases hfit : p + k + m ≤ s.size
              · have hpc : pieceAt s p = some (⟨0, 0, s.extract (p + k) (p + k + m)⟩, p + k + m) := by unfold pieceAt; rw [hr]; simp only; rw [if_neg hodd, hm1, if_pos hfit]
                obtain ⟨tx, htx⟩ : ∃ tx, tx = s.extract (p + k) (p + k + m) := ⟨_, rfl⟩
                rw [← htx] at hpc
                have C24 : Hid (∀ W, St s w v out (p + k) 0 W → Calls Try.prog 24 #[.pointer (some ⟨w.heap.size, 0, none⟩), .int .i64 (m : Int)] W fun e' w' => e' = .returned (.string tx) ∧ St s w v out (p + k + m) 0 w') := Lib.hid (fun W h => by
                  rw [htx]; exact h.call (raw_ok _ s (p + k) m W h.rd HS.out hfit))
                clear hr htx
                go_wp2_with (first | (go_at_call 25; refine (C25.out _ (by assumption)).mono ?_; rintro e w2 ⟨rfl, S1⟩) | (go_at_call 21; have hC := C21; clear C21; refine (hC.out _ (by assumption)).mono ?_; rintro e w3 ⟨rfl, S2⟩) | (go_at_call 24; refine (C24.out _ (by assumption)).mono ?_; rintro e w4 ⟨rfl, S3⟩) | (at_builtin; refine wpList_append_ownF _ rfl _ _ 91 rfl (w.heap.size + 1) 105 i0 (.agg #[.complex .f64 0 0, .string ByteArray.empty]) 2 32 Try.underlying91 hi hz0 hz1 hz2 rfl (by decide) _ _ _ rfl (S3.own.alloc _) ⟨w4.heap.size, 0, none⟩ 1 1 [.complex .f64 0 0, .string tx] rfl rfl ?c1 ?c2 ?c3 ?c4 ?c5 ?_))
                case c1 =>
                  intro j u hj
                  match j, hj with
                  | 0, hj => simp at hj; subst hj; simp [Addr.add]
                  | 1, hj => simp at hj; subst hj; simp [Addr.add]
                case c2 => intro u hu; simp at hu; rcases hu with rfl | rfl <;> rfl
                case c3 => unfold maxLen; omega
                case c4 => omega
                case c5 => have := S3.below.size; simp; omega
                intro v' w5 hown' hgrow _
                have S5 := S3.appended ⟨0, 0, tx⟩ _ hown' hgrow
                obtain ⟨A', cp', rfl⟩ : ∃ A' cp', v' = .slice A' (out.length + 1) cp' := by
                  obtain ⟨A', cp', hv⟩ := S5.slice
                  exact ⟨A', cp', by rw [hv, List.length_append]; rfl⟩
                have C26 := err_of _ _ _ _ _ S5.rd
                have hq := piece_on hp hpc
                have hsx := piece_small hpc
                by_cases hmany : out.length + 1 ≤ 4099
                · have hm2 : ¬ (4099 : Int) < (out.length : Int) + 1 := by omega
                  have HN : Hid (readD s = readFin b' many' (ahead (out ++ [(⟨0, 0, tx⟩ : Pc)]) (gatherD (4100 - (out ++ [(⟨0, 0, tx⟩ : Pc)]).length) s (p + k + m)))) := Lib.hid (by
                    obtain ⟨f, hf⟩ : ∃ f, 4100 - out.length = f + 1 := ⟨4099 - out.length, by omega⟩
                    have hf2 : 4100 - (out ++ [(⟨0, 0, tx⟩ : Pc)]).length = f := by rw [List.length_append]; simp; omega
                    rw [HR, hf, gather_next (by omega) hpc, hf2])
                  have HSM2 : Hid (∀ y ∈ out ++ [(⟨0, 0, tx⟩ : Pc)], y.small) := Lib.hid (fun y hy => by
                    rcases List.mem_append.1 hy with h | h
                    · exact HSM.out y h
                    · rw [List.mem_singleton.1 h]; exact hsx)
                  have HQ := Lib.hid hq.2
                  clear HR hpc hsx hq
                  go_wp2_with (go_at_call 26; refine C26.mono ?_; rintro e w6 ⟨rfl, rfl⟩)
                  go_step3
                  refine ⟨⟨⟨rfl, rfl, rfl⟩, _, _, p + k + m, 0, out ++ [(⟨0, 0, tx⟩ : Pc)], _, rfl, rfl, rfl, by rw [List.length_append]; simpa using hmany, HSM2, S5, Lib.hid (Or.inr ⟨rfl, HQ.out, b', many', rfl, rfl, HN.out⟩)⟩, ?_⟩
                  obtain ⟨A, cp, hv⟩ := HV.out
                  show 5000 - (out.length + 1) < 5000 - lenOf v
                  rw [hv]
                  show 5000 - (out.length + 1) < 5000 - out.length
                  omega
                · have hm2 : (4099 : Int) < (out.length : Int) + 1 := by omega
                  have HN : Hid (readD s = none) := Lib.hid (by
                    have hf : 4100 - out.length = 0 + 1 := by omega
                    rw [HR, hf, gather_next (by omega) hpc]; rfl)
                  clear HR hpc hsx hq
                  go_wp2_with (go_at_call 26; refine C26.mono ?_; rintro e w6 ⟨rfl, rfl⟩)
                  go_step3
                  exact ⟨⟨⟨rfl, rfl, rfl⟩, S5.below, HN⟩, HME.out ⟨#[], []⟩⟩
              · have hpc : pieceAt s p = none := by unfold pieceAt; rw [hr]; simp only; rw [if_neg hodd, hm1, if_neg hfit]
                have HN : Hid (readD s = none) := Lib.hid (by
                  obtain ⟨f, hf⟩ : ∃ f, 4100 - out.length = f + 1 := ⟨4099 - out.length, by omega⟩
                  rw [HR, hf, gather_bad (by omega) hpc]; rfl)
                have C24 : Hid (∀ W, St s w v out (p + k) 0 W → Calls Try.prog 24 #[.pointer (some ⟨w.heap.size, 0, none⟩), .int .i64 (m : Int)] W fun e' w' => e' = .returned (.string ByteArray.empty) ∧ St s w v out (p + k) 3 w') := Lib.hid (fun W h => by
                  exact h.call (raw_short _ s (p + k) (m : Int) W h.rd HS.out hk1 (by omega) (by omega)))
                clear HR hr hpc
                go_wp2_with (first | (go_at_call 25; refine (C25.out _ (by assumption)).mono ?_; rintro e w2 ⟨rfl, S1⟩) | (go_at_call 21; have hC := C21; clear C21; refine (hC.out _ (by assumption)).mono ?_; rintro e w3 ⟨rfl, S2⟩) | (go_at_call 24; refine (C24.out _ (by assumption)).mono ?_; rintro e w4 ⟨rfl, S3⟩) | (at_builtin; refine wpList_append_ownF _ rfl _ _ 91 rfl (w.heap.size + 1) 105 i0 (.agg #[.complex .f64 0 0, .string ByteArray.empty]) 2 32 Try.underlying91 hi hz0 hz1 hz2 rfl (by decide) _ _ _ rfl (S3.own.alloc _) ⟨w4.heap.size, 0, none⟩ 1 1 [.complex .f64 0 0, .string ByteArray.empty] rfl rfl ?c1 ?c2 ?c3 ?c4 ?c5 ?_))
                case c1 =>
                  intro j u hj
                  match j, hj with
                  | 0, hj => simp at hj; subst hj; simp [Addr.add]
                  | 1, hj => simp at hj; subst hj; simp [Addr.add]
                case c2 => intro u hu; simp at hu; rcases hu with rfl | rfl <;> rfl
                case c3 => unfold maxLen; omega
                case c4 => omega
                case c5 => have := S3.below.size; simp; omega
                intro v' w5 hown' hgrow _
                have S5 := S3.appended ⟨0, 0, ⟨#[]⟩⟩ _ hown' hgrow
                obtain ⟨A', cp', rfl⟩ : ∃ A' cp', v' = .slice A' (out.length + 1) cp' := by
                  obtain ⟨A', cp', hv⟩ := S5.slice
                  exact ⟨A', cp', by rw [hv, List.length_append]; rfl⟩
                have C26 := err_of _ _ _ _ _ S5.rd
                go_wp2_with (go_at_call 26; refine C26.mono ?_; rintro e w6 ⟨rfl, rfl⟩)
                go_step3
                exact ⟨⟨⟨rfl, rfl, rfl⟩, S5.below, HN⟩, HME.out ⟨#[], []⟩⟩
        · have hend : endOf s p 0 = 0 := by unfold endOf; rw [if_pos rfl, if_neg hpe]
          rw [hend] at C25
          have HR2 : Hid (readD s = readFin b' many' (some out)) := Lib.hid (by
            obtain ⟨f, hf⟩ : ∃ f, 4100 - out.length = f + 1 := ⟨4099 - out.length, by omega⟩
            rw [HR, hf, gather_end (by omega)])
          clear HR
          go_wp2_with (first | (go_at_call 25; refine (C25.out _ (by assumption)).mono ?_; rintro e w2 ⟨rfl, S1⟩))
          go_step3
          exact ⟨⟨⟨rfl, rfl, rfl⟩, b', many', p, out, v, rfl, rfl, rfl, hfew, HSM, S1, HR2⟩, HME.out ⟨#[], []⟩⟩
    | l + 3, hJ => exact hJ.elim
  · intro hpass
    have S00 : St s w (.slice none 0 0) [] 0 0 (w.alloc (.cells #[.string s, .int .i64 0, .int .i64 0] 78)) := ⟨Rd.made s w, World.ownsRowF_nil _ _ _ _, below_lay (Below.refl _ _) _⟩
    cases hr : readNum 4099 (s.data.toList.drop 0) with
    | inl e =>
      have he := readNum_err hr
      have HN : Hid (readD s = none) := Lib.hid (by unfold readD; rw [hr])
      have C21 : Hid (∀ W, St s w (.slice none 0 0) [] 0 0 W → Calls Try.prog 21 #[.pointer (some ⟨w.heap.size, 0, none⟩), .int .i64 4099] W fun e' w' => e' = .returned (.int .i64 0) ∧ St s w (.slice none 0 0) [] 0 (e : Int) w') := Lib.hid (fun W h => by
        have := h.number 4099 HS.out (Nat.zero_le _); rw [hr] at this; exact this)
      have C22 : Hid (∀ W, St s w (.slice none 0 0) [] 0 (e : Int) W → Calls Try.prog 21 #[.pointer (some ⟨w.heap.size, 0, none⟩), .int .i64 4099] W fun e' w' => e' = .returned (.int .i64 0) ∧ St s w (.slice none 0 0) [] 0 (e : Int) w') := Lib.hid (fun W h => by
        exact h.call (number_err _ _ _ _ 4099 _ h.rd (by omega)))
      clear hr
      go_wp2_with (first | (go_at_call 20; refine (newReader s _).mono ?_; rintro e w1 ⟨rfl, rfl⟩) | (go_at_call 21; have hC := C21; clear C21; refine (hC.out _ (by assumption)).mono ?_; rintro e w3 ⟨rfl, S2⟩) | (go_at_call 21; refine (C22.out _ (by assumption)).mono ?_; rintro e w4 ⟨rfl, S3⟩))
      refine wp_label ?_
      simp only [Exit.then]
      rename_i hK
      refine hK _ _ ?_
      refine hpass 1 _ _ ?_ _ rfl
      exact ⟨⟨rfl, rfl, rfl⟩, 0, 0, 0, (e : Int), [], _, rfl, rfl, rfl, by simp, Lib.hid (by simp), S3, Lib.hid (Or.inl ⟨by omega, rfl, HN.out⟩)⟩
    | inr y =>
      obtain ⟨b, k⟩ := y
      obtain ⟨hk0, hk1, _, hn⟩ := readNum_len hr
      have hk1 : k ≤ s.size := by
        have hd : (s.data.toList.drop 0).length = s.size := by simp
        omega
      have C21 : Hid (∀ W, St s w (.slice none 0 0) [] 0 0 W → Calls Try.prog 21 #[.pointer (some ⟨w.heap.size, 0, none⟩), .int .i64 4099] W fun e' w' => e' = .returned (.int .i64 (b : Int)) ∧ St s w (.slice none 0 0) [] k 0 w') := Lib.hid (fun W h => by
        have := h.number 4099 HS.out (Nat.zero_le _); rw [hr] at this; have e0 : (numRes 0 (.inr (b, k))).2.1 = k := by show 0 + k = k; omega
        rw [e0] at this; exact this)
      cases hr2 : readNum 4099 (s.data.toList.drop k) with
      | inl e =>
        have he := readNum_err hr2
        have HN : Hid (readD s = none) := Lib.hid (by unfold readD; rw [hr]; simp only; rw [hr2])
        have C22 : Hid (∀ W, St s w (.slice none 0 0) [] k 0 W → Calls Try.prog 21 #[.pointer (some ⟨w.heap.size, 0, none⟩), .int .i64 4099] W fun e' w' => e' = .returned (.int .i64 0) ∧ St s w (.slice none 0 0) [] k (e : Int) w') := Lib.hid (fun W h => by
          have := h.number 4099 HS.out hk1; rw [hr2] at this; exact this)
        clear hr hr2
        go_wp2_with (first | (go_at_call 20; refine (newReader s _).mono ?_; rintro e w1 ⟨rfl, rfl⟩) | (go_at_call 21; have hC := C21; clear C21; refine (hC.out _ (by assumption)).mono ?_; rintro e w3 ⟨rfl, S2⟩) | (go_at_call 21; refine (C22.out _ (by assumption)).mono ?_; rintro e w4 ⟨rfl, S3⟩))
        refine wp_label ?_
        simp only [Exit.then]
        rename_i hK
        refine hK _ _ ?_
        refine hpass 1 _ _ ?_ _ rfl
        exact ⟨⟨rfl, rfl, rfl⟩, _, _, k, (e : Int), [], _, rfl, rfl, rfl, by simp, Lib.hid (by simp), S3, Lib.hid (Or.inl ⟨by omega, rfl, HN.out⟩)⟩
      | inr z =>
        obtain ⟨many, j⟩ := z
        obtain ⟨hj0, hj1, _, _⟩ := readNum_len hr2
        have hj1 : k + j ≤ s.size := by
          have hd : (s.data.toList.drop k).length = s.size - k := by simp
          omega
        have HN : Hid (readD s = readFin b many (gatherD 4100 s (k + j))) := Lib.hid (by unfold readD; rw [hr]; simp only; rw [hr2])
        have HJ := Lib.hid hj1
        have C22 : Hid (∀ W, St s w (.slice none 0 0) [] k 0 W → Calls Try.prog 21 #[.pointer (some ⟨w.heap.size, 0, none⟩), .int .i64 4099] W fun e' w' => e' = .returned (.int .i64 (many : Int)) ∧ St s w (.slice none 0 0) [] (k + j) 0 w') := Lib.hid (fun W h => by
          have := h.number 4099 HS.out hk1; rw [hr2] at this; exact this)
        clear hr hr2
        go_wp2_with (first | (go_at_call 20; refine (newReader s _).mono ?_; rintro e w1 ⟨rfl, rfl⟩) | (go_at_call 21; have hC := C21; clear C21; refine (hC.out _ (by assumption)).mono ?_; rintro e w3 ⟨rfl, S2⟩) | (go_at_call 21; refine (C22.out _ (by assumption)).mono ?_; rintro e w4 ⟨rfl, S3⟩))
        refine wp_label ?_
        simp only [Exit.then]
        rename_i hK
        refine hK _ _ ?_
        refine hpass 1 _ _ ?_ _ rfl
        exact ⟨⟨rfl, rfl, rfl⟩, _, _, k + j, 0, [], _, rfl, rfl, rfl, by simp, Lib.hid (by simp), S3, Lib.hid (Or.inr ⟨rfl, HJ.out, b, many, rfl, rfl, by rw [ahead_nil]; exact HN.out⟩)⟩
end Go.Proofs.Ytghmhheolbobpaa
