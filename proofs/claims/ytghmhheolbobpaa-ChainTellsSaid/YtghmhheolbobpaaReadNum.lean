/- The contract of wire.Reader's Number: what is read of any bytes, where the reader then stands, the first error. Conditions: the block is a reader's, its place lies within the text, the text is within the form's reach. -/
import Derived.Test.YtghmhheolbobpaaRead
import Derived.Test.YtghmhheolbobpaaScope
set_option linter.unusedVariables false
namespace Go.Proofs.Ytghmhheolbobpaa
open Go.RowKit Wire

/-- What Number answers, where the reader then stands, its error. -/
def numRes (p : Nat) : Nat ⊕ (Nat × Nat) → Int × Nat × Int
  | .inl e => (0, p, (e : Int))
  | .inr (n, k) => ((n : Int), p + k, 0)
theorem frame_lit {n : Nat} (t : Array Value) (h : t.size = n) : t = ((List.range n).map fun k => t.getD k undef).toArray := by
  apply Array.ext'
  apply List.ext_getElem
  · simp [h]
  · intro i h1 h2
    simp at h1
    simp [Array.getD, h1]
/-- A frame of 74 slots, written out. -/
theorem frame74 (a : Act) (h : a.tmps.size = 74) (hd : a.defers = []) : ∃ u : Nat → Value, (∀ k, a.tmps.getD k undef = u k) ∧ a = { tmps := #[u 0, u 1, u 2, u 3, u 4, u 5, u 6, u 7, u 8, u 9, u 10, u 11, u 12, u 13, u 14, u 15, u 16, u 17, u 18, u 19, u 20, u 21, u 22, u 23, u 24, u 25, u 26, u 27, u 28, u 29, u 30, u 31, u 32, u 33, u 34, u 35, u 36, u 37, u 38, u 39, u 40, u 41, u 42, u 43, u 44, u 45, u 46, u 47, u 48, u 49, u 50, u 51, u 52, u 53, u 54, u 55, u 56, u 57, u 58, u 59, u 60, u 61, u 62, u 63, u 64, u 65, u 66, u 67, u 68, u 69, u 70, u 71, u 72, u 73], defers := [] } := by
  refine ⟨fun k => a.tmps.getD k undef, fun _ => rfl, ?_⟩
  obtain ⟨t, d⟩ := a
  subst hd
  have e := frame_lit t h
  exact congrArg (fun x => ({ tmps := x, defers := [] } : Act)) e
/-- What holds at a jump to the label 'more' (1) and to 'wrong' (0). -/
structure NumFrame (b : Nat) (p : Nat) (most : Int) (a : Act) : Prop where
  size : a.tmps.size = 74
  defers : a.defers = []
  s0 : a.tmps.getD 0 undef = .pointer (some ⟨b, 0, none⟩)
  s1 : a.tmps.getD 1 undef = .int .i64 most
  s4 : a.tmps.getD 4 undef = .int .i64 0
  s9 : a.tmps.getD 9 undef = .int .i64 (p : Int)
def NumAt (b : Nat) (s : ByteArray) (p : Nat) (most : Int) (w0 : World) : Nat → Act → World → Prop
  | 1, a, w => NumFrame b p most a ∧ ∃ i acc : Nat, a.tmps.getD 5 undef = .int .i64 (acc : Int) ∧ a.tmps.getD 6 undef = .int .i64 (7 * (i : Int)) ∧ a.tmps.getD 8 undef = .int .i64 3 ∧ i < 6 ∧ p + i ≤ s.size ∧ acc < 128 ^ i ∧ Rd b s (p + i) 0 w ∧ Ko b w0 w ∧ Hid (scan i acc (s.data.toList.drop (p + i)) = scan 0 0 (s.data.toList.drop p))
  | 0, a, w => NumFrame b p most a ∧ ∃ e q : Nat, a.tmps.getD 8 undef = .int .i64 (e : Int) ∧ Rd b s q 0 w ∧ Ko b w0 w ∧ Hid (readNum most (s.data.toList.drop p) = .inl e)
  | _, _, _ => False


/-- A text's byte at a sum of places. -/
theorem idx_at (s : ByteArray) (p i : Nat) (h : p + i < s.size) (W : World) : (Instr.index 9 (.string s) (.int .i64 ((p : Int) + (i : Int)))).run Try.prog W = .ok (.int .u8 (s[p + i].toNat : Int)) W := by
  rw [run_index_string W 9 s .i64 _ Try.underlying9, dif_pos ⟨by omega, by omega⟩]
  have e : ((p : Int) + (i : Int)).toNat = p + i := by omega
  congr 3
theorem i64_or_nat (a b : Nat) (ha : a < 9223372036854775808) (hb : b < 9223372036854775808) : bits .or .i64 (a : Int) (b : Int) = ((a ||| b : Nat) : Int) := by
  have e : ∀ x : Nat, x < 9223372036854775808 → (BitVec.ofInt 64 (x : Int)).toNat = x := fun x hx => by
    rw [BitVec.ofInt_natCast, BitVec.toNat_ofNat]; exact Nat.mod_eq_of_lt (by omega)
  have hx : a ||| b < 2 ^ 63 := Nat.or_lt_two_pow (by omega) (by omega)
  show IntKind.i64.wrap ((BitVec.ofInt 64 (a : Int) ||| BitVec.ofInt 64 (b : Int)).toNat : Int) = _
  rw [BitVec.toNat_or, e a ha, e b hb, IntKind.wrap_i64]
  omega
/-- Seven bits more. -/
theorem gather (acc c i : Nat) (hi : i < 6) (hacc : acc < 128 ^ i) (hc : c < 256) :
    bits .or .i64 (acc : Int) (wrap64 ((c : Int) % (128 : Int) * (2 : Int) ^ (7 * i))) = ((acc + c % 128 * 128 ^ i : Nat) : Int) ∧ acc + c % 128 * 128 ^ i < 128 ^ (i + 1) := by
  have e7 : (2 : Nat) ^ (7 * i) = 128 ^ i := by rw [Nat.pow_mul]
  have hp : 128 ^ i ≤ 128 ^ 5 := Nat.pow_le_pow_right (by omega) (by omega)
  have hc7 : c % 128 < 128 := Nat.mod_lt _ (by omega)
  have hmul : c % 128 * 128 ^ i ≤ 127 * 128 ^ i := Nat.mul_le_mul_right _ (by omega)
  have hlt : c % 128 * 128 ^ i ≤ 127 * 128 ^ 5 := Nat.le_trans hmul (Nat.mul_le_mul_left _ hp)
  have e1 : (c : Int) % (128 : Int) * (2 : Int) ^ (7 * i) = ((c % 128 * 128 ^ i : Nat) : Int) := by
    rw [Int.natCast_mul, Int.natCast_emod, ← e7, Int.natCast_pow]; rfl
  have e2 : wrap64 ((c % 128 * 128 ^ i : Nat) : Int) = ((c % 128 * 128 ^ i : Nat) : Int) := by
    unfold wrap64
    omega
  refine ⟨?_, ?_⟩
  · rw [e1, e2, i64_or_nat _ _ (by omega) (by omega)]
    congr 1
    rw [← e7, ← Nat.shiftLeft_eq, Nat.or_comm, ← Nat.shiftLeft_add_eq_or_of_lt (by rw [e7]; exact hacc), Nat.add_comm]
  · rw [Nat.pow_succ]
    omega
def numMeasure (l : Nat) (a : Act) (_ : World) : Nat := if l = 1 then 50 - (intOf (a.tmps.getD 6 undef)).toNat else 0
set_option maxHeartbeats 2000000 in
set_option maxRecDepth 100000 in
theorem number_ok (b : Nat) (s : ByteArray) (p : Nat) (most : Int) (w : World) (h : Rd b s p 0 w) (hs : s.size ≤ maxLen) (hp : p ≤ s.size) :
    Calls Try.prog 21 #[.pointer (some ⟨b, 0, none⟩), .int .i64 most] w fun e w' => e = .returned (.int .i64 (numRes p (readNum most (s.data.toList.drop p))).1) ∧
      Rd b s (numRes p (readNum most (s.data.toList.drop p))).2.1 (numRes p (readNum most (s.data.toList.drop p))).2.2 w' ∧ Ko b w w' := by
  unfold maxLen at hs
  go_enter Try.func21, Try.ntmps21
  go_wp2
  refine wp_scope_heads (NumAt b s p most w) numMeasure ?_ ?_
  · intro l a w1 hJ
    match l, hJ with
    | 0, hJ =>
      obtain ⟨hF, e, q, hs8, hR, hK, HE⟩ := hJ
      obtain ⟨u, hu, rfl⟩ := frame74 a hF.size hF.defers
      have h0 := (hu 0).symm.trans hF.s0
      have h1 := (hu 1).symm.trans hF.s1
      have h9 := (hu 9).symm.trans hF.s9
      have h8 := (hu 8).symm.trans hs8
      clear hu hF hs8
      rw [h0, h1, h9, h8]
      clear h0 h1 h9 h8
      refine ⟨_, rfl, ?_⟩
      go_wp2_with (go_at_call 40; refine (fail_of b s q (e : Int) p _ hR).mono ?_)
      rintro e' w2 ⟨rfl⟩
      intro hR2 hK2
      go_wp2
      rw [jumps_ret]
      go_ret
      rw [HE.out]
      exact ⟨rfl, hR2, hK.trans hK2⟩
    | 1, hJ =>
      obtain ⟨hF, i, acc, hs5, hs6, hs8, hi, hpi, hacc, hR, hK, HS⟩ := hJ
      obtain ⟨u, hu, rfl⟩ := frame74 a hF.size hF.defers
      have h0 := (hu 0).symm.trans hF.s0
      have h1 := (hu 1).symm.trans hF.s1
      have h4 := (hu 4).symm.trans hF.s4
      have h9 := (hu 9).symm.trans hF.s9
      have h8 := (hu 8).symm.trans hs8
      have h5 := (hu 5).symm.trans hs5
      have h6 := (hu 6).symm.trans hs6
      clear hu hF hs8 hs5 hs6
      rw [h0, h1, h4, h5, h6, h9, h8]
      clear h0 h1 h4 h5 h6 h9 h8
      refine ⟨_, rfl, ?_⟩
      have c0 := hR.cell0
      have c1 := hR.cell1
      have f1 := hR.frozen 1
      go_wp2
      go_quiet (fail)
      by_cases hend : p + i = s.size
      · have hd : ((p : Int) + (i : Int) == (s.size : Int)) = true := by rw [beq_iff_eq]; omega
        have HE : Hid (readNum most (s.data.toList.drop p) = .inl 3) := Lib.hid (by
          unfold readNum
          rw [← HS.out, hend, List.drop_of_length_le (by simp)]
          rfl)
        clear hend
        go_wp2_with fail
        go_step3
        show NumAt b s p most w 0 _ _ ∧ numMeasure 0 _ _ < numMeasure 1 _ _
        exact ⟨⟨⟨rfl, rfl, rfl, rfl, rfl, rfl⟩, 3, p + i, rfl, hR.drewN _, hK.drewN _, HE⟩, by simp [numMeasure, intOf]; omega⟩
      · have hd : ((p : Int) + (i : Int) == (s.size : Int)) = false := by rw [beq_eq_false_iff_ne]; omega
        have hlt : p + i < s.size := by omega
        obtain ⟨c, hc⟩ : ∃ c : UInt8, c = s[p + i] := ⟨_, rfl⟩
        have hix := idx_at s p i hlt
        rw [← hc] at hix
        have HD : Hid (s.data.toList.drop (p + i) = c :: s.data.toList.drop (p + i + 1)) := Lib.hid (by
          rw [List.drop_eq_getElem_cons (by simpa using hlt), hc]; rfl)
        clear hc hend
        have hb := c.toNat_lt
        obtain ⟨acc2, HA, hg, hlt2⟩ : ∃ acc2 : Nat, Hid (acc2 = acc + c.toNat % 128 * 128 ^ i) ∧ bits .or .i64 (acc : Int) (wrap64 ((c.toNat : Int) % (128 : Int) * (2 : Int) ^ (7 * i))) = (acc2 : Int) ∧ acc2 < 128 ^ (i + 1) :=
          ⟨_, Lib.hid rfl, (gather acc c.toNat i hi hacc hb).1, (gather acc c.toNat i hi hacc hb).2⟩
        have hscan : scan i acc (s.data.toList.drop (p + i)) = if 128 ≤ c.toNat then (if i + 1 = 6 then .inl 4 else scan (i + 1) acc2 (s.data.toList.drop (p + i + 1))) else if c.toNat = 0 ∧ 0 < i then .inl 2 else .inr (acc2, i + 1) := by
          rw [HD.out, HA.out]; rfl
        have HN := Lib.hid hscan
        clear hscan
        have hl3 : acc2 < 4398046511104 := Nat.lt_of_lt_of_le hlt2 (Nat.pow_le_pow_right (by omega) (show i + 1 ≤ 6 by omega))
        have HL2 := Lib.hid hlt2
        have HAC := Lib.hid hacc
        clear hlt2 hacc
        go_wp2_with fail
        go_quiet (fail)
        by_cases h128 : 128 ≤ c.toNat
        · by_cases h6 : i + 1 = 6
          · have hd2 : (7 * (i : Int) + 7 == 42) = true := by rw [beq_iff_eq]; omega
            have HE : Hid (readNum most (s.data.toList.drop p) = .inl 4) := Lib.hid (by
              unfold readNum
              rw [← HS.out, HN.out, if_pos h128, if_pos h6])
            clear h6
            go_wp2_with fail
            go_step3
            show NumAt b s p most w 0 _ _ ∧ numMeasure 0 _ _ < numMeasure 1 _ _
            exact ⟨⟨⟨rfl, rfl, rfl, rfl, rfl, rfl⟩, 4, p + i + 1, rfl, (hR.drewN _).setAt (p + i + 1), (hK.drewN _).setCell 1 _, HE⟩, by simp [numMeasure, intOf]; omega⟩
          · have hd2 : (7 * (i : Int) + 7 == 42) = false := by rw [beq_eq_false_iff_ne]; omega
            have HE : Hid (scan (i + 1) acc2 (s.data.toList.drop (p + (i + 1))) = scan 0 0 (s.data.toList.drop p)) := Lib.hid (by
              rw [← HS.out, HN.out, if_pos h128, if_neg h6]; rfl)
            have h66 : i + 1 < 6 := by omega
            clear h6
            go_wp2_with fail
            go_step3
            show NumAt b s p most w 1 _ _ ∧ numMeasure 1 _ _ < numMeasure 1 _ _
            refine ⟨⟨⟨rfl, rfl, rfl, rfl, rfl, rfl⟩, i + 1, acc2, rfl, ?_, rfl, by omega, by omega, HL2.out, (hR.drewN _).setAt (p + i + 1), (hK.drewN _).setCell 1 _, HE⟩, ?_⟩
            rotate_left
            · show (if (1 : Nat) = 1 then 50 - (7 * (i : Int) + 7).toNat else 0) < (if (1 : Nat) = 1 then 50 - (7 * (i : Int)).toNat else 0)
              rw [if_pos rfl, if_pos rfl]; omega
            show Value.int .i64 (7 * (i : Int) + 7) = .int .i64 (7 * ((i + 1 : Nat) : Int))
            congr 1
        · by_cases hz : c.toNat = 0 ∧ 0 < i
          · have hd2 : ((c.toNat : Int) == 0) = true := by rw [beq_iff_eq]; omega
            have hd3 : (7 : Int) < 7 * (i : Int) + 7 := by omega
            have HE : Hid (readNum most (s.data.toList.drop p) = .inl 2) := Lib.hid (by
              unfold readNum
              rw [← HS.out, HN.out, if_neg h128, if_pos hz])
            clear hz
            go_wp2_with fail
            go_step3
            show NumAt b s p most w 0 _ _ ∧ numMeasure 0 _ _ < numMeasure 1 _ _
            exact ⟨⟨⟨rfl, rfl, rfl, rfl, rfl, rfl⟩, 2, p + i + 1, rfl, (hR.drewN _).setAt (p + i + 1), (hK.drewN _).setCell 1 _, HE⟩, by simp [numMeasure, intOf]; omega⟩
          · have HR : Hid (readNum most (s.data.toList.drop p) = if acc2 ≤ maxNum ∧ (acc2 : Int) ≤ most then .inr (acc2, i + 1) else .inl 4) := Lib.hid (by
              unfold readNum
              rw [← HS.out, HN.out, if_neg h128, if_neg hz])
            by_cases hok : acc2 ≤ 1099511627775 ∧ (acc2 : Int) ≤ most
            · have HE : Hid (readNum most (s.data.toList.drop p) = .inr (acc2, i + 1)) := Lib.hid (by
                rw [HR.out, if_pos ⟨by unfold maxNum; exact hok.1, hok.2⟩])
              obtain ⟨hok1, hok2⟩ := hok
              by_cases hz0 : c.toNat = 0
              · have hd2 : ((c.toNat : Int) == 0) = true := by rw [beq_iff_eq]; omega
                have hd3 : decide ((7 : Int) < 7 * (i : Int) + 7) = false := by simp; omega
                clear hz hz0
                go_wp2_with fail
                rw [jumps_ret]
                go_ret
                rw [HE.out]
                exact ⟨rfl, (hR.drewN _).setAt (p + i + 1), (hK.drewN _).setCell 1 _⟩
              · have hd2 : ((c.toNat : Int) == 0) = false := by rw [beq_eq_false_iff_ne]; omega
                clear hz hz0
                go_wp2_with fail
                rw [jumps_ret]
                go_ret
                rw [HE.out]
                exact ⟨rfl, (hR.drewN _).setAt (p + i + 1), (hK.drewN _).setCell 1 _⟩
            · have HE : Hid (readNum most (s.data.toList.drop p) = .inl 4) := Lib.hid (by
                rw [HR.out, if_neg (by unfold maxNum; exact hok)])
              by_cases hok1 : acc2 ≤ 1099511627775
              · have hok2 : ¬ (acc2 : Int) ≤ most := fun h => hok ⟨hok1, h⟩
                have hd4 : decide ((acc2 : Int) ≤ most) = false := by simpa using hok2
                clear hok hok2
                by_cases hz0 : c.toNat = 0
                · have hd2 : ((c.toNat : Int) == 0) = true := by rw [beq_iff_eq]; omega
                  have hd3 : decide ((7 : Int) < 7 * (i : Int) + 7) = false := by simp; omega
                  clear hz hz0
                  go_wp2_with fail
                  refine wp_label ?_
                  simp only [Exit.then]
                  rename_i hK'
                  refine hK' _ _ ?_
                  clear hK'
                  go_wp2_with (go_at_call 40; refine (fail_of b s (p + i + 1) 4 p _ ((hR.drewN _).setAt (p + i + 1))).mono ?_)
                  rintro e' w2 ⟨rfl, hR2, hK2⟩
                  go_wp2
                  rw [jumps_ret]
                  go_ret
                  rw [HE.out]
                  exact ⟨rfl, hR2, ((hK.drewN _).setCell 1 _).trans hK2⟩
                · have hd2 : ((c.toNat : Int) == 0) = false := by rw [beq_eq_false_iff_ne]; omega
                  clear hz hz0
                  go_wp2_with fail
                  refine wp_label ?_
                  simp only [Exit.then]
                  rename_i hK'
                  refine hK' _ _ ?_
                  clear hK'
                  go_wp2_with (go_at_call 40; refine (fail_of b s (p + i + 1) 4 p _ ((hR.drewN _).setAt (p + i + 1))).mono ?_)
                  rintro e' w2 ⟨rfl, hR2, hK2⟩
                  go_wp2
                  rw [jumps_ret]
                  go_ret
                  rw [HE.out]
                  exact ⟨rfl, hR2, ((hK.drewN _).setCell 1 _).trans hK2⟩
              · have hd4 : decide ((acc2 : Int) ≤ 1099511627775) = false := by simp; omega
                clear hok
                by_cases hz0 : c.toNat = 0
                · have hd2 : ((c.toNat : Int) == 0) = true := by rw [beq_iff_eq]; omega
                  have hd3 : decide ((7 : Int) < 7 * (i : Int) + 7) = false := by simp; omega
                  clear hz hz0
                  go_wp2_with fail
                  refine wp_label ?_
                  simp only [Exit.then]
                  rename_i hK'
                  refine hK' _ _ ?_
                  clear hK'
                  go_wp2_with (go_at_call 40; refine (fail_of b s (p + i + 1) 4 p _ ((hR.drewN _).setAt (p + i + 1))).mono ?_)
                  rintro e' w2 ⟨rfl, hR2, hK2⟩
                  go_wp2
                  rw [jumps_ret]
                  go_ret
                  rw [HE.out]
                  exact ⟨rfl, hR2, ((hK.drewN _).setCell 1 _).trans hK2⟩
                · have hd2 : ((c.toNat : Int) == 0) = false := by rw [beq_eq_false_iff_ne]; omega
                  clear hz hz0
                  go_wp2_with fail
                  refine wp_label ?_
                  simp only [Exit.then]
                  rename_i hK'
                  refine hK' _ _ ?_
                  clear hK'
                  go_wp2_with (go_at_call 40; refine (fail_of b s (p + i + 1) 4 p _ ((hR.drewN _).setAt (p + i + 1))).mono ?_)
                  rintro e' w2 ⟨rfl, hR2, hK2⟩
                  go_wp2
                  rw [jumps_ret]
                  go_ret
                  rw [HE.out]
                  exact ⟨rfl, hR2, ((hK.drewN _).setCell 1 _).trans hK2⟩
    | l + 2, hJ => exact hJ.elim
  · intro hpass
    have c1 := h.cell1
    go_wp2_with (go_at_call 26; refine (err_of b s p 0 _ h).mono ?_; rintro e w' ⟨rfl, rfl⟩)
    go_quiet (fail)
    go_wp2
    refine wp_label ?_
    simp only [Exit.then]
    rename_i hK
    refine hK _ _ ?_
    refine hpass 1 _ _ ?_ _ rfl
    refine ⟨⟨rfl, rfl, rfl, rfl, rfl, rfl⟩, 0, 0, rfl, rfl, rfl, by omega, by omega, by omega, h.drewN _, (Ko.refl _ _).drewN _, Lib.hid rfl⟩
end Go.Proofs.Ytghmhheolbobpaa
