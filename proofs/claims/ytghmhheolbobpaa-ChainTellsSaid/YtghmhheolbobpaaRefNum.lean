/- The contract of the reference's Reader's Number. Conditions: the reader lies in a block of its own, its place within the text, the text within the form's reach. -/
import Derived.Test.YtghmhheolbobpaaRefReader
set_option linter.unusedVariables false
set_option maxRecDepth 100000
namespace Go.Proofs.Ytghmhheolbobpaa
open Go.RowKit Wire

/-- What stands ahead of each round. -/
structure RN (b : Nat) (s : ByteArray) (p : Nat) (most : Int) (w0 : World) (i acc o : Nat) (w : World) : Prop where
  le : i ≤ 6
  pow : o = 128 ^ i
  lt : acc < o
  inS : p + i ≤ s.size
  rd : Rr b s p 0 w
  ko : Ko b w0 w
  law : if i = 6 then readNum most (s.data.toList.drop p) = .inl 4 else scan i acc (s.data.toList.drop (p + i)) = scan 0 0 (s.data.toList.drop p)
theorem pow_le {i : Nat} (h : i ≤ 5) : 128 ^ i ≤ 34359738368 := Nat.pow_le_pow_right (n := 128) (by omega) h
set_option maxHeartbeats 2000000 in
theorem rnumber_ok (b : Nat) (s : ByteArray) (p : Nat) (most : Int) (w : World) (h : Rr b s p 0 w) (hs : s.size ≤ 140737488355328) (hp : p ≤ s.size) :
    Calls Try.prog 53 #[.pointer (some ⟨b, 0, none⟩), .int .i64 most] w fun e w' => e = .returned (.int .i64 (numRes p (readNum most (s.data.toList.drop p))).1) ∧
      Rr b s (numRes p (readNum most (s.data.toList.drop p))).2.1 (numRes p (readNum most (s.data.toList.drop p))).2.2 w' ∧ Ko b w w' := by
  have c2 := h.cell2
  go_enter Try.func53, Try.ntmps53
  go_wp2
  go_loopw [5, 6, 7] (fun n one i wr => ∃ (k acc o : Nat), i = .int .i64 (k : Int) ∧ n = .int .i64 (acc : Int) ∧ one = .int .i64 (o : Int) ∧ RN b s p most w k acc o wr) (fun _ _ i _ => 7 - (intOf i).toNat)
  case atStart => exact ⟨0, 0, 1, rfl, rfl, rfl, by omega, rfl, by omega, by omega, h, Ko.refl _ _, by rw [if_neg (by omega)]; rfl⟩
  case round =>
    obtain ⟨k, acc, o, rfl, rfl, rfl, hR⟩ := hrel
    have hle := hR.le
    have hin := hR.inS
    have hacc := hR.lt
    have c0 := hR.rd.cell0
    have c1 := hR.rd.cell1
    have f1 := hR.rd.frozen 1
    have f2 := hR.rd.frozen 2
    have c2' := hR.rd.cell2
    by_cases h6 : k = 6
    · have hlaw := hR.law
      rw [if_pos h6] at hlaw
      have HL := Lib.hid hlaw
      clear hlaw hacc
      go_wp2
      go_ret
      rw [HL.out]
      exact ⟨rfl, hR.rd.setErr 4, hR.ko.setCell 2 _⟩
    · have hlaw := hR.law
      rw [if_neg h6] at hlaw
      have hk5 : k ≤ 5 := by omega
      have hpow := hR.pow
      have ho : o ≤ 34359738368 := by rw [hpow]; exact pow_le hk5
      by_cases hend : p + k = s.size
      · have HE : Hid (readNum most (s.data.toList.drop p) = .inl 3) := Lib.hid (by
          unfold readNum
          rw [← hlaw, hend, List.drop_of_length_le (by simp)]
          rfl)
        clear hlaw hpow
        go_wp2
        go_quiet (fail)
        go_wp2
        go_ret
        rw [HE.out]
        exact ⟨rfl, (hR.rd.drewN _).setErr 3, (hR.ko.drewN _).setCell 2 _⟩
      · have hlt : p + k < s.size := by omega
        obtain ⟨c, hc⟩ : ∃ c : UInt8, c = s[p + k] := ⟨_, rfl⟩
        have hix := idx_at s p k hlt
        rw [← hc] at hix
        have HD : Hid (s.data.toList.drop (p + k) = c :: s.data.toList.drop (p + k + 1)) := Lib.hid (by
          rw [List.drop_eq_getElem_cons (by simpa using hlt), hc]; rfl)
        have hb := c.toNat_lt
        obtain ⟨q, hq⟩ : ∃ q, q = c.toNat % 128 * o := ⟨_, rfl⟩
        have hq1 : q ≤ 127 * o := by rw [hq]; exact Nat.mul_le_mul_right _ (by have := Nat.mod_lt c.toNat (show 128 > 0 by omega); omega)
        have hqi : (c.toNat : Int) % 128 * (o : Int) = (q : Int) := by rw [hq, Int.natCast_mul, Int.natCast_emod]; rfl
        have hscan : scan k acc (s.data.toList.drop (p + k)) = if 128 ≤ c.toNat then (if k + 1 = 6 then .inl 4 else scan (k + 1) (acc + q) (s.data.toList.drop (p + k + 1))) else if c.toNat = 0 ∧ 0 < k then .inl 2 else .inr (acc + q, k + 1) := by
          rw [HD.out, hq, hpow]; rfl
        rw [hlaw] at hscan
        have HN := Lib.hid hscan
        have HPOW := Lib.hid hpow
        clear hscan hlaw hpow hq hc hend
        have HNEXT : Hid (acc + q < o * 128) := Lib.hid (by omega)
        by_cases h128 : 128 ≤ c.toNat
        · have HLAW : Hid (if k + 1 = 6 then readNum most (s.data.toList.drop p) = .inl 4 else scan (k + 1) (acc + q) (s.data.toList.drop (p + (k + 1))) = scan 0 0 (s.data.toList.drop p)) := Lib.hid (by
            have h := HN.out
            rw [if_pos h128] at h
            by_cases h5 : k + 1 = 6
            · rw [if_pos h5] at h ⊢
              unfold readNum; rw [h]
            · rw [if_neg h5] at h ⊢
              rw [h]; rfl)
          go_wp2
          go_quiet (fail)
          go_wp2
          go_quiet (fail)
          go_wp2
          exact ⟨⟨k + 1, acc + q, o * 128, by go_num, by go_num, by go_num, by omega, by rw [HPOW.out, Nat.pow_succ], HNEXT.out, by omega, hR.rd.drewN _, hR.ko.drewN _, HLAW.out⟩, by simp [intOf]; omega⟩
        · by_cases hz : c.toNat = 0 ∧ 0 < k
          · have HE : Hid (readNum most (s.data.toList.drop p) = .inl 2) := Lib.hid (by unfold readNum; rw [HN.out, if_neg h128, if_pos hz])
            obtain ⟨hz1, hz2⟩ := hz
            go_wp2
            go_quiet (fail)
            go_wp2
            go_quiet (fail)
            go_wp2
            go_ret
            rw [HE.out]
            exact ⟨rfl, (hR.rd.drewN _).setErr 2, (hR.ko.drewN _).setCell 2 _⟩
          · have HR2 : Hid (readNum most (s.data.toList.drop p) = if acc + q ≤ maxNum ∧ ((acc + q : Nat) : Int) ≤ most then .inr (acc + q, k + 1) else .inl 4) := Lib.hid (by unfold readNum; rw [HN.out, if_neg h128, if_neg hz])
            by_cases hok : acc + q ≤ 1099511627775 ∧ ((acc + q : Nat) : Int) ≤ most
            · have HE : Hid (readNum most (s.data.toList.drop p) = .inr (acc + q, k + 1)) := Lib.hid (by rw [HR2.out, if_pos ⟨by unfold maxNum; exact hok.1, hok.2⟩])
              obtain ⟨hok1, hok2⟩ := hok
              rcases (show c.toNat ≠ 0 ∨ (c.toNat = 0 ∧ k = 0) by omega) with hz1 | ⟨hz1, hz2⟩
              · clear hz
                go_wp2
                go_quiet (fail)
                go_wp2
                go_quiet (fail)
                go_wp2
                go_ret
                rw [HE.out]
                exact ⟨rfl, (hR.rd.drewN _).setAt (p + (k + 1)), (hR.ko.drewN _).setCell 1 _⟩
              · have hd2 : ((c.toNat : Int) == 0) = true := by rw [beq_iff_eq]; omega
                have hd3 : ¬ (0 : Int) < (k : Int) := by omega
                clear hz hz1 hz2
                go_wp2
                go_quiet (fail)
                go_wp2
                go_quiet (fail)
                go_wp2
                go_ret
                rw [HE.out]
                exact ⟨rfl, (hR.rd.drewN _).setAt (p + (k + 1)), (hR.ko.drewN _).setCell 1 _⟩
            · have HE : Hid (readNum most (s.data.toList.drop p) = .inl 4) := Lib.hid (by rw [HR2.out, if_neg (by unfold maxNum; exact hok)])
              rcases (show c.toNat ≠ 0 ∨ (c.toNat = 0 ∧ k = 0) by omega) with hz1 | ⟨hz1, hz2⟩
              · by_cases hok1 : acc + q ≤ 1099511627775
                · have hok2 : ¬ ((acc + q : Nat) : Int) ≤ most := fun h => hok ⟨hok1, h⟩
                  clear hz hok
                  go_wp2
                  go_quiet (fail)
                  go_wp2
                  go_quiet (fail)
                  go_wp2
                  go_ret
                  rw [HE.out]
                  exact ⟨rfl, (hR.rd.drewN _).setErr 4, (hR.ko.drewN _).setCell 2 _⟩
                · clear hz hok
                  go_wp2
                  go_quiet (fail)
                  go_wp2
                  go_quiet (fail)
                  go_wp2
                  go_ret
                  rw [HE.out]
                  exact ⟨rfl, (hR.rd.drewN _).setErr 4, (hR.ko.drewN _).setCell 2 _⟩
              · have hd2 : ((c.toNat : Int) == 0) = true := by rw [beq_iff_eq]; omega
                have hd3 : ¬ (0 : Int) < (k : Int) := by omega
                clear hz1 hz2
                by_cases hok1 : acc + q ≤ 1099511627775
                · have hok2 : ¬ ((acc + q : Nat) : Int) ≤ most := fun h => hok ⟨hok1, h⟩
                  clear hz hok
                  go_wp2
                  go_quiet (fail)
                  go_wp2
                  go_quiet (fail)
                  go_wp2
                  go_ret
                  rw [HE.out]
                  exact ⟨rfl, (hR.rd.drewN _).setErr 4, (hR.ko.drewN _).setCell 2 _⟩
                · clear hz hok
                  go_wp2
                  go_quiet (fail)
                  go_wp2
                  go_quiet (fail)
                  go_wp2
                  go_ret
                  rw [HE.out]
                  exact ⟨rfl, (hR.rd.drewN _).setErr 4, (hR.ko.drewN _).setCell 2 _⟩
end Go.Proofs.Ytghmhheolbobpaa
