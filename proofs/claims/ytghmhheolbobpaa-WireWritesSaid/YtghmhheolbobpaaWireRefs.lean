/- The reference's own Number, Text and Id, and the writer's Text and Id with a nil writer: what they compute. Conditions: texts are within the form's reach. -/
import Derived.Test.YtghmhheolbobpaaWireBack
set_option linter.unusedVariables false
set_option maxRecDepth 100000
namespace Go.Proofs.Ytghmhheolbobpaa
open Go.RowKit Wire

theorem conv_one (g : Nat) (b : UInt8) (x : Int) (hx : x = (b.toNat : Int)) (W : World) (h : W.cell? ⟨g, 0, none⟩ = some (.int .u8 x)) :
    (convert 26 9 (.slice (some ⟨g, 0, none⟩) 1 1)).run Try.prog W = .ok (.string ⟨[b].toArray⟩) W := by
  refine conv_id W g 1 [b] 1 rfl fun j v hv => ?_
  match j, hv with
  | 0, hv => unfold idCells at hv; simp at hv; rw [h, hx, hv]
set_option maxHeartbeats 400000 in
theorem ref_small (n : Int) (w : World) (h : (clamp n : Nat) < 128) :
    Calls Try.prog 13 #[.int .i64 n] w fun e w' => e = .returned (.string ⟨(num (clamp n)).toArray⟩) ∧ Below w.heap.size w w' := by
  have hnum : num (clamp n) = [UInt8.ofNat (clamp n)] := num_small h
  go_enter Try.func13, Try.ntmps13
  by_cases hneg : n < 0
  · have hc : clamp n = 0 := by unfold clamp; omega
    rw [hc] at hnum
    rw [hc, hnum]
    have hcv := conv_one w.heap.size (UInt8.ofNat 0) 0 rfl (w.alloc (.cells #[.int .u8 0] 5)) (by simp)
    go_wp2
    go_ret
    exact ⟨rfl, (Below.refl _ _).alloc (Nat.le_refl _) _⟩
  · have hc : (clamp n : Int) = n := by unfold clamp at *; omega
    have hcv := conv_one w.heap.size (UInt8.ofNat (clamp n)) n (by rw [byte_small h, hc]) (w.alloc (.cells #[.int .u8 n] 5)) (by simp)
    go_wp2
    go_ret
    exact ⟨rfl, (Below.refl _ _).alloc (Nat.le_refl _) _⟩
theorem later_alloc {w wx : World} {v : Value} (b : Below (w.alloc (.cells #[v] 5)).drew.heap.size (w.alloc (.cells #[v] 5)).drew wx) : wx.cell? ⟨w.heap.size, 0, none⟩ = some v :=
  cell_later b (by simp)
set_option maxHeartbeats 2000000 in
theorem ref_great (f : Nat) (ih : ∀ (m : Nat) (W : World), m < 128 ^ f → m ≤ maxNum → Calls Try.prog 13 #[.int .i64 (m : Int)] W fun e w' => e = .returned (.string ⟨(num m).toArray⟩) ∧ Below W.heap.size W w')
    (n : Int) (w : World) (h : 128 ≤ clamp n) (hf : clamp n < 128 ^ (f + 1)) :
    Calls Try.prog 13 #[.int .i64 n] w fun e w' => e = .returned (.string ⟨(num (clamp n)).toArray⟩) ∧ Below w.heap.size w w' := by
  have hnum := num_great (n := clamp n) (by omega)
  have hcl := clamp_le n
  have IH := Lib.hid (ih (clamp n / 128))
  have hm : clamp n / 128 < 128 ^ f := by
    rw [Nat.pow_succ] at hf
    exact (Nat.div_lt_iff_lt_mul (by omega)).2 hf
  have HM := Lib.hid hm
  have HC := Lib.hid (show clamp n / 128 ≤ maxNum by unfold maxNum at *; omega)
  clear ih hf hm
  by_cases hbig : 1099511627775 < n
  · have hc : clamp n = 1099511627775 := by unfold clamp; omega
    rw [hc] at IH HM HC hnum
    rw [hc]
    have IHL := Lib.hid (fun (W : World) => show Calls Try.prog 13 #[.int .i64 8589934591] W fun e w' => e = .returned (.string ⟨(num 8589934591).toArray⟩) ∧ Below W.heap.size W w' from IH.out W HM.out HC.out)
    obtain ⟨B, hB⟩ : ∃ B : UInt8, B = UInt8.ofNat (1099511627775 % 128 + 128) := ⟨_, rfl⟩
    rw [← hB] at hnum
    have hcv : ∀ (g : Nat) (W : World), W.cell? ⟨g, 0, none⟩ = some (.int .u8 (IntKind.u8.wrap (IntKind.i64.wrap 255))) → (convert 26 9 (.slice (some ⟨g, 0, none⟩) 1 1)).run Try.prog W = .ok (.string ⟨#[B]⟩) W := fun g W h => conv_one g B _ (by rw [hB]; decide) W h
    have h6 := num_six HC.out
    have h6' : (num 8589934591).length ≤ 6 := h6
    have hadd : ∀ W, (Op.stringOp .add ⟨#[B]⟩ ⟨(num 8589934591).toArray⟩).run Try.prog W = .ok (.string ⟨(num 1099511627775).toArray⟩) W := fun W => by
      have := run_string_add_lists (P := Try.prog) W [B] (num 8589934591) (by simp) (by omega)
      rw [hnum]; exact this
    clear hB hnum h6 h6' hc hcl h
    go_enter Try.func13, Try.ntmps13
    go_wp2_with fail
    go_region_with (first
      | (go_at_call 13; refine (IHL.out _).mono ?_; rintro e w4 ⟨rfl, b4⟩; (first | have hq := later_alloc b4 | skip)))
    all_goals
      go_wp2
      go_ret
      first
        | exact ⟨rfl, below_step (((Below.refl _ w).alloc (Nat.le_refl _) _).drew) b4⟩
        | exact ⟨rfl, below_step (((Below.refl _ w).drew).alloc (Nat.le_refl _) _) b4⟩
        | exact ⟨rfl, below_lay (below_step (Below.refl _ w).drew b4) _⟩
  · have hc : (clamp n : Int) = n := by unfold clamp at *; omega
    generalize clamp n = m at *
    subst hc
    go_enter Try.func13, Try.ntmps13
    go_wp2_with fail
    have hX : IntKind.u8.wrap (IntKind.i64.wrap ((m : Int).tmod 128 + 128)) = ((UInt8.ofNat (m % 128 + 128)).toNat : Int) := by
      rw [byte_great, Int.tmod_eq_emod_of_nonneg (by omega)]
      simp [IntKind.wrap, IntKind.bits, IntKind.signed]
      omega
    have HW := Lib.hid (show IntKind.i64.wrap ((m : Int) / 128) = ((m / 128 : Nat) : Int) by
      simp [IntKind.wrap, IntKind.bits, IntKind.signed]
      omega)
    obtain ⟨B, hB⟩ : ∃ B : UInt8, B = UInt8.ofNat (m % 128 + 128) := ⟨_, rfl⟩
    rw [← hB] at hX hnum
    have hcv : ∀ (g : Nat) (W : World), W.cell? ⟨g, 0, none⟩ = some (.int .u8 (IntKind.u8.wrap (IntKind.i64.wrap ((m : Int).tmod 128 + 128)))) → (convert 26 9 (.slice (some ⟨g, 0, none⟩) 1 1)).run Try.prog W = .ok (.string ⟨#[B]⟩) W := fun g W h => conv_one g B _ hX W h
    have h6 := num_six HC.out
    have hadd : ∀ W, (Op.stringOp .add ⟨#[B]⟩ ⟨(num (m / 128)).toArray⟩).run Try.prog W = .ok (.string ⟨(num m).toArray⟩) W := fun W => by
      have := run_string_add_lists (P := Try.prog) W [B] (num (m / 128)) (by simp) (by omega)
      rw [hnum]; exact this
    clear hX hB hnum h6
    go_region_with (first
      | (go_at_call 13; rw [HW.out]; refine (IH.out _ HM.out HC.out).mono ?_; rintro e w4 ⟨rfl, b4⟩; (first | have hq := later_alloc b4 | skip)))
    all_goals
      go_wp2
      go_ret
      first
        | exact ⟨rfl, below_step (((Below.refl _ w).alloc (Nat.le_refl _) _).drew) b4⟩
        | exact ⟨rfl, below_step (((Below.refl _ w).drew).alloc (Nat.le_refl _) _) b4⟩
        | exact ⟨rfl, below_lay (below_step (Below.refl _ w).drew b4) _⟩
theorem ref_num : ∀ (f : Nat) (n : Int) (w : World), clamp n < 128 ^ f → Calls Try.prog 13 #[.int .i64 n] w fun e w' => e = .returned (.string ⟨(num (clamp n)).toArray⟩) ∧ Below w.heap.size w w'
  | 0, n, w, h => ref_small n w (by simp at h; omega)
  | f + 1, n, w, h => by
    by_cases hs : clamp n < 128
    · exact ref_small n w hs
    · refine ref_great f (fun m W h1 h2 => ?_) n w (by omega) h
      have := ref_num f (m : Int) W (by rw [clamp_self h2]; exact h1)
      rwa [clamp_self h2] at this
/-- The reference's Number. -/
theorem ref_any (n : Int) (w : World) : Calls Try.prog 13 #[.int .i64 n] w fun e w' => e = .returned (.string ⟨(num (clamp n)).toArray⟩) ∧ Below w.heap.size w w' :=
  ref_num 6 n w (by have := clamp_le n; unfold maxNum at this; omega)
theorem mk_append (l : List UInt8) (s : ByteArray) : (⟨l.toArray⟩ : ByteArray) ++ s = ⟨(l ++ s.data.toList).toArray⟩ := by
  apply ByteArray.ext
  simp [ByteArray.data_append]
/-- The reference's Text. -/
theorem ref_text (s : ByteArray) (w : World) (hs : s.size ≤ 500) : Calls Try.prog 15 #[.string s] w fun e w' => e = .returned (.string ⟨(num s.size ++ s.data.toList).toArray⟩) ∧ Below w.heap.size w w' := by
  have h6 := num_six (n := s.size) (by unfold maxNum; omega)
  have hr := ref_any (s.size : Int) w
  rw [clamp_self (by unfold maxNum; omega)] at hr
  have hadd : ∀ W, (Op.stringOp .add ⟨(num s.size).toArray⟩ s).run Try.prog W = .ok (.string ⟨(num s.size ++ s.data.toList).toArray⟩) W := fun W => by
    rw [run_string_add_sum W _ _ (by show (num s.size).toArray.size + s.size ≤ _; rw [List.size_toArray]; omega), mk_append]
  go_enter Try.func15, Try.ntmps15
  go_wp2_with fail
  refine hr.mono ?_
  rintro e w1 ⟨rfl, b1⟩
  go_wp2
  go_ret
  exact ⟨rfl, b1⟩
end Go.Proofs.Ytghmhheolbobpaa
