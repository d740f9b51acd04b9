/- The wire laws' own 'alive' answers true. No conditions. -/
import Derived.Test.YtghmhheolbobpaaReadId
import Derived.Stop.BytesEq
set_option linter.unusedVariables false
namespace Go.Proofs.Ytghmhheolbobpaa
open Go.RowKit Wire

theorem below_step {W w1 w2 : World} (h : Below W.heap.size W w1) (k : Below w1.heap.size w1 w2) : Below W.heap.size W w2 := h.trans (k.mono h.size)
theorem below_lay {W w1 : World} (h : Below W.heap.size W w1) (o : Obj) : Below W.heap.size W (w1.alloc o) := h.alloc h.size o
theorem grown_of_below {w w' : World} (hb : Below w.heap.size w w') : w.grownBy w' none := ⟨hb.os, hb.tape, hb.output, hb.size, fun k hk _ => hb.block k hk⟩
theorem builder_below {B b : Nat} {p : Value} {bs : List Value} {w w' : World} (h : Lib.BuilderAtF 30 5 B b p bs w) (hb : Below w.heap.size w w') : Lib.BuilderAtF 30 5 B b p bs w' := by
  have hlt := h.lt
  obtain ⟨hB, v, hbk, hown, hne⟩ := h
  exact ⟨hB, v, (hb.block b hlt).trans hbk, hown.kept (grown_of_below hb) (by cases v.ownBlock <;> simp), hne⟩
theorem Wr.below {B b : Nat} {l : List UInt8} {w w' : World} (h : Wr B b l w) (hb : Below w.heap.size w w') : Wr B b l w' :=
  h.elim (fun x => .inl (builder_below x hb)) (fun x => .inr (builder_below x hb))
theorem Rd.below {b : Nat} {s : ByteArray} {p : Nat} {err : Int} {w w' : World} (h : Rd b s p err w) (hb : Below w.heap.size w w') : Rd b s p err w' := (hb.block b h.lt).trans h
/-- A writer that has just been made. -/
theorem Wr.new (B : Nat) (w : World) (hB : B ≤ w.heap.size) : Wr B w.heap.size [] (w.alloc (.cells #[.pointer none, .slice none 0 0] 30)) :=
  Or.inl ⟨hB, .slice none 0 0, heap_alloc_new w _, World.ownsRowF_nil _ _ _ _, by simp [Value.ownBlock]⟩
/-- A reader that has just been made. -/
theorem Rd.new (s : ByteArray) (w : World) : Rd w.heap.size s 0 0 (w.alloc (.cells #[.string s, .int .i64 0, .int .i64 0] 78)) := heap_alloc_new w _
theorem range_new (w : World) (d : List UInt8) (cs : Array Value) (t : TypeId) (h : cs = (idCells d).toArray) (n : Nat) (hn : n = w.heap.size) : (w.alloc (.cells cs t)).rangeAt n 0 (idCells d) := fun j v hv => by
  subst h
  rw [Nat.zero_add, Go.Joins.cell_alloc_mark_at _ _ _ _ _ _ hn]
  simpa using hv
def seven : List UInt8 := 7 :: List.replicate 31 0
theorem num300 : num 300 = [172, 2] := by decide +kernel
theorem num2 : num 2 = [2] := by decide +kernel
theorem clamp300 : clamp 300 = 300 := by decide
def ab : ByteArray := ⟨#[97, 98]⟩
def aliveBytes : List UInt8 := [172, 2, 2, 97, 98] ++ seven
def aliveText : ByteArray := ⟨aliveBytes.toArray⟩
theorem alive_join : (([] ++ [172, 2] ++ num ab.size ++ ab.data.toList) ++ seven : List UInt8) = aliveBytes := by
  rw [show ab.size = 2 from rfl, num2]; rfl
theorem alive_size : aliveText.size = 37 := by decide +kernel
theorem alive_ix (W : World) : (Instr.index 9 (.string aliveText) (.int .i64 0)).run Try.prog W = .ok (.int .u8 172) W := by
  rw [run_index_string W 9 aliveText .i64 0 Try.underlying9, dif_pos ⟨by omega, by rw [alive_size]; decide⟩]
  have : (aliveText[(0 : Int).toNat]'(by rw [alive_size]; decide)).toNat = 172 := by decide +kernel
  rw [this]; rfl
theorem alive_n1 : readNum 300 (aliveText.data.toList.drop 0) = .inr (300, 2) := by decide +kernel
theorem alive_n2 : readNum 2 (aliveText.data.toList.drop 2) = .inr (2, 1) := by decide +kernel
theorem alive_txt : txtRes aliveText 2 (readNum 2 (aliveText.data.toList.drop 2)) = (ab, 5, 0) := by
  rw [alive_n2]; decide +kernel
theorem alive_end : endOf aliveText (5 + 32) 0 = 0 := by decide +kernel
theorem alive_id : Lib.byteCells ((aliveText.data.toList.drop 5).take 32) = idCells seven := by
  have : (aliveText.data.toList.drop 5).take 32 = seven := by decide +kernel
  rw [this]; rfl

theorem sizeOf5 (W : World) : (sizeOf 5).run Try.prog W = .ok 1 W := by
  obtain ⟨i, hi, _, hsz, _⟩ := info5
  simp [sizeOf, typeInfo, hi, hsz]
/-- Ids are held against each other byte by byte. -/
theorem eq_ids (a b : List UInt8) (ha : a.length = 32) (hb : b.length = 32) (W : World) :
    (Op.equalIn 10000 33 (.agg (idCells a).toArray) (.agg (idCells b).toArray)).run Try.prog W = .ok (a == b) W :=
  run_equalIn_bytes W 9998 33 5 32 Try.underlying33 Try.underlying5 sizeOf5 a b ha hb
theorem eq_seven (W : World) : (Op.equalIn 10000 33 (.agg (idCells seven).toArray) (.agg #[.int .u8 7, .int .u8 0, .int .u8 0, .int .u8 0, .int .u8 0, .int .u8 0, .int .u8 0, .int .u8 0, .int .u8 0, .int .u8 0, .int .u8 0, .int .u8 0, .int .u8 0, .int .u8 0, .int .u8 0, .int .u8 0, .int .u8 0, .int .u8 0, .int .u8 0, .int .u8 0, .int .u8 0, .int .u8 0, .int .u8 0, .int .u8 0, .int .u8 0, .int .u8 0, .int .u8 0, .int .u8 0, .int .u8 0, .int .u8 0, .int .u8 0, .int .u8 0])).run Try.prog W = .ok true W := by
  have h := eq_ids seven seven rfl rfl W
  rw [beq_self_eq_true] at h
  exact h
set_option maxHeartbeats 1000000 in
set_option maxRecDepth 100000 in
theorem alive_any (w : World) : Calls Try.prog 10 #[] w fun e w' => e = .returned (.bool true) ∧ Below w.heap.size w w' := by
  have W0 := Wr.new w.heap.size w (Nat.le_refl _)
  go_enter Try.func10, Try.ntmps10
  go_wp2_with fail
  refine (number_one _ _ _ 300 _ _ _ (W0.alloc _) (by simp) (by simp)).mono ?_
  rw [clamp300, num300]
  rintro e w1 ⟨rfl, W1, k1⟩
  go_wp2_with fail
  refine (text_one _ _ _ ab _ _ _ (W1.alloc _) (by simp) (by decide) (by simp; rfl)).mono ?_
  rintro e w2 ⟨rfl, W2, k2⟩
  go_wp2_with fail
  refine (id_one _ _ _ seven _ _ _ (W2.alloc _) (by rw [show ab.size = 2 from rfl, num2]; decide) rfl (range_new w2 seven _ _ rfl _ rfl)).mono ?_
  rw [alive_join]
  rintro e w3 ⟨rfl, W3, k3⟩
  go_wp2_with fail
  refine (string_of _ _ _ _ W3).mono ?_
  rintro e w4 ⟨rfl, W4, k4⟩
  rw [show (⟨aliveBytes.toArray⟩ : ByteArray) = aliveText from rfl]
  have hsz := alive_size
  have hix := alive_ix
  go_wp2_with fail
  refine (newReader aliveText _).mono ?_
  rintro e w5 ⟨rfl, rfl⟩
  have R0 := Rd.new aliveText w4
  have hc1 := number_ok _ aliveText 0 300 _ R0 (by rw [hsz]; unfold maxLen; decide) (by omega)
  rw [alive_n1] at hc1
  go_wp2_with fail
  refine hc1.mono ?_
  rintro e w5 ⟨rfl, R1, m1⟩
  have hc2 := text_any _ aliveText 2 2 _ R1 (by rw [hsz]; unfold maxLen; decide) (by omega)
  rw [alive_txt] at hc2
  go_wp2_with fail
  refine hc2.mono ?_
  rintro e w6 ⟨rfl, R2, m2⟩
  have hc3 := id_ok _ aliveText 5 _ R2 (by rw [hsz]; unfold maxLen; decide) (by rw [hsz]; decide)
  rw [alive_id] at hc3
  have hab : (ab.toList == [97, 98]) = true := by decide +kernel
  go_wp2_with fail
  refine hc3.mono ?_
  rintro e w7 ⟨rfl, R3, m3⟩
  have hc4 := end_any _ aliveText (5 + 32) 0 _ R3 (by rw [hsz]; unfold maxLen; decide)
  rw [alive_end] at hc4
  have he7 := eq_seven
  go_wp2_with fail
  refine hc4.mono ?_
  rintro e w8 ⟨rfl, R4, m4⟩
  go_wp2
  go_ret
  have B0 : Below w.heap.size w (w.alloc (.cells #[.pointer none, .slice none 0 0] 30)) := (Below.refl _ _).alloc (Nat.le_refl _) _
  have B1 := (B0.alloc (by simp) _).trans k1.below
  have B2 := (B1.alloc B1.size _).trans k2.below
  have B3 := (B2.alloc B2.size _).trans k3.below
  have B4 := B3.trans k4.below
  have m := ((m1.trans m2).trans m3).trans m4
  have hm := m.below (B := w.heap.size) B4.size (by simp; have := B4.size; omega)
  exact ⟨rfl, (B4.alloc B4.size _).trans hm⟩
end Go.Proofs.Ytghmhheolbobpaa
