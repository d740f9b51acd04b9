/- The writer's Text and Id with a nil writer; the reference's Id; an item that the call has copied. Conditions: what the arguments read is in memory. -/
import Derived.Test.YtghmhheolbobpaaWireRefs
set_option linter.unusedVariables false
set_option maxRecDepth 100000
namespace Go.Proofs.Ytghmhheolbobpaa
open Go.RowKit Wire

set_option maxHeartbeats 1000000 in
theorem text_nil (s : ByteArray) (g c : Nat) (w : World) (hc : w.cell? ⟨g, 0, none⟩ = some (.string s)) :
    Calls Try.prog 14 #[.pointer none, .slice (some ⟨g, 0, none⟩) 1 c] w fun e w' => e = .returned (.tuple #[]) ∧ Below w.heap.size w w' := by
  go_enter Try.func14, Try.ntmps14
  go_wp2
  refine wp_loop_rounds 2 ?_
  rw [rounds_succ]
  go_wp2_with fail
  refine (number_nil _ _ _ _).mono ?_
  rintro e w1 ⟨rfl, rfl⟩
  go_wp2_with fail
  refine (raw_nil _ _ _ _).mono ?_
  rintro e w2 ⟨rfl, rfl⟩
  go_wp2
  rw [rounds_succ]
  go_wp2
  go_end0
  exact ⟨rfl, below_lay (below_lay (Below.refl _ _) _) _⟩
set_option maxHeartbeats 1000000 in
theorem id_nil (d : List UInt8) (g c : Nat) (w : World) (hd : d.length = 32) (hc : w.rangeAt g 0 (idCells d)) :
    Calls Try.prog 16 #[.pointer none, .slice (some ⟨g, 0, none⟩) 1 c] w fun e w' => e = .returned (.tuple #[]) ∧ Below w.heap.size w w' := by
  have h33 := size33
  rw [← hd, ← idCells_length] at h33
  have H33 := Lib.hid h33
  have HC := Lib.hid hc
  have hcv := conv_id (w.alloc (.cells (idCells d).toArray 33)) w.heap.size 32 d 32 hd.symm (fun j v hv => by
    rw [Go.Joins.cell_alloc_mark_at _ _ _ _ _ _ rfl]; simpa using hv)
  have ho : (idCells d).toArray.size = 32 := by rw [List.size_toArray, idCells_length, hd]
  have HI := Lib.hid (show (Try.prog.info? 33).map (·.size) = some (idCells d).toArray.size by rw [ho]; exact size33)
  have HO := Lib.hid ho
  clear ho h33 hc hd
  go_enter Try.func16, Try.ntmps16
  go_wp2
  refine wp_loop_rounds 2 ?_
  rw [rounds_succ]
  go_wp2_with (first
    | (refine wpList_load_mid rfl 33 _ rfl g 0 rfl (idCells d) _ HC.out Try.underlying33 rfl H33.out ?_)
    | (refine wpList_store_row rfl 33 _ _ rfl w.heap.size (idCells d).toArray rfl rfl 33 _ (heap_alloc_new w _) HI.out (by rw [HO.out]; rfl) (idCells_one d) ?_; rw [World.setRow_alloc_new]))
  refine (raw_nil _ _ _ _).mono ?_
  rintro e w2 ⟨rfl, rfl⟩
  go_wp2
  rw [rounds_succ]
  go_wp2
  go_end0
  exact ⟨rfl, below_lay (below_lay (Below.refl _ _) _) _⟩
/-- The reference's Id. -/
theorem ref_id (d : List UInt8) (w : World) (hd : d.length = 32) : Calls Try.prog 17 #[.agg (idCells d).toArray] w fun e w' => e = .returned (.string ⟨d.toArray⟩) ∧ Below w.heap.size w w' := by
  have hcv := conv_id (w.alloc (.cells (idCells d).toArray 33)) w.heap.size 32 d 32 hd.symm (fun j v hv => by
    rw [Go.Joins.cell_alloc_mark_at _ _ _ _ _ _ rfl]; simpa using hv)
  clear hd
  go_enter Try.func17, Try.ntmps17
  go_wp2
  go_ret
  exact ⟨rfl, below_lay (Below.refl _ _) _⟩

/-- An item that lies in a block of its own. -/
def Xat (g : Nat) (x : It) (w : World) : Prop := w.heap[g]? = some (.cells x.cells.toArray 35 (0, 0))
section
variable {g : Nat} {x : It} {w w' : World}
theorem Xat.c0 (h : Xat g x w) : w.cell? ⟨g, 0, none⟩ = some (.int .i64 x.kind) := by rw [Lib.cell_of_heap h]; rfl
theorem Xat.c1 (h : Xat g x w) : w.cell? ⟨g, 1, none⟩ = some (.int .i64 x.n) := by rw [Lib.cell_of_heap h]; rfl
theorem Xat.c3 (h : Xat g x w) : w.cell? ⟨g, 3, none⟩ = some (.string x.s) := by rw [Lib.cell_of_heap h]; rfl
theorem Xat.c4 (h : Xat g x w) : w.rangeAt g 4 (idCells x.id) := fun j v hv => by
  rw [Lib.cell_of_heap h, List.getElem?_toArray]
  unfold It.cells
  rw [List.getElem?_append_right (by simp)]
  simpa using hv
theorem Xat.lt (h : Xat g x w) : g < w.heap.size := by
  rcases Nat.lt_or_ge g w.heap.size with h' | h'
  · exact h'
  · unfold Xat at h; simp [Array.getElem?_eq_none h'] at h
theorem Xat.alloc (h : Xat g x w) (o : Obj) : Xat g x (w.alloc o) := (Lib.alloc_old w o g h.lt).trans h
theorem Xat.below (h : Xat g x w) (hb : Below w.heap.size w w') : Xat g x w' := (hb.block g h.lt).trans h
theorem Xat.kp {B b : Nat} (h : Xat g x w) (hg : g ≠ b) (hk : Kp B b w w') : Xat g x w' := hk.cell hg h (by decide)
end
theorem size35 : (Try.prog.info? 35).map (·.size) = some 36 := by kernel_rfl
theorem It.cells_length (x : It) (h : x.id.length = 32) : x.cells.length = 36 := by unfold It.cells; simp [idCells_length, h]
theorem It.cells_one (x : It) : x.cells.toArray.all (·.oneCell') = true := all_oneCell_toArray fun v hv => by
  unfold It.cells idCells at hv
  simp at hv
  rcases hv with rfl | rfl | rfl | rfl | ⟨u, _, rfl⟩ <;> rfl
end Go.Proofs.Ytghmhheolbobpaa
