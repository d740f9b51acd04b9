/- The contract of wire.Reader's Id where 32 bytes are left. Conditions: the block is a reader's, the text is within the form's reach. -/
import Derived.Test.YtghmhheolbobpaaReadText
import Derived.Test.YtghmhheolbobpaaWrite
import Derived.Lib.BufferWrite
import Derived.Deep.RegionLaw
set_option linter.unusedVariables false
namespace Go.Proofs.Ytghmhheolbobpaa
open Go.RowKit Wire

theorem Ko.alloc {b : Nat} {a w : World} (h : Ko b a w) (o : Obj) : Ko b a (w.alloc o) :=
  ⟨h.os, h.tape, h.output, Nat.le_trans h.size (by simp), fun i hi hne => (Below.heap_alloc w o i (Nat.lt_of_lt_of_le hi h.size)).trans (h.block i hi hne)⟩
theorem Ko.setRow {b : Nat} {a w : World} (h : Ko b a w) {g : Nat} (hg : a.heap.size ≤ g) (cs : Array Value) : Ko b a (w.setRow g cs) :=
  ⟨h.os, h.tape, h.output, by rw [size_setRow]; exact h.size, fun i hi hne => (setRow_other w g i cs (by omega)).trans (h.block i hi hne)⟩
/-- 32 zero bytes as cells. -/
def zero32 : Array Value := #[.int .u8 0, .int .u8 0, .int .u8 0, .int .u8 0, .int .u8 0, .int .u8 0, .int .u8 0, .int .u8 0, .int .u8 0, .int .u8 0, .int .u8 0, .int .u8 0, .int .u8 0, .int .u8 0, .int .u8 0, .int .u8 0, .int .u8 0, .int .u8 0, .int .u8 0, .int .u8 0, .int .u8 0, .int .u8 0, .int .u8 0, .int .u8 0, .int .u8 0, .int .u8 0, .int .u8 0, .int .u8 0, .int .u8 0, .int .u8 0, .int .u8 0, .int .u8 0]
theorem id_copy (W : World) (g : Nat) (t : ByteArray) (cur : Array Value) (hg : W.heap[g]? = some (.cells cur 33 (0, 0))) (hcur : cur.size = 32) (ht : t.size = 32) :
    (Builtin.copy_ #[26, 9] 3 #[.slice (some ⟨g, 0, none⟩) 32 32, .string t]).run Try.prog W = .ok (.int .i64 32) (W.setRow g (Lib.byteCells t.data.toList).toArray) := by
  obtain ⟨i, hi, _, hsz, _⟩ := info5
  have h := Lib.run_copy_row_string (P := Try.prog) W 26 9 3 5 g 0 32 32 t cur 33 Try.underlying26 (by rw [hi]; simp [hsz]) hg (by omega) (by omega)
  rw [ht] at h
  rw [h]
  have e : cur.toList.drop (0 + 32) = [] := by rw [List.drop_of_length_le (by simp [hcur])]
  rw [e, List.take_zero, List.nil_append, List.append_nil]
  rfl
theorem id_blocks (b : Nat) (w w3 : World) (hb : b < w.heap.size) (k : Ko b ((w.alloc (.cells zero32 33)).alloc (.cells zero32 33)).drew w3) :
    w3.heap[w.heap.size + 1]? = some (.cells zero32 33 (0, 0)) ∧ w3.heap[w.heap.size]? = some (.cells zero32 33 (0, 0)) := by
  refine ⟨(k.block _ (by show _ < ((w.alloc _).alloc _).heap.size; simp) (by intro e; injection e with e; omega)).trans ?_, (k.block _ (by show _ < ((w.alloc _).alloc _).heap.size; simp; omega) (by intro e; injection e with e; omega)).trans ?_⟩
  · exact heap_alloc2_new w _ _
  · exact heap_alloc2_old w _ _
theorem extract_size (s : ByteArray) (p n : Nat) (h : p + n ≤ s.size) : (s.extract p (p + n)).size = n := by rw [ByteArray.size_extract]; omega
theorem extract_list (s : ByteArray) (p n : Nat) : (s.extract p (p + n)).data.toList = (s.data.toList.drop p).take n := by
  rw [ByteArray.data_extract, Array.toList_extract, List.extract_eq_take_drop]
  congr 1
  omega
set_option maxHeartbeats 1000000 in
set_option maxRecDepth 100000 in
theorem id_ok (b : Nat) (s : ByteArray) (p : Nat) (w : World) (h : Rd b s p 0 w) (hs : s.size ≤ maxLen) (hp : p + 32 ≤ s.size) :
    Calls Try.prog 23 #[.pointer (some ⟨b, 0, none⟩)] w fun e w' => e = .returned (.agg (Lib.byteCells ((s.data.toList.drop p).take 32)).toArray) ∧ Rd b s (p + 32) 0 w' ∧ Ko b w w' := by
  have HS := Lib.hid hs
  have HP := Lib.hid hp
  have HB := h.lt
  clear hs hp
  go_enter Try.func23, Try.ntmps23
  go_wp2
  go_region_with (go_at_call 24; refine (raw_ok b s p 32 _ (h.alloc _ |>.alloc _ |>.drew) HS.out HP.out).mono ?_; rintro e w3 ⟨rfl, h3, k3⟩; have hcp := id_copy w3 (w.heap.size + 1) (s.extract p (p + 32)) zero32 (id_blocks b w w3 HB k3).1 rfl (extract_size s p 32 HP.out))
  obtain ⟨cs, hcs⟩ : ∃ cs, cs = (Lib.byteCells ((s.data.toList.drop p).take 32)).toArray := ⟨_, rfl⟩
  have hcz : cs.size = 32 := by
    rw [hcs, List.size_toArray, Lib.byteCells_length]
    have h1 : s.data.toList.length = s.size := by simp
    rw [List.length_take, List.length_drop, h1]
    have := HP.out
    omega
  have hc1 : cs.all (·.oneCell') = true := by rw [hcs]; exact idCells_one _
  have HBK := id_blocks b w w3 HB k3
  rw [← hcs]
  have HA : Hid ((w3.setRow (w.heap.size + 1) cs).heap[w.heap.size + 1]? = some (.cells cs 33 (0, 0))) := Lib.hid (setRow_heap w3 _ _ _ 33 _ HBK.1)
  have HZ : Hid ((w3.setRow (w.heap.size + 1) cs).heap[w.heap.size]? = some (.cells zero32 33 (0, 0))) := Lib.hid ((setRow_other w3 _ _ _ (by omega)).trans HBK.2)
  have HS2 : Hid ((Try.prog.info? 33).map (·.size) = some cs.size) := Lib.hid (by rw [hcz]; exact size33)
  have HCZ := Lib.hid hcz
  have HCS := Lib.hid hcs
  have HC1 := Lib.hid hc1
  clear hcz hcs hc1 hcp
  go_wp2_with (first
    | (refine wpList_load_row rfl 33 _ rfl _ rfl 33 cs (0, 0) _ HA.out Try.underlying33 rfl HS2.out ?_)
    | (refine wpList_store_row rfl 33 _ _ rfl _ cs rfl rfl 33 zero32 HZ.out HS2.out (by rw [HCZ.out]; rfl) HC1.out ?_))
  refine bodyPost_ret (results_cell_row (p := 2) (ty := 33) rfl _ _ w.heap.size 33 cs (0, 0) _ rfl (setRow_heap _ _ zero32 _ 33 _ HZ.out) Try.underlying33 rfl HS2.out) rfl ?_
  refine ⟨by rw [HCS.out], ?_, ?_⟩
  · exact ((setRow_other _ _ _ _ (by omega)).trans (setRow_other _ _ _ _ (by omega))).trans h3
  · exact ((((((Ko.refl b w).alloc _).alloc _).drew).trans k3).setRow (by omega) _).setRow (Nat.le_refl _) _
end Go.Proofs.Ytghmhheolbobpaa
