/- Contracts of wire.Writer's Number, Raw, Text, Id and String, each called with one thing, and with a nil writer. Conditions: the writer lies in a block of its own; what it holds stays within some 2^46 bytes. -/
import Derived.Test.YtghmhheolbobpaaBuild
import Derived.Test.YtghmhheolbobpaaNum
import Derived.Deep.MidRow
import Derived.Deep.WholeRow
set_option linter.unusedVariables false
namespace Go.Proofs.Ytghmhheolbobpaa
open Go.RowKit Wire

/-- The writer in block b holds the bytes l. -/
def Wr (B b : Nat) (l : List UInt8) (w : World) : Prop := Lib.IsBuilderF 30 5 B b (Lib.byteCells l) w
theorem Wr.alloc {B b : Nat} {l : List UInt8} {w : World} (h : Wr B b l w) (o : Obj) : Wr B b l (w.alloc o) := h.elim (fun x => .inl (x.alloc o)) (fun x => .inr (x.alloc o))
theorem Wr.low {B b : Nat} {l : List UInt8} {w : World} (h : Wr B b l w) : B ≤ b := h.elim (fun x => x.1) (fun x => x.1)
theorem Wr.lt {B b : Nat} {l : List UInt8} {w : World} (h : Wr B b l w) : b < w.heap.size := h.elim (fun x => x.lt) (fun x => x.lt)
theorem Wr.base {B b : Nat} {l : List UInt8} {w : World} (h : Wr B b l w) : B ≤ w.heap.size := by have := h.low; have := h.lt; omega
theorem Kp.alloc {B b : Nat} {a w : World} (h : Kp B b a w) (hB : B ≤ w.heap.size) (o : Obj) : Kp B b a (w.alloc o) := ⟨h.below.alloc hB o, h.others.alloc o⟩

theorem wrByte (B b : Nat) (l : List UInt8) (c : UInt8) (w : World) (h : Wr B b l w) (hlen : l.length + 1 ≤ 140737488355328) :
    Calls Try.prog 37 #[.pointer (some ⟨b, 0, none⟩), .int .u8 (c.toNat : Int)] w fun e w' => e = .returned .nilIface ∧ Wr B b (l ++ [c]) w' ∧ Kp B b w w' := by
  refine (writeByte_any B b _ _ w h (by rw [Lib.byteCells_length]; exact hlen) h.base).mono ?_
  rintro e w' ⟨rfl, h1, hk⟩
  refine ⟨rfl, .inr ?_, hk⟩
  rw [Lib.byteCells_append]
  exact h1
theorem wrString (B b : Nat) (l : List UInt8) (s : ByteArray) (w : World) (h : Wr B b l w) (hlen : l.length + s.size ≤ 140737488355328) :
    Calls Try.prog 38 #[.pointer (some ⟨b, 0, none⟩), .string s] w fun e w' => e = .returned (.tuple #[.int .i64 s.size, .nilIface]) ∧ Wr B b (l ++ s.data.toList) w' ∧ Kp B b w w' := by
  refine (writeString_any B b _ _ w h (by rw [Lib.byteCells_length]; exact hlen) h.base).mono ?_
  rintro e w' ⟨rfl, h1, hk⟩
  refine ⟨rfl, .inr ?_, hk⟩
  rw [Lib.byteCells_append, ← Lib.strCells_eq]
  exact h1

/-! ### A nil writer -/
set_option maxHeartbeats 400000 in
theorem number_nil (A : Option Addr) (n c : Nat) (w : World) : Calls Try.prog 12 #[.pointer none, .slice A n c] w fun e w' => e = .returned (.tuple #[]) ∧ w = w' := by
  go_enter Try.func12, Try.ntmps12
  go_wp2
  refine bodyPost_ret (results_none rfl _ _ _) rfl ?_
  exact ⟨rfl, rfl⟩
set_option maxHeartbeats 400000 in
theorem raw_nil (A : Option Addr) (n c : Nat) (w : World) : Calls Try.prog 18 #[.pointer none, .slice A n c] w fun e w' => e = .returned (.tuple #[]) ∧ w = w' := by
  go_enter Try.func18, Try.ntmps18
  go_wp2
  refine bodyPost_ret (results_none rfl _ _ _) rfl ?_
  exact ⟨rfl, rfl⟩
theorem string_of_nil (w : World) : Calls Try.prog 19 #[.pointer none] w fun e w' => e = .returned (.string ⟨#[]⟩) ∧ w = w' := by
  go_enter Try.func19, Try.ntmps19
  go_wp2
  go_ret
  exact ⟨rfl, rfl⟩
theorem string_of (B b : Nat) (l : List UInt8) (w : World) (h : Wr B b l w) :
    Calls Try.prog 19 #[.pointer (some ⟨b, 0, none⟩)] w fun e w' => e = .returned (.string ⟨l.toArray⟩) ∧ Wr B b l w' ∧ Kp B b w w' := by
  go_enter Try.func19, Try.ntmps19
  go_wp2_with fail
  refine (string_any B b l _ h h.base).mono ?_
  rintro e w1 ⟨rfl, h1, hk⟩
  go_wp2
  go_ret
  exact ⟨rfl, h1, hk⟩

/-! ### One number -/
theorem low_byte (m : Nat) : bits .or .u8 ((m : Int) % (128 : Int)) 128 = ((UInt8.ofNat (m % 128 + 128)).toNat : Int) := by
  rw [byte_great, show (m : Int) % (128 : Int) = ((m % 128 : Nat) : Int) by omega, show (128 : Int) = ((128 : Nat) : Int) by rfl, u8_or_nat _ _ (by omega) (by omega)]
  congr 1
  have : ∀ k : Nat, k < 128 → k ||| 128 = k + 128 := by decide
  exact this _ (by omega)
theorem wrByte_at (B b : Nat) (l : List UInt8) (c : UInt8) (x : Int) (hx : x = (c.toNat : Int)) (w : World) (h : Wr B b l w) (hlen : l.length + 1 ≤ 140737488355328) :
    Calls Try.prog 37 #[.pointer (some ⟨b, 0, none⟩), .int .u8 x] w fun e w' => e = .returned .nilIface ∧ Wr B b (l ++ [c]) w' ∧ Kp B b w w' := by
  rw [hx]; exact wrByte B b l c w h hlen
set_option maxHeartbeats 1000000 in
set_option maxRecDepth 100000 in
theorem number_one (B b : Nat) (l : List UInt8) (n : Int) (g c : Nat) (w : World) (hWr : Wr B b l w) (hl : l.length ≤ 70368744177664) (hc : w.cell? ⟨g, 0, none⟩ = some (.int .i64 n)) :
    Calls Try.prog 12 #[.pointer (some ⟨b, 0, none⟩), .slice (some ⟨g, 0, none⟩) 1 c] w fun e w' => e = .returned (.tuple #[]) ∧ Wr B b (l ++ num (clamp n)) w' ∧ Kp B b w w' := by
  go_enter Try.func12, Try.ntmps12
  go_wp2
  refine wp_loop_rounds 2 ?_
  rw [rounds_succ]
  go_wp2
  all_goals
    go_loopw [5] (fun v wr => ∃ (m : Nat) (done : List UInt8), v = .int .i64 m ∧ m ≤ 1099511627775 ∧ Hid (done ++ num m = num (clamp n)) ∧ done.length ≤ 6 ∧ Wr B b (l ++ done) wr ∧ Kp B b w wr) (fun v _ => (intOf v).toNat)
    case atStart =>
      refine ⟨clamp n, [], ?_, clamp_le n, Lib.hid rfl, by simp, by rw [List.append_nil]; exact hWr, Kp.refl _ _ _⟩
      unfold clamp
      congr 1
      omega
    case round =>
      obtain ⟨m, done, rfl, hm, HD, hdl, hW, hK⟩ := hrel
      have hlen : (l ++ done).length + 1 ≤ 140737488355328 := by rw [List.length_append]; omega
      have HLEN := Lib.hid hlen
      clear hlen
      by_cases hge : 128 ≤ m
      · go_wp2_with fail
        refine (wrByte_at B b (l ++ done) (UInt8.ofNat (m % 128 + 128)) _ (low_byte m) _ hW HLEN.out).mono ?_
        rintro e w1 ⟨rfl, hW1, hK1⟩
        go_wp2
        refine ⟨⟨m / 128, done ++ [UInt8.ofNat (m % 128 + 128)], by go_num, by omega, Lib.hid ?_, ?_, by rw [← List.append_assoc]; exact hW1, hK.trans hK1⟩, by simp [intOf]; omega⟩
        · rw [← HD.out, num_great (n := m) (by omega)]; simp
        · have h6 := num_six (clamp_le n)
          have h7 := congrArg List.length HD.out
          have h8 := num_pos m
          rw [List.length_append] at h7
          rw [List.length_append, List.length_singleton]
          omega
      · go_wp2_with fail
        refine (wrByte_at B b (l ++ done) (UInt8.ofNat m) _ (by rw [byte_small (by omega)]) _ hW HLEN.out).mono ?_
        rintro e w1 ⟨rfl, hW1, hK1⟩
        go_wp2
        rw [rounds_succ]
        go_wp2
        go_end0
        refine ⟨rfl, ?_, hK.trans hK1⟩
        rw [← HD.out, num_small (n := m) (by omega), ← List.append_assoc]
        exact hW1

/-! ### One text, as it is -/
set_option maxHeartbeats 1000000 in
theorem raw_one (B b : Nat) (l : List UInt8) (s : ByteArray) (g c : Nat) (w : World) (hWr : Wr B b l w) (hl : l.length + s.size ≤ 140737488355328) (hc : w.cell? ⟨g, 0, none⟩ = some (.string s)) :
    Calls Try.prog 18 #[.pointer (some ⟨b, 0, none⟩), .slice (some ⟨g, 0, none⟩) 1 c] w fun e w' => e = .returned (.tuple #[]) ∧ Wr B b (l ++ s.data.toList) w' ∧ Kp B b w w' := by
  go_enter Try.func18, Try.ntmps18
  go_wp2
  refine wp_loop_rounds 2 ?_
  rw [rounds_succ]
  go_wp2_with fail
  refine (wrString B b l s _ hWr hl).mono ?_
  rintro e w1 ⟨rfl, hW1, hK1⟩
  go_wp2
  rw [rounds_succ]
  go_wp2
  go_end0
  exact ⟨rfl, hW1, hK1⟩

/-! ### One text, its length ahead of it -/
set_option maxHeartbeats 1000000 in
theorem text_one (B b : Nat) (l : List UInt8) (s : ByteArray) (g c : Nat) (w : World) (hWr : Wr B b l w) (hl : l.length ≤ 70368744177663) (hs : s.size ≤ 1099511627775) (hc : w.cell? ⟨g, 0, none⟩ = some (.string s)) :
    Calls Try.prog 14 #[.pointer (some ⟨b, 0, none⟩), .slice (some ⟨g, 0, none⟩) 1 c] w fun e w' => e = .returned (.tuple #[]) ∧ Wr B b (l ++ num s.size ++ s.data.toList) w' ∧ Kp B b w w' := by
  go_enter Try.func14, Try.ntmps14
  go_wp2
  refine wp_loop_rounds 2 ?_
  rw [rounds_succ]
  go_wp2_with fail
  refine (number_one B b l (s.size : Int) _ _ _ (hWr.alloc _) (by omega) (by simp)).mono ?_
  rw [clamp_self (by unfold maxNum; omega)]
  rintro e w1 ⟨rfl, hW1, hK1⟩
  go_wp2_with fail
  refine (raw_one B b (l ++ num s.size) s _ _ _ (hW1.alloc _) (by have := num_six (n := s.size) (by unfold maxNum; omega); rw [List.length_append]; omega) (by simp)).mono ?_
  rintro e w2 ⟨rfl, hW2, hK2⟩
  go_wp2
  rw [rounds_succ]
  go_wp2
  go_end0
  exact ⟨rfl, hW2, ((((Kp.refl B b w).alloc hWr.base _).trans hK1).alloc hW1.base _).trans hK2⟩

/-! ### One id -/
/-- Bytes as cells. -/
def idCells (d : List UInt8) : List Value := d.map fun u => Value.int .u8 (u.toNat : Int)
theorem idCells_length (d : List UInt8) : (idCells d).length = d.length := by unfold idCells; rw [List.length_map]
theorem idCells_one (d : List UInt8) : (idCells d).toArray.all (·.oneCell') = true := all_oneCell_toArray fun v hv => by
  unfold idCells at hv
  obtain ⟨u, _, rfl⟩ := List.mem_map.1 hv
  rfl
theorem size33 : (Try.prog.info? 33).map (·.size) = some 32 := by kernel_rfl
theorem conv_id (W : World) (g cap : Nat) (d : List UInt8) (n : Nat) (hn : n = d.length) (h : ∀ j v, (idCells d)[j]? = some v → W.cell? ⟨g, j, none⟩ = some v) :
    (convert 26 9 (.slice (some ⟨g, 0, none⟩) n cap)).run Try.prog W = .ok (.string ⟨d.toArray⟩) W := by
  subst hn
  refine run_convert_bytes_back _ 26 9 5 ⟨g, 0, none⟩ cap d Try.underlying26 Try.underlying5 Try.underlying9 fun j hj => ?_
  have e : (⟨g, 0, none⟩ : Addr).add j = ⟨g, j, none⟩ := by unfold Addr.add; split <;> simp_all
  rw [e]
  exact h j _ (by unfold idCells; rw [List.getElem?_map, List.getElem?_eq_getElem hj]; rfl)
set_option maxHeartbeats 1000000 in
set_option maxRecDepth 100000 in
theorem id_one (B b : Nat) (l d : List UInt8) (g c : Nat) (w : World) (hWr : Wr B b l w) (hl : l.length ≤ 70368744177663) (hd : d.length = 32) (hc : w.rangeAt g 0 (idCells d)) :
    Calls Try.prog 16 #[.pointer (some ⟨b, 0, none⟩), .slice (some ⟨g, 0, none⟩) 1 c] w fun e w' => e = .returned (.tuple #[]) ∧ Wr B b (l ++ d) w' ∧ Kp B b w w' := by
  have h33 := size33
  rw [← hd, ← idCells_length] at h33
  have H33 := Lib.hid h33
  have HD := Lib.hid hd
  have HC := Lib.hid hc
  clear h33 hd hc
  have hcv := conv_id (w.alloc (.cells (idCells d).toArray 33)) w.heap.size 32 d 32 HD.out.symm (fun j v hv => by
    rw [Go.Joins.cell_alloc_mark_at _ _ _ _ _ _ rfl]; simpa using hv)
  have hsz : (⟨d.toArray⟩ : ByteArray).size = 32 := by show d.toArray.size = 32; rw [List.size_toArray, HD.out]
  have HSZ := Lib.hid hsz
  clear hsz
  have ho : (idCells d).toArray.size = 32 := by rw [List.size_toArray, idCells_length, HD.out]
  have HI := Lib.hid (show (Try.prog.info? 33).map (·.size) = some (idCells d).toArray.size by rw [ho]; exact size33)
  have HO := Lib.hid ho
  clear ho
  go_enter Try.func16, Try.ntmps16
  go_wp2
  refine wp_loop_rounds 2 ?_
  rw [rounds_succ]
  go_wp2_with (first
    | (refine wpList_load_mid rfl 33 _ rfl g 0 rfl (idCells d) _ HC.out Try.underlying33 rfl H33.out ?_)
    | (refine wpList_store_row rfl 33 _ _ rfl w.heap.size (idCells d).toArray rfl rfl 33 _ (heap_alloc_new w _) HI.out (by rw [HO.out]; rfl) (idCells_one d) ?_; rw [World.setRow_alloc_new]))
  refine (raw_one B b l ⟨d.toArray⟩ _ _ _ ((hWr.alloc _).alloc _) (by rw [HSZ.out]; omega) ((Go.Joins.cell_alloc_mark_at _ _ _ _ _ _ (by simp)).trans rfl)).mono ?_
  rintro e w2 ⟨rfl, hW2, hK2⟩
  go_wp2
  rw [rounds_succ]
  go_wp2
  go_end0
  exact ⟨rfl, hW2, (((Kp.refl B b w).alloc hWr.base _).alloc (hWr.alloc _).base _).trans hK2⟩

theorem Kp.cell {B b : Nat} {w w' : World} (h : Kp B b w w') {g : Nat} (hg : g ≠ b) {cs : Array Value} {t : TypeId} {fz : Nat × Nat} (hb : w.heap[g]? = some (.cells cs t fz)) (ht : t ≠ 5) : w'.heap[g]? = some (.cells cs t fz) :=
  h.others g _ hb (by simpa using hg) (by rintro c z ⟨⟩; exact ht rfl)
end Go.Proofs.Ytghmhheolbobpaa
