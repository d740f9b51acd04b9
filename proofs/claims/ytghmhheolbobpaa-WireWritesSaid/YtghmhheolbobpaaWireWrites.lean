/- WireWrites returns true, whatever the items: the writer holds what the reference reckons; a nil writer holds nothing. Conditions: the items lie in memory as a slice of structs. -/
import Derived.Test.YtghmhheolbobpaaWireNil
set_option linter.unusedVariables false
set_option maxRecDepth 100000
namespace Go.Proofs.Ytghmhheolbobpaa
open Go.RowKit Wire

set_option maxHeartbeats 400000 in
theorem writes_great (A : Option Addr) (cap : Nat) (l : List It) (w : World) (hs : ∀ x ∈ l, x.s.size ≤ maxLen) (hI : Its w A l) (hg : greatB l = true) :
    Calls Try.prog 3 #[.slice A l.length cap] w fun e w' => e = .returned (.bool true) ∧ Below w.heap.size w w' := by
  go_enter Try.func3, Try.ntmps3
  go_wp2_with fail
  refine (alive_any _).mono ?_
  rintro e w1 ⟨rfl, b1⟩
  have hgr := great_any A cap l w1 hs (hI.below b1)
  rw [hg] at hgr
  go_wp2_with fail
  refine hgr.mono ?_
  rintro e w2 ⟨rfl, rfl⟩
  go_wp2_with fail
  refine (alive_any _).mono ?_
  rintro e w2 ⟨rfl, b2⟩
  go_wp2
  go_ret
  exact ⟨rfl, below_step b1 b2⟩

theorem add_lists (a b : List UInt8) (ha : a.length ≤ 100000) (hb : b.length ≤ 100000) (W : World) : (Op.stringOp .add ⟨a.toArray⟩ ⟨b.toArray⟩).run Try.prog W = .ok (.string ⟨(a ++ b).toArray⟩) W :=
  run_string_add_lists W a b (by omega) (by omega)
theorem add_text (a : List UInt8) (s : ByteArray) (ha : a.length ≤ 100000) (hb : s.size ≤ 100000) (W : World) : (Op.stringOp .add ⟨a.toArray⟩ s).run Try.prog W = .ok (.string ⟨(a ++ s.data.toList).toArray⟩) W := by
  rw [run_string_add_sum W _ _ (by show a.toArray.size + s.size ≤ _; rw [List.size_toArray]; omega), mk_append]

/-- What stands before each round. -/
structure Wrt (B b : Nat) (w : World) (k : Nat) (v : Value) (wr : World) : Prop where
  holds : ∃ done : List UInt8, v = .string ⟨done.toArray⟩ ∧ done.length ≤ 510 * k ∧ Wr B b done wr
  below : Below B w wr
set_option maxHeartbeats 2000000 in
theorem writes_few (A : Option Addr) (cap : Nat) (l : List It) (w : World) (hs : ∀ x ∈ l, x.s.size ≤ maxLen) (hd : ∀ x ∈ l, x.id.length = 32) (hI : Its w A l) (hg : greatB l = false) :
    Calls Try.prog 3 #[.slice A l.length cap] w fun e w' => e = .returned (.bool true) ∧ Below w.heap.size w w' := by
  obtain ⟨g1, g2⟩ := great_false hg
  have HI := Lib.hid hI
  have HS := Lib.hid hs
  have HD := Lib.hid hd
  have HG2 := Lib.hid g2
  clear hI hs hd g2
  go_enter Try.func3, Try.ntmps3
  go_wp2_with fail
  refine (alive_any _).mono ?_
  rintro e w1 ⟨rfl, b1⟩
  have hgr := great_any A cap l w1 HS.out (HI.out.below b1)
  rw [hg] at hgr
  go_wp2_with fail
  refine hgr.mono ?_
  rintro e w2 ⟨rfl, rfl⟩
  have hB := b1.size
  have W0 := Wr.new w.heap.size w1 hB
  go_wp2
  go_loopw [5, 6] (fun v i wr => ∃ k : Nat, k ≤ l.length ∧ i = .int .i64 k ∧ Wrt w.heap.size w1.heap.size w k v wr) (fun _ i _ => l.length - (intOf i).toNat)
  case atStart => exact ⟨0, by omega, rfl, ⟨[], rfl, by simp, W0⟩, below_lay b1 _⟩
  case round =>
    obtain ⟨k, hk, rfl, ⟨done, rfl, hdl, hW⟩, hBel⟩ := hrel
    by_cases hlt : k < l.length
    · obtain ⟨bb, o, rfl, hr0⟩ := HI.out k hlt
      have HR := Lib.hid (rangeAt_below hr0 hBel)
      have hsz := HG2.out _ (List.getElem_mem hlt)
      have hdz := HD.out _ (List.getElem_mem hlt)
      clear hr0
      generalize hx : l[k] = x at *
      have hcl := x.cells_length hdz
      have H35 := Lib.hid (show (Try.prog.info? 35).map (·.size) = some x.cells.length by rw [hcl]; exact size35)
      have HI35 := Lib.hid (show (Try.prog.info? 35).map (·.size) = some x.cells.toArray.size by rw [List.size_toArray, hcl]; exact size35)
      have HC := Lib.hid (show x.cells.toArray.size = 36 by rw [List.size_toArray, hcl])
      have HDZ := Lib.hid hdz
      have XA : Xat wr.heap.size x (wr.alloc (.cells x.cells.toArray 35)) := heap_alloc_new wr _
      have WA := hW.alloc (.cells x.cells.toArray 35)
      have BA := below_lay hBel (.cells x.cells.toArray 35)
      have hne : wr.heap.size ≠ w1.heap.size := by have := hW.lt; omega
      have HL := Lib.hid (show done.length ≤ 30600 by omega)
      have HDL := Lib.hid hdl
      obtain ⟨r, hr⟩ : ∃ r, x.kind.tmod 4 = r := ⟨_, rfl⟩
      have x0 := XA.c0
      clear hcl hdz hdl
      have x1 := XA.c1
      have x3 := XA.c3
      by_cases h0 : r = 0
      · subst h0
        go_wp2_with (first
          | (refine wpList_load_mid rfl 35 _ rfl bb (o + k * 36) rfl x.cells _ HR.out Try.underlying35 rfl H35.out ?_)
          | (refine wpList_store_row rfl 35 _ _ rfl wr.heap.size x.cells.toArray rfl rfl 35 _ (heap_alloc_new wr _) HI35.out (by rw [HC.out]; rfl) x.cells_one ?_; rw [World.setRow_alloc_new]))
        refine (number_one _ _ _ x.n _ _ _ (WA.alloc _) (by have := HL.out; omega) (by simp)).mono ?_
        rintro e w3 ⟨rfl, W3, k3⟩
        have X3 := (XA.alloc _).kp hne k3
        have B3 := (below_lay BA _).trans k3.below
        have y1 := X3.c1
        go_wp2_with fail
        refine (number_nil _ _ _ _).mono ?_
        rintro e w4 ⟨rfl, rfl⟩
        have X4 := X3.alloc (.cells #[.int .i64 x.n] 3)
        have z1 := X4.c1
        go_wp2_with fail
        refine (ref_any x.n _).mono ?_
        rintro e w5 ⟨rfl, b5⟩
        have W5 := (W3.alloc _).below b5
        have B5 := below_step (below_lay B3 _) b5
        have hadd := add_lists done (num (clamp x.n)) (by have := HL.out; omega) (by have := num_six (clamp_le x.n); omega)
        go_wp2_with fail
        refine (string_of _ _ _ _ W5).mono ?_
        rintro e w6 ⟨rfl, W6, k6⟩
        go_wp2
        exact ⟨⟨k + 1, by omega, by go_num, ⟨_, rfl, by have := HDL.out; have := num_six (clamp_le x.n); rw [List.length_append]; omega, W6⟩, B5.trans k6.below⟩, by simp [intOf]; omega⟩
      by_cases h1 : r = 1
      · subst h1
        go_wp2_with (first
          | (refine wpList_load_mid rfl 35 _ rfl bb (o + k * 36) rfl x.cells _ HR.out Try.underlying35 rfl H35.out ?_)
          | (refine wpList_store_row rfl 35 _ _ rfl wr.heap.size x.cells.toArray rfl rfl 35 _ (heap_alloc_new wr _) HI35.out (by rw [HC.out]; rfl) x.cells_one ?_; rw [World.setRow_alloc_new]))
        refine (text_one _ _ _ x.s _ _ _ (WA.alloc _) (by have := HL.out; omega) (by omega) (by simp)).mono ?_
        rintro e w3 ⟨rfl, W3, k3⟩
        have X3 := (XA.alloc _).kp hne k3
        have B3 := (below_lay BA _).trans k3.below
        have y3 := X3.c3
        go_wp2_with fail
        refine (text_nil x.s _ _ _ (by simp)).mono ?_
        rintro e w4 ⟨rfl, b4⟩
        have X4 := (X3.alloc _).below b4
        have B4 := below_step (below_lay B3 _) b4
        have z3 := X4.c3
        go_wp2_with fail
        refine (ref_text x.s _ hsz).mono ?_
        rintro e w5 ⟨rfl, b5⟩
        have W5 := ((W3.alloc _).below b4).below b5
        have B5 := below_step B4 b5
        rw [List.append_assoc] at W5
        have L7 := num_six (n := x.s.size) (by unfold maxNum; omega)
        have hadd := add_lists done (num x.s.size ++ x.s.data.toList) (by have := HL.out; omega) (by rw [List.length_append, size_list]; omega)
        go_wp2_with fail
        refine (string_of _ _ _ _ W5).mono ?_
        rintro e w6 ⟨rfl, W6, k6⟩
        go_wp2
        exact ⟨⟨k + 1, by omega, by go_num, ⟨_, rfl, by have := HDL.out; rw [List.length_append, List.length_append, size_list]; omega, W6⟩, B5.trans k6.below⟩, by simp [intOf]; omega⟩
      by_cases h2 : r = 2
      · subst h2
        have HA4 := Lib.hid XA.c4
        have h33 := size33
        rw [← HDZ.out, ← idCells_length] at h33
        have H33 := Lib.hid h33
        clear h33
        go_wp2_with (first
          | (refine wpList_load_mid rfl 35 _ rfl bb (o + k * 36) rfl x.cells _ HR.out Try.underlying35 rfl H35.out ?_)
          | (refine wpList_store_row rfl 35 _ _ rfl wr.heap.size x.cells.toArray rfl rfl 35 _ (heap_alloc_new wr _) HI35.out (by rw [HC.out]; rfl) x.cells_one ?_; rw [World.setRow_alloc_new])
          | (refine wpList_load_mid rfl 33 _ rfl wr.heap.size 4 rfl (idCells x.id) _ HA4.out Try.underlying33 rfl H33.out ?_)
          | (refine wpList_build_ids rfl _ rfl x.id HDZ.out rfl ?_))
        refine (id_one _ _ _ x.id _ _ _ (WA.alloc _) (by have := HL.out; omega) HDZ.out (range_new _ x.id _ _ rfl _ (by simp))).mono ?_
        rintro e w3 ⟨rfl, W3, k3⟩
        have X3 := (XA.alloc _).kp hne k3
        have B3 := (below_lay BA _).trans k3.below
        have HA5 := Lib.hid X3.c4
        go_wp2_with (first
          | (refine wpList_load_mid rfl 33 _ rfl wr.heap.size 4 rfl (idCells x.id) _ HA5.out Try.underlying33 rfl H33.out ?_)
          | (refine wpList_build_ids rfl _ rfl x.id HDZ.out rfl ?_))
        refine (id_nil x.id _ _ _ HDZ.out (range_new _ x.id _ _ rfl _ (by simp))).mono ?_
        rintro e w4 ⟨rfl, b4⟩
        have X4 := (X3.alloc _).below b4
        have B4 := below_step (below_lay B3 _) b4
        have HA6 := Lib.hid X4.c4
        go_wp2_with (refine wpList_load_mid rfl 33 _ rfl wr.heap.size 4 rfl (idCells x.id) _ HA6.out Try.underlying33 rfl H33.out ?_)
        refine (ref_id x.id _ HDZ.out).mono ?_
        rintro e w5 ⟨rfl, b5⟩
        have W5 := ((W3.alloc _).below b4).below b5
        have B5 := below_step B4 b5
        have hadd := add_lists done x.id (by have := HL.out; omega) (by rw [HDZ.out]; omega)
        go_wp2_with fail
        refine (string_of _ _ _ _ W5).mono ?_
        rintro e w6 ⟨rfl, W6, k6⟩
        go_wp2
        exact ⟨⟨k + 1, by omega, by go_num, ⟨_, rfl, by have := HDL.out; rw [List.length_append, HDZ.out]; omega, W6⟩, B5.trans k6.below⟩, by simp [intOf]; omega⟩
      by_cases h3 : r = 3
      · subst h3
        go_wp2_with (first
          | (refine wpList_load_mid rfl 35 _ rfl bb (o + k * 36) rfl x.cells _ HR.out Try.underlying35 rfl H35.out ?_)
          | (refine wpList_store_row rfl 35 _ _ rfl wr.heap.size x.cells.toArray rfl rfl 35 _ (heap_alloc_new wr _) HI35.out (by rw [HC.out]; rfl) x.cells_one ?_; rw [World.setRow_alloc_new]))
        refine (raw_one _ _ _ x.s _ _ _ (WA.alloc _) (by have := HL.out; omega) (by simp)).mono ?_
        rintro e w3 ⟨rfl, W3, k3⟩
        have X3 := (XA.alloc _).kp hne k3
        have B3 := (below_lay BA _).trans k3.below
        have y3 := X3.c3
        go_wp2_with fail
        refine (raw_nil _ _ _ _).mono ?_
        rintro e w4 ⟨rfl, rfl⟩
        have X4 := X3.alloc (.cells #[.string x.s] 9)
        have z3 := X4.c3
        have W5 := W3.alloc (.cells #[.string x.s] 9)
        have B5 := below_lay B3 (.cells #[.string x.s] 9)
        have hadd := add_text done x.s (by have := HL.out; omega) (by omega)
        go_wp2_with fail
        refine (string_of _ _ _ _ W5).mono ?_
        rintro e w6 ⟨rfl, W6, k6⟩
        go_wp2
        exact ⟨⟨k + 1, by omega, by go_num, ⟨_, rfl, by have := HDL.out; rw [List.length_append, size_list]; omega, W6⟩, B5.trans k6.below⟩, by simp [intOf]; omega⟩
      go_wp2_with (first
          | (refine wpList_load_mid rfl 35 _ rfl bb (o + k * 36) rfl x.cells _ HR.out Try.underlying35 rfl H35.out ?_)
          | (refine wpList_store_row rfl 35 _ _ rfl wr.heap.size x.cells.toArray rfl rfl 35 _ (heap_alloc_new wr _) HI35.out (by rw [HC.out]; rfl) x.cells_one ?_; rw [World.setRow_alloc_new]))
      refine (string_of _ _ _ _ WA).mono ?_
      rintro e w6 ⟨rfl, W6, k6⟩
      go_wp2
      exact ⟨⟨k + 1, by omega, by go_num, ⟨_, rfl, by have := HDL.out; omega, W6⟩, BA.trans k6.below⟩, by simp [intOf]; omega⟩
    · go_wp2_with fail
      refine (alive_any _).mono ?_
      rintro e w5 ⟨rfl, b5⟩
      have W5 := hW.below b5
      have B5 := below_step hBel b5
      go_wp2_with fail
      refine (string_of _ _ _ _ W5).mono ?_
      rintro e w6 ⟨rfl, W6, k6⟩
      go_wp2_with fail
      refine (string_of_nil _).mono ?_
      rintro e w7 ⟨rfl, rfl⟩
      go_wp2
      go_ret
      exact ⟨rfl, B5.trans k6.below⟩
end Go.Proofs.Ytghmhheolbobpaa
