/- WireBack returns true, whatever the items: what is written is read back. Conditions: the items lie in memory as a slice of structs. -/
import Derived.Test.YtghmhheolbobpaaBackPlain
import Derived.Deep.RegionHeld3
import Derived.Great.BuildSlice
set_option linter.unusedVariables false
namespace Go.Proofs.Ytghmhheolbobpaa
open Go.RowKit Wire

theorem info33 : ∃ i z, Try.prog.info? 33 = some i ∧ i.zero = some z ∧ i.size = 32 := by
  have h : (Try.prog.info? 33).bind (fun i => i.zero.map fun _ => i.size) = some 32 := by kernel_rfl
  cases hi : Try.prog.info? 33 with
  | none => rw [hi] at h; cases h
  | some i =>
    rw [hi] at h
    cases hz : i.zero with
    | none => simp [hz] at h
    | some z => exact ⟨i, z, rfl, hz, by simpa [hz] using h⟩
theorem run_build_ids (d : List UInt8) (hd : d.length = 32) (W : World) :
    (Instr.buildSlice 74 1 #[(0, .agg (idCells d).toArray)]).run Try.prog W = .ok (.slice (some ⟨W.heap.size, 0, none⟩) 1 1) (W.alloc (.cells (idCells d).toArray 33)) := by
  obtain ⟨i, z, hi, hz, hsz⟩ := info33
  refine run_buildSlice W 74 33 1 _ _ i z Try.underlying74 hi hz (by rw [hsz]; decide) (by rw [hsz]; decide) ?_
  have h := Great.fill_whole (s := 32) (by decide) [.agg (idCells d).toArray] ((Array.range (1 * 32)).map (z.cells[· % z.cells.size]!)) (fun v hv => by
    rw [List.mem_singleton] at hv; subst hv; show (idCells d).toArray.size = 32; rw [List.size_toArray, idCells_length, hd]) (by simp)
  rw [hsz]
  refine h.trans ?_
  simp [Value.cells]

theorem wpList_build_ids {ops : Array Oper} {rest : List Oper} {o : Oper} {a : Act} {w : World} {Q : Exit → Act → World → Prop} (hg : o.guard = none) (x : Operand) (ho : o.op = .buildSlice 74 1 #[(0, x)]) (d : List UInt8) (hd : d.length = 32) (hx : a.eval x = .agg (idCells d).toArray)
    (h : wpList Try.prog ops Q rest (a.put o.dst (.slice (some ⟨w.heap.size, 0, none⟩) 1 1)) (w.alloc (.cells (idCells d).toArray 33))) : wpList Try.prog ops Q (o :: rest) a w := by
  refine wpList_plain hg fun K hK => ?_
  have hr := run_build_ids d hd w
  unfold Oper.wp execOp
  simp only [ho, Sem.run_bind, List.map_toArray, List.map_cons, List.map_nil, hx, hr, Result.andThen_ok]
  exact hK _ _ h

set_option maxHeartbeats 400000 in
theorem back_great (A : Option Addr) (cap : Nat) (l : List It) (w : World) (hs : ∀ x ∈ l, x.s.size ≤ maxLen) (hI : Its w A l) (hg : greatB l = true) :
    Calls Try.prog 4 #[.slice A l.length cap] w fun e w' => e = .returned (.bool true) ∧ Below w.heap.size w w' := by
  go_enter Try.func4, Try.ntmps4
  go_wp2_with fail
  refine (alive_any _).mono ?_
  rintro e w1 ⟨rfl, b1⟩
  have hgr := great_any A cap l w1 hs (hI.below b1)
  rw [hg] at hgr
  go_wp2_with fail
  refine hgr.mono ?_
  rintro e w2 ⟨rfl, rfl⟩
  go_wp2_with fail
  refine (alive_any _).mono ?_
  rintro e w2 ⟨rfl, b2⟩
  go_wp2
  go_ret
  exact ⟨rfl, below_step b1 b2⟩

set_option maxHeartbeats 2000000 in
set_option maxRecDepth 100000 in
theorem back_few (A : Option Addr) (cap : Nat) (l : List It) (w : World) (hs : ∀ x ∈ l, x.s.size ≤ maxLen) (hd : ∀ x ∈ l, x.id.length = 32) (hI : Its w A l) (hg : greatB l = false) :
    Calls Try.prog 4 #[.slice A l.length cap] w fun e w' => e = .returned (.bool true) ∧ Below w.heap.size w w' := by
  obtain ⟨g1, g2⟩ := great_false hg
  have hib : ∀ k, (itbs (l.take k)).length ≤ 62640 := fun k => by have := itbs_len l k (fun x hx => ⟨g2 x hx, hd x hx⟩); omega
  have HI := Lib.hid hI
  have HS := Lib.hid hs
  have HD := Lib.hid hd
  have HIB := Lib.hid hib
  have HG2 := Lib.hid g2
  clear hI hs hd hib g2
  go_enter Try.func4, Try.ntmps4
  go_wp2_with fail
  refine (alive_any _).mono ?_
  rintro e w1 ⟨rfl, b1⟩
  have hgr := great_any A cap l w1 HS.out (HI.out.below b1)
  rw [hg] at hgr
  go_wp2_with fail
  refine hgr.mono ?_
  rintro e w2 ⟨rfl, rfl⟩
  have hB := b1.size
  have W0 := Wr.new w.heap.size w1 hB
  go_wp2
  go_loopw [4] (fun i wr => ∃ k : Nat, k ≤ l.length ∧ i = .int .i64 k ∧ Wr w.heap.size w1.heap.size (itbs (l.take k)) wr ∧ Below w.heap.size w wr) (fun i _ => l.length - (intOf i).toNat)
  case atStart => exact ⟨0, by omega, rfl, W0, below_lay b1 _⟩
  case round =>
    obtain ⟨k, hk, rfl, hW, hBel⟩ := hrel
    by_cases hlt : k < l.length
    · obtain ⟨bb, o, rfl, hr0⟩ := HI.out k hlt
      have HR := Lib.hid hr0
      clear hr0
      have hsz := HG2.out _ (List.getElem_mem hlt)
      have hdz := HD.out _ (List.getElem_mem hlt)
      have hn1 := HIB.out k
      have hj : itbs (l.take k) ++ num (clamp l[k].n) ++ num l[k].s.size ++ l[k].s.data.toList ++ l[k].id ++ l[k].s.data.toList = itbs (l.take (k + 1)) := by
        rw [itbs_take l k hlt]; unfold itb; simp only [List.append_assoc]
      generalize hx : l[k] = x at *
      have c1 := It.at1 (rangeAt_below HR.out hBel)
      go_wp2_with fail
      refine (number_one _ _ _ x.n _ _ _ (hW.alloc _) (by omega) (by simp)).mono ?_
      rintro e w3 ⟨rfl, W3, k3⟩
      have B3 := (below_lay hBel _).trans k3.below
      have c3 := It.at3 (rangeAt_below HR.out B3)
      clear c1
      go_wp2_with fail
      refine (text_one _ _ _ x.s _ _ _ (W3.alloc _) (by have := num_six (clamp_le x.n); rw [List.length_append]; omega) (by omega) (by simp)).mono ?_
      rintro e w4 ⟨rfl, W4, k4⟩
      have B4 := (below_lay B3 _).trans k4.below
      have HR4 := Lib.hid (It.at4 (rangeAt_below HR.out B4))
      have h33 := size33
      rw [← hdz, ← idCells_length] at h33
      have H33 := Lib.hid h33
      have HDZ := Lib.hid hdz
      clear h33 hdz c3
      go_wp2_with (first
        | (refine wpList_load_mid rfl 33 _ rfl bb (o + k * 36 + 4) rfl (idCells x.id) _ HR4.out Try.underlying33 rfl H33.out ?_)
        | (refine wpList_build_ids rfl _ rfl x.id HDZ.out rfl ?_))
      have L6 := num_six (clamp_le x.n)
      have L7 := num_six (n := x.s.size) (by unfold maxNum; omega)
      refine (id_one _ _ _ x.id _ _ _ (W4.alloc _) (by simp only [List.length_append, size_list]; omega) HDZ.out (range_new w4 x.id _ _ rfl _ rfl)).mono ?_
      rintro e w5 ⟨rfl, W5, k5⟩
      have B5 := (below_lay B4 _).trans k5.below
      have c5 := It.at3 (rangeAt_below HR.out B5)
      go_wp2_with fail
      refine (raw_one _ _ _ x.s _ _ _ (W5.alloc _) (by simp only [List.length_append, size_list]; have := HDZ.out; omega) (by simp)).mono ?_
      rw [hj]
      rintro e w6 ⟨rfl, W6, k6⟩
      have B6 := (below_lay B5 _).trans k6.below
      go_wp2
      exact ⟨⟨k + 1, by omega, by go_num, W6, B6⟩, by simp [intOf]; omega⟩
    · obtain rfl : k = l.length := by omega
      have hn1 := HIB.out l.length
      rw [List.take_length] at hn1 hW
      obtain ⟨S, hS, hSs⟩ : ∃ S : ByteArray, S = ⟨(itbs l).toArray⟩ ∧ S.size = (itbs l).length := ⟨_, rfl, by show (itbs l).toArray.size = _; rw [List.size_toArray]⟩
      have hS64 : S.size ≤ 62640 := by omega
      have hSl : S.data.toList = itbs l := by rw [hS]
      have HSS := Lib.hid hSs
      have HSL := Lib.hid hSl
      have HSM := Lib.hid (show S.size ≤ maxLen by unfold maxLen; omega)
      clear hSs hSl
      go_wp2_with fail
      refine (string_of _ _ _ _ hW).mono ?_
      rw [← hS]
      rintro e w2 ⟨rfl, W2, k2⟩
      have B2 := hBel.trans k2.below
      clear hS
      go_wp2_with fail
      refine (newReader S _).mono ?_
      rintro e w3 ⟨rfl, rfl⟩
      go_wp2
      go_loopw [6, 7] (fun i n wr => ∃ k : Nat, k ≤ l.length ∧ i = .int .i64 k ∧ Rd w2.heap.size S (itbs (l.take k)).length 0 wr ∧ Below w2.heap.size w2 wr) (fun i _ _ => l.length - (intOf i).toNat)
      case atStart => exact ⟨0, by omega, rfl, Rd.new S w2, below_lay (Below.refl _ _) _⟩
      case round =>
        obtain ⟨k, hk, rfl, hR, hBl⟩ := hrel
        by_cases hlt : k < l.length
        · obtain ⟨bb, o, rfl, hr0⟩ := HI.out k hlt
          obtain ⟨rest, hrest⟩ := itbs_drop l k hlt
          obtain ⟨p0, hp0⟩ : ∃ p0, (itbs (l.take k)).length = p0 := ⟨_, rfl⟩
          have HIP := Lib.hid hp0
          clear hp0
          have hd0 : S.data.toList.drop (itbs (l.take k)).length = num (clamp l[k].n) ++ (num l[k].s.size ++ (l[k].s.data.toList ++ (l[k].id ++ (l[k].s.data.toList ++ rest)))) := by
            rw [HSL.out, hrest, List.drop_left]; unfold itb; simp only [List.append_assoc]
          have hend : (itbs (l.take (k + 1))).length = (itbs (l.take k)).length + (num (clamp l[k].n)).length + (num l[k].s.size).length + l[k].s.size + 32 + l[k].s.size := by
            rw [itbs_take l k hlt, List.length_append, itb_length _ (HD.out _ (List.getElem_mem hlt))]; omega
          have hsz := HG2.out _ (List.getElem_mem hlt)
          have hdz := HD.out _ (List.getElem_mem hlt)
          have HR := Lib.hid hr0
          clear hr0 hrest
          have c1 := It.at1 (rangeAt_below HR.out (below_step B2 hBl))
          have hSS : ∀ w', Below w2.heap.size w2 w' → w'.cell? ⟨bb, o + k * 36 + 3, none⟩ = some (.string l[k].s) ∧ w'.rangeAt bb (o + k * 36 + 4) (idCells l[k].id) := fun w' h => ⟨It.at3 (rangeAt_below HR.out (below_step B2 h)), It.at4 (rangeAt_below HR.out (below_step B2 h))⟩
          rw [HIP.out] at hR hd0 hend
          generalize hx : l[k] = x at *
          have hcm := clamp_le x.n
          obtain ⟨p1, p2, p3, r1, r2, r3, e1, e2, e3, d1, d2, d3, hp3⟩ := back_places S (clamp x.n) x.s x.id p0 _ hdz hd0
          have HEND := Lib.hid (show (itbs (l.take (k + 1))).length = p3 + x.s.size by rw [hend, e3, e2, e1])
          have CN : Hid (∀ W, Rd w2.heap.size S p0 0 W → Calls Try.prog 21 #[.pointer (some ⟨w2.heap.size, 0, none⟩), .int .i64 1099511627775] W fun e w' => e = .returned (.int .i64 (clamp x.n : Int)) ∧ Rd w2.heap.size S p1 0 w' ∧ Ko w2.heap.size W w') := fun W h => by rw [e1]; exact back_num w2.heap.size S p0 (clamp x.n) _ W HSM.out hcm hd0 h
          have CT : Hid (∀ W, Rd w2.heap.size S p1 0 W → Calls Try.prog 22 #[.pointer (some ⟨w2.heap.size, 0, none⟩), .int .i64 500] W fun e w' => e = .returned (.string x.s) ∧ Rd w2.heap.size S p2 0 w' ∧ Ko w2.heap.size W w') := fun W h => by rw [e2]; exact back_text w2.heap.size S x.s p1 _ W HSM.out hsz d1 h
          have CI : Hid (∀ W, Rd w2.heap.size S p2 0 W → Calls Try.prog 23 #[.pointer (some ⟨w2.heap.size, 0, none⟩)] W fun e w' => e = .returned (.agg (idCells x.id).toArray) ∧ Rd w2.heap.size S p3 0 w' ∧ Ko w2.heap.size W w') := fun W h => by rw [e3]; exact back_id w2.heap.size S x.id p2 _ W HSM.out hdz d2 h
          have CR : Hid (∀ W, Rd w2.heap.size S p3 0 W → Calls Try.prog 24 #[.pointer (some ⟨w2.heap.size, 0, none⟩), .int .i64 (x.s.size : Int)] W fun e w' => e = .returned (.string x.s) ∧ Rd w2.heap.size S (p3 + x.s.size) 0 w' ∧ Ko w2.heap.size W w') := fun W h => back_raw w2.heap.size S x.s p3 _ W HSM.out hp3 d3 h
          have heq : ∀ W, (Op.equalIn 10000 33 (.agg (idCells x.id).toArray) (.agg (idCells x.id).toArray)).run Try.prog W = .ok true W := fun W => by
            have := eq_ids x.id x.id hdz hdz W
            rwa [beq_self_eq_true] at this
          have h33 := size33
          rw [← hdz, ← idCells_length] at h33
          have hu33 := Try.underlying33
          have hl32 : (idCells x.id).length = 32 := by rw [idCells_length, hdz]
          have hone : ∀ v ∈ idCells x.id, v.oneCell' = true := fun v hv => by
            unfold idCells at hv
            obtain ⟨u, _, rfl⟩ := List.mem_map.1 hv
            rfl
          have HSS := Lib.hid hSS
          have hBd : Below w2.heap.size w2 wr.drew := hBl.drew
          have q3 := hSS _ hBd
          clear hd0 d1 d2 d3 e1 e2 e3 hp3 hend hSS
          by_cases hneg : x.n < 0
          · have hcl : (clamp x.n : Int) = 0 := by unfold clamp; omega
            rw [hcl] at CN
            go_wp2_with fail
            go_region_held3 (fun w' => w'.cell? ⟨bb, o + k * 36 + 3, none⟩ = some (.string x.s) ∧ w'.rangeAt bb (o + k * 36 + 4) (idCells x.id)) (first | exact q3 | exact q4 | exact q5 | exact q6 | exact q7)
              (first
                | (go_at_call 21; refine (CN.out _ hR.drew).mono ?_; rintro e w4 ⟨rfl, R4, k4⟩; have B4 := hBd.trans (k4.below (Nat.le_refl _) hBd.size); have q4 := HSS.out _ B4)
                | (go_at_call 22; refine (CT.out _ R4).mono ?_; rintro e w5 ⟨rfl, R5, k5⟩; have B5 := B4.trans (k5.below (Nat.le_refl _) B4.size); have q5 := HSS.out _ B5)
                | (go_at_call 23; refine (CI.out _ R5).mono ?_; rintro e w6 ⟨rfl, R6, k6⟩; have B6 := B5.trans (k6.below (Nat.le_refl _) B5.size); have q6 := HSS.out _ B6)
                | (go_at_call 24; refine (CR.out _ R6).mono ?_; rintro e w7 ⟨rfl, R7, k7⟩; have B7 := B6.trans (k7.below (Nat.le_refl _) B6.size); have q7 := HSS.out _ B7))
            all_goals (go_wp2; exact ⟨⟨k + 1, by omega, by go_num, by rw [HEND.out]; exact R7, B7⟩, by simp [intOf]; omega⟩)
          · by_cases hbig : 1099511627775 < x.n
            · have hcl : (clamp x.n : Int) = 1099511627775 := by unfold clamp; omega
              rw [hcl] at CN
              go_wp2_with fail
              go_region_held3 (fun w' => w'.cell? ⟨bb, o + k * 36 + 3, none⟩ = some (.string x.s) ∧ w'.rangeAt bb (o + k * 36 + 4) (idCells x.id)) (first | exact q3 | exact q4 | exact q5 | exact q6 | exact q7)
                (first
                  | (go_at_call 21; refine (CN.out _ hR.drew).mono ?_; rintro e w4 ⟨rfl, R4, k4⟩; have B4 := hBd.trans (k4.below (Nat.le_refl _) hBd.size); have q4 := HSS.out _ B4)
                  | (go_at_call 22; refine (CT.out _ R4).mono ?_; rintro e w5 ⟨rfl, R5, k5⟩; have B5 := B4.trans (k5.below (Nat.le_refl _) B4.size); have q5 := HSS.out _ B5)
                  | (go_at_call 23; refine (CI.out _ R5).mono ?_; rintro e w6 ⟨rfl, R6, k6⟩; have B6 := B5.trans (k6.below (Nat.le_refl _) B5.size); have q6 := HSS.out _ B6)
                  | (go_at_call 24; refine (CR.out _ R6).mono ?_; rintro e w7 ⟨rfl, R7, k7⟩; have B7 := B6.trans (k7.below (Nat.le_refl _) B6.size); have q7 := HSS.out _ B7))
              all_goals (go_wp2; exact ⟨⟨k + 1, by omega, by go_num, by rw [HEND.out]; exact R7, B7⟩, by simp [intOf]; omega⟩)
            · have hcl : (clamp x.n : Int) = x.n := by unfold clamp; omega
              rw [hcl] at CN
              go_wp2_with fail
              go_region_held3 (fun w' => w'.cell? ⟨bb, o + k * 36 + 3, none⟩ = some (.string x.s) ∧ w'.rangeAt bb (o + k * 36 + 4) (idCells x.id)) (first | exact q3 | exact q4 | exact q5 | exact q6 | exact q7)
                (first
                  | (go_at_call 21; refine (CN.out _ hR.drew).mono ?_; rintro e w4 ⟨rfl, R4, k4⟩; have B4 := hBd.trans (k4.below (Nat.le_refl _) hBd.size); have q4 := HSS.out _ B4)
                  | (go_at_call 22; refine (CT.out _ R4).mono ?_; rintro e w5 ⟨rfl, R5, k5⟩; have B5 := B4.trans (k5.below (Nat.le_refl _) B4.size); have q5 := HSS.out _ B5)
                  | (go_at_call 23; refine (CI.out _ R5).mono ?_; rintro e w6 ⟨rfl, R6, k6⟩; have B6 := B5.trans (k6.below (Nat.le_refl _) B5.size); have q6 := HSS.out _ B6)
                  | (go_at_call 24; refine (CR.out _ R6).mono ?_; rintro e w7 ⟨rfl, R7, k7⟩; have B7 := B6.trans (k7.below (Nat.le_refl _) B6.size); have q7 := HSS.out _ B7))
              all_goals (go_wp2; exact ⟨⟨k + 1, by omega, by go_num, by rw [HEND.out]; exact R7, B7⟩, by simp [intOf]; omega⟩)
        · obtain rfl : k = l.length := by omega
          rw [List.take_length] at hR
          have hEnd : endOf S (itbs l).length 0 = 0 := by unfold endOf; rw [if_pos rfl, if_neg (by have := HSS.out; omega)]
          go_wp2_with fail
          refine (alive_any _).mono ?_
          rintro e w5 ⟨rfl, b5⟩
          have R5 := hR.below b5
          have he := end_any _ _ _ _ _ R5 HSM.out
          rw [hEnd] at he
          go_wp2_with fail
          refine he.mono ?_
          rintro e w6 ⟨rfl, R6, k6⟩
          go_wp2
          go_ret
          exact ⟨rfl, below_step B2 ((below_step hBl b5).trans (k6.below (Nat.le_refl _) (below_step hBl b5).size))⟩
end Go.Proofs.Ytghmhheolbobpaa
