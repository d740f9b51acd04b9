/- delta's own check: how many bytes pieces have. Conditions: the pieces lie in memory as a slice of structs, their numbers are small and whole. -/
import Derived.Test.YtghmhheolbobpaaLength
set_option linter.unusedVariables false
set_option maxRecDepth 100000
namespace Go.Proofs.Ytghmhheolbobpaa
open Go.RowKit Wire

/-- A slice value that reads as a list of pieces. -/
def Pcs (w : World) (A : Option Addr) (l : List Pc) : Prop :=
  ∀ k (h : k < l.length), ∃ b o, A = some ⟨b, o, none⟩ ∧ w.rangeAt b (o + k * 2) l[k].cells
theorem Pcs.below {w w' : World} {A : Option Addr} {l : List Pc} (h : Pcs w A l) (hb : Below w.heap.size w w') : Pcs w' A l := fun k hk => by
  obtain ⟨b, o, e, hr⟩ := h k hk
  exact ⟨b, o, e, rangeAt_below hr hb⟩
theorem Pc.at0 {w : World} {b o : Nat} {x : Pc} (h : w.rangeAt b o x.cells) : w.cell? ⟨b, o, none⟩ = some (.complex .f64 (F x.re) (F x.im)) := h 0 _ rfl
theorem Pc.at1 {w : World} {b o : Nat} {x : Pc} (h : w.rangeAt b o x.cells) : w.cell? ⟨b, o + 1, none⟩ = some (.string x.text) := h 1 _ rfl
def lens (b : Int) (l : List Pc) : Nat := (l.map fun p => p.len b).sum
theorem lens_take (b : Int) (l : List Pc) (k : Nat) (h : k < l.length) : lens b (l.take (k + 1)) = lens b (l.take k) + l[k].len b := by
  unfold lens
  rw [List.take_succ_eq_append_getElem h, List.map_append, List.sum_append]
  simp
/-- How many bytes pieces have; the error's number. -/
def checkL (b : Int) (l : List Pc) : Nat × Int :=
  if b < 0 ∨ 4099 < b then (0, 1) else if l.any (fun p => p.len b == 0) then (0, 1) else if 4099 < lens b l then (0, 19) else (lens b l, 0)
theorem Pc.len_le (p : Pc) (b : Int) (hp : p.small) : p.len b ≤ 4099 := by
  unfold Pc.len
  obtain ⟨h1, h2⟩ := hp
  split
  · omega
  · split <;> omega
theorem pc_one (re im : Int) (t : ByteArray) : (#[Value.complex .f64 (F re) (F im), .string t] : Array Value).all (·.oneCell') = true := all_oneCell_toArray (fun v hv => by
  simp at hv
  rcases hv with rfl | rfl <;> rfl)
theorem size105 : (Try.prog.info? 105).map (·.size) = some 2 := by kernel_rfl
set_option maxHeartbeats 1000000 in
theorem check_few (A : Option Addr) (cap : Nat) (l : List Pc) (b : Int) (w : World) (hs : ∀ p ∈ l, p.small) (hc : Pcs w A l) (hb : 0 ≤ b ∧ b ≤ 4099) (hl : l.length ≤ 140737488355328) :
    Calls Try.prog 58 #[.int .i64 b, .slice A l.length cap] w fun e w' => e = .returned (.tuple #[.int .i64 (checkL b l).1, .int .i64 (checkL b l).2]) ∧ Below w.heap.size w w' := by
  have HS := Lib.hid hs
  have HC := Lib.hid hc
  have HB := Lib.hid hb
  obtain ⟨hb1, hb2⟩ := hb
  clear hs hc
  go_enter Try.func58, Try.ntmps58
  go_wp2
  go_loopw [6, 7, 19] (fun n e i wr => ∃ k : Nat, k ≤ l.length ∧ i = .int .i64 k ∧ n = .int .i64 (min (lens b (l.take k)) 4100 : Nat) ∧ e = .int .i64 (if 4099 < lens b (l.take k) then 19 else 0) ∧ Hid ((l.take k).any (fun p => p.len b == 0) = false) ∧ Below w.heap.size w wr) (fun _ _ i _ => l.length - (intOf i).toNat)
  case atStart => exact ⟨0, by omega, rfl, rfl, rfl, Lib.hid rfl, Below.refl _ _⟩
  case round =>
    obtain ⟨k, hk, rfl, rfl, rfl, H, hBel⟩ := hrel
    by_cases hlt : k < l.length
    · obtain ⟨bb, o, rfl, hr0⟩ := HC.out k hlt
      have hr := rangeAt_below hr0 hBel
      have c0 := Pc.at0 hr
      have c1 := Pc.at1 hr
      have hsm := HS.out _ (List.getElem_mem hlt)
      have hlt5 := Pc.len_le l[k] b hsm
      have hstep := lens_take b l k hlt
      have HLEN : Hid (∀ W, Calls Try.prog 62 #[.agg #[.complex .f64 (F l[k].re) (F l[k].im), .string l[k].text], .int .i64 b] W fun e w' => e = .returned (.int .i64 (l[k].len b : Nat)) ∧ Below W.heap.size W w') := fun W => length_of l[k] b W hsm HB.out
      have HANY := Lib.hid (show (l.take (k + 1)).any (fun p => p.len b == 0) = (l[k].len b == 0) by
        rw [List.take_succ_eq_append_getElem hlt, List.any_append, H.out]; simp)
      have HIN : Hid (l[k].len b = 0 → l.any (fun p => p.len b == 0) = true) := fun h => List.any_eq_true.2 ⟨l[k], List.getElem_mem hlt, by simp [h]⟩
      generalize hL : l[k].len b = L at *
      generalize hS : lens b (l.take k) = S at *
      generalize hR : l[k].re = re at *
      generalize hI : l[k].im = im at *
      generalize hT : l[k].text = tx at *
      clear hr hr0 hL hS hR hI hT
      have H105 := Lib.hid size105
      by_cases h0 : L = 0
      · subst h0
        have hany := HIN.out rfl
        have hck : checkL b l = (0, 1) := by unfold checkL; rw [if_neg (by omega), if_pos hany]
        have HCK := Lib.hid hck
        clear hany hck
        go_wp2_with (first | (refine wpList_store_row rfl 105 _ _ rfl wr.heap.size #[.complex .f64 (F re) (F im), .string tx] rfl rfl 105 _ (heap_alloc_new wr _) H105.out rfl (pc_one re im tx) ?_; rw [World.setRow_alloc_new]) | (go_at_call 62; refine (HLEN.out _).mono ?_; rintro e w1 ⟨rfl, b2⟩))
        all_goals (go_ret2; exact ⟨by rw [HCK.out]; rfl, below_step (below_lay hBel _) b2⟩)
      · have HANY2 : Hid ((l.take (k + 1)).any (fun p => p.len b == 0) = false) := by
          have := HANY.out
          rw [beq_eq_false_iff_ne.2 h0] at this
          exact this
        have HST := Lib.hid hstep
        clear hstep HIN HANY
        by_cases hbig : 4099 < S + L
        · go_wp2_with (first | (refine wpList_store_row rfl 105 _ _ rfl wr.heap.size #[.complex .f64 (F re) (F im), .string tx] rfl rfl 105 _ (heap_alloc_new wr _) H105.out rfl (pc_one re im tx) ?_; rw [World.setRow_alloc_new]) | (go_at_call 62; refine (HLEN.out _).mono ?_; rintro e w1 ⟨rfl, b2⟩))
          exact ⟨⟨k + 1, by omega, by go_num, by rw [HST.out]; go_num, by rw [HST.out, if_pos hbig], HANY2, below_step (below_lay hBel _) b2⟩, by simp [intOf]; omega⟩
        · go_wp2_with (first | (refine wpList_store_row rfl 105 _ _ rfl wr.heap.size #[.complex .f64 (F re) (F im), .string tx] rfl rfl 105 _ (heap_alloc_new wr _) H105.out rfl (pc_one re im tx) ?_; rw [World.setRow_alloc_new]) | (go_at_call 62; refine (HLEN.out _).mono ?_; rintro e w1 ⟨rfl, b2⟩))
          exact ⟨⟨k + 1, by omega, by go_num, by rw [HST.out]; go_num, by rw [HST.out, if_neg hbig]; first | rfl | (rw [if_neg (by omega)]), HANY2, below_step (below_lay hBel _) b2⟩, by simp [intOf]; omega⟩
    · obtain rfl : k = l.length := by omega
      have hany := H.out
      rw [List.take_length] at hany
      rw [List.take_length]
      by_cases hbig : 4099 < lens b l
      · have HCK := Lib.hid (show checkL b l = (0, 19) by unfold checkL; rw [if_neg (by omega), hany, if_neg (by simp), if_pos hbig])
        rw [if_pos hbig]
        clear hany
        go_wp2
        go_ret2
        exact ⟨by rw [HCK.out]; rfl, hBel⟩
      · have HCK := Lib.hid (show checkL b l = (lens b l, 0) by unfold checkL; rw [if_neg (by omega), hany, if_neg (by simp), if_neg hbig])
        rw [if_neg hbig]
        have hmin : min (lens b l) 4100 = lens b l := by omega
        rw [hmin]
        clear hany
        go_wp2
        go_ret2
        exact ⟨by rw [HCK.out]; rfl, hBel⟩
set_option maxHeartbeats 400000 in
theorem check_out (A : Option Addr) (cap n : Nat) (b : Int) (w : World) (hb : b < 0 ∨ 4099 < b) :
    Calls Try.prog 58 #[.int .i64 b, .slice A n cap] w fun e w' => e = .returned (.tuple #[.int .i64 0, .int .i64 1]) ∧ w = w' := by
  by_cases h : b < 0
  · go_enter Try.func58, Try.ntmps58
    go_wp2
    go_ret2
    exact ⟨rfl, rfl⟩
  · have h2 : 4099 < b := by omega
    clear hb
    go_enter Try.func58, Try.ntmps58
    go_wp2
    go_ret2
    exact ⟨rfl, rfl⟩
theorem check_of (A : Option Addr) (cap : Nat) (l : List Pc) (b : Int) (w : World) (hs : ∀ p ∈ l, p.small) (hc : Pcs w A l) (hl : l.length ≤ 140737488355328) :
    Calls Try.prog 58 #[.int .i64 b, .slice A l.length cap] w fun e w' => e = .returned (.tuple #[.int .i64 (checkL b l).1, .int .i64 (checkL b l).2]) ∧ Below w.heap.size w w' := by
  by_cases hb : b < 0 ∨ 4099 < b
  · have e : checkL b l = (0, 1) := by unfold checkL; rw [if_pos hb]
    rw [e]
    refine (check_out A cap l.length b w hb).mono ?_
    rintro e w' ⟨rfl, rfl⟩
    exact ⟨rfl, Below.refl _ _⟩
  · exact check_few A cap l b w hs hc (by omega) hl
end Go.Proofs.Ytghmhheolbobpaa
