/- delta's own Text: what right pieces make of a base; Writer.Raw with two texts. Conditions: the pieces lie in memory as a slice of structs, and are right for the base. -/
import Derived.Test.YtghmhheolbobpaaDeltaRead
set_option linter.unusedVariables false
set_option maxRecDepth 100000
namespace Go.Proofs.Ytghmhheolbobpaa
open Go.RowKit Wire

/-- Where a piece's copy stands, how many bytes it has. -/
theorem copied_bytes (x : Pc) (base : ByteArray) : ∃ (c n : Nat) (ok : Bool), x.copied base.size = ((c : Int), (n : Int), ok) ∧ c + n ≤ base.size ∧ x.bytes base = (base.extract c (c + n)).data.toList ++ x.text.data.toList := by
  unfold Pc.copied Pc.bytes
  cases h : x.isCopy base.size with
  | true =>
    refine ⟨x.re, x.im, true, rfl, ?_, ?_⟩
    · unfold Pc.isCopy at h
      simp at h
      omega
    · rw [if_pos rfl, extract_list]
  | false =>
    refine ⟨0, 0, false, rfl, Nat.zero_le _, ?_⟩
    rw [if_neg (by decide), extract_list]; simp
theorem bytes_len {x : Pc} {base : ByteArray} (h : x.len base.size ≠ 0) : (x.bytes base).length = x.len base.size := by
  unfold Pc.len at h ⊢
  unfold Pc.bytes
  by_cases hz : x.re = 0 ∧ x.im = 0 ∧ x.text.size ≤ 4099
  · rw [if_pos hz]
    have hc : x.isCopy base.size = false := by unfold Pc.isCopy; simp [hz.2.1]
    rw [hc, if_neg (by decide)]; simp
  · rw [if_neg hz] at h ⊢
    by_cases hc : x.isCopy base.size = true
    · rw [if_pos hc, if_pos hc]
      unfold Pc.isCopy at hc
      simp at hc
      obtain ⟨h1, h2, h3⟩ := hc
      have h4 : x.text.data.toList.length = 0 := by rw [h2]; rfl
      rw [List.length_append, List.length_take, List.length_drop, size_list, h4]
      omega
    · rw [if_neg hc] at h; exact absurd rfl h
theorem check_ok {b : Int} {l : List Pc} (h : (checkL b l).2 = 0) : 0 ≤ b ∧ b ≤ 4099 ∧ (∀ x ∈ l, x.len b ≠ 0) ∧ lens b l ≤ 4099 := by
  unfold checkL at h
  by_cases h1 : b < 0 ∨ 4099 < b
  · rw [if_pos h1] at h; cases h
  · rw [if_neg h1] at h
    cases h2 : l.any (fun p => p.len b == 0) with
    | true => rw [h2, if_pos rfl] at h; cases h
    | false =>
      rw [h2, if_neg (by decide)] at h
      by_cases h3 : 4099 < lens b l
      · rw [if_pos h3] at h; cases h
      · refine ⟨by omega, by omega, fun x hx he => ?_, by omega⟩
        have := List.any_eq_false.1 h2 x hx
        rw [he] at this
        exact this rfl
theorem bytesL_take (base : ByteArray) (l : List Pc) (k : Nat) (h : k < l.length) : bytesL base (l.take (k + 1)) = bytesL base (l.take k) ++ l[k].bytes base := by
  unfold bytesL
  rw [List.take_succ_eq_append_getElem h, List.flatMap_append]
  simp
theorem bytesL_len (base : ByteArray) : ∀ (l : List Pc), (∀ x ∈ l, x.len base.size ≠ 0) → (bytesL base l).length = lens base.size l
  | [], _ => rfl
  | x :: l, h => by
    have ih := bytesL_len base l fun y hy => h y (List.mem_cons_of_mem _ hy)
    have hx := bytes_len (h x (List.mem_cons_self ..))
    unfold bytesL lens at ih ⊢
    rw [List.flatMap_cons, List.length_append, ih, hx, List.map_cons, List.sum_cons]
theorem lens_le (b : Int) : ∀ (l : List Pc) (k : Nat), lens b (l.take k) ≤ lens b l
  | [], k => by simp [lens]
  | x :: l, 0 => by simp [lens]
  | x :: l, k + 1 => by
    have := lens_le b l k
    unfold lens at *
    simp only [List.take_succ_cons, List.map_cons, List.sum_cons]
    omega
theorem bytesL_few {base : ByteArray} {l : List Pc} (h : (checkL base.size l).2 = 0) (k : Nat) : (bytesL base (l.take k)).length ≤ 4099 := by
  obtain ⟨_, _, h3, h4⟩ := check_ok h
  rw [bytesL_len base _ fun x hx => h3 x (List.mem_of_mem_take hx)]
  have := lens_le base.size l k
  omega

/-! ### Two texts, as they are -/
set_option maxHeartbeats 1000000 in
theorem raw_two (B b : Nat) (l : List UInt8) (s t : ByteArray) (g c : Nat) (w : World) (hWr : Wr B b l w) (hl : l.length + s.size + t.size ≤ 140737488355328) (hg : w.heap[g]? = some (.cells #[.string s, .string t] 9 (0, 0))) (hgb : g ≠ b) :
    Calls Try.prog 18 #[.pointer (some ⟨b, 0, none⟩), .slice (some ⟨g, 0, none⟩) 2 c] w fun e w' => e = .returned (.tuple #[]) ∧ Wr B b (l ++ s.data.toList ++ t.data.toList) w' ∧ Kp B b w w' := by
  have c0 : w.cell? ⟨g, 0, none⟩ = some (.string s) := by rw [Lib.cell_of_heap hg]; rfl
  go_enter Try.func18, Try.ntmps18
  go_wp2
  refine wp_loop_rounds 3 ?_
  rw [rounds_succ]
  go_wp2_with fail
  refine (wrString B b l s _ hWr (by omega)).mono ?_
  rintro e w1 ⟨rfl, hW1, hK1⟩
  have hg1 := hK1.cell hgb hg (by decide)
  have c1 : w1.cell? ⟨g, 1, none⟩ = some (.string t) := by rw [Lib.cell_of_heap hg1]; rfl
  go_wp2
  rw [rounds_succ]
  go_wp2_with fail
  refine (wrString B b _ t _ hW1 (by rw [List.length_append, size_list]; omega)).mono ?_
  rintro e w2 ⟨rfl, hW2, hK2⟩
  go_wp2
  rw [rounds_succ]
  go_wp2
  go_end0
  exact ⟨rfl, hW2, hK1.trans hK2⟩

set_option maxHeartbeats 2000000 in
theorem text_of (base : ByteArray) (A : Option Addr) (cap : Nat) (l : List Pc) (w : World) (hs : ∀ p ∈ l, p.small) (hc : Pcs w A l) (hl : l.length ≤ 140737488355328) (hck : (checkL base.size l).2 = 0) :
    Calls Try.prog 52 #[.string base, .slice A l.length cap] w fun e w' => e = .returned (.tuple #[.string ⟨(bytesL base l).toArray⟩, .int .i64 0]) ∧ Below w.heap.size w w' := by
  have C58 := check_of A cap l base.size w hs hc hl
  rw [hck] at C58
  obtain ⟨_, hb9, hne, _⟩ := check_ok hck
  have hb9' : base.size ≤ 4099 := by omega
  have HF := Lib.hid (bytesL_few hck)
  have HS := Lib.hid hs
  have HC := Lib.hid hc
  have HNE := Lib.hid (fun x (hx : x ∈ l) => x.len_le base.size (hs x hx))
  have HTX : Hid (∀ x ∈ l, x.text.size ≤ 4099) := Lib.hid (fun x hx => by
    have h1 := bytes_len (hne x hx)
    have h2 := x.len_le base.size (hs x hx)
    have h3 : (x.bytes base).length ≥ x.text.size := by unfold Pc.bytes; rw [List.length_append, size_list]; omega
    omega)
  clear hs hc hne hck
  go_enter Try.func52, Try.ntmps52
  go_wp2_with (go_at_call 58; refine C58.mono ?_; rintro e w1 ⟨rfl, b1⟩)
  have hB := b1.size
  have W0 := Wr.new w.heap.size w1 hB
  clear C58
  go_loopw [26] (fun i wr => ∃ k : Nat, k ≤ l.length ∧ i = .int .i64 k ∧ Wr w.heap.size w1.heap.size (bytesL base (l.take k)) wr ∧ Below w.heap.size w wr) (fun i _ => l.length - (intOf i).toNat)
  case atStart => exact ⟨0, by omega, rfl, W0, below_lay b1 _⟩
  case round =>
    obtain ⟨k, hk, rfl, hW, hBel⟩ := hrel
    by_cases hlt : k < l.length
    · obtain ⟨bb, o, rfl, hr0⟩ := HC.out k hlt
      have hr := rangeAt_below hr0 hBel
      have c0 := Pc.at0 hr
      have c1 := Pc.at1 hr
      have hsm := HS.out _ (List.getElem_mem hlt)
      obtain ⟨cc, n, ok, hcp, hcn, hby⟩ := copied_bytes l[k] base
      have HCP : Hid (∀ W, Calls Try.prog 59 #[.agg #[.complex .f64 (F l[k].re) (F l[k].im), .string l[k].text], .int .i64 base.size] W fun e w' => e = .returned (.tuple #[.int .i64 cc, .int .i64 n, .bool ok]) ∧ Below W.heap.size W w') := Lib.hid (fun W => by
        have := copied_of l[k] base.size W hsm ⟨by omega, by omega⟩
        rw [hcp] at this; exact this)
      have HNEXT := Lib.hid (show bytesL base (l.take (k + 1)) = bytesL base (l.take k) ++ (base.extract cc (cc + n)).data.toList ++ l[k].text.data.toList by rw [bytesL_take base l k hlt, hby, List.append_assoc])
      have hf := HF.out k
      have htx := HTX.out _ (List.getElem_mem hlt)
      generalize hR : l[k].re = re at *
      generalize hI : l[k].im = im at *
      generalize hT : l[k].text = tx at *
      clear hr hr0 hR hI hT hcp hby hsm
      have H105 := Lib.hid size105
      go_wp2_with (first | (have hh := H105.out; clear H105; refine wpList_store_row rfl 105 _ _ rfl wr.heap.size #[.complex .f64 (F re) (F im), .string tx] rfl rfl 105 _ (heap_alloc_new wr _) hh rfl (pc_one re im tx) ?_; rw [World.setRow_alloc_new]) | (go_at_call 59; refine (HCP.out _).mono ?_; rintro e w2 ⟨rfl, b2⟩; have c3 : w2.cell? ⟨wr.heap.size, 1, none⟩ = some (.string tx) := cell_later b2 (by rw [Lib.cell_of_heap (heap_alloc_new wr _)]; rfl)))
      have hW2 : Wr w.heap.size w1.heap.size (bytesL base (l.take k)) w2.drew := (hW.alloc _).below (Below.drew b2)
      have c4 : w2.drew.cell? ⟨wr.heap.size, 1, none⟩ = some (.string tx) := c3
      have hex : (base.extract cc (cc + n)).size ≤ 4099 := by rw [ByteArray.size_extract]; omega
      have hlt2 := hW2.lt
      have hwr : IntKind.i64.wrap ((cc : Int) + (n : Int)) = (cc : Int) + (n : Int) := by simp [IntKind.wrap, IntKind.bits, IntKind.signed]; omega
      have hsl : ∀ W, (Instr.slice 9 (.string base) (some (.int .i64 (cc : Int))) (some (.int .i64 ((cc : Int) + (n : Int)))) none).run Try.prog W = .ok (.string (base.extract cc (cc + n))) W := fun W => by
        rw [run_slice_string W 9 base .i64 .i64 _ _ Try.underlying9 (by omega) (by omega) (by omega)]
        have e1 : ((cc : Int)).toNat = cc := by omega
        have e2 : ((cc : Int) + (n : Int)).toNat = cc + n := by omega
        rw [e1, e2]
      go_region_with (go_at_call 18; refine (raw_two w.heap.size w1.heap.size (bytesL base (l.take k)) (base.extract cc (cc + n)) tx w2.drew.heap.size _ _ (hW2.alloc _) (by omega) (heap_alloc_new _ _) (by omega)).mono ?_; rintro e w3 ⟨rfl, W3, k3⟩)
      all_goals
        go_wp2
        exact ⟨⟨k + 1, by omega, by go_num, by rw [HNEXT.out]; exact W3, (below_lay (Below.drew (below_step (below_lay hBel _) b2)) _).trans k3.below⟩, by simp [intOf]; omega⟩
    · obtain rfl : k = l.length := by omega
      rw [List.take_length] at hW
      go_wp2_with (go_at_call 19; refine (string_of _ _ _ _ hW).mono ?_; rintro e w2 ⟨rfl, W2, k2⟩)
      go_ret2
      exact ⟨rfl, hBel.trans k2.below⟩

/-! ### A delta applied; a part's text by its base's -/
/-- A text and an error's number, as a call hands them back. -/
def TextOut (r : ByteArray ⊕ Nat) (e : Ending) : Prop :=
  match r with
  | .inl s => e = .returned (.tuple #[.string s, .int .i64 0])
  | .inr n => e = .returned (.tuple #[.string ⟨#[]⟩, .int .i64 (n : Int)])
set_option maxHeartbeats 1000000 in
theorem apply_of (base d : ByteArray) (w : World) (hd : d.size ≤ maxLen) (hb : base.size ≤ maxLen) :
    Calls Try.prog 47 #[.string base, .string d] w fun e w' => TextOut (applyD base d) e ∧ Below w.heap.size w w' := by
  have C51 := read_of d w hd
  cases hr : readD d with
  | none =>
    have HE : applyD base d = .inr 2 := by unfold applyD; rw [hr]
    rw [HE]
    rw [hr] at C51
    clear hr HE
    go_enter Try.func47, Try.ntmps47
    go_wp2_with (go_at_call 51; refine C51.mono ?_; rintro e w1 ⟨hR, b1⟩; obtain rfl := hR)
    go_ret2
    exact ⟨rfl, b1⟩
  | some y =>
    obtain ⟨b, l⟩ := y
    obtain ⟨hsm, hck, hb4⟩ := read_some hr
    rw [hr] at C51
    by_cases hbb : b = base.size
    · have HE : applyD base d = .inl ⟨(bytesL base l).toArray⟩ := by unfold applyD; rw [hr]; simp only; rw [if_pos hbb]
      rw [HE]
      rw [hbb] at hck
      have HL : Hid (l.length ≤ 4099) := Lib.hid (by
        obtain ⟨_, _, h3, h4⟩ := check_ok hck
        have key : ∀ m : List Pc, (∀ x ∈ m, x.len base.size ≠ 0) → m.length ≤ lens base.size m := by
          intro m
          induction m with
          | nil => intro _; simp
          | cons x m ih =>
            intro hm
            have h1 := ih fun y hy => hm y (List.mem_cons_of_mem _ hy)
            have h2 := hm x (List.mem_cons_self ..)
            unfold lens at *
            simp only [List.length_cons, List.map_cons, List.sum_cons]
            omega
        have := key l h3
        omega)
      have HSM := Lib.hid hsm
      have HCK := Lib.hid hck
      clear hr HE hsm hck
      subst hbb
      go_enter Try.func47, Try.ntmps47
      go_wp2_with (first | (go_at_call 51; refine C51.mono ?_; rintro e w1 ⟨hR, b1⟩; obtain ⟨v, rfl, hO⟩ := hR; obtain ⟨A, cp, rfl, hP⟩ := pcs_of_owns hO) | (go_at_call 52; refine (text_of base A cp l w1 HSM.out hP (by have := HL.out; omega) HCK.out).mono ?_; rintro e w2 ⟨rfl, b2⟩))
      go_ret2
      exact ⟨rfl, below_step b1 b2⟩
    · have HE : applyD base d = .inr 19 := by unfold applyD; rw [hr]; simp only; rw [if_neg hbb]
      rw [HE]
      have hne : ((b : Int) == (base.size : Int)) = false := by rw [beq_eq_false_iff_ne]; omega
      clear hr HE hsm hck
      go_enter Try.func47, Try.ntmps47
      go_wp2_with (go_at_call 51; refine C51.mono ?_; rintro e w1 ⟨hR, b1⟩; obtain ⟨v, rfl, hO⟩ := hR)
      go_ret2
      exact ⟨rfl, b1⟩
set_option maxHeartbeats 1000000 in
theorem part_of (x : Pt) (base : ByteArray) (w : World) (hx : x.text.size ≤ maxLen) (hb : base.size ≤ maxLen) :
    Calls Try.prog 43 #[.agg x.cells.toArray, .string base] w fun e w' => TextOut (partText x base) e ∧ Below w.heap.size w w' := by
  obtain ⟨d, bs, tx⟩ := x
  show Calls Try.prog 43 #[.agg #[.bool d, .int .i64 bs, .string tx], .string base] w _
  simp only at hx
  cases d with
  | true =>
    have HC := Lib.hid (fun W => apply_of base tx W hx hb)
    show Calls Try.prog 43 _ w fun e w' => TextOut (applyD base tx) e ∧ Below w.heap.size w w'
    cases hr : applyD base tx with
    | inl s =>
      rw [hr] at HC
      clear hr
      go_enter Try.func43, Try.ntmps43
      go_wp2_with (go_at_call 47; refine (HC.out _).mono ?_; rintro e w1 ⟨hR, b1⟩; obtain rfl := hR)
      go_ret2
      exact ⟨rfl, below_step (below_lay (Below.refl _ _) _) b1⟩
    | inr n =>
      rw [hr] at HC
      clear hr
      go_enter Try.func43, Try.ntmps43
      go_wp2_with (go_at_call 47; refine (HC.out _).mono ?_; rintro e w1 ⟨hR, b1⟩; obtain rfl := hR)
      go_ret2
      exact ⟨rfl, below_step (below_lay (Below.refl _ _) _) b1⟩
  | false =>
    by_cases hbig : 4099 < tx.size
    · have HE : partText ⟨false, bs, tx⟩ base = .inr 19 := by unfold partText; simp only; rw [if_neg (by decide), if_pos hbig]
      rw [HE]
      clear HE
      go_enter Try.func43, Try.ntmps43
      go_wp2
      go_ret2
      exact ⟨rfl, below_lay (Below.refl _ _) _⟩
    · have HE : partText ⟨false, bs, tx⟩ base = .inl tx := by unfold partText; simp only; rw [if_neg (by decide), if_neg hbig]
      rw [HE]
      clear HE
      go_enter Try.func43, Try.ntmps43
      go_wp2
      go_ret2
      exact ⟨rfl, below_lay (Below.refl _ _) _⟩
end Go.Proofs.Ytghmhheolbobpaa
