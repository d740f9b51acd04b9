/- The reference's Read whatever the bytes, its Text and its Apply. Conditions: the texts are of at most 30000 bytes. -/
import Derived.Test.YtghmhheolbobpaaRefRead
import Derived.Test.YtghmhheolbobpaaSame
set_option linter.unusedVariables false
set_option maxRecDepth 100000
namespace Go.Proofs.Ytghmhheolbobpaa
open Go.RowKit Wire

set_option maxHeartbeats 1000000 in
theorem refRead_bad (s : ByteArray) (b k : Nat) (p : Nat) (e e2 : Int) (w : World) (hs : s.size ≤ 30000) (he2 : e2 ≠ 0)
    (HN : Hid (readD s = none))
    (CA : Hid (∀ W, RS s w (.slice none 0 0) [] 0 0 W → Calls Try.prog 53 #[.pointer (some ⟨w.heap.size, 0, none⟩), .int .i64 4099] W fun e' w' => e' = .returned (.int .i64 (b : Int)) ∧ RS s w (.slice none 0 0) [] k e w' ∧ Ko w.heap.size W w'))
    (CB : Hid (∀ W, RS s w (.slice none 0 0) [] k e W → Calls Try.prog 53 #[.pointer (some ⟨w.heap.size, 0, none⟩), .int .i64 4099] W fun e' w' => e' = .returned (.int .i64 0) ∧ RS s w (.slice none 0 0) [] p e2 w' ∧ Ko w.heap.size W w')) :
    Calls Try.prog 48 #[.string s] w fun e w' => RefReadOut w.heap.size (readD s) e w' ∧ Below w.heap.size w w' := by
  have HM : Hid (s.size ≤ maxLen) := Lib.hid (by unfold maxLen; omega)
  have R00 : RS s w (.slice none 0 0) [] 0 0 (w.alloc (.cells #[.string s, .int .i64 0, .int .i64 0] 102)) := ⟨Rr.made s w, World.ownsRowF_nil _ _ _ _, below_lay (Below.refl _ _) _⟩
  have hb : (e2 == 0) = false := by simpa using he2
  have hend : endOf s p e2 = e2 := by unfold endOf; rw [if_neg he2]
  have C55 := Lib.hid (fun W (h : RS s w (.slice none 0 0) [] p e2 W) => h.call (rend_any _ _ _ _ _ h.rd HM.out))
  rw [hend] at C55
  clear hend
  go_enter Try.func48, Try.ntmps48
  go_wp2_with (first
    | (go_at_call 53; have hC := CA; clear CA; refine (hC.out _ R00).mono ?_; rintro e w1 ⟨rfl, R01, _⟩)
    | (go_at_call 53; refine (CB.out _ R01).mono ?_; rintro e w2 ⟨rfl, R02, _⟩; have c2 := R02.rd.cell2))
  refine wp_loop_rounds 1 ?_
  rw [rounds_succ]
  go_wp2_with (go_at_call 55; refine (C55.out _ R02).mono ?_; rintro e w3 ⟨rfl, R1, _⟩)
  go_ret3
  rw [HN.out]
  exact ⟨rfl, R1.below⟩
theorem refRead_of (s : ByteArray) (w : World) (hs : s.size ≤ 30000) :
    Calls Try.prog 48 #[.string s] w fun e w' => RefReadOut w.heap.size (readD s) e w' ∧ Below w.heap.size w w' := by
  have hS : s.size ≤ 140737488355328 := by omega
  cases hr : readNum 4099 (s.data.toList.drop 0) with
  | inl e =>
    have he := readNum_err hr
    refine refRead_bad s 0 0 0 (e : Int) (e : Int) w hs (by omega) (Lib.hid (by unfold readD; rw [hr])) (Lib.hid fun W h => ?_) (Lib.hid fun W h => ?_)
    · have := h.number 4099 hS (Nat.zero_le _); rw [hr] at this; exact this
    · exact h.call (rnumber_err _ _ _ _ 4099 _ h.rd (by omega))
  | inr y =>
    obtain ⟨b, k⟩ := y
    have hk1 : k ≤ s.size := by
      have hd : (s.data.toList.drop 0).length = s.size := by simp
      have := (readNum_len hr).2.1
      omega
    cases hr2 : readNum 4099 (s.data.toList.drop k) with
    | inl e =>
      have he := readNum_err hr2
      refine refRead_bad s b k k 0 (e : Int) w hs (by omega) (Lib.hid (by unfold readD; rw [hr]; simp only; rw [hr2])) (Lib.hid fun W h => ?_) (Lib.hid fun W h => ?_)
      · have := h.number 4099 hS (Nat.zero_le _); rw [hr] at this
        have e0 : (numRes 0 (.inr (b, k))).2.1 = k := by show 0 + k = k; omega
        rw [e0] at this; exact this
      · have := h.number 4099 hS hk1; rw [hr2] at this; exact this
    | inr z =>
      obtain ⟨many, j⟩ := z
      exact refRead_loop s b k many j w hs hr hr2

/-! ### Text -/
theorem mkAppend (a : List UInt8) (s : ByteArray) : (⟨a.toArray⟩ : ByteArray) ++ s = ⟨(a ++ s.data.toList).toArray⟩ := by
  apply ByteArray.ext
  simp
theorem addText (a : List UInt8) (s : ByteArray) (ha : a.length ≤ 100000) (hb : s.size ≤ 100000) (W : World) : (Op.stringOp .add ⟨a.toArray⟩ s).run Try.prog W = .ok (.string ⟨(a ++ s.data.toList).toArray⟩) W := by
  rw [run_string_add_sum W _ _ (by show a.toArray.size + s.size ≤ _; rw [List.size_toArray]; omega), mkAppend]
set_option maxHeartbeats 2000000 in
theorem refText_of (base : ByteArray) (A : Option Addr) (cap : Nat) (l : List Pc) (w : World) (hs : ∀ p ∈ l, p.small) (ht : ∀ p ∈ l, p.text.size ≤ maxLen) (hc : Pcs w A l) (hl : l.length ≤ 140737488355328) (hck : (checkL base.size l).2 = 0) :
    Calls Try.prog 49 #[.string base, .slice A l.length cap] w fun e w' => e = .returned (.tuple #[.string ⟨(bytesL base l).toArray⟩, .int .i64 0]) ∧ Below w.heap.size w w' := by
  have C56 := rcheck_of A cap l base.size w hs ht hc hl
  rw [hck] at C56
  obtain ⟨_, hb9, hne, _⟩ := check_ok hck
  have hb9' : base.size ≤ 4099 := by omega
  have HF := Lib.hid (bytesL_few hck)
  have HS := Lib.hid hs
  have HC := Lib.hid hc
  have HTX : Hid (∀ x ∈ l, x.text.size ≤ 4099) := Lib.hid (fun x hx => by
    have h1 := bytes_len (hne x hx)
    have h2 := x.len_le base.size (hs x hx)
    have h3 : (x.bytes base).length ≥ x.text.size := by unfold Pc.bytes; rw [List.length_append, size_list]; omega
    omega)
  clear hs hc hne hck ht
  go_enter Try.func49, Try.ntmps49
  go_wp2_with (go_at_call 56; refine C56.mono ?_; rintro e w1 ⟨rfl, b1⟩)
  clear C56
  go_loopw [8, 9] (fun t i wr => ∃ k : Nat, k ≤ l.length ∧ i = .int .i64 k ∧ t = .string ⟨(bytesL base (l.take k)).toArray⟩ ∧ Below w.heap.size w wr) (fun _ i _ => l.length - (intOf i).toNat)
  case atStart => exact ⟨0, by omega, rfl, rfl, b1⟩
  case round =>
    obtain ⟨k, hk, rfl, rfl, hBel⟩ := hrel
    by_cases hlt : k < l.length
    · obtain ⟨bb, o, rfl, hr0⟩ := HC.out k hlt
      have hr := rangeAt_below hr0 hBel
      have c0 := Pc.at0 hr
      have c1 := Pc.at1 hr
      have hsm := HS.out _ (List.getElem_mem hlt)
      obtain ⟨hcp1, hcp2⟩ := copy_ok l[k] base.size
      have C57 : Hid (∀ W, Calls Try.prog 57 #[.agg #[.complex .f64 (F l[k].re) (F l[k].im), .string l[k].text], .int .i64 base.size] W fun e w' => e = .returned (.tuple #[.int .i64 (l[k].copy base.size).1, .int .i64 (l[k].copy base.size).2.1, .bool (l[k].copy base.size).2.2]) ∧ Below W.heap.size W w') := Lib.hid (fun W => copy_of l[k] base.size W hsm ⟨by omega, by omega⟩)
      have hf := HF.out k
      have hf1 := HF.out (k + 1)
      have htx := HTX.out _ (List.getElem_mem hlt)
      have hnx := bytesL_take base l k hlt
      cases hic : l[k].isCopy base.size with
      | true =>
        have hic2 := hic
        unfold Pc.isCopy at hic2
        simp at hic2
        obtain ⟨hi1, hi2, hi3⟩ := hic2
        have hi3' : l[k].re + l[k].im ≤ base.size := by omega
        rw [hcp2 hic] at C57
        have hby : l[k].bytes base = (base.extract l[k].re (l[k].re + l[k].im)).data.toList := by
          unfold Pc.bytes; rw [if_pos hic, extract_list, hi2]; simp
        rw [hby] at hnx
        generalize hR : l[k].re = re at *
        generalize hI : l[k].im = im at *
        generalize hT : l[k].text = tx at *
        have hadd : ∀ W, (Op.stringOp .add ⟨(bytesL base (l.take k)).toArray⟩ (base.extract re (re + im))).run Try.prog W = .ok (.string ⟨(bytesL base (l.take (k + 1))).toArray⟩) W := fun W => by
          rw [hnx]
          exact addText _ _ (by omega) (by rw [ByteArray.size_extract]; omega) W
        have hwr : IntKind.i64.wrap ((re : Int) + (im : Int)) = (re : Int) + (im : Int) := by simp [IntKind.wrap, IntKind.bits, IntKind.signed]; omega
        have hsl : ∀ W, (Instr.slice 9 (.string base) (some (.int .i64 (re : Int))) (some (.int .i64 ((re : Int) + (im : Int)))) none).run Try.prog W = .ok (.string (base.extract re (re + im))) W := fun W => by
          rw [run_slice_string W 9 base .i64 .i64 _ _ Try.underlying9 (by omega) (by omega) (by omega)]
          have e1 : ((re : Int)).toNat = re := by omega
          have e2 : ((re : Int) + (im : Int)).toNat = re + im := by omega
          rw [e1, e2]
        clear hr hr0 hcp1 hcp2 hic hnx hby hf hf1 hi2 hR hI hT
        go_wp2_with (go_at_call 57; refine (C57.out _).mono ?_; rintro e w2 ⟨rfl, b2⟩)
        exact ⟨⟨k + 1, by omega, by go_num, rfl, below_step hBel b2⟩, by simp [intOf]; omega⟩
      | false =>
        rw [hic] at hcp1
        rw [hcp1] at C57
        have hby : l[k].bytes base = l[k].text.data.toList := by
          unfold Pc.bytes; rw [if_neg (by rw [hic]; decide)]; rfl
        rw [hby] at hnx
        generalize l[k].copy base.size = cpy at *
        generalize hR : l[k].re = re at *
        generalize hI : l[k].im = im at *
        generalize hT : l[k].text = tx at *
        have hadd : ∀ W, (Op.stringOp .add ⟨(bytesL base (l.take k)).toArray⟩ tx).run Try.prog W = .ok (.string ⟨(bytesL base (l.take (k + 1))).toArray⟩) W := fun W => by
          rw [hnx]
          exact addText _ _ (by omega) (by omega) W
        clear hr hr0 hcp1 hcp2 hic hnx hby hf hf1 hR hI hT
        go_wp2_with (go_at_call 57; refine (C57.out _).mono ?_; rintro e w2 ⟨rfl, b2⟩; have c1' := cell_later b2 c1)
        exact ⟨⟨k + 1, by omega, by go_num, rfl, below_step hBel b2⟩, by simp [intOf]; omega⟩
    · obtain rfl : k = l.length := by omega
      rw [List.take_length]
      go_wp2
      go_ret2
      exact ⟨rfl, hBel⟩

/-! ### Apply -/
theorem check_text {base : ByteArray} {l : List Pc} (hck : (checkL base.size l).2 = 0) (hs : ∀ p ∈ l, p.small) : ∀ x ∈ l, x.text.size ≤ 4099 := fun x hx => by
  obtain ⟨_, _, hne, _⟩ := check_ok hck
  have h1 := bytes_len (hne x hx)
  have h2 := x.len_le base.size (hs x hx)
  have h3 : (x.bytes base).length ≥ x.text.size := by unfold Pc.bytes; rw [List.length_append, size_list]; omega
  omega
set_option maxHeartbeats 1000000 in
theorem refApply_of (base d : ByteArray) (w : World) (hd : d.size ≤ 30000) (hb : base.size ≤ maxLen) :
    Calls Try.prog 44 #[.string base, .string d] w fun e w' => TextOut (applyD base d) e ∧ Below w.heap.size w w' := by
  have C48 := refRead_of d w hd
  cases hr : readD d with
  | none =>
    have HE : applyD base d = .inr 2 := by unfold applyD; rw [hr]
    rw [HE]
    rw [hr] at C48
    clear hr HE
    go_enter Try.func44, Try.ntmps44
    go_wp2_with (go_at_call 48; refine C48.mono ?_; rintro e w1 ⟨hR, b1⟩; obtain rfl := hR)
    go_ret2
    exact ⟨rfl, b1⟩
  | some y =>
    obtain ⟨b, l⟩ := y
    obtain ⟨hsm, hck, hb4⟩ := read_some hr
    rw [hr] at C48
    by_cases hbb : b = base.size
    · have HE : applyD base d = .inl ⟨(bytesL base l).toArray⟩ := by unfold applyD; rw [hr]; simp only; rw [if_pos hbb]
      rw [HE]
      rw [hbb] at hck
      have HL : Hid (l.length ≤ 4099) := Lib.hid (by
        obtain ⟨_, _, h3, h4⟩ := check_ok hck
        have := lens_many base.size l h3
        omega)
      have HSM := Lib.hid hsm
      have HCK := Lib.hid hck
      have HTX : Hid (∀ x ∈ l, x.text.size ≤ maxLen) := Lib.hid (fun x hx => by have := check_text hck hsm x hx; unfold maxLen; omega)
      clear hr HE hsm hck
      subst hbb
      go_enter Try.func44, Try.ntmps44
      go_wp2_with (first | (go_at_call 48; refine C48.mono ?_; rintro e w1 ⟨hR, b1⟩; obtain ⟨v, rfl, hO⟩ := hR; obtain ⟨A, cp, rfl, hP⟩ := pcs_of_owns hO) | (go_at_call 49; refine (refText_of base A cp l w1 HSM.out HTX.out hP (by have := HL.out; omega) HCK.out).mono ?_; rintro e w2 ⟨rfl, b2⟩))
      go_ret2
      exact ⟨rfl, below_step b1 b2⟩
    · have HE : applyD base d = .inr 19 := by unfold applyD; rw [hr]; simp only; rw [if_neg hbb]
      rw [HE]
      have hne : ((b : Int) == (base.size : Int)) = false := by rw [beq_eq_false_iff_ne]; omega
      clear hr HE hsm hck
      go_enter Try.func44, Try.ntmps44
      go_wp2_with (go_at_call 48; refine C48.mono ?_; rintro e w1 ⟨hR, b1⟩; obtain ⟨v, rfl, hO⟩ := hR)
      go_ret2
      exact ⟨rfl, b1⟩

/-! ### Path and Text of the chapter on chains -/
theorem refPath_of (A : Option Addr) (cap : Nat) (l : List Pt) (p : Int) (w : World) (hc : Pts w A l) :
    Calls Try.prog 31 #[.slice A l.length cap, .int .i64 p] w fun e w' => PathOut w.heap.size (pathL l p) e w' ∧ Below w.heap.size w w' := by
  by_cases h : 200 < l.length ∨ p < 0 ∨ (l.length : Int) ≤ p
  · have e : pathL l p = .inr 1 := by unfold pathL; rw [if_pos h]
    rw [e]
    refine (refPath_out A cap l p w h).mono ?_
    rintro e w' ⟨rfl, rfl⟩
    exact ⟨rfl, Below.refl _ _⟩
  · have e : pathL l p = pathFrom l 5 p.toNat := by unfold pathL; rw [if_neg h]
    rw [e]
    have := refPath_in A cap l p.toNat w (by omega) (by omega) hc
    rw [show ((p.toNat : Nat) : Int) = p by omega] at this
    exact this
set_option maxHeartbeats 2000000 in
theorem refTextL_of (A : Option Addr) (cap : Nat) (l : List Pt) (p : Int) (w : World) (hs : ∀ x ∈ l, x.text.size ≤ 30000) (hc : Pts w A l) :
    Calls Try.prog 32 #[.slice A l.length cap, .int .i64 p] w fun e w' => TextOut (textL l p) e ∧ Below w.heap.size w w' := by
  have C31 := refPath_of A cap l p w hc
  cases hp : pathL l p with
  | inr e =>
    have he : ((e : Int) == 0) = false := by have := pathL_err hp; rw [beq_eq_false_iff_ne]; omega
    rw [textL_bad hp]
    rw [hp] at C31
    clear hp
    go_enter Try.func32, Try.ntmps32
    go_wp2_with (go_at_call 31; refine C31.mono ?_; rintro e w1 ⟨hR, b1⟩; obtain rfl := hR)
    go_ret2
    exact ⟨rfl, b1⟩
  | inl r =>
    obtain ⟨hin, h0, h5⟩ := pathL_in hp
    have HT : Hid (textL l p = textPath l r) := Lib.hid (by unfold textL; rw [hp])
    rw [hp] at C31
    have HIN := Lib.hid hin
    have HS := Lib.hid hs
    have HC := Lib.hid hc
    clear hp hin hs hc
    go_enter Try.func32, Try.ntmps32
    go_wp2_with (go_at_call 31; refine C31.mono ?_; rintro e w1 ⟨hR, b1⟩; obtain ⟨v, rfl, hO⟩ := hR; obtain ⟨g, cp, rfl, hcl⟩ := places_slice hO h0)
    have HCL := Lib.hid hcl
    have HO := Lib.hid hO
    clear hcl hO C31
    go_loopw [8, 9] (fun s i wr => ∃ (j : Nat) (t : ByteArray), j ≤ r.length ∧ s = .string t ∧ i = .int .i64 ((j : Int) - 1) ∧ Hid (textPath l (r.drop j) = .inl t) ∧ Below w1.heap.size w1 wr) (fun _ i _ => (intOf i + 1).toNat)
    case atStart => exact ⟨r.length, ⟨#[]⟩, by omega, rfl, by go_num, Lib.hid (by rw [List.drop_length]; rfl), Below.refl _ _⟩
    case round =>
      obtain ⟨j, t, hj, rfl, rfl, HTP, hBel⟩ := hrel
      cases j with
      | zero =>
        go_wp2
        go_ret2
        rw [HT.out]
        rw [List.drop_zero] at HTP
        rw [HTP.out]
        exact ⟨rfl, below_step b1 hBel⟩
      | succ m =>
        have hm : m < r.length := by omega
        have ci := cell_later hBel (HCL.out m hm)
        have hlt := HIN.out _ (List.getElem_mem hm)
        obtain ⟨bb, o, rfl, hr0⟩ := HC.out _ hlt
        have hr := rangeAt_below hr0 (below_step b1 hBel)
        have c0 := Pt.at0 hr
        have c1 := Pt.at1 hr
        have c2 := Pt.at2 hr
        have hst := textPath_step hm hlt HTP.out
        have htz := textPath_size HTP.out
        have hxs := HS.out _ (List.getElem_mem hlt)
        generalize hx : l[r[m]] = x at *
        generalize hrm : r[m] = q at *
        clear hr hr0
        have hi : ((m + 1 : Nat) : Int) - 1 = (m : Int) := by omega
        rw [hi]
        have H82 := Lib.hid size82
        obtain ⟨d, bs, tx⟩ := x
        simp only at c0 c1 c2 hxs
        cases d with
        | false =>
          by_cases hbig : 4099 < tx.size
          · have hpt : partText ⟨false, bs, tx⟩ t = .inr 19 := by unfold partText; simp only; rw [if_neg (by decide), if_pos hbig]
            rw [hpt] at hst
            have HST := Lib.hid (textPath_err m hst)
            clear hst hpt hi hx
            go_wp2_with (have hh := H82.out; clear H82; refine wpList_store_row rfl 82 _ _ rfl wr.heap.size #[.bool false, .int .i64 bs, .string tx] rfl rfl 82 _ (heap_alloc_new wr _) hh rfl (pt_one _ _ _) ?_; rw [World.setRow_alloc_new])
            go_ret2
            rw [HT.out, HST.out]
            exact ⟨rfl, below_step b1 (below_lay hBel _)⟩
          · have hpt : partText ⟨false, bs, tx⟩ t = .inl tx := by unfold partText; simp only; rw [if_neg (by decide), if_neg hbig]
            rw [hpt] at hst
            have HST := Lib.hid hst
            clear hst hpt hi hx
            go_wp2_with (have hh := H82.out; clear H82; refine wpList_store_row rfl 82 _ _ rfl wr.heap.size #[.bool false, .int .i64 bs, .string tx] rfl rfl 82 _ (heap_alloc_new wr _) hh rfl (pt_one _ _ _) ?_; rw [World.setRow_alloc_new])
            exact ⟨⟨m, tx, by omega, rfl, by go_num, HST, below_lay hBel _⟩, by simp [intOf]⟩
        | true =>
          have C44 : Hid (∀ W, Calls Try.prog 44 #[.string t, .string tx] W fun e w' => TextOut (applyD t tx) e ∧ Below W.heap.size W w') := Lib.hid (fun W => refApply_of t tx W hxs (by unfold maxLen; omega))
          have hpt : partText ⟨true, bs, tx⟩ t = applyD t tx := by unfold partText; rw [if_pos rfl]
          rw [hpt] at hst
          cases hap : applyD t tx with
          | inl s =>
            rw [hap] at C44 hst
            have HST := Lib.hid hst
            clear hst hpt hi hx hap
            go_wp2_with (first
              | (have hh := H82.out; clear H82; refine wpList_store_row rfl 82 _ _ rfl wr.heap.size #[.bool true, .int .i64 bs, .string tx] rfl rfl 82 _ (heap_alloc_new wr _) hh rfl (pt_one _ _ _) ?_; rw [World.setRow_alloc_new])
              | (go_at_call 44; refine (C44.out _).mono ?_; rintro e w2 ⟨hR, b2⟩; obtain rfl := hR))
            exact ⟨⟨m, s, by omega, rfl, by go_num, HST, below_step (below_lay hBel _) b2⟩, by simp [intOf]⟩
          | inr e =>
            have he : ((e : Int) == 0) = false := by have := part_err (hpt.trans hap); rw [beq_eq_false_iff_ne]; omega
            rw [hap] at C44 hst
            have HST := Lib.hid (textPath_err m hst)
            clear hst hpt hi hx hap
            go_wp2_with (first
              | (have hh := H82.out; clear H82; refine wpList_store_row rfl 82 _ _ rfl wr.heap.size #[.bool true, .int .i64 bs, .string tx] rfl rfl 82 _ (heap_alloc_new wr _) hh rfl (pt_one _ _ _) ?_; rw [World.setRow_alloc_new])
              | (go_at_call 44; refine (C44.out _).mono ?_; rintro e w2 ⟨hR, b2⟩; obtain rfl := hR))
            go_ret2
            rw [HT.out, HST.out]
            exact ⟨rfl, below_step b1 (below_step (below_lay hBel _) b2)⟩
end Go.Proofs.Ytghmhheolbobpaa
