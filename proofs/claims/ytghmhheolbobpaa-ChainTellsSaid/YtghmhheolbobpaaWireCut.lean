/- WireCut returns true, whatever the items and the cut: texts are written one behind the other, cut, and read: what was whole is there, and then too little is there. Conditions: the items lie in memory as a slice of structs. -/
import Derived.Test.YtghmhheolbobpaaItems
import Derived.Test.YtghmhheolbobpaaCutPlain
set_option linter.unusedVariables false
namespace Go.Proofs.Ytghmhheolbobpaa
open Go.RowKit Wire

theorem info3 : ∃ i, Try.prog.info? 3 = some i ∧ i.zero = some (.int .i64 0) ∧ i.size = 1 ∧ i.bytes = 8 := by
  have h : (Try.prog.info? 3).map (fun i => (i.zero, i.size, i.bytes)) = some (some (.int .i64 0), 1, 8) := by kernel_rfl
  obtain ⟨i, hi, he⟩ := Option.map_eq_some_iff.1 h
  simp only [Prod.mk.injEq] at he
  exact ⟨i, hi, he.1, he.2.1, he.2.2⟩
theorem Wr.block {B b : Nat} {l : List UInt8} {w : World} (h : Wr B b l w) : ∃ c, w.heap[b]? = some (.cells c 30 (0, 0)) := by
  rcases h with ⟨_, v, hb, _⟩ | ⟨_, v, hb, _⟩ <;> exact ⟨_, hb⟩
theorem ends_kept {B' B b n : Nat} {v : Value} {xs : List Value} {l : List UInt8} {w w' : World} (h : w.ownsRowF B' 3 1 v n xs) (hW : Wr B b l w) (hk : Kp B b w w') : w'.ownsRowF B' 3 1 v n xs := by
  refine ⟨h.1, ?_⟩
  rcases h.2 with hn | ⟨g, cap, cur, fz, rfl, hb, hgg, rest⟩
  · exact .inl hn
  · refine .inr ⟨g, cap, cur, fz, rfl, hb, hk.cell ?_ hgg (by decide), rest⟩
    rintro rfl
    obtain ⟨c, hc⟩ := hW.block
    rw [hgg] at hc
    injection hc with hc
    injection hc with _ hc
    exact absurd hc (by decide)
theorem builder_grown {B b B' n : Nat} {p v : Value} {bs xs : List Value} {w w' : World} (h : Lib.BuilderAtF 30 5 B b p bs w) (ho : w.ownsRowF B' 3 1 v n xs) (hg : w.grownBy w' v.ownBlock) : Lib.BuilderAtF 30 5 B b p bs w' := by
  have hlt := h.lt
  obtain ⟨hB, u, hbk, hown, hne⟩ := h
  refine ⟨hB, u, (hg.block b hlt ?_).trans hbk, hown.kept hg ?_, hne⟩
  · intro e
    obtain ⟨c, fz, hc⟩ := Lib.ownsRowF_kind ho b e.symm
    rw [hbk] at hc
    injection hc with hc
    injection hc with _ hc
    exact absurd hc (by decide)
  · cases hu : u.ownBlock with
    | none => exact .inl rfl
    | some g =>
      right
      intro e
      obtain ⟨c, fz, hc⟩ := Lib.ownsRowF_kind ho g e.symm
      obtain ⟨c', fz', hc'⟩ := Lib.ownsRowF_kind hown g hu
      rw [hc] at hc'
      injection hc' with hc'
      injection hc' with _ hc'
      exact absurd hc' (by decide)
theorem Wr.grown {B b B' n : Nat} {v : Value} {xs : List Value} {l : List UInt8} {w w' : World} (h : Wr B b l w) (ho : w.ownsRowF B' 3 1 v n xs) (hg : w.grownBy w' v.ownBlock) : Wr B b l w' :=
  h.elim (fun x => .inl (builder_grown x ho hg)) (fun x => .inr (builder_grown x ho hg))

theorem ends_cell {B n k : Nat} {v u : Value} {xs : List Value} {w : World} (h : w.ownsRowF B 3 1 v n xs) (hk : k < n) (hu : xs[k]? = some u) : ∃ g cp, v = .slice (some ⟨g, 0, none⟩) n cp ∧ g < w.heap.size ∧ w.cell? ⟨g, k, none⟩ = some u := by
  have hl := h.lt
  have hcl : ∀ g, v.ownBlock = some g → ∀ j u, xs[j]? = some u → w.cell? ((⟨g, 0, none⟩ : Addr).add j) = some u := fun g hg => h.cells hg
  rcases h.2 with ⟨_, h0⟩ | ⟨g, cp, cur, fz, hv, _⟩
  · omega
  · subst hv
    refine ⟨g, cp, rfl, (hl g rfl).2, ?_⟩
    have := hcl g rfl k _ hu
    have e : (⟨g, 0, none⟩ : Addr).add k = ⟨g, k, none⟩ := by unfold Addr.add; split <;> simp_all
    rwa [e] at this

theorem txts_len : ∀ (ts : List (List UInt8)) (k : Nat), (∀ t ∈ ts, t.length ≤ 500) → (txts (ts.take k)).length ≤ 506 * ts.length
  | [], k, _ => by simp [txts]
  | t :: ts, 0, _ => by simp [txts]
  | t :: ts, k + 1, h => by
    have ih := txts_len ts k fun x hx => h x (List.mem_cons_of_mem _ hx)
    have ht := h t (List.mem_cons_self ..)
    have h6 := num_six (n := t.length) (by unfold maxNum; omega)
    have e : (txts ((t :: ts).take (k + 1))).length = (txt t).length + (txts (ts.take k)).length := by
      unfold txts; rw [List.take_succ_cons, List.flatMap_cons, List.length_append]
    rw [e, txt_length, List.length_cons]
    omega
/-- Where the texts end. -/
def ends (ts : List (List UInt8)) (k : Nat) : List Value := (List.range k).map fun j => Value.int .i64 ((txts (ts.take (j + 1))).length : Int)
theorem ends_succ (ts : List (List UInt8)) (k : Nat) : ends ts (k + 1) = ends ts k ++ [.int .i64 ((txts (ts.take (k + 1))).length : Int)] := by
  unfold ends; rw [List.range_succ, List.map_append]; rfl
theorem ends_at (ts : List (List UInt8)) {n k : Nat} (h : k < n) : (ends ts n)[k]? = some (.int .i64 ((txts (ts.take (k + 1))).length : Int)) := by
  unfold ends; rw [List.getElem?_map, List.getElem?_range h]; rfl

/-- A text that is whole is read. -/
theorem cut_good (r : Nat) (ts : List (List UInt8)) (k at_ : Nat) (s c : ByteArray) (w : World) (h : k < ts.length) (hs : ts[k].length ≤ 500) (e : ts[k] = s.data.toList) (hm : c.size ≤ maxLen) (hc : c.data.toList = (txts ts).take at_) (hcs : c.size = at_)
    (hR : Rd r c (txts (ts.take k)).length 0 w) (hat : (txts (ts.take (k + 1))).length ≤ at_) :
    Calls Try.prog 22 #[.pointer (some ⟨r, 0, none⟩), .int .i64 500] w fun e' w' => e' = .returned (.string s) ∧ Rd r c (txts (ts.take (k + 1))).length 0 w' ∧ Ko r w w' := by
  obtain ⟨h1, h2⟩ := cut_whole h hs hat
  have h3 : (txts (ts.take (k + 1))).length = (txts (ts.take k)).length + (num ts[k].length).length + ts[k].length := by
    rw [txts_take ts k h, List.length_append, txt_length]; omega
  have ht := text_good r c (txts (ts.take k)).length 500 ts[k].length (num ts[k].length).length w hR hm (by omega) (by rw [hc]; exact h1) (by omega)
  have h4 : c.extract ((txts (ts.take k)).length + (num ts[k].length).length) ((txts (ts.take k)).length + (num ts[k].length).length + ts[k].length) = s := by
    apply ByteArray.ext
    apply Array.toList_inj.1
    rw [extract_list, hc, h2, e]
  rw [h4, ← h3] at ht
  exact ht
/-- A text that is cut is not read: too little is there. -/
theorem cut_bad (r : Nat) (ts : List (List UInt8)) (k at_ : Nat) (c : ByteArray) (w : World) (h : k < ts.length) (hs : ts[k].length ≤ 500) (hm : c.size ≤ maxLen) (hc : c.data.toList = (txts ts).take at_) (hcs : c.size = at_)
    (hR : Rd r c (txts (ts.take k)).length 0 w) (hle : (txts (ts.take k)).length ≤ at_) (hat : at_ < (txts (ts.take (k + 1))).length) :
    Calls Try.prog 22 #[.pointer (some ⟨r, 0, none⟩), .int .i64 500] w fun e' w' => e' = .returned (.string ByteArray.empty) ∧ Rd r c (txts (ts.take k)).length 3 w' ∧ Ko r w w' := by
  rcases cut_short h hs hle hat with h1 | ⟨h1, h2⟩
  · exact text_bad r c (txts (ts.take k)).length 500 3 w hR hm (by omega) (by rw [hc]; exact h1)
  · exact text_short r c (txts (ts.take k)).length 500 ts[k].length (num ts[k].length).length w hR hm (by omega) (by rw [hc]; exact h1) (by omega)

set_option maxHeartbeats 400000 in
theorem cut_great (A : Option Addr) (cap : Nat) (l : List It) (c : Int) (w : World) (hs : ∀ x ∈ l, x.s.size ≤ maxLen) (hI : Its w A l) (hg : greatB l = true) :
    Calls Try.prog 6 #[.slice A l.length cap, .int .u16 c] w fun e w' => e = .returned (.bool true) ∧ Below w.heap.size w w' := by
  go_enter Try.func6, Try.ntmps6
  go_wp2_with fail
  refine (alive_any _).mono ?_
  rintro e w1 ⟨rfl, b1⟩
  have hgr := great_any A cap l w1 hs (hI.below b1)
  rw [hg] at hgr
  go_wp2_with fail
  refine hgr.mono ?_
  rintro e w2 ⟨rfl, rfl⟩
  go_wp2_with fail
  refine (alive_any _).mono ?_
  rintro e w2 ⟨rfl, b2⟩
  go_wp2
  go_ret
  exact ⟨rfl, below_step b1 b2⟩

/-- What stands before each round of the first loop. -/
structure Cut1 (B b : Nat) (ts : List (List UInt8)) (w : World) (k : Nat) (v : Value) (wr : World) : Prop where
  owns : wr.ownsRowF B 3 1 v k (ends ts k)
  writ : Wr B b (txts (ts.take k)) wr
  below : Below B w wr
set_option maxHeartbeats 2000000 in
set_option maxRecDepth 100000 in
theorem cut_few (A : Option Addr) (cap : Nat) (l : List It) (c : Nat) (w : World) (hs : ∀ x ∈ l, x.s.size ≤ maxLen) (hI : Its w A l) (hg : greatB l = false) (hc : c < 65536) :
    Calls Try.prog 6 #[.slice A l.length cap, .int .u16 (c : Int)] w fun e w' => e = .returned (.bool true) ∧ Below w.heap.size w w' := by
  obtain ⟨i0, hi, hz0, hz1, hz2⟩ := info3
  obtain ⟨g1, g2⟩ := great_false hg
  obtain ⟨ts, hts⟩ : ∃ ts, ts = l.map fun x => x.s.data.toList := ⟨_, rfl⟩
  have htl : ts.length = l.length := by rw [hts, List.length_map]
  have hta : ∀ k (h : k < l.length) (h' : k < ts.length), ts[k] = l[k].s.data.toList := fun k h h' => by simp only [hts, List.getElem_map]
  have ht5 : ∀ t ∈ ts, t.length ≤ 500 := fun t ht => by
    rw [hts] at ht
    obtain ⟨x, hx, rfl⟩ := List.mem_map.1 ht
    have := g2 x hx
    simpa using this
  have htn : ∀ k, (txts (ts.take k)).length ≤ 30360 := fun k => by have := txts_len ts k ht5; omega
  have HI := Lib.hid hI
  have HS := Lib.hid hs
  have HTL := Lib.hid htl
  have HTA := Lib.hid hta
  have HTN := Lib.hid htn
  have HG2 := Lib.hid g2
  clear hI hs htl hta htn hts ht5 g2
  go_enter Try.func6, Try.ntmps6
  go_wp2_with fail
  refine (alive_any _).mono ?_
  rintro e w1 ⟨rfl, b1⟩
  have hgr := great_any A cap l w1 HS.out (HI.out.below b1)
  rw [hg] at hgr
  go_wp2_with fail
  refine hgr.mono ?_
  rintro e w2 ⟨rfl, rfl⟩
  have hB := b1.size
  have W0 := Wr.new w.heap.size w1 hB
  go_wp2
  go_loopw [6, 7] (fun v i wr => ∃ k : Nat, k ≤ l.length ∧ i = .int .i64 k ∧ Cut1 w.heap.size w1.heap.size ts w k v wr) (fun _ i _ => l.length - (intOf i).toNat)
  case atStart => exact ⟨0, by omega, rfl, World.ownsRowF_nil _ _ _ _, W0, below_lay b1 _⟩
  case round =>
    obtain ⟨k, hk, rfl, hO, hW, hBel⟩ := hrel
    by_cases hlt : k < l.length
    · obtain ⟨bb, o, rfl, hr⟩ := (HI.out.below hBel) k hlt
      have hc3 := It.at3 hr
      clear hr
      have hsz := HG2.out _ (List.getElem_mem hlt)
      have HSZ := Lib.hid hsz
      have hn1 := HTN.out k
      have hn2 := HTN.out (k + 1)
      have hj : txts (ts.take k) ++ num l[k].s.size ++ l[k].s.data.toList = txts (ts.take (k + 1)) := by
        rw [txts_take ts k (by rw [HTL.out]; exact hlt), HTA.out k hlt (by rw [HTL.out]; exact hlt), List.append_assoc]; unfold txt; simp
      obtain ⟨S, hS, hSs⟩ : ∃ S : ByteArray, S = ⟨(txts (ts.take (k + 1))).toArray⟩ ∧ S.size = (txts (ts.take (k + 1))).length := ⟨_, rfl, by show (txts (ts.take (k + 1))).toArray.size = _; rw [List.size_toArray]⟩
      generalize hx : l[k].s = x at *
      go_wp2_with fail
      refine (text_one _ _ _ x _ _ _ (hW.alloc _) (by omega) (by omega) (by simp)).mono ?_
      rw [hj]
      rintro e w3 ⟨rfl, W3, k3⟩
      have O3 := ends_kept (hO.alloc _) (hW.alloc _) k3
      go_wp2_with fail
      refine (string_of _ _ _ _ W3).mono ?_
      rw [← hS]
      rintro e w4 ⟨rfl, W4, k4⟩
      have O4 := ends_kept O3 W3 k4
      go_wp2_with (at_builtin; refine wpList_append_ownF _ rfl _ _ 51 rfl w.heap.size 3 i0 (.int .i64 0) 1 8 Try.underlying51 hi hz0 hz1 hz2 rfl (by decide) _ _ _ rfl (O4.alloc _) ⟨w4.heap.size, 0, none⟩ 1 1 [.int .i64 ((txts (ts.take (k + 1))).length : Int)] rfl rfl ?c1 ?c2 ?c3 ?c4 ?c5 ?_)
      case c1 =>
        intro j u hj
        match j, hj with
        | 0, hj => simp at hj; subst hj; simp [Addr.add]
      case c2 => intro u hu; simp at hu; subst hu; rfl
      case c3 => unfold maxLen; omega
      case c4 => omega
      case c5 => have := O4.lt; have := W4.base; simp; omega
      intro v' w5 hown' hgrow _
      have O5 : w5.ownsRowF w.heap.size 3 1 v' (k + 1) (ends ts (k + 1)) := by rw [ends_succ]; exact hown'
      have hsize := W4.base
      have B4 := (((below_lay hBel _).trans k3.below).trans k4.below)
      have B5 := (below_lay B4 _).grown hgrow (by simp; omega) (fun g hg => (O4.lt g hg).1)
      have W5 := (W4.alloc _).grown (O4.alloc _) hgrow
      go_wp2
      exact ⟨⟨k + 1, by omega, by go_num, O5, W5, B5⟩, by simp [intOf]; omega⟩
    · obtain rfl : k = l.length := by omega
      have hwhole : ts.take l.length = ts := by rw [← HTL.out, List.take_length]
      rw [hwhole] at hW
      have hn1 := HTN.out l.length
      rw [hwhole] at hn1
      obtain ⟨S, hS, hSs⟩ : ∃ S : ByteArray, S = ⟨(txts ts).toArray⟩ ∧ S.size = (txts ts).length := ⟨_, rfl, by show (txts ts).toArray.size = _; rw [List.size_toArray]⟩
      have hS64 : S.size ≤ 30360 := by omega
      have hSl : S.data.toList = txts ts := by rw [hS]
      have HSS := Lib.hid hSs
      have HSL := Lib.hid hSl
      clear hSs hSl
      go_wp2_with fail
      refine (string_of _ _ _ _ hW).mono ?_
      rw [← hS]
      rintro e w2 ⟨rfl, W2, k2⟩
      have O2 := ends_kept hO hW k2
      have B2 := hBel.trans k2.below
      clear hS
      obtain ⟨p, hp⟩ : ∃ p : Nat, p = c % (S.size + 1) := ⟨_, rfl⟩
      have hpl : p ≤ S.size := by have := Nat.mod_lt c (show 0 < S.size + 1 by omega); omega
      have hpc : (c : Int) % ((S.size : Int) + 1) = (p : Int) := by rw [hp, Int.natCast_emod]; rfl
      clear hp
      go_wp2_with fail
      refine (newReader (S.extract 0 p) _).mono ?_
      rintro e w3 ⟨rfl, rfl⟩
      obtain ⟨C, hC⟩ : ∃ C : ByteArray, C = S.extract 0 p := ⟨_, rfl⟩
      have hCs : C.size = p := by rw [hC, ByteArray.size_extract]; omega
      have hCl : C.data.toList = (txts ts).take p := by
        have := extract_list S 0 p
        rw [Nat.zero_add] at this
        rw [hC, this, HSL.out, List.drop_zero]
      rw [← hC]
      clear hC
      have HCL := Lib.hid hCl
      have HCS := Lib.hid hCs
      clear hCs hCl
      go_wp2
      go_loopw [11] (fun i wr => ∃ k : Nat, k ≤ l.length ∧ i = .int .i64 k ∧ Hid ((txts (ts.take k)).length ≤ p) ∧ Rd w2.heap.size C (txts (ts.take k)).length 0 wr ∧ Below w2.heap.size w2 wr) (fun i _ => l.length - (intOf i).toNat)
      case atStart => exact ⟨0, by omega, rfl, Lib.hid (Nat.zero_le _), Rd.new C w2, below_lay (Below.refl _ _) _⟩
      case round =>
        obtain ⟨k, hk, rfl, HP, hR, hBl⟩ := hrel
        by_cases hlt : k < l.length
        · obtain ⟨bb, o, rfl, hr⟩ := HI.out k hlt
          obtain ⟨g, cp, rfl, hgl, hgc⟩ := ends_cell O2 hlt (ends_at ts hlt)
          have hcm : C.size ≤ maxLen := by rw [HCS.out]; unfold maxLen; omega
          have hkt : k < ts.length := by rw [HTL.out]; exact hlt
          have h5 : ts[k].length ≤ 500 := by rw [HTA.out k hlt hkt]; have := HG2.out _ (List.getElem_mem hlt); simpa using this
          have HHR := Lib.hid hr
          have HGC := Lib.hid hgc
          clear hr hgc
          by_cases hw : (txts (ts.take (k + 1))).length ≤ p
          · have hct := cut_good w2.heap.size ts k p l[k].s C wr hkt h5 (HTA.out k hlt hkt) hcm HCL.out HCS.out hR hw
            have HW := Lib.hid hw
            clear hw hcm h5
            go_wp2_with fail
            refine hct.mono ?_
            rintro e w4 ⟨rfl, R4, k4⟩
            have B4 : Below w2.heap.size w2 w4 := hBl.trans (k4.below (Nat.le_refl _) hBl.size)
            have hgc4 := cell_later B4 HGC.out
            have hc4 := It.at3 (rangeAt_below HHR.out (below_step B2 B4))
            have hlq : ((txts (ts.take (k + 1))).length : Int) ≤ (p : Int) := by have := HW.out; omega
            generalize l[k].s = x at *
            obtain ⟨q, hq⟩ : ∃ q, q = (txts (ts.take (k + 1))).length := ⟨_, rfl⟩
            rw [← hq] at hgc4 hlq R4
            have HQ := Lib.hid hq
            clear hq
            go_wp2_with fail
            refine (err_of _ _ _ _ _ R4).mono ?_
            rintro e w5 ⟨rfl, rfl⟩
            go_wp2
            exact ⟨⟨k + 1, by omega, by go_num, HW, by rw [HQ.out] at R4; exact R4, B4⟩, by simp [intOf]; omega⟩
          · have hct := cut_bad w2.heap.size ts k p C wr hkt h5 hcm HCL.out HCS.out hR HP.out (by omega)
            have HW := Lib.hid hw
            clear hw hcm h5
            go_wp2_with fail
            refine hct.mono ?_
            rintro e w4 ⟨rfl, R4, k4⟩
            have B4 : Below w2.heap.size w2 w4 := hBl.trans (k4.below (Nat.le_refl _) hBl.size)
            have hgc4 := cell_later B4 HGC.out
            have hlq : ¬ ((txts (ts.take (k + 1))).length : Int) ≤ (p : Int) := by have := HW.out; omega
            have hlq2 : (p : Int) < ((txts (ts.take (k + 1))).length : Int) := by have := HW.out; omega
            go_wp2_with fail
            refine (alive_any _).mono ?_
            rintro e w5 ⟨rfl, b5⟩
            have R5 := R4.below b5
            go_wp2_with fail
            refine (err_of _ _ _ _ _ R5).mono ?_
            rintro e w6 ⟨rfl, rfl⟩
            go_wp2
            go_ret
            exact ⟨rfl, below_step B2 (below_step B4 b5)⟩
        · obtain rfl : k = l.length := by omega
          rw [hwhole] at hR
          have hPL := HP.out
          rw [hwhole] at hPL
          have hEnd : endOf C (txts ts).length 0 = 0 := by unfold endOf; rw [if_pos rfl, if_neg (by rw [HCS.out]; have := HSS.out; omega)]
          go_wp2_with fail
          refine (alive_any _).mono ?_
          rintro e w5 ⟨rfl, b5⟩
          have R5 := hR.below b5
          have he := end_any _ _ _ _ _ R5 (by rw [HCS.out]; unfold maxLen; omega)
          rw [hEnd] at he
          go_wp2_with fail
          refine he.mono ?_
          rintro e w6 ⟨rfl, R6, k6⟩
          go_wp2
          go_ret
          exact ⟨rfl, below_step B2 ((below_step hBl b5).trans (k6.below (Nat.le_refl _) (below_step hBl b5).size))⟩
end Go.Proofs.Ytghmhheolbobpaa
