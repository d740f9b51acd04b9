/- chain's own path: a part, its base, that one's base. Conditions: the parts lie in memory as a slice of structs. -/
import Derived.Test.YtghmhheolbobpaaRefPath
import Derived.Test.YtghmhheolbobpaaReadNum
set_option linter.unusedVariables false
set_option maxRecDepth 100000
namespace Go.Proofs.Ytghmhheolbobpaa
open Go.RowKit Wire

theorem World.ownsRowF.wider {w : World} {B B' : Nat} {e : TypeId} {size n : Nat} {v : Value} {xs : List Value} (h : w.ownsRowF B e size v n xs) (hB : B' ≤ B) : w.ownsRowF B' e size v n xs := by
  refine ⟨h.1, ?_⟩
  rcases h.2 with hn | ⟨g, cap, cur, fz, hv, hb, rest⟩
  · exact .inl hn
  · exact .inr ⟨g, cap, cur, fz, hv, Nat.le_trans hB hb, rest⟩
/-- A frame of 64 slots, written out. -/
theorem frame64 (a : Act) (h : a.tmps.size = 64) (hd : a.defers = []) : ∃ u : Nat → Value, (∀ k, a.tmps.getD k undef = u k) ∧ a = { tmps := #[u 0, u 1, u 2, u 3, u 4, u 5, u 6, u 7, u 8, u 9, u 10, u 11, u 12, u 13, u 14, u 15, u 16, u 17, u 18, u 19, u 20, u 21, u 22, u 23, u 24, u 25, u 26, u 27, u 28, u 29, u 30, u 31, u 32, u 33, u 34, u 35, u 36, u 37, u 38, u 39, u 40, u 41, u 42, u 43, u 44, u 45, u 46, u 47, u 48, u 49, u 50, u 51, u 52, u 53, u 54, u 55, u 56, u 57, u 58, u 59, u 60, u 61, u 62, u 63], defers := [] } := by
  refine ⟨fun k => a.tmps.getD k undef, fun _ => rfl, ?_⟩
  obtain ⟨t, d⟩ := a
  subst hd
  have e := frame_lit t h
  exact congrArg (fun x => ({ tmps := x, defers := [] } : Act)) e
theorem size82 : (Try.prog.info? 82).map (·.size) = some 3 := by kernel_rfl
theorem pt_one (d : Bool) (b : Int) (t : ByteArray) : (#[Value.bool d, .int .i64 b, .string t] : Array Value).all (·.oneCell') = true := all_oneCell_toArray (fun v hv => by
  simp at hv
  rcases hv with rfl | rfl | rfl <;> rfl)
/-- A part stored into a block of its own. -/
theorem stored {B b : Nat} {w0 w : World} {cs : Array Value} {v : Value} {n : Nat} {xs : List Value} (d : Bool) (x : Int) (t : ByteArray) (hb : w.heap[b]? = some (.cells cs 82 (0, 0))) (hB : Below B w0 w) (hBb : B ≤ b) (ho : w.ownsRowF (b + 1) 3 1 v n xs) :
    ∃ w', w.setRow b #[.bool d, .int .i64 x, .string t] = w' ∧ w'.cell? ⟨b, 0, none⟩ = some (.bool d) ∧ w'.cell? ⟨b, 1, none⟩ = some (.int .i64 x) ∧ w'.cell? ⟨b, 2, none⟩ = some (.string t) ∧ Hid (Below B w0 w') ∧ Hid (w'.heap[b]? = some (.cells #[.bool d, .int .i64 x, .string t] 82 (0, 0))) ∧ Hid (w'.ownsRowF (b + 1) 3 1 v n xs) := by
  refine ⟨_, rfl, ?_, ?_, ?_, Lib.hid ?_, Lib.hid (setRow_heap _ _ _ _ _ _ hb), Lib.hid ⟨ho.1, ?_⟩⟩
  · rw [cell_setRow_same _ _ _ _ _ _ _ hb]; rfl
  · rw [cell_setRow_same _ _ _ _ _ _ _ hb]; rfl
  · rw [cell_setRow_same _ _ _ _ _ _ _ hb]; rfl
  · exact ⟨hB.os, hB.tape, hB.output, by rw [setRow_size]; exact hB.size, fun k hk => (setRow_other _ _ _ _ (by omega)).trans (hB.block k hk)⟩
  · rcases ho.2 with hn | ⟨g, cap, cur, fz, hv, hg, hh, rest⟩
    · exact .inl hn
    · exact .inr ⟨g, cap, cur, fz, hv, hg, (setRow_other _ _ _ _ (by omega)).trans hh, rest⟩
/-- The frame at a jump. -/
structure PF (A : Option Addr) (n cap : Nat) (B : Nat) (a : Act) : Prop where
  size : a.tmps.size = 64
  defers : a.defers = []
  s0 : a.tmps.getD 0 undef = .slice A n cap
  s7 : a.tmps.getD 7 undef = .pointer (some ⟨B, 0, none⟩)
/-- What holds at a jump to the label 'next' (1) and to 'wrong' (0). -/
def PathAt (A : Option Addr) (cap : Nat) (l : List Pt) (p : Int) (w0 : World) : Nat → Act → World → Prop
  | 1, a, w => PF A l.length cap w0.heap.size a ∧ ∃ (k : Nat) (out : List Nat) (v : Value) (cs : Array Value), a.tmps.getD 1 undef = .int .i64 (k : Int) ∧ a.tmps.getD 6 undef = v ∧
      k < l.length ∧ l.length ≤ 200 ∧ out.length < 5 ∧ w.ownsRowF (w0.heap.size + 1) 3 1 v out.length (places out) ∧ Below w0.heap.size w0 w ∧ w.heap[w0.heap.size]? = some (.cells cs 82 (0, 0)) ∧ cs.size = 3 ∧
      Hid (pathL l p = onto out (pathFrom l (5 - out.length) k))
  | 0, a, w => PF A l.length cap w0.heap.size a ∧ ∃ e : Nat, a.tmps.getD 8 undef = .int .i64 (e : Int) ∧ Below w0.heap.size w0 w ∧ Hid (pathL l p = .inr e)
  | _, _, _ => False
def pathMeasure (l : Nat) (a : Act) (_ : World) : Nat := if l = 1 then 1 + (intOf (a.tmps.getD 1 undef)).toNat else 0
set_option maxHeartbeats 2000000 in
theorem path_of (A : Option Addr) (cap : Nat) (l : List Pt) (p : Int) (w : World) (hc : Pts w A l) :
    Calls Try.prog 42 #[.slice A l.length cap, .int .i64 p] w fun e w' => PathOut w.heap.size (pathL l p) e w' ∧ Below w.heap.size w w' := by
  obtain ⟨i0, hi, hz0, hz1, hz2⟩ := info3
  have HC := Lib.hid hc
  clear hc
  go_enter Try.func42, Try.ntmps42
  go_wp2
  refine wp_scope_heads (PathAt A cap l p w) pathMeasure ?_ ?_
  · intro lb a w1 hJ
    match lb, hJ with
    | 0, hJ =>
      obtain ⟨hF, e, hs8, hB, HE⟩ := hJ
      obtain ⟨u, hu, rfl⟩ := frame64 a hF.size hF.defers
      have h8 := (hu 8).symm.trans hs8
      clear hu hF hs8
      rw [h8]
      clear h8
      refine ⟨_, rfl, ?_⟩
      go_wp2
      rw [jumps_ret]
      go_ret2
      rw [HE.out]
      exact ⟨rfl, hB⟩
    | 1, hJ =>
      obtain ⟨hF, k, out, v, cs, hs1, hs6, hk, hl, hfew, hown, hBel, hblk, hcs, HS⟩ := hJ
      obtain ⟨u, hu, rfl⟩ := frame64 a hF.size hF.defers
      have h0 := (hu 0).symm.trans hF.s0
      have h7 := (hu 7).symm.trans hF.s7
      have h1 := (hu 1).symm.trans hs1
      have h6 := (hu 6).symm.trans hs6
      clear hu hF hs1 hs6
      rw [h0, h1, h6, h7]
      clear h0 h1 h6 h7
      refine ⟨_, rfl, ?_⟩
      obtain ⟨bb, o, rfl, hr0⟩ := HC.out k hk
      go_wp2_with (at_builtin; refine wpList_append_ownF _ rfl _ _ 51 rfl (w.heap.size + 1) 3 i0 (.int .i64 0) 1 8 Try.underlying51 hi hz0 hz1 hz2 rfl (by decide) _ _ _ rfl (hown.alloc _) ⟨w1.heap.size, 0, none⟩ 1 1 [.int .i64 (k : Int)] rfl rfl ?c1 ?c2 ?c3 ?c4 ?c5 ?_)
      case c3 => unfold maxLen; omega
      case c4 => omega
      case c5 => have := lt_of_block hblk; omega
      · rfl
      intro v' w5 hown' hgrow _
      have O5 : w5.ownsRowF (w.heap.size + 1) 3 1 v' (out ++ [k]).length (places (out ++ [k])) := by unfold places at hown' ⊢; rw [List.map_append, List.length_append]; exact hown'
      have hne : v.ownBlock ≠ some w.heap.size := fun e => by have := (hown.lt _ e).1; omega
      have B5 := (below_lay hBel (.cells #[.int .i64 (k : Int)] 3)).grown hgrow (by have := hBel.size; simp; omega) (fun g hg => by have := (hown.lt g hg).1; omega)
      have blk5 : w5.heap[w.heap.size]? = some (.cells cs 82 (0, 0)) := (hgrow.block _ (by have := lt_of_block hblk; simp; omega) (fun e => hne e.symm)).trans ((Lib.alloc_old w1 _ _ (lt_of_block hblk)).trans hblk)
      have hr := rangeAt_below hr0 B5
      have c0 := Pt.at0 hr
      have c1 := Pt.at1 hr
      have c2 := Pt.at2 hr
      have h10 : (out ++ [k]).length = out.length + 1 := by rw [List.length_append]; rfl
      obtain ⟨f, hf⟩ : ∃ f, 5 - out.length = f + 1 := ⟨4 - out.length, by omega⟩
      rw [hf] at HS
      have HF := Lib.hid hf
      have HO := Lib.hid O5
      have HBF := Lib.hid B5
      have HB5 := Lib.hid blk5
      have HCS := Lib.hid hcs
      have H82 := Lib.hid size82
      obtain ⟨g, cp, rfl⟩ : ∃ g cp, v' = .slice (some ⟨g, 0, none⟩) (out.length + 1) cp := by
        rcases O5.2 with ⟨_, h0⟩ | ⟨g, cp, _, _, hv, _⟩
        · rw [h10] at h0; omega
        · exact ⟨g, cp, by rw [hv, h10]⟩
      obtain ⟨w6, hw6, e0, e1, e2, B6, blk6, O6⟩ := stored l[k].delta l[k].base l[k].text blk5 B5 (Nat.le_refl _) O5
      clear hf hown hown' hgrow O5 B5 hr0 hr blk5 hblk hcs
      cases hd : l[k].delta with
      | false =>
        rw [hd] at c0 e0 hw6
        by_cases hb : l[k].base = 0
        · have HE := Lib.hid (path_end (f := f) hk (by unfold Pt.wrong; simp [hd, hb]) hd out)
          rw [hb] at c1 e1 hw6
          go_wp2_with (first | (have hh := HB5.out; clear HB5; refine wpList_store_row rfl 82 _ _ rfl w.heap.size #[.bool false, .int .i64 0, .string l[k].text] rfl rfl 82 cs hh H82.out (HCS.out.trans rfl) (pt_one _ _ _) ?_; rw [hw6]) | fail)
          rw [jumps_ret]
          go_ret2
          refine ⟨?_, B6.out⟩
          rw [HS.out, HE.out]
          exact ⟨_, rfl, World.ownsRowF.wider O6.out (by omega)⟩
        · have HE := Lib.hid (path_wrong (f := f) hk (by unfold Pt.wrong; simp [hd, hb]) out)
          go_wp2_with (first | (have hh := HB5.out; clear HB5; refine wpList_store_row rfl 82 _ _ rfl w.heap.size #[.bool false, .int .i64 l[k].base, .string l[k].text] rfl rfl 82 cs hh H82.out (HCS.out.trans rfl) (pt_one _ _ _) ?_; rw [hw6]) | fail)
          go_step3
          show PathAt _ cap l p w 0 _ _ ∧ pathMeasure 0 _ _ < pathMeasure 1 _ _
          exact ⟨⟨⟨rfl, rfl, rfl, rfl⟩, 2, rfl, B6.out, Lib.hid (HS.out.trans HE.out)⟩, by simp [pathMeasure]; omega⟩
      | true =>
        rw [hd] at c0 e0 hw6
        by_cases hb : l[k].base < 0
        · have HE := Lib.hid (path_wrong (f := f) hk (by unfold Pt.wrong; simp [hd, hb]) out)
          go_wp2_with (first | (have hh := HB5.out; clear HB5; refine wpList_store_row rfl 82 _ _ rfl w.heap.size #[.bool true, .int .i64 l[k].base, .string l[k].text] rfl rfl 82 cs hh H82.out (HCS.out.trans rfl) (pt_one _ _ _) ?_; rw [hw6]) | fail)
          go_step3
          show PathAt _ cap l p w 0 _ _ ∧ pathMeasure 0 _ _ < pathMeasure 1 _ _
          exact ⟨⟨⟨rfl, rfl, rfl, rfl⟩, 2, rfl, B6.out, Lib.hid (HS.out.trans HE.out)⟩, by simp [pathMeasure]; omega⟩
        · by_cases hb2 : (k : Int) ≤ l[k].base
          · have HE := Lib.hid (path_wrong (f := f) hk (by unfold Pt.wrong; simp [hd, hb2]) out)
            go_wp2_with (first | (have hh := HB5.out; clear HB5; refine wpList_store_row rfl 82 _ _ rfl w.heap.size #[.bool true, .int .i64 l[k].base, .string l[k].text] rfl rfl 82 cs hh H82.out (HCS.out.trans rfl) (pt_one _ _ _) ?_; rw [hw6]) | fail)
            go_step3
            show PathAt _ cap l p w 0 _ _ ∧ pathMeasure 0 _ _ < pathMeasure 1 _ _
            exact ⟨⟨⟨rfl, rfl, rfl, rfl⟩, 2, rfl, B6.out, Lib.hid (HS.out.trans HE.out)⟩, by simp [pathMeasure]; omega⟩
          · have hw : l[k].wrong k = false := by unfold Pt.wrong; simp [hd]; omega
            by_cases h4 : out.length = 4
            · have HE := Lib.hid (show onto out (pathFrom l (f + 1) k) = .inr 11 by
                obtain rfl : f = 0 := by have := HF.out; omega
                exact path_deep hk hw hd out)
              go_wp2_with (first | (have hh := HB5.out; clear HB5; refine wpList_store_row rfl 82 _ _ rfl w.heap.size #[.bool true, .int .i64 l[k].base, .string l[k].text] rfl rfl 82 cs hh H82.out (HCS.out.trans rfl) (pt_one _ _ _) ?_; rw [hw6]) | fail)
              go_step3
              show PathAt _ cap l p w 0 _ _ ∧ pathMeasure 0 _ _ < pathMeasure 1 _ _
              exact ⟨⟨⟨rfl, rfl, rfl, rfl⟩, 11, rfl, B6.out, Lib.hid (HS.out.trans HE.out)⟩, by simp [pathMeasure]; omega⟩
            · have HE := Lib.hid (show onto out (pathFrom l (f + 1) k) = onto (out ++ [k]) (pathFrom l (5 - (out ++ [k]).length) l[k].base.toNat) by
                have hf := HF.out
                obtain ⟨f2, rfl⟩ : ∃ f2, f = f2 + 1 := ⟨f - 1, by omega⟩
                have e : 5 - (out ++ [k]).length = f2 + 1 := by rw [h10]; omega
                rw [e]; exact path_next hk hw hd out)
              go_wp2_with (first | (have hh := HB5.out; clear HB5; refine wpList_store_row rfl 82 _ _ rfl w.heap.size #[.bool true, .int .i64 l[k].base, .string l[k].text] rfl rfl 82 cs hh H82.out (HCS.out.trans rfl) (pt_one _ _ _) ?_; rw [hw6]) | fail)
              go_step3
              show PathAt _ cap l p w 1 _ _ ∧ pathMeasure 1 _ _ < pathMeasure 1 _ _
              refine ⟨⟨⟨rfl, rfl, rfl, rfl⟩, l[k].base.toNat, out ++ [k], _, _, ?_, rfl, by omega, hl, by rw [h10]; omega, O6.out, B6.out, blk6.out, rfl, Lib.hid (HS.out.trans HE.out)⟩, ?_⟩
              · show Value.int .i64 l[k].base = _
                congr 1; omega
              · show 1 + (l[k].base).toNat < 1 + ((k : Int)).toNat
                omega
    | l + 2, hJ => exact hJ.elim
  · intro hpass
    have hB := below_lay (Below.refl w.heap.size w) (.cells #[.bool false, .int .i64 0, .string ByteArray.empty] 82)
    have fin : 200 < l.length ∨ p < 0 ∨ (l.length : Int) ≤ p → pathL l p = .inr 1 := fun h => by unfold pathL; rw [if_pos h]
    by_cases h1 : 200 < l.length
    · go_wp2
      go_step3
      exact ⟨⟨rfl, rfl, rfl, rfl⟩, 1, rfl, hB, Lib.hid (fin (Or.inl h1))⟩
    · by_cases h2 : p < 0
      · go_wp2
        go_step3
        exact ⟨⟨rfl, rfl, rfl, rfl⟩, 1, rfl, hB, Lib.hid (fin (Or.inr (Or.inl h2)))⟩
      · by_cases h3 : (l.length : Int) ≤ p
        · go_wp2
          go_step3
          exact ⟨⟨rfl, rfl, rfl, rfl⟩, 1, rfl, hB, Lib.hid (fin (Or.inr (Or.inr h3)))⟩
        · have HN := Lib.hid (show pathL l p = onto [] (pathFrom l 5 p.toNat) by unfold pathL; rw [if_neg (by omega), onto_nil])
          have hp : Hid (p = ((p.toNat : Nat) : Int)) := Lib.hid (by omega)
          have hpl : Hid (p.toNat < l.length ∧ l.length ≤ 200) := Lib.hid ⟨by omega, by omega⟩
          clear fin
          go_wp2
          refine wp_label ?_
          simp only [Exit.then]
          rename_i hK
          refine hK _ _ ?_
          refine hpass 1 _ _ ?_ _ rfl
          refine ⟨⟨rfl, rfl, rfl, rfl⟩, p.toNat, [], _, _, ?_, rfl, hpl.out.1, hpl.out.2, by simp, World.ownsRowF_nil _ _ _ _, hB, heap_alloc_new w _, rfl, HN⟩
          show Value.int .i64 p = _
          rw [← hp.out]
end Go.Proofs.Ytghmhheolbobpaa
