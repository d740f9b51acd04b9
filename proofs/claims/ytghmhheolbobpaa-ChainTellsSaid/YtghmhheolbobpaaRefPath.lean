/- The reference's Path: a part and its bases. Conditions: the parts lie in memory as a slice of structs. -/
import Derived.Test.YtghmhheolbobpaaPathPlain
import Derived.Test.YtghmhheolbobpaaWireCut
set_option linter.unusedVariables false
set_option maxRecDepth 100000
namespace Go.Proofs.Ytghmhheolbobpaa
open Go.RowKit Wire

/-- Places as cells. -/
def places (r : List Nat) : List Value := r.map fun (k : Nat) => Value.int .i64 (k : Int)
/-- A path as a call hands it back. -/
def PathOut (B : Nat) (r : List Nat ⊕ Nat) (e : Ending) (w : World) : Prop :=
  match r with
  | .inl r => ∃ v, e = .returned (.tuple #[v, .int .i64 0]) ∧ w.ownsRowF B 3 1 v r.length (places r)
  | .inr n => e = .returned (.tuple #[.slice none 0 0, .int .i64 (n : Int)])
set_option maxHeartbeats 1000000 in
theorem refPath_out (A : Option Addr) (cap : Nat) (l : List Pt) (p : Int) (w : World) (h : 200 < l.length ∨ p < 0 ∨ (l.length : Int) ≤ p) :
    Calls Try.prog 31 #[.slice A l.length cap, .int .i64 p] w fun e w' => e = .returned (.tuple #[.slice none 0 0, .int .i64 1]) ∧ w = w' := by
  by_cases h1 : 200 < l.length
  · clear h
    go_enter Try.func31, Try.ntmps31
    go_wp2
    go_ret2
    exact ⟨rfl, rfl⟩
  · by_cases h2 : p < 0
    · clear h
      go_enter Try.func31, Try.ntmps31
      go_wp2
      go_ret2
      exact ⟨rfl, rfl⟩
    · have h3 : (l.length : Int) ≤ p := by omega
      clear h
      go_enter Try.func31, Try.ntmps31
      go_wp2
      go_ret2
      exact ⟨rfl, rfl⟩
/-- What stands ahead of each round. -/
structure RP (B : Nat) (l : List Pt) (p : Nat) (w : World) (k : Nat) (out : List Nat) (v : Value) (wr : World) : Prop where
  lt : k < l.length
  few : out.length ≤ 5
  owns : wr.ownsRowF B 3 1 v out.length (places out)
  below : Below B w wr
  law : if out.length = 5 then pathFrom l 5 p = .inr 11 else pathFrom l 5 p = onto out (pathFrom l (5 - out.length) k)
set_option maxHeartbeats 2000000 in
theorem refPath_in (A : Option Addr) (cap : Nat) (l : List Pt) (p : Nat) (w : World) (hl : l.length ≤ 200) (hp : p < l.length) (hc : Pts w A l) :
    Calls Try.prog 31 #[.slice A l.length cap, .int .i64 (p : Int)] w fun e w' => PathOut w.heap.size (pathFrom l 5 p) e w' ∧ Below w.heap.size w w' := by
  obtain ⟨i0, hi, hz0, hz1, hz2⟩ := info3
  have HC := Lib.hid hc
  clear hc
  go_enter Try.func31, Try.ntmps31
  go_wp2
  go_loopw [1, 6, 7] (fun at_ v n wr => ∃ (k : Nat) (out : List Nat), n = .int .i64 (out.length : Nat) ∧ at_ = .int .i64 (k : Int) ∧ RP w.heap.size l p w k out v wr) (fun _ _ n _ => 6 - (intOf n).toNat)
  case atStart => exact ⟨p, [], rfl, rfl, hp, by simp, World.ownsRowF_nil _ _ _ _, Below.refl _ _, by simp [onto_nil]⟩
  case round =>
    obtain ⟨k, out, rfl, rfl, hlt, hfew, hown, hBel, hlaw⟩ := hrel
    by_cases h5 : out.length = 5
    · rw [if_pos h5] at hlaw
      have HL := Lib.hid hlaw
      rw [h5]
      clear hlaw hown hfew
      go_wp2
      go_ret2
      refine ⟨?_, hBel⟩
      rw [HL.out]; rfl
    · rw [if_neg h5] at hlaw
      obtain ⟨bb, o, rfl, hr0⟩ := HC.out k hlt
      obtain ⟨f, hf⟩ : ∃ f, 5 - out.length = f + 1 := ⟨4 - out.length, by omega⟩
      rw [hf] at hlaw
      have h6 : (out.length : Int) < 6 := by omega
      have h7 : ¬ (out.length : Int) = 5 := by omega
      go_wp2_with (at_builtin; refine wpList_append_ownF _ rfl _ _ 51 rfl w.heap.size 3 i0 (.int .i64 0) 1 8 Try.underlying51 hi hz0 hz1 hz2 rfl (by decide) _ _ _ rfl (hown.alloc _) ⟨wr.heap.size, 0, none⟩ 1 1 [.int .i64 (k : Int)] rfl rfl ?c1 ?c2 ?c3 ?c4 ?c5 ?_)
      case c1 =>
        intro j u hj
        match j, hj with
        | 0, hj => simp at hj; subst hj; simp [Addr.add]
      case c2 => intro u hu; simp at hu; subst hu; rfl
      case c3 => unfold maxLen; omega
      case c4 => omega
      case c5 => have := hBel.size; simp; omega
      intro v' w5 hown' hgrow _
      have O5 : w5.ownsRowF w.heap.size 3 1 v' (out ++ [k]).length (places (out ++ [k])) := by unfold places at hown' ⊢; rw [List.map_append, List.length_append]; exact hown'
      have B5 := (below_lay hBel (.cells #[.int .i64 (k : Int)] 3)).grown hgrow (by have := hBel.size; simp; omega) (fun g hg => (hown.lt g hg).1)
      have hr := rangeAt_below hr0 B5
      have c0 := Pt.at0 hr
      have c1 := Pt.at1 hr
      have HLAW := Lib.hid hlaw
      have HF := Lib.hid hf
      have h10 : (out ++ [k]).length = out.length + 1 := by rw [List.length_append]; rfl
      have HO := Lib.hid O5
      have HBF := Lib.hid B5
      clear hlaw hf hown hown' hgrow O5 B5 hr0 hr
      cases hd : l[k].delta with
      | false =>
        rw [hd] at c0
        by_cases hb : l[k].base = 0
        · have HE := Lib.hid (path_end (f := f) hlt (by unfold Pt.wrong; simp [hd, hb]) hd out)
          rw [hb] at c1
          go_wp2
          go_ret2
          refine ⟨?_, HBF.out⟩
          rw [HLAW.out, HE.out]
          exact ⟨v', rfl, HO.out⟩
        · have HE := Lib.hid (path_wrong (f := f) hlt (by unfold Pt.wrong; simp [hd, hb]) out)
          go_wp2
          go_ret2
          refine ⟨?_, HBF.out⟩
          rw [HLAW.out, HE.out]
          rfl
      | true =>
        rw [hd] at c0
        by_cases hb : l[k].base < 0
        · have HE := Lib.hid (path_wrong (f := f) hlt (by unfold Pt.wrong; simp [hd, hb]) out)
          go_wp2
          go_ret2
          refine ⟨?_, HBF.out⟩
          rw [HLAW.out, HE.out]
          rfl
        · by_cases hb2 : (k : Int) ≤ l[k].base
          · have HE := Lib.hid (path_wrong (f := f) hlt (by unfold Pt.wrong; simp [hd, hb2]) out)
            go_wp2
            go_ret2
            refine ⟨?_, HBF.out⟩
            rw [HLAW.out, HE.out]
            rfl
          · have hw : l[k].wrong k = false := by unfold Pt.wrong; simp [hd]; omega
            have HN : Hid (if (out ++ [k]).length = 5 then pathFrom l 5 p = .inr 11 else pathFrom l 5 p = onto (out ++ [k]) (pathFrom l (5 - (out ++ [k]).length) l[k].base.toNat)) := by
              have hf := HF.out
              rw [h10]
              by_cases h4 : out.length + 1 = 5
              · rw [if_pos h4]
                obtain rfl : f = 0 := by omega
                rw [HLAW.out]; exact path_deep hlt hw hd out
              · rw [if_neg h4]
                obtain ⟨f2, rfl⟩ : ∃ f2, f = f2 + 1 := ⟨f - 1, by omega⟩
                have e : 5 - (out.length + 1) = f2 + 1 := by omega
                rw [HLAW.out, e]; exact path_next hlt hw hd out
            go_wp2
            exact ⟨⟨_, _, _, _, _, ⟨l[k].base.toNat, out ++ [k], rfl, rfl, by omega, by rw [h10]; omega, HO.out, HBF.out, HN⟩, by congr 1; omega, rfl, rfl, rfl, by rw [h10]; go_num⟩, by simp [intOf]; omega⟩
end Go.Proofs.Ytghmhheolbobpaa
