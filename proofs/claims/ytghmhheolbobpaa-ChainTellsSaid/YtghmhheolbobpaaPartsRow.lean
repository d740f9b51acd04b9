/- A slice of parts, opened: what a row's argument of that type is in memory, and how great its texts may be. No conditions. -/
import Derived.Test.YtghmhheolbobpaaChainFront
import Derived.SizedLaws
set_option linter.unusedVariables false
set_option maxRecDepth 100000
namespace Go.Proofs.Ytghmhheolbobpaa
open Go.ChangeShapes Go.WideShapes Go.ChangeAt Go.RowKit Wire

theorem cellsOf4 : Try.prog.cellsOf 4 = 1 := by kernel_rfl
theorem cellsOf82 : Try.prog.cellsOf 82 = 3 := by kernel_rfl
section
variable {H : Type} {enc : TypeId × Value → H} {w : World} {base : Nat} {spare : Nat → Bool} {held : Bool} {fuel : Nat}
theorem open_part {cs : List Value} {x : DataW H × List MemPlace} (h : DataW.trod enc Try.prog w base spare held fuel 82 cs = some x) :
    ∃ y : Pt, cs = y.cells ∧ y.text.size ≤ maxLen ∧ y.text.data.toList.length ∈ x.1.weights Try.prog 82 := by
  obtain ⟨xs, n, _, hxx, hl, hx, he⟩ := DataW.trod_struct Try.underlying82 h
  rw [cellsOf82] at hl
  have hx3 : xs.length = 3 := hx
  have g0 := he 0 _ rfl
  have g1 := he 1 _ rfl
  have g2 := he 2 _ rfl
  rw [List.getElem?_eq_getElem (by omega)] at g0 g1 g2
  obtain ⟨b, h0, x0⟩ := DataW.trod_bool Try.underlying4 g0
  obtain ⟨a, h1, x1, w1⟩ := DataW.trod_int Try.underlying3 g1
  obtain ⟨s, h2, x2, w2⟩ := DataW.trod_string Try.underlying9 g2
  replace h0 : (cs.drop 0).take (Try.prog.cellsOf 4) = [.bool b] := h0
  replace h1 : (cs.drop 1).take (Try.prog.cellsOf 3) = [.int .i64 a] := h1
  replace h2 : (cs.drop 2).take (Try.prog.cellsOf 9) = [.string s] := h2
  rw [cellsOf4] at h0
  rw [cellsOf3] at h1
  rw [cellsOf9] at h2
  refine ⟨⟨b, a, s⟩, ?_, w2, ?_⟩
  · have e2 : (cs.drop 2).take 1 = cs.drop 2 := List.take_of_length_le (by rw [List.length_drop]; omega)
    rw [e2] at h2
    have e : cs = (cs.drop 0).take 1 ++ ((cs.drop 1).take 1 ++ cs.drop 2) := by
      rw [split1 cs 1, split1 cs 0, List.drop_zero]
    rw [e, h0, h1, h2]
    rfl
  · rw [hxx]
    have e3 : xs = [xs[0], xs[1], xs[2]] := by
      match xs, hx3 with
      | [p, q, r], _ => rfl
    rw [e3, x0, x1, x2]
    show s.data.toList.length ∈ DataW.weights Try.prog 82 (.agg [.lit (.bool b), .lit (.int .i64 a), .lit (.string s.data.toList)])
    unfold DataW.weights
    rw [Try.underlying82]
    simp [DataW.weightsEach, DataW.weights]
theorem weights_all {P : Program} {e : TypeId} : ∀ {ds : List (DataW H)} {d : DataW H} {n : Nat}, d ∈ ds → n ∈ d.weights P e → n ∈ DataW.weightsAll P e ds
  | x :: r, d, n, hd, hn => by
    rw [DataW.weightsAll, List.mem_append]
    rcases List.mem_cons.1 hd with rfl | hd
    · exact .inl hn
    · exact .inr (weights_all hd hn)
/-- An argument that is a slice of parts. -/
theorem open_parts {v : Value} {d : DataW H} {ps : List MemPlace} {r : Reach} {b0 : Nat} (hv : Value.okWide Try.prog w r b0 53 v) (h : DataW.Trod enc Try.prog w base (fun _ => true) held 53 v d ps) (hz : ∀ n ∈ d.weights Try.prog 53, n ≤ reachBytes) :
    ∃ (A : Option Addr) (l : List Pt) (cap : Nat), v = .slice A l.length cap ∧ Pts w A l ∧ l.length ≤ cap ∧ cap ≤ maxLen ∧ (A = none → cap = 0) ∧ ∀ x ∈ l, x.text.size ≤ reachBytes := by
  obtain ⟨A, len, cap, rfl⟩ := okWide_slice Try.underlying53 hv
  obtain ⟨fuel, hf⟩ := h
  rcases Deep.open_slice Try.underlying53 hf with ⟨hcs, _⟩ | ⟨a, len', cap', m, n, D, Pl, hcs, _, hl, hcm, hm, hxd, hel⟩
  · obtain ⟨rfl, rfl, rfl⟩ : A = none ∧ len = 0 ∧ cap = 0 := by simpa [Value.cells] using hcs
    exact ⟨none, [], 0, rfl, (fun k hk => by simp at hk), by simp, by omega, fun _ => rfl, fun x hx => by cases hx⟩
  · obtain ⟨rfl, rfl, rfl⟩ : A = some a ∧ len = len' ∧ cap = cap' := by simpa [Value.cells] using hcs
    simp only [if_true] at hm
    simp only [Prod.mk.injEq] at hxd
    have each : ∀ i, ∃ x : Pt, i < len → w.cells? base (a.add (i * 3)) 3 = some x.cells ∧ x.text.size ≤ reachBytes := by
      intro i
      by_cases hi : i < len
      · obtain ⟨cs, h1, h2⟩ := hel i (by omega)
        rw [cellsOf82] at h1
        obtain ⟨y, rfl, hy, hw⟩ := open_part h2
        refine ⟨y, fun _ => ⟨h1, ?_⟩⟩
        have hin : D i ∈ (List.range len).map D := List.mem_map.2 ⟨i, List.mem_range.2 hi, rfl⟩
        have h3 := weights_all hin hw
        have h4 : y.text.data.toList.length ∈ d.weights Try.prog 53 := by
          rw [hxd.1]
          unfold DataW.weights
          rw [Try.underlying53]
          simp only [List.mem_cons, List.mem_append]
          exact .inr (.inl h3)
        have h5 := hz _ h4
        rwa [size_list] at h5
      · exact ⟨⟨false, 0, ByteArray.empty⟩, fun h => absurd h hi⟩
    obtain ⟨f, hf⟩ := Classical.axiomOfChoice each
    refine ⟨some a, (List.range len).map f, cap, by simp, ?_, by simpa using hl, hcm, (fun h => by cases h), ?_⟩
    · intro k hk
      have hk' : k < len := by simpa using hk
      obtain ⟨h1, h2⟩ := hf k hk'
      obtain ⟨_, hlen, hc⟩ := World.cells?_some h1
      have hz := (hf 0 (by omega)).1
      obtain ⟨_, hlz, hcz⟩ := World.cells?_some hz
      have h00 : w.cell? ((a.add (0 * 3)).add 0) = some (.bool (f 0).delta) := (hcz 0 (by omega)).trans rfl
      obtain ⟨b, o, spot⟩ := a
      obtain rfl : spot = none := by simpa [Addr.add] using World.cell?_spot h00
      refine ⟨b, o, rfl, fun j v hv => ?_⟩
      simp only [List.getElem_map, List.getElem_range] at hv
      have hj : j < 3 := by rw [← hlen]; exact (List.getElem?_eq_some_iff.1 hv).1
      have h3 := hc j hj
      rw [Go.WideShapes.add_plain, Go.WideShapes.add_plain] at h3
      rw [h3]; exact hv
    · intro x hx
      obtain ⟨i, hi, rfl⟩ := List.mem_map.1 hx
      exact (hf i (by simpa using hi)).2
end
end Go.Proofs.Ytghmhheolbobpaa
