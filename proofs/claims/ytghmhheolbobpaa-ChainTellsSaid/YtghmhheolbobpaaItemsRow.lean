/- A slice of items, opened: what a row's argument of that type is in memory. No conditions. -/
import Derived.Test.YtghmhheolbobpaaItems
import Derived.Test.YtghmhheolbobpaaFrame
import Derived.Deep.Slices
set_option linter.unusedVariables false
set_option maxRecDepth 100000
namespace Go.Proofs.Ytghmhheolbobpaa
open Go.ChangeShapes Go.WideShapes Go.ChangeAt Go.RowKit Wire

theorem cellsOf5 : Try.prog.cellsOf 5 = 1 := by kernel_rfl
theorem cellsOf3 : Try.prog.cellsOf 3 = 1 := by kernel_rfl
theorem cellsOf9 : Try.prog.cellsOf 9 = 1 := by kernel_rfl
theorem cellsOf33 : Try.prog.cellsOf 33 = 32 := by kernel_rfl
theorem cellsOf35 : Try.prog.cellsOf 35 = 36 := by kernel_rfl
/-- What an item is, beside its shape. -/
structure Itw (x : It) : Prop where
  s : x.s.size ≤ maxLen
  id : x.id.length = 32
  kind : (Lit.int .i64 x.kind).wf = true
  n : (Lit.int .i64 x.n).wf = true
  most : (Lit.int .i64 x.most).wf = true
section
variable {H : Type} {enc : TypeId × Value → H} {w : World} {base : Nat} {spare : Nat → Bool} {held : Bool} {fuel : Nat}
theorem bytes_back : ∀ (cs : List Value), (∀ v ∈ cs, ∃ n, v = Value.int .u8 n ∧ 0 ≤ n ∧ n ≤ 255) → cs = idCells (cs.map fun v => UInt8.ofNat (intOf v).toNat)
  | [], _ => rfl
  | v :: cs, h => by
    obtain ⟨n, rfl, h0, h1⟩ := h v (List.mem_cons_self ..)
    have ih := bytes_back cs fun x hx => h x (List.mem_cons_of_mem _ hx)
    unfold idCells at ih ⊢
    rw [List.map_cons, List.map_cons, ← ih]
    congr 2
    simp only [intOf]
    rw [UInt8.toNat_ofNat']
    omega
theorem open_id {cs : List Value} {x : DataW H × List MemPlace} (h : DataW.trod enc Try.prog w base spare held fuel 33 cs = some x) : ∃ d : List UInt8, d.length = 32 ∧ cs = idCells d := by
  obtain ⟨xs, m, _, _, hl, hx, he⟩ := DataW.trod_array Try.underlying33 h
  rw [cellsOf33] at hl
  have hall : ∀ v ∈ cs, ∃ n, v = Value.int .u8 n ∧ 0 ≤ n ∧ n ≤ 255 := by
    intro v hv
    obtain ⟨i, hi, rfl⟩ := List.mem_iff_getElem.1 hv
    have h1 := he i (by omega)
    rw [List.getElem?_eq_getElem (show i < xs.length by omega), cellsOf5, Nat.mul_one] at h1
    obtain ⟨n, h2, _, h3⟩ := DataW.trod_int Try.underlying5 h1
    rw [List.drop_eq_getElem_cons hi, List.take_succ_cons, List.take_zero] at h2
    have b := bounds_u8 h3
    exact ⟨n, by injection h2, b.1, b.2⟩
  exact ⟨_, by rw [List.length_map]; exact hl, bytes_back cs hall⟩
theorem split1 (cs : List Value) (k : Nat) : (cs.drop k).take 1 ++ cs.drop (k + 1) = cs.drop k := by
  have h := List.take_append_drop 1 (cs.drop k)
  rwa [List.drop_drop] at h
theorem open_item {cs : List Value} {x : DataW H × List MemPlace} (h : DataW.trod enc Try.prog w base spare held fuel 35 cs = some x) : ∃ y : It, cs = y.cells ∧ Itw y := by
  obtain ⟨xs, n, _, _, hl, hx, he⟩ := DataW.trod_struct Try.underlying35 h
  rw [cellsOf35] at hl
  have hx5 : xs.length = 5 := hx
  have g0 := he 0 _ rfl
  have g1 := he 1 _ rfl
  have g2 := he 2 _ rfl
  have g3 := he 3 _ rfl
  have g4 := he 4 _ rfl
  rw [List.getElem?_eq_getElem (by omega)] at g0 g1 g2 g3 g4
  obtain ⟨k, h0, _, w0⟩ := DataW.trod_int Try.underlying3 g0
  obtain ⟨a, h1, _, w1⟩ := DataW.trod_int Try.underlying3 g1
  obtain ⟨m, h2, _, w2⟩ := DataW.trod_int Try.underlying3 g2
  obtain ⟨s, h3, _, w3⟩ := DataW.trod_string Try.underlying9 g3
  obtain ⟨d, hd, h4⟩ := open_id g4
  replace h0 : (cs.drop 0).take (Try.prog.cellsOf 3) = [.int .i64 k] := h0
  replace h1 : (cs.drop 1).take (Try.prog.cellsOf 3) = [.int .i64 a] := h1
  replace h2 : (cs.drop 2).take (Try.prog.cellsOf 3) = [.int .i64 m] := h2
  replace h3 : (cs.drop 3).take (Try.prog.cellsOf 9) = [.string s] := h3
  replace h4 : (cs.drop 4).take (Try.prog.cellsOf 33) = idCells d := h4
  rw [cellsOf3] at h0 h1 h2
  rw [cellsOf9] at h3
  rw [cellsOf33] at h4
  refine ⟨⟨k, a, m, s, d⟩, ?_, ⟨w3, hd, w0, w1, w2⟩⟩
  have e4 : (cs.drop 4).take 32 = cs.drop 4 := List.take_of_length_le (by rw [List.length_drop]; omega)
  rw [e4] at h4
  have e : cs = (cs.drop 0).take 1 ++ ((cs.drop 1).take 1 ++ ((cs.drop 2).take 1 ++ ((cs.drop 3).take 1 ++ cs.drop 4))) := by
    rw [split1 cs 3, split1 cs 2, split1 cs 1, split1 cs 0, List.drop_zero]
  rw [e, h0, h1, h2, h3, h4]
  rfl
/-- An argument that is a slice of items. -/
theorem open_items {v : Value} {d : DataW H} {ps : List MemPlace} {r : Reach} {b0 : Nat} (hv : Value.okWide Try.prog w r b0 22 v) (h : DataW.Trod enc Try.prog w base (fun _ => true) held 22 v d ps) :
    ∃ (A : Option Addr) (l : List It) (cap : Nat), v = .slice A l.length cap ∧ Its w A l ∧ ∀ x ∈ l, Itw x := by
  obtain ⟨A, len, cap, rfl⟩ := okWide_slice Try.underlying22 hv
  obtain ⟨fuel, hf⟩ := h
  rcases Deep.open_slice Try.underlying22 hf with ⟨hcs, _⟩ | ⟨a, len', cap', m, n, D, Pl, hcs, _, hl, _, hm, _, hel⟩
  · obtain ⟨rfl, rfl, rfl⟩ : A = none ∧ len = 0 ∧ cap = 0 := by simpa [Value.cells] using hcs
    exact ⟨none, [], 0, rfl, fun k hk => by simp at hk, fun x hx => by cases hx⟩
  · obtain ⟨rfl, rfl, rfl⟩ : A = some a ∧ len = len' ∧ cap = cap' := by simpa [Value.cells] using hcs
    simp only [if_true] at hm
    have each : ∀ i, ∃ x : It, i < len → w.cells? base (a.add (i * 36)) 36 = some x.cells ∧ Itw x := by
      intro i
      by_cases hi : i < len
      · obtain ⟨cs, h1, h2⟩ := hel i (by omega)
        rw [cellsOf35] at h1
        obtain ⟨y, rfl, hy⟩ := open_item h2
        exact ⟨y, fun _ => ⟨h1, hy⟩⟩
      · exact ⟨⟨0, 0, 0, ByteArray.empty, []⟩, fun h => absurd h hi⟩
    obtain ⟨f, hf⟩ := Classical.axiomOfChoice each
    refine ⟨some a, (List.range len).map f, cap, by simp, ?_, ?_⟩
    · intro k hk
      have hk' : k < len := by simpa using hk
      obtain ⟨h1, h2⟩ := hf k hk'
      obtain ⟨_, hlen, hc⟩ := World.cells?_some h1
      have hz := (hf 0 (by omega)).1
      obtain ⟨_, hlz, hcz⟩ := World.cells?_some hz
      have h00 : w.cell? ((a.add (0 * 36)).add 0) = some (.int .i64 (f 0).kind) := (hcz 0 (by omega)).trans rfl
      obtain ⟨b, o, spot⟩ := a
      obtain rfl : spot = none := by simpa [Addr.add] using World.cell?_spot h00
      refine ⟨b, o, rfl, fun j v hv => ?_⟩
      simp only [List.getElem_map, List.getElem_range] at hv
      have hj : j < 36 := by rw [← hlen]; exact (List.getElem?_eq_some_iff.1 hv).1
      have h3 := hc j hj
      rw [Go.WideShapes.add_plain, Go.WideShapes.add_plain] at h3
      rw [h3]; exact hv
    · intro x hx
      obtain ⟨i, hi, rfl⟩ := List.mem_map.1 hx
      exact (hf i (by simpa using hi)).2
end
end Go.Proofs.Ytghmhheolbobpaa
