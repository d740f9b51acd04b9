/- What stands in memory while a delta is read: the reader, and the pieces so far. Conditions: the reader lies in a block of its own. -/
import Derived.Test.YtghmhheolbobpaaTextPlain
import Derived.Test.YtghmhheolbobpaaPath
set_option linter.unusedVariables false
set_option maxRecDepth 100000
namespace Go.Proofs.Ytghmhheolbobpaa
open Go.RowKit Wire

def pcells (l : List Pc) : List Value := l.flatMap Pc.cells
theorem pcells_length (l : List Pc) : (pcells l).length = l.length * 2 := by
  unfold pcells
  induction l with
  | nil => rfl
  | cons x l ih => rw [List.flatMap_cons, List.length_append, ih]; simp [Pc.cells]; omega
theorem pcells_at : ∀ (l : List Pc) (k : Nat) (h : k < l.length) (j : Nat) (u : Value), l[k].cells[j]? = some u → (pcells l)[k * 2 + j]? = some u
  | x :: l, 0, _, j, u, hu => by
    unfold pcells
    rw [List.flatMap_cons, List.getElem?_append_left]
    · simpa using hu
    · have := List.getElem?_eq_some_iff.1 hu
      obtain ⟨hj, _⟩ := this
      simp at hj ⊢; omega
  | x :: l, k + 1, h, j, u, hu => by
    have ih := pcells_at l k (by simpa using h) j u (by simpa using hu)
    unfold pcells at ih ⊢
    rw [List.flatMap_cons, List.getElem?_append_right (by simp [Pc.cells]; omega)]
    have e : (k + 1) * 2 + j - x.cells.length = k * 2 + j := by simp [Pc.cells]; omega
    rw [e]; exact ih
theorem pcells_snoc (l : List Pc) (x : Pc) : pcells (l ++ [x]) = pcells l ++ x.cells := by unfold pcells; simp
/-- An owned row of pieces reads as the list. -/
theorem pcs_of_owns {w : World} {B : Nat} {v : Value} {l : List Pc} (h : w.ownsRowF B 105 2 v l.length (pcells l)) : ∃ A cap, v = .slice A l.length cap ∧ Pcs w A l := by
  have hcl : ∀ g, v.ownBlock = some g → ∀ j u, (pcells l)[j]? = some u → w.cell? ((⟨g, 0, none⟩ : Addr).add j) = some u := fun g hg => h.cells hg
  rcases h.2 with ⟨hv, h0⟩ | ⟨g, cap, cur, fz, hv, _⟩
  · exact ⟨none, 0, by rw [hv, h0], fun k hk => by omega⟩
  · refine ⟨_, cap, hv, fun k hk => ⟨g, 0, rfl, fun j u hu => ?_⟩⟩
    have := hcl g (by rw [hv]; rfl) (k * 2 + j) u (pcells_at l k hk j u hu)
    have e : (⟨g, 0, none⟩ : Addr).add (k * 2 + j) = ⟨g, 0 + k * 2 + j, none⟩ := by unfold Addr.add; split <;> simp_all
    rwa [e] at this
/-- The reader in block B, the pieces so far behind it. -/
structure St (s : ByteArray) (w0 : World) (v : Value) (out : List Pc) (p : Nat) (err : Int) (w : World) : Prop where
  rd : Rd w0.heap.size s p err w
  own : w.ownsRowF (w0.heap.size + 1) 105 2 v out.length (pcells out)
  below : Below w0.heap.size w0 w
section
variable {s : ByteArray} {w0 w : World} {v : Value} {out : List Pc} {p : Nat} {err : Int}
theorem St.ne (h : St s w0 v out p err w) : v.ownBlock ≠ some w0.heap.size := fun e => by have := (h.own.lt _ e).1; omega
theorem St.call (h : St s w0 v out p err w) {f : FuncId} {args : Array Value} {r : Ending} {q : Nat} {err' : Int}
    (hc : Calls Try.prog f args w fun e w' => e = r ∧ Rd w0.heap.size s q err' w' ∧ Ko w0.heap.size w w') : Calls Try.prog f args w fun e w' => e = r ∧ St s w0 v out q err' w' :=
  hc.mono fun e w' ⟨he, hr, hk⟩ => ⟨he, hr, h.own.kept hk (.inr h.ne), h.below.trans (hk.below (Nat.le_refl _) h.below.size)⟩
theorem St.slice (h : St s w0 v out p err w) : ∃ A cap, v = .slice A out.length cap := by
  obtain ⟨A, cap, hv, _⟩ := pcs_of_owns h.own
  exact ⟨A, cap, hv⟩
theorem St.appended (h : St s w0 v out p err w) {w' : World} {v' : Value} (x : Pc) (o : Obj) (ho : w'.ownsRowF (w0.heap.size + 1) 105 2 v' (out.length + 1) (pcells out ++ x.cells)) (hg : (w.alloc o).grownBy w' v.ownBlock) : St s w0 v' (out ++ [x]) p err w' := by
  refine ⟨?_, ?_, ?_⟩
  · have h1 := h.rd.alloc o
    exact (hg.block _ (by have := h.rd.lt; simp; omega) (fun e => h.ne e.symm)).trans h1
  · rw [pcells_snoc, List.length_append]; exact ho
  · exact (below_lay h.below o).grown hg (by have := h.below.size; simp; omega) (fun g hgg => by have := (h.own.lt g hgg).1; omega)
end
theorem Rd.made (s : ByteArray) (w : World) : Rd w.heap.size s 0 0 (w.alloc (.cells #[.string s, .int .i64 0, .int .i64 0] 78)) := heap_alloc_new w _
/-- What Number answers in a state without an error. -/
theorem St.number {s : ByteArray} {w0 : World} {v : Value} {out : List Pc} {p : Nat} (most : Int) (hs : s.size ≤ maxLen) (hp : p ≤ s.size) (w : World) (h : St s w0 v out p 0 w) :
    Calls Try.prog 21 #[.pointer (some ⟨w0.heap.size, 0, none⟩), .int .i64 most] w fun e w' => e = .returned (.int .i64 (numRes p (readNum most (s.data.toList.drop p))).1) ∧
      St s w0 v out (numRes p (readNum most (s.data.toList.drop p))).2.1 (numRes p (readNum most (s.data.toList.drop p))).2.2 w' :=
  h.call (number_ok _ s p most w h.rd hs hp)
theorem info105 : ∃ i, Try.prog.info? 105 = some i ∧ i.zero = some (.agg #[.complex .f64 0 0, .string ByteArray.empty]) ∧ i.size = 2 ∧ i.bytes = 32 := by
  have h : (Try.prog.info? 105).map (fun i => (i.size, i.bytes)) = some (2, 32) := by kernel_rfl
  have h2 : (Try.prog.info? 105).bind (fun i => i.zero) = some (.agg #[.complex .f64 0 0, .string ByteArray.empty]) := by kernel_rfl
  obtain ⟨i, hi, he⟩ := Option.map_eq_some_iff.1 h
  simp only [Prod.mk.injEq] at he
  rw [hi] at h2
  exact ⟨i, hi, h2, he.1, he.2⟩
end Go.Proofs.Ytghmhheolbobpaa
