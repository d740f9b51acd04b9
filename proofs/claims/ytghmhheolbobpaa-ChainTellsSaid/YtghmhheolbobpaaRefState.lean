/- All pieces of a delta, read to the end, as plain Lean; what stands in memory while the reference reads. Conditions: the reader lies in a block of its own. -/
import Derived.Test.YtghmhheolbobpaaRefCheck
import Derived.Test.YtghmhheolbobpaaRefNum
set_option linter.unusedVariables false
set_option maxRecDepth 100000
namespace Go.Proofs.Ytghmhheolbobpaa
open Go.RowKit Wire

/-! ### plain -/
theorem gather_len {s : ByteArray} : ∀ {f p : Nat} {l : List Pc}, gatherD f s p = some l → l.length < f
  | 0, p, l, h => by cases h
  | f + 1, p, l, h => by
    unfold gatherD at h
    split at h
    · injection h with h; subst h; simp
    · cases hp : pieceAt s p with
      | none => rw [hp] at h; cases h
      | some y =>
        obtain ⟨x, q⟩ := y
        rw [hp] at h
        simp only at h
        cases hg : gatherD f s q with
        | none => rw [hg] at h; cases h
        | some m =>
          rw [hg] at h
          simp only [Option.map_some, Option.some.injEq] at h
          subst h
          have := gather_len hg
          simp; omega
theorem gather_room {s : ByteArray} : ∀ {f p : Nat} {l : List Pc} (g : Nat), gatherD f s p = some l → l.length < g → gatherD g s p = some l
  | 0, p, l, g, h, _ => by cases h
  | f + 1, p, l, 0, h, hg => by omega
  | f + 1, p, l, g + 1, h, hg => by
    unfold gatherD at h ⊢
    split at h
    · rename_i hp
      rw [if_pos hp]; exact h
    · rename_i hp
      rw [if_neg hp]
      cases hpc : pieceAt s p with
      | none => rw [hpc] at h; cases h
      | some y =>
        obtain ⟨x, q⟩ := y
        rw [hpc] at h
        simp only at h ⊢
        cases hgd : gatherD f s q with
        | none => rw [hgd] at h; cases h
        | some m =>
          rw [hgd] at h
          simp only [Option.map_some, Option.some.injEq] at h
          subst h
          rw [gather_room g hgd (by simp at hg; omega)]
          rfl
theorem gather_bytes {s : ByteArray} : ∀ {f p : Nat} {l : List Pc}, p ≤ s.size → gatherD f s p = some l → p + l.length ≤ s.size
  | 0, p, l, _, h => by cases h
  | f + 1, p, l, hp, h => by
    unfold gatherD at h
    split at h
    · injection h with h; subst h; simpa using hp
    · cases hpc : pieceAt s p with
      | none => rw [hpc] at h; cases h
      | some y =>
        obtain ⟨x, q⟩ := y
        have hq := piece_on hp hpc
        rw [hpc] at h
        simp only at h
        cases hg : gatherD f s q with
        | none => rw [hg] at h; cases h
        | some m =>
          rw [hg] at h
          simp only [Option.map_some, Option.some.injEq] at h
          subst h
          have := gather_bytes hq.2 hg
          simp; omega
theorem lens_many (b : Int) : ∀ m : List Pc, (∀ x ∈ m, x.len b ≠ 0) → m.length ≤ lens b m
  | [], _ => by simp
  | x :: m, hm => by
    have h1 := lens_many b m fun y hy => hm y (List.mem_cons_of_mem _ hy)
    have h2 := hm x (List.mem_cons_self ..)
    unfold lens at *
    simp only [List.length_cons, List.map_cons, List.sum_cons]
    omega
/-- Read to the end, or up to some 4099 pieces: the same answer. -/
theorem read_full (s : ByteArray) (b many p : Nat) (hp : p ≤ s.size) : readFin b many (gatherD (s.size + 2) s p) = readFin b many (gatherD 4100 s p) := by
  cases h1 : gatherD (s.size + 2) s p with
  | none =>
    cases h2 : gatherD 4100 s p with
    | none => rfl
    | some l =>
      have := gather_bytes hp h2
      rw [gather_room (s.size + 2) h2 (by omega)] at h1
      cases h1
  | some l =>
    by_cases hl : l.length ≤ 4099
    · rw [gather_room 4100 h1 (by omega)]
    · have hck : ¬ checkL (b : Int) l = (many, 0) := fun h => by
        have h2 : (checkL (b : Int) l).2 = 0 := by rw [h]
        obtain ⟨_, _, h3, h4⟩ := check_ok h2
        have := lens_many b l h3
        omega
      have h3 : readFin b many (some l) = none := by unfold readFin; simp only; rw [if_neg hck]
      rw [h3]
      cases h2 : gatherD 4100 s p with
      | none => rfl
      | some l' =>
        have h4 := gather_len h2
        have h5 := gather_bytes hp h2
        rw [gather_room (s.size + 2) h2 (by omega)] at h1
        injection h1 with h1
        subst h1
        omega
theorem piece_text {s : ByteArray} {p q : Nat} {x : Pc} (hp : pieceAt s p = some (x, q)) : x.text.size ≤ s.size := by
  unfold pieceAt at hp
  cases h1 : readNum 8199 (s.data.toList.drop p) with
  | inl e => rw [h1] at hp; cases hp
  | inr y =>
    obtain ⟨n, k⟩ := y
    rw [h1] at hp
    simp only at hp
    split at hp
    · cases h2 : readNum 4099 (s.data.toList.drop (p + k)) with
      | inl e => rw [h2] at hp; cases hp
      | inr z' =>
        obtain ⟨c, j⟩ := z'
        rw [h2] at hp
        simp only [Option.some.injEq, Prod.mk.injEq] at hp
        obtain ⟨rfl, _⟩ := hp
        exact Nat.zero_le _
    · split at hp
      · simp only [Option.some.injEq, Prod.mk.injEq] at hp
        obtain ⟨rfl, _⟩ := hp
        simp only
        rw [ByteArray.size_extract]
        omega
      · cases hp

/-! ### memory -/
structure RS (s : ByteArray) (w0 : World) (v : Value) (out : List Pc) (p : Nat) (err : Int) (w : World) : Prop where
  rd : Rr w0.heap.size s p err w
  own : w.ownsRowF (w0.heap.size + 1) 105 2 v out.length (pcells out)
  below : Below w0.heap.size w0 w
/-- A block that holds a piece. -/
def Pb (g : Nat) (re im : Nat) (t : ByteArray) (w : World) : Prop := w.heap[g]? = some (.cells #[.complex .f64 re im, .string t] 105 (0, 0))
section
variable {s : ByteArray} {w0 w : World} {v : Value} {out : List Pc} {p : Nat} {err : Int}
theorem RS.ne (h : RS s w0 v out p err w) : v.ownBlock ≠ some w0.heap.size := fun e => by have := (h.own.lt _ e).1; omega
theorem RS.slice (h : RS s w0 v out p err w) : ∃ A cap, v = .slice A out.length cap := by
  obtain ⟨A, cap, hv, _⟩ := pcs_of_owns h.own
  exact ⟨A, cap, hv⟩
theorem RS.alloc (h : RS s w0 v out p err w) (o : Obj) : RS s w0 v out p err (w.alloc o) := ⟨h.rd.alloc o, h.own.alloc o, below_lay h.below o⟩
theorem RS.call (h : RS s w0 v out p err w) {f : FuncId} {args : Array Value} {r : Ending} {q : Nat} {err' : Int}
    (hc : Calls Try.prog f args w fun e w' => e = r ∧ Rr w0.heap.size s q err' w' ∧ Ko w0.heap.size w w') : Calls Try.prog f args w fun e w' => e = r ∧ RS s w0 v out q err' w' ∧ Ko w0.heap.size w w' :=
  hc.mono fun e w' ⟨he, hr, hk⟩ => ⟨he, ⟨hr, h.own.kept hk (.inr h.ne), h.below.trans (hk.below (Nat.le_refl _) h.below.size)⟩, hk⟩
/-- A piece's block is laid: it lies behind all that is owned. -/
theorem RS.behind (h : RS s w0 v out p err w) : w0.heap.size ≠ w.heap.size ∧ v.ownBlock ≠ some w.heap.size ∧ w0.heap.size ≤ w.heap.size :=
  ⟨by have := h.rd.lt; omega, fun e => by have := (h.own.lt _ e).2; omega, h.below.size⟩
theorem Pb.call {g re im b : Nat} {t : ByteArray} {w' : World} (h : Pb g re im t w) (hk : Ko b w w') (hne : g ≠ b) : Pb g re im t w' := (hk.block g (lt_of_block h) (fun e => hne (by injection e))).trans h
theorem RS.setCell {g i : Nat} {u : Value} (h : RS s w0 v out p err w) (h1 : w0.heap.size ≠ g) (h2 : v.ownBlock ≠ some g) (h3 : w0.heap.size ≤ g) : RS s w0 v out p err (w.setCell ⟨g, i, none⟩ u) := by
  have hg : w.grownBy (w.setCell ⟨g, i, none⟩ u) (some g) := (Ko.refl g w).setCell i u
  exact ⟨(hg.block _ h.rd.lt (fun e => h1 (by injection e))).trans h.rd, h.own.kept hg (.inr h2), h.below.grown hg h.below.size (fun k hk => by cases hk; omega)⟩
theorem Pb.set0 {g re im re' im' : Nat} {t : ByteArray} (h : Pb g re im t w) : Pb g re' im' t (w.setCell ⟨g, 0, none⟩ (.complex .f64 re' im')) := by
  unfold Pb at h ⊢
  simp [World.setCell, Array.getElem?_modify, h]
theorem Pb.set1 {g re im : Nat} {t t' : ByteArray} (h : Pb g re im t w) : Pb g re im t' (w.setCell ⟨g, 1, none⟩ (.string t')) := by
  unfold Pb at h ⊢
  simp [World.setCell, Array.getElem?_modify, h]
theorem Pb.cell0 {g re im : Nat} {t : ByteArray} (h : Pb g re im t w) : w.cell? ⟨g, 0, none⟩ = some (.complex .f64 re im) := by rw [Lib.cell_of_heap h]; rfl
theorem Pb.cell1 {g re im : Nat} {t : ByteArray} (h : Pb g re im t w) : w.cell? ⟨g, 1, none⟩ = some (.string t) := by rw [Lib.cell_of_heap h]; rfl
theorem Pb.frozen {g re im : Nat} {t : ByteArray} (h : Pb g re im t w) (i : Nat) : w.frozen? ⟨g, i, none⟩ = false := Lib.frozen_of_heap h i
theorem RS.appended (h : RS s w0 v out p err w) {w' : World} {v' : Value} (x : Pc) (o : Obj) (ho : w'.ownsRowF (w0.heap.size + 1) 105 2 v' (out.length + 1) (pcells out ++ x.cells)) (hg : (w.alloc o).grownBy w' v.ownBlock) : RS s w0 v' (out ++ [x]) p err w' := by
  refine ⟨?_, ?_, ?_⟩
  · have h1 := h.rd.alloc o
    exact (hg.block _ (by have := h.rd.lt; simp; omega) (fun e => h.ne e.symm)).trans h1
  · rw [pcells_snoc, List.length_append]; exact ho
  · exact (below_lay h.below o).grown hg (by have := h.below.size; simp; omega) (fun g hgg => by have := (h.own.lt g hgg).1; omega)
theorem RS.number (most : Int) (hs : s.size ≤ 140737488355328) (hp : p ≤ s.size) (h : RS s w0 v out p 0 w) :
    Calls Try.prog 53 #[.pointer (some ⟨w0.heap.size, 0, none⟩), .int .i64 most] w fun e w' => e = .returned (.int .i64 (numRes p (readNum most (s.data.toList.drop p))).1) ∧
      RS s w0 v out (numRes p (readNum most (s.data.toList.drop p))).2.1 (numRes p (readNum most (s.data.toList.drop p))).2.2 w' ∧ Ko w0.heap.size w w' :=
  h.call (rnumber_ok _ s p most w h.rd hs hp)
end
theorem Rr.made (s : ByteArray) (w : World) : Rr w.heap.size s 0 0 (w.alloc (.cells #[.string s, .int .i64 0, .int .i64 0] 102)) := heap_alloc_new w _
end Go.Proofs.Ytghmhheolbobpaa
