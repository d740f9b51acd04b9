/- The reference's SameTexts on the same texts, and the chain laws' own alive. Conditions: the texts lie in memory as slices. -/
import Derived.Test.YtghmhheolbobpaaChainAll
set_option linter.unusedVariables false
set_option maxRecDepth 100000
namespace Go.Proofs.Ytghmhheolbobpaa
open Go.RowKit Wire

/-- A slice value that reads as a list of texts. -/
def Txs (w : World) (A : Option Addr) (ts : List ByteArray) : Prop :=
  ∀ k (h : k < ts.length), ∃ b o, A = some ⟨b, o, none⟩ ∧ w.cell? ⟨b, o + k, none⟩ = some (.string ts[k])
theorem Txs.below {w w' : World} {A : Option Addr} {ts : List ByteArray} (h : Txs w A ts) (hb : Below w.heap.size w w') : Txs w' A ts := fun k hk => by
  obtain ⟨b, o, e, hr⟩ := h k hk
  exact ⟨b, o, e, cell_later hb hr⟩
theorem Txs.take {w : World} {A : Option Addr} {ts : List ByteArray} (h : Txs w A ts) (n : Nat) : Txs w A (ts.take n) := fun k hk => by
  rw [List.length_take] at hk
  obtain ⟨b, o, e, hr⟩ := h k (by omega)
  exact ⟨b, o, e, by rw [List.getElem_take]; exact hr⟩
theorem txs_of_owns {w : World} {B : Nat} {v : Value} {ts : List ByteArray} (h : w.ownsRowF B 9 1 v ts.length (txs ts)) : ∃ A cap, v = .slice A ts.length cap ∧ Txs w A ts ∧ ts.length ≤ cap := by
  have hcl : ∀ g, v.ownBlock = some g → ∀ j u, (txs ts)[j]? = some u → w.cell? ((⟨g, 0, none⟩ : Addr).add j) = some u := fun g hg => h.cells hg
  rcases h.2 with ⟨hv, h0⟩ | ⟨g, cap, cur, fz, hv, _, _, _, hle, _⟩
  · exact ⟨none, 0, by rw [hv, h0], (fun k hk => by omega), by omega⟩
  · refine ⟨_, cap, hv, (fun k hk => ⟨g, 0, rfl, ?_⟩), hle⟩
    have := hcl g (by rw [hv]; rfl) k (.string ts[k]) (by unfold txs; rw [List.getElem?_map, List.getElem?_eq_getElem hk]; rfl)
    have e : (⟨g, 0, none⟩ : Addr).add k = ⟨g, 0 + k, none⟩ := by unfold Addr.add; split <;> simp_all
    rwa [e] at this
set_option maxHeartbeats 1000000 in
theorem same_of (A A' : Option Addr) (cap cap' : Nat) (ts : List ByteArray) (w : World) (h : Txs w A ts) (h' : Txs w A' ts) (hn : ts.length ≤ 200) :
    Calls Try.prog 36 #[.slice A ts.length cap, .slice A' ts.length cap'] w fun e w' => e = .returned (.bool true) ∧ Below w.heap.size w w' := by
  have H := Lib.hid h
  have H' := Lib.hid h'
  clear h h'
  go_enter Try.func36, Try.ntmps36
  go_wp2
  go_loopw [5] (fun i wr => ∃ k : Nat, k ≤ ts.length ∧ i = .int .i64 k ∧ Below w.heap.size w wr) (fun i _ => ts.length - (intOf i).toNat)
  case atStart => exact ⟨0, by omega, rfl, Below.refl _ _⟩
  case round =>
    obtain ⟨k, hk, rfl, hBel⟩ := hrel
    by_cases hlt : k < ts.length
    · obtain ⟨b, o, rfl, hr⟩ := H.out k hlt
      obtain ⟨b', o', rfl, hr'⟩ := H'.out k hlt
      have hBd := Below.drew hBel
      have c0 := cell_later hBd hr
      have c1 := cell_later hBd hr'
      clear hr hr'
      go_wp2
      go_region
      all_goals
        go_wp2
        exact ⟨⟨k + 1, by omega, by go_num, hBd⟩, by simp [intOf]; omega⟩
    · go_wp2
      go_ret
      exact ⟨rfl, hBel⟩

/-! ### alive -/
def aliveP : List Pt := [⟨false, 0, ⟨#[48, 49, 50, 51, 52, 53, 54, 55, 56, 57, 97, 98, 99, 100, 101, 102]⟩⟩, ⟨true, 0, ⟨#[16, 17, 2, 120, 33, 0]⟩⟩]
theorem alive_text : textL aliveP 1 = .inl ⟨#[120, 48, 49, 50, 51, 52, 53, 54, 55, 56, 57, 97, 98, 99, 100, 101, 102]⟩ := by kernel_rfl
theorem alive_path : pathL aliveP 1 = .inl [1, 0] := by kernel_rfl
theorem alive_right : rightL aliveP = true := by kernel_rfl
theorem alive_small : ∀ x ∈ aliveP, x.text.size ≤ maxLen := by
  intro x hx
  unfold aliveP at hx
  simp only [List.mem_cons, List.not_mem_nil, or_false] at hx
  rcases hx with rfl | rfl <;> decide
theorem pts_at {w : World} {g : Nat} {l : List Pt} {c : Array Value} {t : TypeId} {fz : Nat × Nat} (h : w.heap[g]? = some (.cells c t fz)) (hc : c.toList = l.flatMap Pt.cells) : Pts w (some ⟨g, 0, none⟩) l := fun k hk => by
  refine ⟨g, 0, rfl, fun j u hu => ?_⟩
  have e : ∀ (l : List Pt) (k : Nat) (h : k < l.length) (j : Nat) (u : Value), l[k].cells[j]? = some u → (l.flatMap Pt.cells)[k * 3 + j]? = some u := by
    intro l
    induction l with
    | nil => intro k h; simp at h
    | cons x l ih =>
      intro k h j u hu
      cases k with
      | zero =>
        rw [List.flatMap_cons, List.getElem?_append_left]
        · simpa using hu
        · have := List.getElem?_eq_some_iff.1 hu
          obtain ⟨hj, _⟩ := this
          simp at hj ⊢; omega
      | succ k =>
        have ih := ih k (by simpa using h) j u (by simpa using hu)
        rw [List.flatMap_cons, List.getElem?_append_right (by simp [Pt.cells]; omega)]
        have e : (k + 1) * 3 + j - x.cells.length = k * 3 + j := by simp [Pt.cells]; omega
        rw [e]; exact ih
  rw [Lib.cell_of_heap h]
  have := e l k hk j u hu
  rw [← hc] at this
  simpa using this
set_option maxHeartbeats 2000000 in
theorem chainAlive (w : World) : Calls Try.prog 27 #[] w fun e w' => e = .returned (.bool true) ∧ Below w.heap.size w w' := by
  have hP : ∀ (W W1 : World), (W1 = W.alloc (.cells #[.bool false, .int .i64 0, .string ⟨#[48, 49, 50, 51, 52, 53, 54, 55, 56, 57, 97, 98, 99, 100, 101, 102]⟩, .bool true, .int .i64 0, .string ⟨#[16, 17, 2, 120, 33, 0]⟩] 82)) → Pts W1 (some ⟨W.heap.size, 0, none⟩) aliveP := fun W W1 h => by
    subst h
    exact pts_at (heap_alloc_new W _) rfl
  obtain ⟨w1, hw1⟩ : ∃ w1, w1 = w.alloc (.cells #[.bool false, .int .i64 0, .string ⟨#[48, 49, 50, 51, 52, 53, 54, 55, 56, 57, 97, 98, 99, 100, 101, 102]⟩, .bool true, .int .i64 0, .string ⟨#[16, 17, 2, 120, 33, 0]⟩] 82) := ⟨_, rfl⟩
  have P1 := hP w w1 hw1
  have b1 : Below w.heap.size w w1 := by rw [hw1]; exact below_lay (Below.refl _ _) _
  have C30 := fun W (h : Pts W (some ⟨w.heap.size, 0, none⟩) aliveP) => chainText_of (some ⟨w.heap.size, 0, none⟩) 2 aliveP 1 W alive_small h
  have C29 := fun W (h : Pts W (some ⟨w.heap.size, 0, none⟩) aliveP) => depth_of (some ⟨w.heap.size, 0, none⟩) 2 aliveP 1 W h
  have C34 := fun W (h : Pts W (some ⟨w.heap.size, 0, none⟩) aliveP) => right_of (some ⟨w.heap.size, 0, none⟩) 2 aliveP W alive_small h
  rw [alive_text] at C30
  rw [alive_path] at C29
  rw [alive_right] at C34
  have C30 := Lib.hid C30
  have C29 := Lib.hid C29
  have C34 := Lib.hid C34
  have HW1 := Lib.hid hw1
  clear hP hw1
  go_enter Try.func27, Try.ntmps27
  go_wp2_with (first
    | (go_at_call 30; go_loud (rw [← HW1.out]; refine (C30.out w1 P1).mono ?_; rintro e w2 ⟨hR, b2⟩; obtain rfl := hR; have P2 := P1.below b2))
    | (go_at_call 29; refine (C29.out _ P2).mono ?_; rintro e w3 ⟨rfl, b3⟩; have P3 := P2.below b3)
    | (go_at_call 34; refine (C34.out _ P3).mono ?_; rintro e w4 ⟨rfl, b4⟩))
  go_ret
  exact ⟨rfl, below_step b1 (below_step b2 (below_step b3 b4))⟩
end Go.Proofs.Ytghmhheolbobpaa
