/- chain's own All and Right. Conditions: the parts lie in memory as a slice of structs, their texts within the form's reach. -/
import Derived.Test.YtghmhheolbobpaaClosure
set_option linter.unusedVariables false
set_option maxRecDepth 100000
namespace Go.Proofs.Ytghmhheolbobpaa
open Go.RowKit Wire Go.Maps

/-- A call of the closure, whatever the part. -/
theorem find_of (A : Option Addr) (cap : Nat) (l : List Pt) (k p1 p2 mb : Nat) (ts : List ByteArray) (w : World) (hs : ∀ x ∈ l, x.text.size ≤ maxLen) (hc : Pts w A l) (hl : w.cell? ⟨p1, 0, none⟩ = some (.slice A l.length cap))
    (hm : w.cell? ⟨p2, 0, none⟩ = some (.map (some mb))) (hk : k < l.length) (hl2 : l.length ≤ 200) (hn : Kn mb ts w) (ht : textsN l k = .inl ts) :
    Calls Try.prog 45 #[.int .i64 (k : Int), .pointer (some ⟨p1, 0, none⟩), .pointer (some ⟨p2, 0, none⟩)] w fun e w' => FindOut mb ts (textL l (k : Int)) e w w' := by
  have hlen := textsN_len ht
  cases hp : pathL l (k : Int) with
  | inr e => exact find_bad A cap l k p1 p2 mb ts e w hc hl hp
  | inl r =>
    obtain ⟨_, r', rfl, _, _, h4⟩ := pathL_inl hp
    rcases h4 with rfl | ⟨j, r2, hjk, rfl, hjp⟩
    · exact find_plain A cap l k p1 p2 mb ts w hs hc hl hm hk hlen.symm (by omega) hn hp
    · have hj : j < ts.length := by omega
      have hjt := textsN_at ht j hj
      refine find_delta A cap l k p1 p2 mb ts w hs hc hl hm hk hlen.symm (by omega) hn j r2 hp hj hjp hjt ?_
      have : ts[j].size ≤ 4099 := by
        unfold textL at hjt
        rw [hjp] at hjt
        exact textPath_size hjt
      unfold maxLen; omega
/-- Texts as cells. -/
def txs (ts : List ByteArray) : List Value := ts.map Value.string
/-- What All hands back. -/
def AllOut (B : Nat) (r : List ByteArray ⊕ Nat) (e : Ending) (w : World) : Prop :=
  match r with
  | .inl ts => ∃ v, e = .returned (.tuple #[v, .int .i64 0]) ∧ w.ownsRowF B 9 1 v ts.length (txs ts)
  | .inr n => e = .returned (.tuple #[.slice none 0 0, .int .i64 (n : Int)])
theorem info9 : ∃ i, Try.prog.info? 9 = some i ∧ i.zero = some (.string ByteArray.empty) ∧ i.size = 1 ∧ i.bytes = 16 := by
  have h : (Try.prog.info? 9).map (fun i => (i.size, i.bytes)) = some (1, 16) := by kernel_rfl
  have h2 : (Try.prog.info? 9).bind (fun i => i.zero) = some (.string ByteArray.empty) := by kernel_rfl
  obtain ⟨i, hi, he⟩ := Option.map_eq_some_iff.1 h
  simp only [Prod.mk.injEq] at he
  rw [hi] at h2
  exact ⟨i, hi, h2, he.1, he.2⟩
theorem text_errL {l : List Pt} {k : Int} {e : Nat} (h : textL l k = .inr e) : e ≠ 0 := by
  unfold textL at h
  cases hp : pathL l k with
  | inr f => rw [hp] at h; injection h with h; have := pathL_err hp; omega
  | inl r =>
    rw [hp] at h
    simp only at h
    have key : ∀ r : List Nat, textPath l r = .inr e → e ≠ 0 := by
      intro r
      induction r with
      | nil => intro h; cases h
      | cons x r ih =>
        intro h
        rw [textPath] at h
        cases hr : textPath l r with
        | inr f => rw [hr] at h; injection h with h; subst h; exact ih hr
        | inl s => rw [hr] at h; have := part_err h; omega
    exact key r h
theorem textsN_err {l : List Pt} {e : Nat} : ∀ {k n : Nat}, textsN l k = .inr e → k ≤ n → textsN l n = .inr e
  | k, 0, h, hk => by obtain rfl : k = 0 := by omega
                      exact h
  | k, n + 1, h, hk => by
    by_cases hkn : k = n + 1
    · subst hkn; exact h
    · rw [textsN, textsN_err h (by omega : k ≤ n)]
/-- What stands ahead of each round. -/
structure AS (l : List Pt) (A : Option Addr) (cap : Nat) (w0 : World) (k : Nat) (ts : List ByteArray) (v : Value) (w : World) : Prop where
  own : w.ownsRowF (w0.heap.size + 3) 9 1 v ts.length (txs ts)
  kn : Kn (w0.heap.size + 1) ts w
  box : w.heap[w0.heap.size]? = some (.cells #[.slice A l.length cap] 53 (0, 0))
  cell : w.heap[w0.heap.size + 1 + 1]? = some (.cells #[.map (some (w0.heap.size + 1))] 87 (0, 0))
  below : Below w0.heap.size w0 w
  law : textsN l k = .inl ts
theorem AS.ne {l : List Pt} {A : Option Addr} {cap : Nat} {w0 : World} {k : Nat} {ts : List ByteArray} {v : Value} {w : World} (h : AS l A cap w0 k ts v w) : v.ownBlock ≠ some (w0.heap.size + 1) := fun e => by have := (h.own.lt _ e).1; omega
theorem AS.next {l : List Pt} {A : Option Addr} {cap : Nat} {w0 : World} {k : Nat} {ts : List ByteArray} {v v' : Value} {w w1 w5 : World} {s : ByteArray} (h : AS l A cap w0 k ts v w) (hg : w.grownBy w1 (some (w0.heap.size + 1))) (hkn : Kn (w0.heap.size + 1) (ts ++ [s]) w1)
    (hlaw : textsN l (k + 1) = .inl (ts ++ [s])) (o : Obj) (ho : w5.ownsRowF (w0.heap.size + 3) 9 1 v' (k + 1) (txs ts ++ [.string s])) (hgrow : (w1.alloc o).grownBy w5 v.ownBlock) : AS l A cap w0 (k + 1) (ts ++ [s]) v' w5 := by
  have hlo : ∀ g, v.ownBlock = some g → w0.heap.size + 3 ≤ g := fun g e => (h.own.lt g e).1
  have hlen := textsN_len h.law
  have hkeep : ∀ (b : Nat) (x : Obj), b < w0.heap.size + 3 → b ≠ w0.heap.size + 1 → w.heap[b]? = some x → w5.heap[b]? = some x := fun b x hb hne hx => by
    have hlt : b < w.heap.size := by
      rcases Nat.lt_or_ge b w.heap.size with h' | h'
      · exact h'
      · rw [Array.getElem?_eq_none h'] at hx; cases hx
    have h1 := (hg.block b hlt (fun e => hne (by injection e))).trans hx
    have hlt1 : b < w1.heap.size := Nat.lt_of_lt_of_le hlt hg.size
    have h2 := (Lib.alloc_old w1 o b hlt1).trans h1
    refine (hgrow.block b (by simp; omega) (fun e => ?_)).trans h2
    have := hlo b e.symm
    omega
  refine ⟨?_, (hkn.grown (World.grownBy_alloc w1 o none) (by simp)).grown hgrow (fun e => by have := hlo _ e.symm; omega), hkeep _ _ (by omega) (by omega) h.box, hkeep _ _ (by omega) (by omega) h.cell, ?_, hlaw⟩
  · rw [List.length_append, hlen]
    unfold txs at ho ⊢
    rw [List.map_append]
    exact ho
  · have b1 := h.below.grown hg h.below.size (fun g hgg => by cases hgg; omega)
    exact (below_lay b1 o).grown hgrow (by have := b1.size; simp; omega) (fun g hgg => by have := hlo g hgg; omega)
set_option maxHeartbeats 4000000 in
theorem all_few (A : Option Addr) (cap : Nat) (l : List Pt) (w : World) (hs : ∀ x ∈ l, x.text.size ≤ maxLen) (hc : Pts w A l) (hl : l.length ≤ 200) :
    Calls Try.prog 35 #[.slice A l.length cap] w fun e w' => AllOut w.heap.size (allL l) e w' ∧ Below w.heap.size w w' := by
  obtain ⟨i0, hi, hz0, hz1, hz2⟩ := info9
  have HALL : Hid (allL l = textsN l l.length) := Lib.hid (by unfold allL; rw [if_neg (by omega)])
  have HS := Lib.hid hs
  have HC := Lib.hid hc
  clear hs hc
  have hmm := @run_makeMap Try.prog
  have hmf : ∀ (fn : Fn) (first cap : Array Value) (w : World), (Instr.makeFunc fn first cap).run Try.prog w = .ok (.func fn first cap) w := fun _ _ _ _ => rfl
  go_enter Try.func35, Try.ntmps35
  go_wp2
  go_loopw [6, 17] (fun v i wr => ∃ (k : Nat) (ts : List ByteArray), k ≤ l.length ∧ i = .int .i64 k ∧ AS l A cap w k ts v wr) (fun _ i _ => l.length - (intOf i).toNat)
  case atStart =>
    refine ⟨0, [], by omega, rfl, World.ownsRowF_nil _ _ _ _, ⟨.map [], ⟨[], rfl⟩, ?_, fun j hj => by simp at hj⟩, ?_, ?_, below_lay (below_lay (below_lay (Below.refl _ _) _) _) _, rfl⟩
    · have h := World.ownsMap_made (H := Unit) (w.alloc (.cells #[.slice A l.length cap] 53)) Try.prog 3 (plainElem Try.prog 9)
      have e : (w.alloc (.cells #[.slice A l.length cap] 53)).heap.size = w.heap.size + 1 := by simp
      rw [e] at h
      exact h.alloc _
    · exact (Lib.alloc_old _ _ _ (by simp; omega)).trans ((Lib.alloc_old _ _ _ (by simp)).trans (heap_alloc_new w _))
    · have h := heap_alloc_new ((w.alloc (.cells #[.slice A l.length cap] 53)).alloc (.map #[] 0)) (.cells #[.map (some (w.heap.size + 1))] 87)
      have e : ((w.alloc (.cells #[.slice A l.length cap] 53)).alloc (.map #[] 0)).heap.size = w.heap.size + 1 + 1 := by simp
      rw [e] at h
      exact h
  case round =>
    obtain ⟨k, ts, hk, rfl, hA⟩ := hrel
    have hlen := textsN_len hA.law
    by_cases hlt : k < l.length
    · have C45 := find_of A cap l k w.heap.size (w.heap.size + 1 + 1) (w.heap.size + 1) ts wr HS.out (HC.out.below hA.below) (by rw [Lib.cell_of_heap hA.box]; rfl) (by rw [Lib.cell_of_heap hA.cell]; rfl) hlt hl hA.kn hA.law
      have hne := hA.ne
      cases ht : textL l (k : Int) with
      | inr e =>
        have he : ((e : Int) == 0) = false := by have := text_errL ht; rw [beq_eq_false_iff_ne]; omega
        have HE : Hid (textsN l l.length = .inr e) := Lib.hid (textsN_err (k := k + 1) (by rw [textsN, hA.law]; simp only; rw [ht]) (by omega))
        rw [ht] at C45
        clear ht
        go_wp2_with (go_at_call 45; refine C45.mono ?_; rintro e w1 ⟨hR, hg, hK⟩; obtain rfl := hR)
        go_ret2
        rw [HALL.out, HE.out]
        exact ⟨rfl, hA.below.grown hg hA.below.size (fun g hgg => by cases hgg; omega)⟩
      | inl s =>
        have HL : Hid (textsN l (k + 1) = .inl (ts ++ [s])) := Lib.hid (by rw [textsN, hA.law]; simp only; rw [ht])
        rw [ht] at C45
        clear ht
        go_wp2_with (first
          | (go_at_call 45; have hC := C45; clear C45; refine hC.mono ?_; rintro e w1 ⟨hR, hg, hK⟩; obtain rfl := hR; have hO1 := hA.own.kept hg (.inr hne))
          | (at_builtin; refine wpList_append_ownF _ rfl _ _ 63 rfl (w.heap.size + 3) 9 i0 (.string ByteArray.empty) 1 16 Try.underlying63 hi hz0 hz1 hz2 rfl (by decide) _ _ _ rfl (hO1.alloc _) ⟨w1.heap.size, 0, none⟩ 1 1 [.string s] rfl rfl ?c1 ?c2 ?c3 ?c4 ?c5 ?_))
        case c1 =>
          intro j u hj
          match j, hj with
          | 0, hj => simp at hj; subst hj; simp [Addr.add]
        case c2 => intro u hu; simp at hu; subst hu; rfl
        case c3 => unfold maxLen; omega
        case c4 => omega
        case c5 => have := hg.size; have := lt_of_block hA.cell; simp; omega
        intro v' w5 hown' hgrow _
        have hNext := hA.next hg (hK s rfl) HL.out _ hown' hgrow
        go_wp2
        exact ⟨⟨k + 1, ts ++ [s], by omega, by go_num, hNext⟩, by simp [intOf]; omega⟩
    · obtain rfl : k = l.length := by omega
      have hlaw := hA.law
      have hown := World.ownsRowF.wider hA.own (show w.heap.size ≤ w.heap.size + 3 by omega)
      have hbel := hA.below
      have HLAW := Lib.hid hlaw
      have HOWN := Lib.hid hown
      clear hlaw hown hA
      go_wp2
      go_ret2
      rw [HALL.out, HLAW.out]
      exact ⟨⟨_, rfl, HOWN.out⟩, hbel⟩
set_option maxHeartbeats 400000 in
theorem all_many (A : Option Addr) (cap : Nat) (l : List Pt) (w : World) (hl : 200 < l.length) :
    Calls Try.prog 35 #[.slice A l.length cap] w fun e w' => AllOut w.heap.size (allL l) e w' ∧ Below w.heap.size w w' := by
  have HALL : Hid (allL l = .inr 1) := Lib.hid (by unfold allL; rw [if_pos hl])
  go_enter Try.func35, Try.ntmps35
  go_wp2
  go_ret2
  rw [HALL.out]
  exact ⟨rfl, below_lay (Below.refl _ _) _⟩
theorem all_of (A : Option Addr) (cap : Nat) (l : List Pt) (w : World) (hs : ∀ x ∈ l, x.text.size ≤ maxLen) (hc : Pts w A l) :
    Calls Try.prog 35 #[.slice A l.length cap] w fun e w' => AllOut w.heap.size (allL l) e w' ∧ Below w.heap.size w w' := by
  by_cases hl : l.length ≤ 200
  · exact all_few A cap l w hs hc hl
  · exact all_many A cap l w (by omega)
/-- May a list of parts be? -/
def rightL (l : List Pt) : Bool := match allL l with | .inl _ => true | .inr _ => false
theorem allL_err {l : List Pt} {e : Nat} (h : allL l = .inr e) : e ≠ 0 := by
  unfold allL at h
  split at h
  · injection h with h; omega
  · have key : ∀ n, textsN l n = .inr e → e ≠ 0 := by
      intro n
      induction n with
      | zero => intro h; cases h
      | succ n ih =>
        intro h
        rw [textsN] at h
        cases h1 : textsN l n with
        | inr f => rw [h1] at h; injection h with h; subst h; exact ih h1
        | inl ts =>
          rw [h1] at h
          simp only at h
          cases h2 : textL l (n : Int) with
          | inr f => rw [h2] at h; injection h with h; subst h; exact text_errL h2
          | inl s => rw [h2] at h; cases h
    exact key _ h
set_option maxHeartbeats 400000 in
theorem right_of (A : Option Addr) (cap : Nat) (l : List Pt) (w : World) (hs : ∀ x ∈ l, x.text.size ≤ maxLen) (hc : Pts w A l) :
    Calls Try.prog 34 #[.slice A l.length cap] w fun e w' => e = .returned (.bool (rightL l)) ∧ Below w.heap.size w w' := by
  have C35 := all_of A cap l w hs hc
  unfold rightL
  cases ha : allL l with
  | inl ts =>
    rw [ha] at C35
    clear ha
    go_enter Try.func34, Try.ntmps34
    go_wp2_with (go_at_call 35; refine C35.mono ?_; rintro e w1 ⟨hR, b1⟩; obtain ⟨v, rfl, hO⟩ := hR)
    go_ret
    exact ⟨rfl, b1⟩
  | inr n =>
    have he : ((n : Int) == 0) = false := by have := allL_err ha; rw [beq_eq_false_iff_ne]; omega
    rw [ha] at C35
    clear ha
    go_enter Try.func34, Try.ntmps34
    go_wp2_with (go_at_call 35; refine C35.mono ?_; rintro e w1 ⟨hR, b1⟩; obtain rfl := hR)
    go_ret
    exact ⟨rfl, b1⟩
end Go.Proofs.Ytghmhheolbobpaa
