/- What the reader's methods say where the bytes ahead are known, and items as the wire laws write them. Conditions: the block is a reader's; the text is within the form's reach. -/
import Derived.Test.YtghmhheolbobpaaItems
import Derived.Test.YtghmhheolbobpaaCutPlain
set_option linter.unusedVariables false
namespace Go.Proofs.Ytghmhheolbobpaa
open Go.RowKit Wire

theorem drop_next {l a r : List UInt8} {p : Nat} (h : l.drop p = a ++ r) : l.drop (p + a.length) = r := by
  rw [← List.drop_drop, h, List.drop_left]
theorem drop_room {l a r : List UInt8} {p : Nat} (h : l.drop p = a ++ r) (h0 : 0 < a.length ∨ p ≤ l.length) : p + a.length ≤ l.length := by
  have := congrArg List.length h
  rw [List.length_drop, List.length_append] at this
  omega
theorem size_list (s : ByteArray) : s.data.toList.length = s.size := by simp
theorem back_num (r : Nat) (S : ByteArray) (p n : Nat) (rest : List UInt8) (w : World) (hm : S.size ≤ maxLen) (hn : n ≤ maxNum) (h : S.data.toList.drop p = num n ++ rest) (hR : Rd r S p 0 w) :
    Calls Try.prog 21 #[.pointer (some ⟨r, 0, none⟩), .int .i64 1099511627775] w fun e w' => e = .returned (.int .i64 (n : Int)) ∧ Rd r S (p + (num n).length) 0 w' ∧ Ko r w w' := by
  have hp := drop_room h (.inl (num_pos n))
  rw [size_list] at hp
  have hc := number_ok r S p 1099511627775 w hR hm (by omega)
  rw [h, read_num hn (by unfold maxNum at hn; omega)] at hc
  exact hc
theorem back_text (r : Nat) (S s : ByteArray) (p : Nat) (rest : List UInt8) (w : World) (hm : S.size ≤ maxLen) (hs : s.size ≤ 500) (h : S.data.toList.drop p = num s.size ++ (s.data.toList ++ rest)) (hR : Rd r S p 0 w) :
    Calls Try.prog 22 #[.pointer (some ⟨r, 0, none⟩), .int .i64 500] w fun e w' => e = .returned (.string s) ∧ Rd r S (p + (num s.size).length + s.size) 0 w' ∧ Ko r w w' := by
  have hp := drop_room h (.inl (num_pos s.size))
  have h2 := drop_next h
  have hp2 := drop_room h2 (.inr hp)
  rw [size_list] at hp hp2
  rw [size_list] at hp2
  have hc := text_good r S p 500 s.size (num s.size).length w hR hm (by omega) (by rw [h]; exact read_num (by unfold maxNum; omega) (by omega) _) (by omega)
  have e : S.extract (p + (num s.size).length) (p + (num s.size).length + s.size) = s := by
    apply ByteArray.ext
    apply Array.toList_inj.1
    rw [extract_list, h2, ← size_list, List.take_left]
  rw [e] at hc
  exact hc
theorem back_id (r : Nat) (S : ByteArray) (d : List UInt8) (p : Nat) (rest : List UInt8) (w : World) (hm : S.size ≤ maxLen) (hd : d.length = 32) (h : S.data.toList.drop p = d ++ rest) (hR : Rd r S p 0 w) :
    Calls Try.prog 23 #[.pointer (some ⟨r, 0, none⟩)] w fun e w' => e = .returned (.agg (idCells d).toArray) ∧ Rd r S (p + 32) 0 w' ∧ Ko r w w' := by
  have hp := drop_room h (.inl (by omega))
  rw [size_list, hd] at hp
  have hc := id_ok r S p w hR hm hp
  rw [h, ← hd, List.take_left] at hc
  rw [hd] at hc
  exact hc
theorem back_raw (r : Nat) (S s : ByteArray) (p : Nat) (rest : List UInt8) (w : World) (hm : S.size ≤ maxLen) (hp : p ≤ S.size) (h : S.data.toList.drop p = s.data.toList ++ rest) (hR : Rd r S p 0 w) :
    Calls Try.prog 24 #[.pointer (some ⟨r, 0, none⟩), .int .i64 (s.size : Int)] w fun e w' => e = .returned (.string s) ∧ Rd r S (p + s.size) 0 w' ∧ Ko r w w' := by
  have hp2 := drop_room h (.inr (by rw [size_list]; exact hp))
  rw [size_list, size_list] at hp2
  have hc := raw_ok r S p s.size w hR hm hp2
  have e : S.extract p (p + s.size) = s := by
    apply ByteArray.ext
    apply Array.toList_inj.1
    rw [extract_list, h, ← size_list, List.take_left]
  rw [e] at hc
  exact hc

/-- Where an item's parts lie. -/
theorem back_places (S : ByteArray) (n : Nat) (s : ByteArray) (d : List UInt8) (p0 : Nat) (rest : List UInt8) (hd : d.length = 32) (h0 : S.data.toList.drop p0 = num n ++ (num s.size ++ (s.data.toList ++ (d ++ (s.data.toList ++ rest))))) :
    ∃ p1 p2 p3 r1 r2 r3, p1 = p0 + (num n).length ∧ p2 = p1 + (num s.size).length + s.size ∧ p3 = p2 + 32 ∧ S.data.toList.drop p1 = num s.size ++ (s.data.toList ++ r1) ∧ S.data.toList.drop p2 = d ++ r2 ∧ S.data.toList.drop p3 = s.data.toList ++ r3 ∧ p3 ≤ S.size := by
  have h1 := drop_next h0
  have h2 := drop_next h1
  have h3 := drop_next h2
  rw [size_list] at h3
  have h4 := drop_next h3
  have h5 := drop_room h3 (.inl (by omega))
  rw [hd] at h4 h5
  rw [size_list] at h5
  exact ⟨_, _, _, _, _, _, rfl, rfl, rfl, h1, h3, h4, h5⟩

/-- An item as it is written; some of them. -/
def itb (x : It) : List UInt8 := num (clamp x.n) ++ (num x.s.size ++ (x.s.data.toList ++ (x.id ++ x.s.data.toList)))
def itbs (l : List It) : List UInt8 := l.flatMap itb
theorem itbs_take (l : List It) (k : Nat) (h : k < l.length) : itbs (l.take (k + 1)) = itbs (l.take k) ++ itb l[k] := by
  unfold itbs
  rw [List.take_succ_eq_append_getElem h, List.flatMap_append, List.flatMap_cons, List.flatMap_nil, List.append_nil]
theorem itbs_drop (l : List It) (k : Nat) (h : k < l.length) : ∃ r, itbs l = itbs (l.take k) ++ (itb l[k] ++ r) := by
  refine ⟨itbs (l.drop (k + 1)), ?_⟩
  conv => lhs; rw [← List.take_append_drop k l, List.drop_eq_getElem_cons h]
  unfold itbs
  rw [List.flatMap_append, List.flatMap_cons]
theorem itb_length (x : It) (hd : x.id.length = 32) : (itb x).length = (num (clamp x.n)).length + (num x.s.size).length + x.s.size + 32 + x.s.size := by
  unfold itb
  simp only [List.length_append, size_list, hd]
  omega
theorem itbs_len : ∀ (l : List It) (k : Nat), (∀ x ∈ l, x.s.size ≤ 500 ∧ x.id.length = 32) → (itbs (l.take k)).length ≤ 1044 * l.length
  | [], k, _ => by simp [itbs]
  | t :: ts, 0, _ => by simp [itbs]
  | t :: ts, k + 1, h => by
    have ih := itbs_len ts k fun x hx => h x (List.mem_cons_of_mem _ hx)
    have ht := h t (List.mem_cons_self ..)
    have h6 := num_six (n := t.s.size) (by unfold maxNum; omega)
    have h7 := num_six (clamp_le t.n)
    have e : (itbs ((t :: ts).take (k + 1))).length = (itb t).length + (itbs (ts.take k)).length := by
      unfold itbs; rw [List.take_succ_cons, List.flatMap_cons, List.length_append]
    rw [e, itb_length t ht.2, List.length_cons]
    omega
end Go.Proofs.Ytghmhheolbobpaa
