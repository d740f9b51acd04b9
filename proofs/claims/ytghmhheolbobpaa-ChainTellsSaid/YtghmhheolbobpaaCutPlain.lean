/- Plain facts on texts written one behind the other, each with its length ahead of it, and read of what is left when they are cut: what was whole is read, and then too little is there. No program in sight; no conditions. -/
import Derived.Test.YtghmhheolbobpaaNum
namespace Go.Proofs.Ytghmhheolbobpaa.Wire

/-- A text with its length ahead of it; some of them. -/
def txt (d : List UInt8) : List UInt8 := num d.length ++ d
def txts (l : List (List UInt8)) : List UInt8 := l.flatMap txt
theorem txts_nil : txts [] = [] := rfl
theorem txts_snoc (l : List (List UInt8)) (d : List UInt8) : txts (l ++ [d]) = txts l ++ txt d := by
  unfold txts; rw [List.flatMap_append, List.flatMap_cons, List.flatMap_nil, List.append_nil]
theorem txts_take (l : List (List UInt8)) (k : Nat) (h : k < l.length) : txts (l.take (k + 1)) = txts (l.take k) ++ txt l[k] := by
  rw [List.take_succ_eq_append_getElem h, txts_snoc]
theorem txts_drop (l : List (List UInt8)) (k : Nat) (h : k < l.length) : ∃ r, txts l = txts (l.take k) ++ (txt l[k] ++ r) := by
  refine ⟨txts (l.drop (k + 1)), ?_⟩
  conv => lhs; rw [← List.take_append_drop k l, List.drop_eq_getElem_cons h]
  unfold txts
  rw [List.flatMap_append, List.flatMap_cons]
theorem txt_length (d : List UInt8) : (txt d).length = (num d.length).length + d.length := by unfold txt; rw [List.length_append]

/-- Of a number that is cut too little is there. -/
theorem scan_cut : ∀ (k i acc n j : Nat), i + k = 6 → n < 128 ^ k → j < (num n).length → scan i acc ((num n).take j) = .inl 3
  | 0, i, acc, n, j, _, hn, hj => by
    have : n = 0 := by simp at hn; exact hn
    subst this
    rw [num_small (by omega)] at hj ⊢
    have : j = 0 := by simp at hj; omega
    subst this
    rfl
  | k + 1, i, acc, n, j, hik, hn, hj => by
    rcases j with _ | j
    · rfl
    · by_cases h : n < 128
      · rw [num_small h] at hj; simp at hj
      · rw [num_great h] at hj ⊢
        have h2 : n / 128 < 128 ^ k := by
          rw [Nat.div_lt_iff_lt_mul (by omega)]
          rw [Nat.pow_succ] at hn
          exact hn
        have hk : 0 < k := by
          rcases Nat.eq_zero_or_pos k with rfl | h'
          · simp at hn; omega
          · exact h'
        simp only [List.take_succ_cons, scan, byte_great]
        rw [if_pos (by omega), if_neg (by omega)]
        exact scan_cut k (i + 1) _ (n / 128) j (by omega) h2 (by simpa using hj)
theorem read_cut {n : Nat} {most : Int} (h : n ≤ maxNum) {j : Nat} (hj : j < (num n).length) : readNum most ((num n).take j) = .inl 3 := by
  unfold readNum
  rw [scan_cut 6 0 0 n j (by omega) (by unfold maxNum at h; omega) hj]

/-- What is read of a cut row of texts at the head of one of them: WHOLE. -/
theorem cut_whole {l : List (List UInt8)} {k at_ : Nat} (h : k < l.length) (hs : l[k].length ≤ 500) (hat : (txts (l.take (k + 1))).length ≤ at_) :
    readNum 500 (((txts l).take at_).drop (txts (l.take k)).length) = .inr (l[k].length, (num l[k].length).length) ∧
      ((((txts l).take at_).drop ((txts (l.take k)).length + (num l[k].length).length)).take l[k].length) = l[k] := by
  obtain ⟨r, hr⟩ := txts_drop l k h
  rw [txts_take l k h, List.length_append, txt_length] at hat
  have e1 : ((txts l).take at_).drop (txts (l.take k)).length = num l[k].length ++ (l[k] ++ r.take (at_ - (txts (l.take k)).length - (num l[k].length).length - l[k].length)) := by
    rw [hr, List.drop_take, List.drop_left]
    unfold txt
    rw [List.append_assoc, List.take_append, List.take_of_length_le (by omega), List.take_append, List.take_of_length_le (by omega)]
  refine ⟨?_, ?_⟩
  · rw [e1, read_num (by unfold maxNum; omega) (by omega)]
  · rw [← List.drop_drop, e1, List.drop_left, List.take_left]
/-- .. CUT: the number is cut, or it is read and the text behind it is cut. -/
theorem cut_short {l : List (List UInt8)} {k at_ : Nat} (h : k < l.length) (hs : l[k].length ≤ 500) (_hle : (txts (l.take k)).length ≤ at_) (hat : at_ < (txts (l.take (k + 1))).length) :
    readNum 500 (((txts l).take at_).drop (txts (l.take k)).length) = .inl 3 ∨
    (readNum 500 (((txts l).take at_).drop (txts (l.take k)).length) = .inr (l[k].length, (num l[k].length).length) ∧ at_ < (txts (l.take k)).length + (num l[k].length).length + l[k].length) := by
  obtain ⟨r, hr⟩ := txts_drop l k h
  rw [txts_take l k h, List.length_append, txt_length] at hat
  have e0 : ((txts l).take at_).drop (txts (l.take k)).length = (num l[k].length ++ (l[k] ++ r)).take (at_ - (txts (l.take k)).length) := by
    rw [hr, List.drop_take, List.drop_left]
    unfold txt
    rw [List.append_assoc]
  by_cases hj : at_ - (txts (l.take k)).length < (num l[k].length).length
  · left
    rw [e0, List.take_append_of_le_length (by omega)]
    exact read_cut (by unfold maxNum; omega) hj
  · right
    refine ⟨?_, by omega⟩
    rw [e0, List.take_append, List.take_of_length_le (by omega), read_num (by unfold maxNum; omega) (by omega)]
end Go.Proofs.Ytghmhheolbobpaa.Wire
