/- A part and its bases, as plain Lean: what chain.path and the reference's Path answer. No program in sight; no conditions. -/
import Derived.Test.YtghmhheolbobpaaParts
namespace Go.Proofs.Ytghmhheolbobpaa

/-- Is a part's base wrong, the part standing at some place? -/
def Pt.wrong (x : Pt) (at_ : Nat) : Bool := (x.delta && (decide (x.base < 0) || decide ((at_ : Int) ≤ x.base))) || (!x.delta && decide (x.base ≠ 0))
/-- From a part on, some parts at most: their places, or the error's number. -/
def pathFrom (l : List Pt) : Nat → Nat → List Nat ⊕ Nat
  | 0, _ => .inr 11
  | f + 1, at_ => match l[at_]? with
    | none => .inr 1
    | some x => if x.wrong at_ then .inr 2 else if x.delta = false then .inl [at_] else if f = 0 then .inr 11 else
      match pathFrom l f x.base.toNat with
      | .inl r => .inl (at_ :: r)
      | .inr e => .inr e
def pathL (l : List Pt) (at_ : Int) : List Nat ⊕ Nat := if 200 < l.length ∨ at_ < 0 ∨ (l.length : Int) ≤ at_ then .inr 1 else pathFrom l 5 at_.toNat
/-- What has been gathered, ahead of an answer. -/
def onto (out : List Nat) : List Nat ⊕ Nat → List Nat ⊕ Nat
  | .inl r => .inl (out ++ r)
  | .inr e => .inr e
theorem onto_nil (r : List Nat ⊕ Nat) : onto [] r = r := by cases r <;> rfl
theorem path_wrong {l : List Pt} {f k : Nat} (h : k < l.length) (hw : l[k].wrong k = true) (out : List Nat) : onto out (pathFrom l (f + 1) k) = .inr 2 := by
  unfold pathFrom; rw [List.getElem?_eq_getElem h]; simp only; rw [if_pos hw]; rfl
theorem path_end {l : List Pt} {f k : Nat} (h : k < l.length) (hw : l[k].wrong k = false) (hd : l[k].delta = false) (out : List Nat) : onto out (pathFrom l (f + 1) k) = .inl (out ++ [k]) := by
  unfold pathFrom; rw [List.getElem?_eq_getElem h]; simp only; rw [if_neg (by rw [hw]; decide), if_pos hd]; rfl
theorem path_deep {l : List Pt} {k : Nat} (h : k < l.length) (hw : l[k].wrong k = false) (hd : l[k].delta = true) (out : List Nat) : onto out (pathFrom l 1 k) = .inr 11 := by
  unfold pathFrom; rw [List.getElem?_eq_getElem h]; simp only; rw [if_neg (by rw [hw]; decide), if_neg (by rw [hd]; decide)]; rfl
theorem path_next {l : List Pt} {f k : Nat} (h : k < l.length) (hw : l[k].wrong k = false) (hd : l[k].delta = true) (out : List Nat) : onto out (pathFrom l (f + 2) k) = onto (out ++ [k]) (pathFrom l (f + 1) l[k].base.toNat) := by
  rw [pathFrom, List.getElem?_eq_getElem h]
  simp only
  rw [if_neg (by rw [hw]; decide), if_neg (by rw [hd]; decide), if_neg (by omega)]
  cases pathFrom l (f + 1) l[k].base.toNat with
  | inl r => simp [onto]
  | inr e => rfl
/-- A right delta's base lies ahead of it. -/
theorem base_lt {x : Pt} {k : Nat} (hw : x.wrong k = false) (hd : x.delta = true) : 0 ≤ x.base ∧ x.base < (k : Int) := by
  unfold Pt.wrong at hw
  rw [hd] at hw
  simp at hw
  exact hw
end Go.Proofs.Ytghmhheolbobpaa
