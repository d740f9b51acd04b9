/- What all five cards of this seat share: the table as the row lists it, a world for the witness, numbers and texts as values, and the row's end behind a call that has made memory of its own. No conditions of its own. -/
import Derived.Test.YtghmhheolbobpaaDoorRefs
import Derived.Test.YtghmhheolbobpaaDoorCards
import Derived.Test.YtghmhheolbobpaaDoorTie
import Derived.ProofKit
import Derived.OpenShut
import Derived.Deep.DeepHandedRow
import Derived.Lib.LaidTab
import Derived.ChangeSame
namespace Go.Proofs.YtghmhheolbobpaaDoor
open Go.ChangeShapes Go.WideShapes Go.ChangeAt Go.RowKit Crc

theorem own : ownKnob Tryd.prog.godebug = none := by kernel_rfl
theorem gTab : Tryd.prog.globalNamed "sediment/crc.halves" = some 0 := by kernel_rfl
theorem gTabType : (Tryd.prog.globals[0]?).map (·.type) = some 45 := by kernel_rfl
theorem cells45 : Tryd.prog.cellsOf 45 = 16 := by kernel_rfl
theorem cells23 : Tryd.prog.cellsOf 23 = 1 := by kernel_rfl
/-- The table's sixteen numbers. -/
def sixteen : List Int := [0, 498536548, 997073096, 651767980, 1994146192, 1802195444, 1303535960, 1342533948, 3988292384, 4027552580, 3604390888, 3412177804, 2607071920, 2262029012, 2685067896, 3183342108]
theorem sixteen_steps : ∀ i : Nat, i < 16 → sixteen.getD i 0 = U (steps 4 (BitVec.ofNat 32 i)) := by decide +kernel
theorem tab_laid {W : World} (h : laidMetH Tryd.prog Rows.crcZerosRow.laid W) : Tab W := fun i hi => by
  have ht : Lib.TabIs Tryd.prog W "sediment/crc.halves" .u32 sixteen := Lib.tabIs_of_head (rest := []) gTab gTabType Tryd.underlying45 Tryd.underlying23 cells23 cells45 h
  rw [← sixteen_steps i hi]
  exact ht.cell gTab i hi

/-- The row's end where the call has made memory of its own and turned nothing that was there. -/
theorem post_made {H : Type} {enc : TypeId × Value → H} {P : Program} {f : Func} {s : ChangeSpec} {apart fresh handsOn again : Bool} {W W' : World} {args : Array Value} {v : Value} {ds gs : List (DataW H)} {before pa pv : List MemPlace}
    (hW : DataW.Whole enc P f.params.toList s.vars apart W args.toList ds gs before)
    (hres : ∀ (b : Nat) (sp : Nat → Bool) (hd : Bool), DataW.TrodAll enc P W' b sp hd f.resultTypes.toList (v.resultList f.resultTypes.size) (s.fn H (ds ++ gs)).results [])
    (hargs : ∀ sp : Nat → Bool, (∀ p ∈ before, sp p.block = true) → DataW.TrodAll enc P W' 0 sp true f.params.toList args.toList (s.fn H (ds ++ gs)).args pa)
    (hvars : ∀ sp : Nat → Bool, (∀ p ∈ before, sp p.block = true) → DataW.TrodVars enc P W' sp s.vars (s.fn H (ds ++ gs)).vars pv)
    (hps : before = pa ++ pv) (hb : Below W.heap.size W W')
    (hok : ∀ (j : Nat) (t : TypeId) (r : Value), f.resultTypes[j]? = some t → (v.resultList f.resultTypes.size)[j]? = some r → Value.okWide P W' .any 0 t r) :
    s.post enc P f apart fresh handsOn again W args v W' := by
  have old : ∀ p ∈ before, p.block < W.heap.size := fun p hp => hW.lt p hp
  have keep : ∀ p ∈ before, (fun b => decide (b < W.heap.size)) p.block = true := fun p hp => by simpa using old p hp
  refine ⟨ds, gs, before, [], pa, pv, hW, hres _ _ _, hargs _ keep, hvars _ keep, World.keptBut_mono (fun p hp => ⟨hp, ?_⟩) (hb.frame (· ∈ before)), fun _ => ?_⟩
  · rw [hps, List.mem_append] at hp
    exact Or.inr hp
  · obtain ⟨_, _, _, _, _, hz, hn⟩ := hW
    refine ⟨hok, _, _, ([] ++ pa) ++ pv, ⟨[] ++ pa, pv, trodAll_append (hargs _ (fun _ _ => rfl)) (hres _ _ _), hvars _ (fun _ _ => rfl), rfl, ?_, ?_⟩, ?_⟩
    · intro b off hp
      have hin : MemPlace.cell b off ∈ before := by rw [hps]; simpa using hp
      rw [hb.frozen (old _ hin)]
      exact hz b off hin
    · intro ha
      have := hn ha
      rw [hps] at this
      simpa using this
    · intro p hp _
      rw [hps]
      simpa using hp

/-- A number below 2 to the 32nd is a vector's. -/
theorem U_of {n : Int} (h0 : 0 ≤ n) (h1 : n < 4294967296) : ∃ x : BitVec 32, n = U x := by
  refine ⟨BitVec.ofNat 32 n.toNat, ?_⟩
  unfold U
  rw [BitVec.toNat_ofNat]
  omega

/-- A world for the witness: the settled one, the table (block 0) holding what its initialiser lays. -/
noncomputable def laidWorld (os : Os) : World :=
  { World.holding Tryd.prog os ⟨#[], #[], []⟩ with heap := (World.holding Tryd.prog os ⟨#[], #[], []⟩).heap.modify 0 fun
      | .cells _ t frozen => .cells (sixteen.map (Value.int .u32)).toArray t frozen
      | o => o }
end Go.Proofs.YtghmhheolbobpaaDoor
