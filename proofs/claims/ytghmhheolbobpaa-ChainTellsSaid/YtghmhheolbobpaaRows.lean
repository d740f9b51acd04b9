/-
  No cell of these rows narrows 'for every input' (looked for: loops, veiled, ifaces, maps, wideKeys, modest, calm, conditions, laid).
  DERIVED. THE GIVEN ROWS OF THIS SEAT. 7 by the template 'for every input the law returns true; each argument reads behind the call as it read before'; 0 by the template 'total and deterministic' (their statements: YtghmhheolbobpaaTotals.lean).
  GIVEN WITH THE SEED: the statements are not yours to turn. If you find one false, say at which input.
  Laid BY PROGRAM, IN A SANDBOX (cutbox-rows.mjs): the forced cells as the released guide's own fill.sh prints them over the translation 77638e23aadeace2… (all of the seat's roots in one cut). By AI agents, Wed Nov 11 2026. No macro, syntax, notation, axiom, sorry.
-/
import Derived.Test.YtghmhheolbobpaaChecked
import GoSem.Claim
import GoSem.ClaimJoined
import GoSem.ClaimMapViews
import Derived.JoinedTies
import Derived.KernelRfl
namespace Go.Proofs.Ytghmhheolbobpaa
/- THE CELL 'sum', in the pinned program and in every row, IS THE sha256 OF THE DUMP (.gsa) THAT YtghmhheolbobpaaProg.lean LOADS. Nothing in Lean hashes anything: it is a label: what it is worth is what the hold of that sum in a sandbox is worth. -/
noncomputable def Try.pinned : Pinned := { name := "ytghmhheolbobpaa", sum := "77638e23aadeace23f295a483de4b2d9d0cbad069296fd42b5b643b249cea4d4", checked := Try.checked }
namespace Rows
def none {H : Type} : Left H := { results := [], args := [] }

/-- 'sedimentlaw03.WireWrites': WHATEVER THE INPUT: true; the input reads as it did. -/
def wireWritesSpec : ChangeSpec := { name := "wireWrites", fn := fun _ => fun
  | [d] => { results := [.lit (.bool true)], args := [d] }
  | _ => none }
def wireWritesRow : OpenClaim := { program := "ytghmhheolbobpaa", sum := "77638e23aadeace23f295a483de4b2d9d0cbad069296fd42b5b643b249cea4d4", func := "sediment/sedimentlaw03.WireWrites", spec := "wireWrites", inPlace := ["internal/abi.NoEscape"], recurses := true, apart := false }
def WireWritesSaid : Prop := wireWritesRow.holds Try.pinned (OpenSpec.ofChange wireWritesSpec)

/-- ITS FALSE NEIGHBOUR: 'it returns false'. Refute it at one input. -/
def wireWritesWrong : ChangeSpec := { name := "wireWrites", fn := fun _ => fun
  | [d] => { results := [.lit (.bool false)], args := [d] }
  | _ => none }
def WireWritesWrongFalsely : Prop := wireWritesRow.holds Try.pinned (OpenSpec.ofChange wireWritesWrong)

/-- 'sedimentlaw03.WireBack': WHATEVER THE INPUT: true; the input reads as it did. -/
def wireBackSpec : ChangeSpec := { name := "wireBack", fn := fun _ => fun
  | [d] => { results := [.lit (.bool true)], args := [d] }
  | _ => none }
def wireBackRow : OpenClaim := { program := "ytghmhheolbobpaa", sum := "77638e23aadeace23f295a483de4b2d9d0cbad069296fd42b5b643b249cea4d4", func := "sediment/sedimentlaw03.WireBack", spec := "wireBack", inPlace := ["internal/abi.NoEscape"], apart := false }
def WireBackSaid : Prop := wireBackRow.holds Try.pinned (OpenSpec.ofChange wireBackSpec)

/-- ITS FALSE NEIGHBOUR: 'it returns false'. Refute it at one input. -/
def wireBackWrong : ChangeSpec := { name := "wireBack", fn := fun _ => fun
  | [d] => { results := [.lit (.bool false)], args := [d] }
  | _ => none }
def WireBackWrongFalsely : Prop := wireBackRow.holds Try.pinned (OpenSpec.ofChange wireBackWrong)

/-- 'sedimentlaw03.WireOne': WHATEVER THE INPUT: true; the input reads as it did. -/
def wireOneSpec : ChangeSpec := { name := "wireOne", fn := fun _ => fun
  | [d] => { results := [.lit (.bool true)], args := [d] }
  | _ => none }
def wireOneRow : OpenClaim := { program := "ytghmhheolbobpaa", sum := "77638e23aadeace23f295a483de4b2d9d0cbad069296fd42b5b643b249cea4d4", func := "sediment/sedimentlaw03.WireOne", spec := "wireOne", inPlace := ["internal/abi.NoEscape"], apart := false }
def WireOneSaid : Prop := wireOneRow.holds Try.pinned (OpenSpec.ofChange wireOneSpec)

/-- ITS FALSE NEIGHBOUR: 'it returns false'. Refute it at one input. -/
def wireOneWrong : ChangeSpec := { name := "wireOne", fn := fun _ => fun
  | [d] => { results := [.lit (.bool false)], args := [d] }
  | _ => none }
def WireOneWrongFalsely : Prop := wireOneRow.holds Try.pinned (OpenSpec.ofChange wireOneWrong)

/-- 'sedimentlaw03.WireCut': WHATEVER THE INPUT: true; the input reads as it did. -/
def wireCutSpec : ChangeSpec := { name := "wireCut", fn := fun _ => fun
  | [d1, d2] => { results := [.lit (.bool true)], args := [d1, d2] }
  | _ => none }
def wireCutRow : OpenClaim := { program := "ytghmhheolbobpaa", sum := "77638e23aadeace23f295a483de4b2d9d0cbad069296fd42b5b643b249cea4d4", func := "sediment/sedimentlaw03.WireCut", spec := "wireCut", inPlace := ["internal/abi.NoEscape"], apart := false }
def WireCutSaid : Prop := wireCutRow.holds Try.pinned (OpenSpec.ofChange wireCutSpec)

/-- ITS FALSE NEIGHBOUR: 'it returns false'. Refute it at one input. -/
def wireCutWrong : ChangeSpec := { name := "wireCut", fn := fun _ => fun
  | [d1, d2] => { results := [.lit (.bool false)], args := [d1, d2] }
  | _ => none }
def WireCutWrongFalsely : Prop := wireCutRow.holds Try.pinned (OpenSpec.ofChange wireCutWrong)

/-- 'sedimentlaw09.ChainTells': WHATEVER THE INPUT: true; the input reads as it did. -/
def chainTellsSpec : ChangeSpec := { name := "chainTells", fn := fun _ => fun
  | [d1, d2] => { results := [.lit (.bool true)], args := [d1, d2] }
  | _ => none }
def chainTellsRow : OpenClaim := { program := "ytghmhheolbobpaa", sum := "77638e23aadeace23f295a483de4b2d9d0cbad069296fd42b5b643b249cea4d4", func := "sediment/sedimentlaw09.ChainTells", spec := "chainTells", inPlace := ["internal/abi.NoEscape"], unfollowed := true, recurses := true, apart := false }
def ChainTellsSaid : Prop := chainTellsRow.holds Try.pinned (OpenSpec.ofChange chainTellsSpec)

/-- ITS FALSE NEIGHBOUR: 'it returns false'. Refute it at one input. -/
def chainTellsWrong : ChangeSpec := { name := "chainTells", fn := fun _ => fun
  | [d1, d2] => { results := [.lit (.bool false)], args := [d1, d2] }
  | _ => none }
def ChainTellsWrongFalsely : Prop := chainTellsRow.holds Try.pinned (OpenSpec.ofChange chainTellsWrong)

/-- 'sedimentlaw09.ChainAll': WHATEVER THE INPUT: true; the input reads as it did. -/
def chainAllSpec : ChangeSpec := { name := "chainAll", fn := fun _ => fun
  | [d] => { results := [.lit (.bool true)], args := [d] }
  | _ => none }
def chainAllRow : OpenClaim := { program := "ytghmhheolbobpaa", sum := "77638e23aadeace23f295a483de4b2d9d0cbad069296fd42b5b643b249cea4d4", func := "sediment/sedimentlaw09.ChainAll", spec := "chainAll", inPlace := ["internal/abi.NoEscape"], unfollowed := true, recurses := true, apart := false }
def ChainAllSaid : Prop := chainAllRow.holds Try.pinned (OpenSpec.ofChange chainAllSpec)

/-- ITS FALSE NEIGHBOUR: 'it returns false'. Refute it at one input. -/
def chainAllWrong : ChangeSpec := { name := "chainAll", fn := fun _ => fun
  | [d] => { results := [.lit (.bool false)], args := [d] }
  | _ => none }
def ChainAllWrongFalsely : Prop := chainAllRow.holds Try.pinned (OpenSpec.ofChange chainAllWrong)

/-- 'sedimentlaw09.ChainFront': WHATEVER THE INPUT: true; the input reads as it did. -/
def chainFrontSpec : ChangeSpec := { name := "chainFront", fn := fun _ => fun
  | [d1, d2] => { results := [.lit (.bool true)], args := [d1, d2] }
  | _ => none }
def chainFrontRow : OpenClaim := { program := "ytghmhheolbobpaa", sum := "77638e23aadeace23f295a483de4b2d9d0cbad069296fd42b5b643b249cea4d4", func := "sediment/sedimentlaw09.ChainFront", spec := "chainFront", inPlace := ["internal/abi.NoEscape"], unfollowed := true, recurses := true, apart := false }
def ChainFrontSaid : Prop := chainFrontRow.holds Try.pinned (OpenSpec.ofChange chainFrontSpec)

/-- ITS FALSE NEIGHBOUR: 'it returns false'. Refute it at one input. -/
def chainFrontWrong : ChangeSpec := { name := "chainFront", fn := fun _ => fun
  | [d1, d2] => { results := [.lit (.bool false)], args := [d1, d2] }
  | _ => none }
def ChainFrontWrongFalsely : Prop := chainFrontRow.holds Try.pinned (OpenSpec.ofChange chainFrontWrong)

/- THE SECOND FORM. 'bulk': how many values and letters a reading holds, each counted each time it is reached (what is shared counts as often as it is met; a slice's spare places count too). A statement '..UptoSaid' is the law's where the arguments, and the package variables that the reading takes, are together of bulk at most 1048576: NARROWER than '..Said'. Prove '..Said' where nothing that the law and all that it calls make is longer than what came in: it says more and counts as full. Else prove '..UptoSaid'. A law counts once. -/
mutual
def uptoBulk {H : Type} : DataW H → Nat
  | .lit (.string bytes) => bytes.length + 1
  | .lit _ => 1
  | .nil => 1
  | .ptr d => uptoBulk d + 1
  | .slice elems spare => uptoBulkAll elems + uptoBulkAll spare + 1
  | .agg parts => uptoBulkAll parts + 1
  | .iface _ d => uptoBulk d + 1
  | .map entries => uptoBulkEntries entries + 1
  | .held _ => 1
def uptoBulkAll {H : Type} : List (DataW H) → Nat
  | [] => 0
  | d :: r => uptoBulk d + uptoBulkAll r
def uptoBulkEntries {H : Type} : List (Lit × DataW H) → Nat
  | [] => 0
  | x :: r => uptoBulkEntry x + uptoBulkEntries r
def uptoBulkEntry {H : Type} : Lit × DataW H → Nat
  | (.string bytes, d) => bytes.length + uptoBulk d + 1
  | (_, d) => uptoBulk d + 1
 end
def uptoSmall : (H : Type) → List (DataW H) → Bool := fun _ ds => decide (uptoBulkAll ds ≤ 1048576)
def OpenSpec.upto (s : _root_.Go.ChangeSpec) : _root_.Go.OpenSpec := { _root_.Go.OpenSpec.ofChange s with cond := some uptoSmall }

/-- 'sedimentlaw03.WireWrites', WHERE WHAT IT READS IS OF BULK AT MOST 1048576: true; the input reads as it did. -/
def wireWritesUptoRow : OpenClaim := { program := "ytghmhheolbobpaa", sum := "77638e23aadeace23f295a483de4b2d9d0cbad069296fd42b5b643b249cea4d4", func := "sediment/sedimentlaw03.WireWrites", spec := "wireWrites", inPlace := ["internal/abi.NoEscape"], recurses := true, apart := false, narrowed := true }
def WireWritesUptoSaid : Prop := wireWritesUptoRow.holds Try.pinned (OpenSpec.upto wireWritesSpec)

/-- 'sedimentlaw03.WireBack', WHERE WHAT IT READS IS OF BULK AT MOST 1048576: true; the input reads as it did. -/
def wireBackUptoRow : OpenClaim := { program := "ytghmhheolbobpaa", sum := "77638e23aadeace23f295a483de4b2d9d0cbad069296fd42b5b643b249cea4d4", func := "sediment/sedimentlaw03.WireBack", spec := "wireBack", inPlace := ["internal/abi.NoEscape"], apart := false, narrowed := true }
def WireBackUptoSaid : Prop := wireBackUptoRow.holds Try.pinned (OpenSpec.upto wireBackSpec)

/-- 'sedimentlaw03.WireOne', WHERE WHAT IT READS IS OF BULK AT MOST 1048576: true; the input reads as it did. -/
def wireOneUptoRow : OpenClaim := { program := "ytghmhheolbobpaa", sum := "77638e23aadeace23f295a483de4b2d9d0cbad069296fd42b5b643b249cea4d4", func := "sediment/sedimentlaw03.WireOne", spec := "wireOne", inPlace := ["internal/abi.NoEscape"], apart := false, narrowed := true }
def WireOneUptoSaid : Prop := wireOneUptoRow.holds Try.pinned (OpenSpec.upto wireOneSpec)

/-- 'sedimentlaw03.WireCut', WHERE WHAT IT READS IS OF BULK AT MOST 1048576: true; the input reads as it did. -/
def wireCutUptoRow : OpenClaim := { program := "ytghmhheolbobpaa", sum := "77638e23aadeace23f295a483de4b2d9d0cbad069296fd42b5b643b249cea4d4", func := "sediment/sedimentlaw03.WireCut", spec := "wireCut", inPlace := ["internal/abi.NoEscape"], apart := false, narrowed := true }
def WireCutUptoSaid : Prop := wireCutUptoRow.holds Try.pinned (OpenSpec.upto wireCutSpec)

/-- 'sedimentlaw09.ChainTells', WHERE WHAT IT READS IS OF BULK AT MOST 1048576: true; the input reads as it did. -/
def chainTellsUptoRow : OpenClaim := { program := "ytghmhheolbobpaa", sum := "77638e23aadeace23f295a483de4b2d9d0cbad069296fd42b5b643b249cea4d4", func := "sediment/sedimentlaw09.ChainTells", spec := "chainTells", inPlace := ["internal/abi.NoEscape"], unfollowed := true, recurses := true, apart := false, narrowed := true }
def ChainTellsUptoSaid : Prop := chainTellsUptoRow.holds Try.pinned (OpenSpec.upto chainTellsSpec)

/-- 'sedimentlaw09.ChainAll', WHERE WHAT IT READS IS OF BULK AT MOST 1048576: true; the input reads as it did. -/
def chainAllUptoRow : OpenClaim := { program := "ytghmhheolbobpaa", sum := "77638e23aadeace23f295a483de4b2d9d0cbad069296fd42b5b643b249cea4d4", func := "sediment/sedimentlaw09.ChainAll", spec := "chainAll", inPlace := ["internal/abi.NoEscape"], unfollowed := true, recurses := true, apart := false, narrowed := true }
def ChainAllUptoSaid : Prop := chainAllUptoRow.holds Try.pinned (OpenSpec.upto chainAllSpec)

/-- 'sedimentlaw09.ChainFront', WHERE WHAT IT READS IS OF BULK AT MOST 1048576: true; the input reads as it did. -/
def chainFrontUptoRow : OpenClaim := { program := "ytghmhheolbobpaa", sum := "77638e23aadeace23f295a483de4b2d9d0cbad069296fd42b5b643b249cea4d4", func := "sediment/sedimentlaw09.ChainFront", spec := "chainFront", inPlace := ["internal/abi.NoEscape"], unfollowed := true, recurses := true, apart := false, narrowed := true }
def ChainFrontUptoSaid : Prop := chainFrontUptoRow.holds Try.pinned (OpenSpec.upto chainFrontSpec)

end Rows
end Go.Proofs.Ytghmhheolbobpaa
