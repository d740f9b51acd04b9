/- ChainFront, the row: called with any parts and any number the law returns true and changes nothing that was there. Conditions: none. -/
import Derived.Test.YtghmhheolbobpaaPartsRow
namespace Go.Proofs.Ytghmhheolbobpaa.chainFront
open Go.ChangeShapes Go.WideShapes Go.ChangeAt Go.RowKit

set_option maxRecDepth 100000 in
theorem lifted (os : Os) (started : os.Started) (H : Type) (enc : TypeId × Value → H) :
    ReturnsInHanded {} Try.checked os 9 .any (Rows.chainFrontSpec.pre6 enc Try.prog Try.f9 Rows.chainFrontRow.domain false) (Rows.chainFrontSpec.post enc Try.prog Try.f9 false true false false) := by
  refine returnsInHanded_of_change_sized (C := Try.checked) own started (by kernel_rfl) Try.func9
    (ChangeSpec.witness6 (enc := enc) (C := Try.checked) false ⟨#[], #[.slice none 0 0, .int .u8 0], []⟩ 8 (by kernel_rfl) (by kernel_rfl) (by kernel_rfl) (by kernel_rfl)) ?_
  intro W base args ds gs before hval0 hW _ hsz0 _
  have hval : ∀ (j : Nat) t v, Try.f9.params[j]? = some t → args[j]? = some v → Value.okWide Try.prog W .any base t v := hval0
  have hsz : (DataW.weightsEach Try.prog (Try.f9.params.toList ++ Rows.chainFrontSpec.plain.varTypes Try.prog) (ds ++ gs)).all (· ≤ reachBytes) = true := hsz0
  have hW' := hW
  obtain ⟨p, q, hA0, hV, rfl, hfz, hnd⟩ := hW
  have hA : DataW.TrodAll enc Try.prog W 0 (fun _ => true) true Try.f9.params.toList args.toList ds p := hA0
  rw [Try.params9] at hA hval hsz
  obtain ⟨v0, vs0, d0, ds0, p0, q0, hargs, rfl, rfl, h0, r0⟩ := trodAll_cons hA
  obtain ⟨v1, vs1, d1, ds1, p1, q1, rfl, rfl, rfl, h1, r1⟩ := trodAll_cons r0
  obtain ⟨rfl, rfl, rfl⟩ := trodAll_nil r1
  obtain rfl : args = #[v0, v1] := by cases args; simp_all
  obtain ⟨rfl, rfl⟩ := trodVars_none hV
  obtain ⟨x1, rfl, rfl, rfl, wx1⟩ := open_int Try.underlying5 (hval 1 5 v1 rfl rfl) h1
  clear hA0 hval0 hsz0
  simp only [List.append_nil] at hW'
  have b1 := bounds_u8 wx1
  obtain ⟨c, rfl⟩ : ∃ c : Nat, x1 = (c : Int) := ⟨x1.toNat, by omega⟩
  have hz : ∀ n ∈ d0.weights Try.prog 53, n ≤ reachBytes := fun n hn => by
    have := List.all_eq_true.1 hsz n (DataW.weights_mem_each (j := 0) (t := 53) rfl rfl n hn)
    simpa using this
  obtain ⟨A, l, cap, hv0, hI, hcap, hcm, hAn, hl⟩ := open_parts (hval 0 53 v0 rfl rfl) h0 hz
  have walk : Calls Try.prog 9 #[v0, .int .u8 (c : Int)] W fun e w' => e = .returned (.bool true) ∧ Below W.heap.size W w' := by
    rw [hv0]
    exact front_of A cap l c W (fun x hx => by have := hl x hx; unfold reachBytes at this; omega) hI hcap hcm hAn (by omega)
  refine walk.mono fun e W' ⟨he, hg⟩ => ?_
  subst he
  exact ⟨_, rfl, post_made (pa := p0 ++ []) (pv := []) hW' (fun _ _ _ => trodAll_cons_mk (shut_bool Try.underlying4 _) trodAll_mk0)
    (fun sp hsp => trodAll_cons_mk (WideElems.Trod_stays (sp' := sp) laidOut (by kernel_rfl) (of_decide_eq_true (by kernel_rfl)) h0 (fun x hx => hg.same (hW'.lt x (by simpa using hx))) (fun x hx => hsp x (by simpa using hx)))
      (trodAll_cons_mk (shut_int Try.underlying5 wx1) trodAll_mk0)) (fun _ _ => rfl) (by simp)
    hg (ok_one (by kernel_rfl) rfl (okWide_bool_mk Try.underlying4 _))⟩

theorem over : Rows.chainFrontRow.holds Try.pinned (OpenSpec.ofChange Rows.chainFrontSpec) :=
  OpenClaim.holds_of_wide 9 Try.f9 rfl rfl rfl rfl rfl rfl rfl ⟨rfl, rfl, rfl, rfl, rfl⟩ rfl rfl rfl rfl rfl (by kernel_rfl) Try.func9 (by kernel_rfl)
    (of_decide_eq_true (by kernel_rfl)) (by unfold Func.isWrapper; first | (rw [if_pos (by decide +kernel)]; kernel_rfl) | (rw [if_neg (by decide +kernel)]; exact ⟨rfl, rfl⟩))
    (fun os started H enc _ => lifted os started H enc)

/-- The statement. -/
theorem proved : Rows.ChainFrontSaid :=
  over
end Go.Proofs.Ytghmhheolbobpaa.chainFront
