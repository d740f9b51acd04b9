/- A scope in which the run jumps to any of its labels, back and forth: what holds at every jump to each label, and a measure that every pass from a label lowers. Of no program; no conditions. (After the guide's law for one label.) -/
import Derived.ScopeJumps
namespace Go.Proofs.Ytghmhheolbobpaa
open Go

/-- As Q; by a goto to label l: J l. -/
def jumps (J : Nat → Act → World → Prop) (Q : Exit → Act → World → Prop) : Exit → Act → World → Prop
  | .goto l, a, w => J l a w
  | e, a, w => Q e a w
section
variable {P : Program} {a : Act} {w : World} {Q : Exit → Act → World → Prop}
theorem jumps_ret (J : Nat → Act → World → Prop) : jumps J Q .ret a w = Q .ret a w := rfl
theorem jumps_normal (J : Nat → Act → World → Prop) : jumps J Q .normal a w = Q .normal a w := rfl
theorem jumps_goto (J : Nat → Act → World → Prop) (l : Nat) : jumps J Q (.goto l) a w = J l a w := rfl
theorem wp_mono_exit {c : Code} {R : Exit → Act → World → Prop} (h : c.wp P Q a w) (k : ∀ e a w, Q e a w → R e a w) : c.wp P R a w := by
  intro b kk cs
  obtain ⟨e, a₁, w₁, hq, harr⟩ := h b kk cs
  exact ⟨e, a₁, w₁, k _ _ _ hq, harr⟩
theorem jumps_mono {J K : Nat → Act → World → Prop} (h : ∀ l a w, J l a w → K l a w) (e : Exit) (a : Act) (w : World) (hj : jumps J Q e a w) : jumps K Q e a w := by
  cases e <;> first | exact h _ _ _ hj | exact hj

theorem wp_scope_labels {c : Code} (J : Nat → Act → World → Prop) (μ : Nat → Act → World → Nat)
    (pass : ∀ l a w, J l a w → ∃ rest, findLabel c l = some rest ∧ rest.wp P (jumps (fun l' a' w' => J l' a' w' ∧ μ l' a' w' < μ l a w) Q) a w)
    (first : (∀ l a w, J l a w → ∀ rest, findLabel c l = some rest → rest.wp P (jumps J Q) a w) → c.wp P (jumps J Q) a w) : (Code.scope c).wp P Q a w := by
  have hfirst := first (fun l a w hJ rest hr => by
    obtain ⟨rest', hr', hp⟩ := pass l a w hJ
    obtain rfl : rest' = rest := Option.some.inj (hr'.symm.trans hr)
    exact wp_mono_exit hp (jumps_mono fun _ _ _ h => h.1))
  intro b k cs
  have key : ∀ n l a w, μ l a w = n → J l a w → ∃ rest, findLabel c l = some rest ∧ ∃ e a' w', Q e a' w' ∧ Arrives P (lone (b.at a (.code rest :: .inScope c :: k)) cs w) b k cs e a' w' := by
    intro n
    induction n using Nat.strongRecOn with
    | _ n ih =>
      intro l a w hn hJ
      obtain ⟨rest, hr, hp⟩ := pass l a w hJ
      refine ⟨rest, hr, ?_⟩
      obtain ⟨e, a₁, w₁, hq, harr⟩ := hp b (.inScope c :: k) cs
      cases e with
      | normal => exact ⟨.normal, a₁, w₁, hq, Steps.trans harr (.one step_inScope)⟩
      | exit id => exact ⟨.exit id, a₁, w₁, hq, fun k' hk => harr k' (by simp [exitTo, hk])⟩
      | goto l' =>
        obtain ⟨hJ', hlt⟩ := hq
        obtain ⟨rest', hr', e₂, a₂, w₂, hq₂, harr₂⟩ := ih _ (by omega) l' a₁ w₁ rfl hJ'
        have hg : gotoIn l' (.inScope c :: k) = some (.code rest' :: .inScope c :: k) := by simp [gotoIn, hr']
        exact ⟨e₂, a₂, w₂, hq₂, .of_steps (harr _ hg) harr₂⟩
      | ret => exact ⟨_, a₁, w₁, hq, harr⟩
      | panic ch => exact ⟨_, a₁, w₁, hq, harr⟩
      | outgrown => exact ⟨_, a₁, w₁, hq, harr⟩
  obtain ⟨e, a₁, w₁, hq, harr⟩ := hfirst b (.inScope c :: k) cs
  cases e with
  | normal => exact ⟨.normal, a₁, w₁, hq, .head step_scope (Steps.trans harr (.one step_inScope))⟩
  | exit id => exact ⟨.exit id, a₁, w₁, hq, fun k' hk => .head step_scope (harr k' (by simp [exitTo, hk]))⟩
  | goto l' =>
    obtain ⟨rest', hr', e₂, a₂, w₂, hq₂, harr₂⟩ := key _ l' a₁ w₁ rfl hq
    have hg : gotoIn l' (.inScope c :: k) = some (.code rest' :: .inScope c :: k) := by simp [gotoIn, hr']
    exact ⟨e₂, a₂, w₂, hq₂, .of_steps (.head step_scope (harr _ hg)) harr₂⟩
  | ret => exact ⟨_, a₁, w₁, hq, .of_steps (.one step_scope) harr⟩
  | panic ch => exact ⟨_, a₁, w₁, hq, .of_steps (.one step_scope) harr⟩
  | outgrown => exact ⟨_, a₁, w₁, hq, .of_steps (.one step_scope) harr⟩
/-- The same where each label stands at the head of a row of statements: what is behind the label is walked. -/
theorem wp_scope_heads {c : Code} (J : Nat → Act → World → Prop) (μ : Nat → Act → World → Nat)
    (pass : ∀ l a w, J l a w → ∃ X, findLabel c l = some (.seq .skip X) ∧ X.wp P (jumps (fun l' a' w' => J l' a' w' ∧ μ l' a' w' < μ l a w) Q) a w)
    (first : (∀ l a w, J l a w → ∀ X, findLabel c l = some (.seq .skip X) → X.wp P (jumps J Q) a w) → c.wp P (jumps J Q) a w) : (Code.scope c).wp P Q a w := by
  refine wp_scope_labels J μ (fun l a w hJ => ?_) (fun _ => first fun l a w hJ X hX => ?_)
  · obtain ⟨X, hX, hp⟩ := pass l a w hJ
    exact ⟨_, hX, wp_seq (wp_skip hp)⟩
  · obtain ⟨X', hX', hp⟩ := pass l a w hJ
    have e : X' = X := by
      have := hX'.symm.trans hX
      injection this with this
      injection this
    subst e
    exact wp_mono_exit hp (jumps_mono fun _ _ _ h => h.1)
end
end Go.Proofs.Ytghmhheolbobpaa
