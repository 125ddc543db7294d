/-
  A scope in which the run jumps back to one label, by a number that every pass from the label lowers.
-/
import Derived.ScopeJumps
namespace Go.Proofs.YtnbgigdloehbjaaGreatDoor.QT
open Go

/-- By a goto to label l: J at some number; by any other goto: no way out. -/
theorem wp_scope_loop {P : Program} {a : Act} {w : World} {Q : Exit → Act → World → Prop} {c R : Code} (l : Nat) (J : Nat → Act → World → Prop) (hf : findLabel c l = some (.seq .skip R))
    (first : (∀ n a w, J n a w → R.wp P (Exit.jump l (fun a' w' => ∃ m, J m a' w') Q) a w) → c.wp P (Exit.jump l (fun a' w' => ∃ m, J m a' w') Q) a w)
    (pass : ∀ n a w, J n a w → R.wp P (Exit.jump l (fun a' w' => ∃ m, m < n ∧ J m a' w') Q) a w) : (Code.scope c).wp P Q a w := by
  have weak : ∀ n a w, J n a w → R.wp P (Exit.jump l (fun a' w' => ∃ m, J m a' w') Q) a w := fun n a w h => wp_mono (pass n a w h) (fun e a w q => by
    cases e with
    | goto l' => obtain ⟨h1, m, _, h2⟩ := q; exact ⟨h1, m, h2⟩
    | _ => exact q)
  have first' := first weak
  intro b k cs
  have hg : gotoIn l (.inScope c :: k) = some (.code (.seq .skip R) :: .inScope c :: k) := by simp [gotoIn, hf]
  have hsk : ∀ a w, Steps P (lone (b.at a (.code (.seq .skip R) :: .inScope c :: k)) cs w) (lone (b.at a (.code R :: .inScope c :: k)) cs w) := fun a w => .head step_seq (.one step_skip)
  have key : ∀ n a w, J n a w → ∃ e a' w', Q e a' w' ∧ Arrives P (lone (b.at a (.code R :: .inScope c :: k)) cs w) b k cs e a' w' := by
    intro n
    induction n using Nat.strongRecOn with
    | _ n ih =>
      intro a w hJ
      obtain ⟨e, a₁, w₁, hq, harr⟩ := pass n a w hJ b (.inScope c :: k) cs
      cases e with
      | normal => exact ⟨.normal, a₁, w₁, hq, Steps.trans harr (.one step_inScope)⟩
      | exit id => exact ⟨.exit id, a₁, w₁, hq, fun k' hk => harr k' (by simp [exitTo, hk])⟩
      | goto l' =>
        obtain ⟨rfl, m, hlt, hJ'⟩ := hq
        obtain ⟨e₂, a₂, w₂, hq₂, harr₂⟩ := ih m hlt a₁ w₁ hJ'
        exact ⟨e₂, a₂, w₂, hq₂, .of_steps (Steps.trans (harr _ hg) (hsk _ _)) harr₂⟩
      | ret => exact ⟨_, a₁, w₁, hq, harr⟩
      | panic ch => exact ⟨_, a₁, w₁, hq, harr⟩
      | outgrown => exact ⟨_, a₁, w₁, hq, harr⟩
  obtain ⟨e, a₁, w₁, hq, harr⟩ := first' b (.inScope c :: k) cs
  cases e with
  | normal => exact ⟨.normal, a₁, w₁, hq, .head step_scope (Steps.trans harr (.one step_inScope))⟩
  | exit id => exact ⟨.exit id, a₁, w₁, hq, fun k' hk => .head step_scope (harr k' (by simp [exitTo, hk]))⟩
  | goto l' =>
    obtain ⟨rfl, m, hJ'⟩ := hq
    obtain ⟨e₂, a₂, w₂, hq₂, harr₂⟩ := key m a₁ w₁ hJ'
    exact ⟨e₂, a₂, w₂, hq₂, .of_steps (.head step_scope (Steps.trans (harr _ hg) (hsk _ _))) harr₂⟩
  | ret => exact ⟨_, a₁, w₁, hq, .of_steps (.one step_scope) harr⟩
  | panic ch => exact ⟨_, a₁, w₁, hq, .of_steps (.one step_scope) harr⟩
  | outgrown => exact ⟨_, a₁, w₁, hq, .of_steps (.one step_scope) harr⟩
end Go.Proofs.YtnbgigdloehbjaaGreatDoor.QT
