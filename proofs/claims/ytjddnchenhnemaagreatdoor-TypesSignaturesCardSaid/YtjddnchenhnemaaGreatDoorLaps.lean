/-
  A scope whose jumps are followed one by one: for a run whose number of jumps is known.
-/
import Derived.ScopeJumps
namespace Go.Proofs.YtjddnchenhnemaaGreatDoor.QT
open Go

/-- By a goto: on at its label; by any other way: out. -/
def Exit.lap (c : Code) (K : Code → Act → World → Prop) (Q : Exit → Act → World → Prop) : Exit → Act → World → Prop
  | .goto l, a, w => ∃ R, findLabel c l = some R ∧ K R a w
  | e, a, w => Q e a w
def laps (P : Program) (c : Code) (Q : Exit → Act → World → Prop) : Nat → Code → Act → World → Prop
  | 0, _, _, _ => False
  | n + 1, R, a, w => R.wp P (Exit.lap c (laps P c Q n) Q) a w
theorem laps_succ {P : Program} {c R : Code} {Q : Exit → Act → World → Prop} {n : Nat} {a : Act} {w : World} : laps P c Q (n + 1) R a w = R.wp P (Exit.lap c (laps P c Q n) Q) a w := rfl
theorem lap_goto {c R : Code} {K : Code → Act → World → Prop} {Q : Exit → Act → World → Prop} {l : Nat} {a : Act} {w : World} (hf : findLabel c l = some R) (h : K R a w) : Exit.lap c K Q (.goto l) a w := ⟨R, hf, h⟩
theorem lap_ret {c : Code} {K : Code → Act → World → Prop} {Q : Exit → Act → World → Prop} {a : Act} {w : World} : Exit.lap c K Q .ret a w = Q .ret a w := rfl
theorem thenGoto {K : Act → World → Prop} {Q : Exit → Act → World → Prop} {l : Nat} {a : Act} {w : World} : Exit.then K Q (.goto l) a w = Q (.goto l) a w := rfl
theorem wp_scope_laps {P : Program} {a : Act} {w : World} {Q : Exit → Act → World → Prop} {c : Code} (n : Nat) (h : laps P c Q n c a w) : (Code.scope c).wp P Q a w := by
  intro b k cs
  have key : ∀ n R a w, laps P c Q n R a w → ∃ e a' w', Q e a' w' ∧ Arrives P (lone (b.at a (.code R :: .inScope c :: k)) cs w) b k cs e a' w' := by
    intro n
    induction n with
    | zero => intro R a w h; exact h.elim
    | succ n ih =>
      intro R a w h
      obtain ⟨e, a₁, w₁, hq, harr⟩ := h b (.inScope c :: k) cs
      cases e with
      | normal => exact ⟨.normal, a₁, w₁, hq, Steps.trans harr (.one step_inScope)⟩
      | exit id => exact ⟨.exit id, a₁, w₁, hq, fun k' hk => harr k' (by simp [exitTo, hk])⟩
      | goto l =>
        obtain ⟨R', hf, hJ⟩ := hq
        have hg : gotoIn l (.inScope c :: k) = some (.code R' :: .inScope c :: k) := by simp [gotoIn, hf]
        obtain ⟨e₂, a₂, w₂, hq₂, harr₂⟩ := ih R' a₁ w₁ hJ
        exact ⟨e₂, a₂, w₂, hq₂, .of_steps (harr _ hg) harr₂⟩
      | ret => exact ⟨_, a₁, w₁, hq, harr⟩
      | panic ch => exact ⟨_, a₁, w₁, hq, harr⟩
      | outgrown => exact ⟨_, a₁, w₁, hq, harr⟩
  obtain ⟨e, a₁, w₁, hq, harr⟩ := key n c a w h
  exact ⟨e, a₁, w₁, hq, .of_steps (.one step_scope) harr⟩
end Go.Proofs.YtjddnchenhnemaaGreatDoor.QT
