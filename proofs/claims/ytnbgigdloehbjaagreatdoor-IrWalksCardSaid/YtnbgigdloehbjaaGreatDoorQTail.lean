/-
  A region that draws its order, whose first operations only read: they are walked once, in the text's order (by the quiet walk's own steps), and the tail behind them, whose order is forced, as a plain list.
-/
import Derived.BigQuiet
import Derived.StillTail
namespace Go.Proofs.YtnbgigdloehbjaaGreatDoor.QT
open Go

def plainOp : Op → Bool
  | .move _ | .assign _ | .pick .. | .build .. | .load .. | .nilCheck _ | .binOp .. | .unOp .. | .convert .. | .fieldAddr .. | .field .. | .indexAddr .. | .index .. | .slice .. | .extract .. | .lookup .. | .makeInterface .. => true
  | .call { callee := .builtin .len, .. } | .call { callee := .builtin .cap, .. } => true
  | _ => false

theorem run_value_noEnter {P : Program} (s : Sem Value) (w : World) (f : FuncId) (args : Array Value) (w' : World) :
    (do pure (Next.value (← s)) : Sem Next).run P w ≠ .ok (.enter f args) w' := by
  intro h
  simp only [Sem.run_bind] at h
  cases hs : s.run P w with
  | ok v w1 => rw [hs] at h; simp [Result.andThen, pure] at h
  | halt x w1 => rw [hs] at h; simp [Result.andThen] at h

theorem execOp_noEnter {P : Program} (ρ : Operand → Value) (o : Oper) (hp : plainOp o.op = true) (w : World) (f : FuncId) (args : Array Value) (w' : World) :
    (execOp ρ o).run P w ≠ .ok (.enter f args) w' := by
  unfold execOp
  cases ho : o.op <;> rw [ho] at hp
  case call c =>
    obtain ⟨callee, xs, ts⟩ := c
    cases callee with
    | builtin b =>
      cases b
      case len =>
        intro h
        simp only [resolve, Sem.run_bind, Sem.run_pure, Result.andThen_ok, invoke, builtin] at h
        cases hs : (Builtin.len_ ts o.type (Array.map ρ xs)).run P w with
        | ok v w1 => rw [hs] at h; simp [Result.andThen] at h
        | halt x w1 => rw [hs] at h; simp [Result.andThen] at h
      case cap =>
        intro h
        simp only [resolve, Sem.run_bind, Sem.run_pure, Result.andThen_ok, invoke, builtin] at h
        cases hs : (Builtin.cap_ ts o.type (Array.map ρ xs)).run P w with
        | ok v w1 => rw [hs] at h; simp [Result.andThen] at h
        | halt x w1 => rw [hs] at h; simp [Result.andThen] at h
      all_goals (exfalso; revert hp; simp [plainOp])
    | value f => exfalso; revert hp; simp [plainOp]
    | invoke r n => exfalso; revert hp; simp [plainOp]
  case move x => intro h; simp at h
  case assign x => intro h; simp at h
  case pick c x y =>
    intro h
    simp only [Sem.run_bind] at h
    cases hs : (asBool (ρ c)).run P w with
    | ok v w1 => rw [hs] at h; simp [Result.andThen] at h
    | halt x w1 => rw [hs] at h; simp [Result.andThen] at h
  case nilCheck x =>
    dsimp only
    split
    · exact fun h => by simp [runtimePanic, goPanic, Sem.run_bind, Result.andThen, program, Sem.run] at h
    · exact fun h => by simp [runtimePanic, goPanic, Sem.run_bind, Result.andThen, program, Sem.run] at h
    · exact fun h => by simp [runtimePanic, goPanic, Sem.run_bind, Result.andThen, program, Sem.run] at h
    · split
      · exact fun h => by simp [runtimePanic, goPanic, Sem.run_bind, Result.andThen, program, Sem.run] at h
      · intro h
        simp only [Sem.run_bind, program, Sem.run, Result.andThen_ok] at h
        rename_i t u _
        generalize (nilAhead _ _ _ _).run P w = r at h
        cases r with
        | ok v w1 =>
          simp only [Result.andThen_ok] at h
          by_cases hc : (v != some false) = true
          · rw [if_pos hc] at h; simp [unsupported, Result.andThen, Sem.run] at h
          · rw [if_neg hc] at h; simp at h
        | halt x w1 => simp [Result.andThen] at h
      · exact fun h => by simp at h
    · exact fun h => by simp at h
  all_goals first | (dsimp only; apply run_value_noEnter) | (exfalso; revert hp; simp [plainOp])

theorem still_of_quiet {P : Program} {o : Oper} (hp : plainOp o.op = true) {a : Act} {C : World → Prop} {w : World} (hC : C w) {K K' : Act → Prop} (hK : ∀ a, K a → K' a)
    (h : o.quiet P a C K) : o.still P a w K' := by
  obtain ⟨v, h1, h2⟩ := h
  have h3 := h1 w hC
  unfold Oper.quietAt at h3
  unfold Oper.still
  cases hr : (execOp a.eval o).run P w with
  | halt x w1 => rw [hr] at h3; simp [Oper.quietUpon] at h3
  | ok n w1 =>
    rw [hr] at h3
    cases n
    case value u =>
      simp only [Oper.quietUpon] at h3
      obtain ⟨rfl, rfl⟩ := h3
      simp only [Oper.stillUpon]
      exact ⟨trivial, hK _ h2⟩
    case skip =>
      simp only [Oper.quietUpon] at h3
      obtain ⟨rfl, rfl⟩ := h3
      simp only [Oper.stillUpon]
      exact ⟨trivial, hK _ h2⟩
    case enter f args => exact absurd hr (execOp_noEnter _ _ hp _ _ _ _)
    all_goals (simp [Oper.quietUpon] at h3)

theorem wpStill_of_quiet {P : Program} {ops : Array Oper} {C : World → Prop} {w : World} (hC : C w) {Q : Act → Prop} : ∀ (l : List Oper) (a : Act), (l.all fun o => plainOp o.op) = true →
    wpQuiet P ops C Q l a → wpStill P ops w Q l a
  | [], _, _, h => h
  | o :: rest, a, hp, h => by
    simp only [List.all_cons, Bool.and_eq_true] at hp
    simp only [wpQuiet] at h
    simp only [wpStill]
    split
    · rename_i hw
      rw [if_pos hw] at h
      exact still_of_quiet hp.1 hC (fun a' ha => wpStill_of_quiet hC rest a' hp.2 ha) h
    · rename_i hw
      rw [if_neg hw] at h
      exact wpStill_of_quiet hC rest _ hp.2 h

/-- THE RULE: 'n' operations that only read, then the rest in its forced order, from the world 'w.drew' on. -/
theorem wp_region_qtail {P : Program} {id : Nat} {Q : Exit → Act → World → Prop} {a : Act} {w : World} {l : List Oper} (n : Nat) (hm : P.follows .mixedOrders = true) (hB : Region.lexTailB .any l.toArray n = true)
    (hp : ((l.take n).all fun o => plainOp o.op) = true)
    (h : wpQuiet P l.toArray (fun w' => ∃ n, w' = w.drewN n) (fun a' => wpList P l.toArray Q (l.drop n) a' w.drew) (l.take n) a) : (Code.region id l.toArray true).wp P Q a w :=
  wp_region_still_tail n hm hB (wpStill_of_quiet (C := fun w' => ∃ n, w' = w.drewN n) ⟨1, rfl⟩ _ _ hp h)
end Go.Proofs.YtnbgigdloehbjaaGreatDoor.QT
