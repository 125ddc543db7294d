/-
  The greatest function of a kind; the type of an operator of two types (package ir).
-/
import Derived.Test.YtnbgigdloehbjaaGreatDoorIrG
import Derived.LoopN
namespace Go.Proofs.YtnbgigdloehbjaaGreatDoor.Ir
open Go Go.RowKit Go.Proofs.YtnbgigdloehbjaaGreatDoor.Rg Go.Proofs.YtnbgigdloehbjaaGreatDoor.Ma
set_option maxHeartbeats 4000000
set_option maxRecDepth 100000

theorem functions_calls (k : Int) (W : World) : Calls Tryz.prog 66 #[.int .i64 k] W fun e W' => e = .returned (.int .i64 (mostFn k)) ∧ W = W' := by
  have no : ∀ {a b : Int}, a ≠ b → (a == b) = false := fun h => by rw [beq_eq_false_iff_ne]; exact h
  by_cases e4 : k = 4
  · subst e4
    go_enter Tryz.func66, Tryz.ntmps66
    go_wp2
    go_ret
    exact ⟨rfl, rfl⟩
  by_cases e5 : k = 5
  · subst e5
    go_enter Tryz.func66, Tryz.ntmps66
    go_wp2
    go_ret
    exact ⟨rfl, rfl⟩
  by_cases e6 : k = 6
  · subst e6
    go_enter Tryz.func66, Tryz.ntmps66
    go_wp2
    go_ret
    exact ⟨rfl, rfl⟩
  by_cases e7 : k = 7
  · subst e7
    go_enter Tryz.func66, Tryz.ntmps66
    go_wp2
    go_ret
    exact ⟨rfl, rfl⟩
  have hm : mostFn k = 8 := by simp [mostFn, e4, e5, e6, e7]
  have g4 := no e4; have g5 := no e5; have g6 := no e6; have g7 := no e7
  have HM := Lib.hid hm; clear hm no
  go_enter Tryz.func66, Tryz.ntmps66
  go_wp2
  go_ret
  exact ⟨by rw [HM.out]; rfl, rfl⟩
/-- A row against none (slices.Equal). -/
theorem equalNil_calls (ao : Option Addr) (n cap : Nat) (hn : n ≤ 100000) (W : World) : Calls Tryz.prog 58 #[.slice ao n cap, .slice none 0 0] W fun e W' => e = .returned (.bool (decide (n = 0))) ∧ W = W' := by
  by_cases h : n = 0
  · subst h
    go_enter Tryz.func58, Tryz.ntmps58
    go_wp2
    refine wp_loop_rounds 1 ?_
    rw [rounds_succ]
    go_wp2
    go_ret
    exact ⟨rfl, rfl⟩
  · have h1 : ((n : Int) == 0) = false := by rw [beq_eq_false_iff_ne]; omega
    have h2 : decide (n = 0) = false := by simp [h]
    have H2 := Lib.hid h2; clear h2
    go_enter Tryz.func58, Tryz.ntmps58
    go_wp2
    go_ret
    exact ⟨by rw [H2.out]; rfl, rfl⟩
theorem sameNil_calls (how : Int) (ao : Option Addr) (n cap : Nat) (hn : n ≤ 100000) (W : World) : Calls Tryz.prog 57 #[.agg #[.int .i64 how, .slice ao n cap], .agg #[.int .i64 0, .slice none 0 0]] W (RetB (.bool (decide (how = 0) && decide (n = 0))) W) := by
  by_cases h : how = 0
  · subst h
    go_enter Tryz.func57, Tryz.ntmps57
    go_wp2_with ((with_reducible refine (equalNil_calls ao n cap hn _).mono ?_); rintro e w' ⟨rfl, rfl⟩)
    go_ret
    exact ⟨by simp, ((Below.refl _ _).alloc (Nat.le_refl _) _).alloc (by simp) _⟩
  · have h1 : (how == 0) = false := by rw [beq_eq_false_iff_ne]; exact h
    have h2 : (decide (how = 0) && decide (n = 0)) = false := by simp [h]
    have H2 := Lib.hid h2; clear h2
    go_enter Tryz.func57, Tryz.ntmps57
    go_wp2_with fail
    go_ret
    exact ⟨by rw [H2.out]; rfl, ((Below.refl _ _).alloc (Nat.le_refl _) _).alloc (by simp) _⟩
end Go.Proofs.YtnbgigdloehbjaaGreatDoor.Ir
