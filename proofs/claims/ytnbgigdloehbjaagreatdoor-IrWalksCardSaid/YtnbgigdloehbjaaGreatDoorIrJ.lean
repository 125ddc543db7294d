/-
  The type of an operator of two types (ir.Pair).
-/
import Derived.Test.YtnbgigdloehbjaaGreatDoorIrI
namespace Go.Proofs.YtnbgigdloehbjaaGreatDoor.Ir
open Go Go.RowKit Go.Proofs.YtnbgigdloehbjaaGreatDoor.Rg Go.Proofs.YtnbgigdloehbjaaGreatDoor.Ma
set_option maxHeartbeats 8000000
set_option maxRecDepth 100000

/-- Pair's answer out of the tests that it makes. -/
def pairB (z num cmp any _big : Bool) (ge defa cn flag : Bool) (a b : Nat) : Nat :=
  if (flag && !cmp) || !any then 0
  else if a = 1 ∧ b = 1 then (if z && num && (flag == ge) then 1 else 0)
  else if a = 2 ∧ b = 2 then (if num || cn then 2 else 0)
  else if a + b = 3 then (if z && (num || (defa && decide (a = 2))) then 2 else 0)
  else 0
theorem pairT_of (f : Fd) (a b : Nat) : pairT f a b = pairB (zeroX f) (decide (f.fn ≤ 10)) (inB f.fn 5 10) (inB f.fn 1 14) false (decide (5 ≤ f.fn)) (decide (f.fn = 14)) (decide (f.card = 0) && decide (f.incl.length = 0)) f.flag a b := by
  unfold pairT pairB
  cases f.flag <;> cases inB f.fn 5 10 <;> cases inB f.fn 1 14 <;> cases zeroX f <;> simp
theorem zero_parts (f : Fd) {z1 c i : Bool} (h1 : (decide (f.xhow = 0) && decide (f.xn.length = 0)) = z1) (h2 : (f.card == 0) = c) (h3 : ((f.incl.length : Int) == 0) = i) :
    zeroX f = (z1 && c && i) ∧ (decide (f.card = 0) && decide (f.incl.length = 0)) = (c && i) := by
  have e1 : decide (f.card = 0) = c := by rw [← h2, Bool.eq_iff_iff, decide_eq_true_eq, beq_iff_eq]
  have e2 : decide (f.incl.length = 0) = i := by rw [← h3, Bool.eq_iff_iff, decide_eq_true_eq, beq_iff_eq]; omega
  exact ⟨by rw [zeroX, h1, e1, e2], by rw [e1, e2]⟩
end Go.Proofs.YtnbgigdloehbjaaGreatDoor.Ir
