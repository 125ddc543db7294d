/-
  The type of an operator of two types (ir.Pair), whole.
-/
import Derived.Test.YtnbgigdloehbjaaGreatDoorIrJx
import Derived.Test.YtnbgigdloehbjaaGreatDoorIrJy
namespace Go.Proofs.YtnbgigdloehbjaaGreatDoor.Ir
open Go Go.RowKit Go.Proofs.YtnbgigdloehbjaaGreatDoor.Rg Go.Proofs.YtnbgigdloehbjaaGreatDoor.Ma

theorem pair_calls (f : Fd) (ax ai : Option Addr) (capx capi : Nat) (hxl : f.xn.length ≤ 100000) (hil : f.incl.length ≤ 100000) (a b : Nat) (ha : a = 1 ∨ a = 2) (hb : b = 1 ∨ b = 2) (W : World) :
    Calls Tryz.prog 70 #[.int .i64 f.fn, .agg #[.int .i64 f.xhow, .slice ax f.xn.length capx, .int .i64 f.card, .slice ai f.incl.length capi], .bool f.flag, .int .i64 (a : Int), .int .i64 (b : Int)] W (RetB (.int .i64 (pairT f a b : Nat)) W) := by
  have hz := zero_parts f (rfl : _ = (decide (f.xhow = 0) && decide (f.xn.length = 0))) (rfl : _ = (f.card == 0)) (rfl : _ = ((f.incl.length : Int) == 0))
  have hd : decide (f.fn = 14) = (f.fn == 14) := by rw [Bool.eq_iff_iff, decide_eq_true_eq, beq_iff_eq]
  rw [pairT_of, hz.1, hz.2, hd]
  rcases ha with rfl | rfl <;> rcases hb with rfl | rfl
  · exact pair_11 f ax ai capx capi hxl hil _ _ _ rfl rfl rfl _ _ _ _ _ rfl rfl rfl rfl rfl W
  · exact pair_12 f ax ai capx capi hxl hil _ _ _ rfl rfl rfl _ _ _ _ _ rfl rfl rfl rfl rfl W
  · exact pair_21 f ax ai capx capi hxl hil _ _ _ rfl rfl rfl _ _ _ _ _ rfl rfl rfl rfl rfl W
  · exact pair_22 f ax ai capx capi hxl hil _ _ _ rfl rfl rfl _ _ _ _ _ rfl rfl rfl rfl rfl W
end Go.Proofs.YtnbgigdloehbjaaGreatDoor.Ir
