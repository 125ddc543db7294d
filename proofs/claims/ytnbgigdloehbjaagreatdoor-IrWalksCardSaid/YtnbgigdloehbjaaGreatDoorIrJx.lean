/-
  ir.Pair at the types 1, 1.
  ir.Pair at the types 1, 2.
-/
import Derived.Test.YtnbgigdloehbjaaGreatDoorIrJ
namespace Go.Proofs.YtnbgigdloehbjaaGreatDoor.Ir
open Go Go.RowKit Go.Proofs.YtnbgigdloehbjaaGreatDoor.Rg Go.Proofs.YtnbgigdloehbjaaGreatDoor.Ma
set_option maxHeartbeats 8000000
set_option maxRecDepth 100000

theorem pair_11 (f : Fd) (ax ai : Option Addr) (capx capi : Nat) (hxl : f.xn.length ≤ 100000) (_hil : f.incl.length ≤ 100000) (z1 c i : Bool) (h1 : (decide (f.xhow = 0) && decide (f.xn.length = 0)) = z1) (h2 : (f.card == 0) = c) (h3 : ((f.incl.length : Int) == 0) = i)
    (num cmp any ge defa : Bool) (k1 : decide (f.fn ≤ 10) = num) (k2 : inB f.fn 5 10 = cmp) (k3 : inB f.fn 1 14 = any) (k4 : decide (5 ≤ f.fn) = ge) (_k5 : (f.fn == 14) = defa) (W : World) :
    Calls Tryz.prog 70 #[.int .i64 f.fn, .agg #[.int .i64 f.xhow, .slice ax f.xn.length capx, .int .i64 f.card, .slice ai f.incl.length capi], .bool f.flag, .int .i64 1, .int .i64 1] W (RetB (.int .i64 (pairB (z1 && c && i) num cmp any false ge defa (c && i) f.flag 1 1 : Nat)) W) := by
  have hs : ∀ W, Calls Tryz.prog 57 #[.agg #[.int .i64 f.xhow, .slice ax f.xn.length capx], .agg #[.int .i64 0, .slice none 0 0]] W (RetB (.bool z1) W) := fun W => by rw [← h1]; exact sameNil_calls _ _ _ _ hxl W
  have HS := Lib.hid hs; clear hs
  have HC := Lib.hid k2; have HY := Lib.hid k3
  obtain ⟨flag, hf⟩ : ∃ x, f.flag = x := ⟨_, rfl⟩
  rw [hf]
  clear h1 k2 k3
  obtain ⟨B, hB⟩ : ∃ B, B = W.alloc (.cells #[.int .i64 f.xhow, .slice ax f.xn.length capx, .int .i64 f.card, .slice ai f.incl.length capi] 28) := ⟨_, rfl⟩
  have hb0 : Below W.heap.size W B := by rw [hB]; exact (Below.refl _ _).alloc (Nat.le_refl _) _
  have hbb : B.heap[W.heap.size]? = some (.cells #[.int .i64 f.xhow, .slice ax f.xn.length capx, .int .i64 f.card, .slice ai f.incl.length capi] 28 (0, 0)) := by rw [hB]; exact blk_new W _
  have hbs : B.heap.size = W.heap.size + 1 := by rw [hB]; simp
  have HBB := Lib.hid hbb; have HB0 := Lib.hid hb0; clear hbb hb0
  go_enter Tryz.func70, Tryz.ntmps70
  go_wp2_with fail
  rw [← hB]
  clear hB
  (with_reducible refine (HS.out B).mono ?_)
  rintro e W1 ⟨rfl, hb1⟩
  have m1 : W1.cell? ⟨W.heap.size, 2, none⟩ = some (.int .i64 f.card) := (hb1.cell (p := ⟨W.heap.size, 2, none⟩) (by simp; omega)).trans (blk_cell HBB.out 2)
  have m2 : W1.cell? ⟨W.heap.size, 3, none⟩ = some (.slice ai f.incl.length capi) := (hb1.cell (p := ⟨W.heap.size, 3, none⟩) (by simp; omega)).trans (blk_cell HBB.out 3)
  have hw1 : Below W.heap.size W W1 := HB0.out.trans (hb1.mono (by omega))
  have HW1 := Lib.hid hw1; clear hw1 hb1 HBB HB0 HS
  have hz : z1 = false ∨ (z1 = true ∧ c = false) ∨ (z1 = true ∧ c = true) := by cases z1 <;> cases c <;> simp
  rcases hz with rfl | ⟨rfl, rfl⟩ | ⟨rfl, rfl⟩
  all_goals cases flag
  all_goals cases cmp
  all_goals cases any
  all_goals cases num
  all_goals cases ge
  all_goals
    go_wp2_with (first | ((with_reducible refine (between_calls f.fn 5 10 _ HC.out _).mono ?_); rintro e w' ⟨rfl, rfl⟩) | ((with_reducible refine (between_calls f.fn 1 14 _ HY.out _).mono ?_); rintro e w' ⟨rfl, rfl⟩))
    all_goals
      go_ret
      exact ⟨by simp [pairB, *], HW1.out⟩
end Go.Proofs.YtnbgigdloehbjaaGreatDoor.Ir
namespace Go.Proofs.YtnbgigdloehbjaaGreatDoor.Ir
open Go Go.RowKit Go.Proofs.YtnbgigdloehbjaaGreatDoor.Rg Go.Proofs.YtnbgigdloehbjaaGreatDoor.Ma
set_option maxHeartbeats 8000000
set_option maxRecDepth 100000

theorem pair_12 (f : Fd) (ax ai : Option Addr) (capx capi : Nat) (hxl : f.xn.length ≤ 100000) (_hil : f.incl.length ≤ 100000) (z1 c i : Bool) (h1 : (decide (f.xhow = 0) && decide (f.xn.length = 0)) = z1) (h2 : (f.card == 0) = c) (h3 : ((f.incl.length : Int) == 0) = i)
    (num cmp any ge defa : Bool) (k1 : decide (f.fn ≤ 10) = num) (k2 : inB f.fn 5 10 = cmp) (k3 : inB f.fn 1 14 = any) (_k4 : decide (5 ≤ f.fn) = ge) (k5 : (f.fn == 14) = defa) (W : World) :
    Calls Tryz.prog 70 #[.int .i64 f.fn, .agg #[.int .i64 f.xhow, .slice ax f.xn.length capx, .int .i64 f.card, .slice ai f.incl.length capi], .bool f.flag, .int .i64 1, .int .i64 2] W (RetB (.int .i64 (pairB (z1 && c && i) num cmp any false ge defa (c && i) f.flag 1 2 : Nat)) W) := by
  have hs : ∀ W, Calls Tryz.prog 57 #[.agg #[.int .i64 f.xhow, .slice ax f.xn.length capx], .agg #[.int .i64 0, .slice none 0 0]] W (RetB (.bool z1) W) := fun W => by rw [← h1]; exact sameNil_calls _ _ _ _ hxl W
  have HS := Lib.hid hs; clear hs
  have HC := Lib.hid k2; have HY := Lib.hid k3
  obtain ⟨flag, hf⟩ : ∃ x, f.flag = x := ⟨_, rfl⟩
  rw [hf]
  clear h1 k2 k3
  obtain ⟨B, hB⟩ : ∃ B, B = W.alloc (.cells #[.int .i64 f.xhow, .slice ax f.xn.length capx, .int .i64 f.card, .slice ai f.incl.length capi] 28) := ⟨_, rfl⟩
  have hb0 : Below W.heap.size W B := by rw [hB]; exact (Below.refl _ _).alloc (Nat.le_refl _) _
  have hbb : B.heap[W.heap.size]? = some (.cells #[.int .i64 f.xhow, .slice ax f.xn.length capx, .int .i64 f.card, .slice ai f.incl.length capi] 28 (0, 0)) := by rw [hB]; exact blk_new W _
  have hbs : B.heap.size = W.heap.size + 1 := by rw [hB]; simp
  have HBB := Lib.hid hbb; have HB0 := Lib.hid hb0; clear hbb hb0
  go_enter Tryz.func70, Tryz.ntmps70
  go_wp2_with fail
  rw [← hB]
  clear hB
  (with_reducible refine (HS.out B).mono ?_)
  rintro e W1 ⟨rfl, hb1⟩
  have m1 : W1.cell? ⟨W.heap.size, 2, none⟩ = some (.int .i64 f.card) := (hb1.cell (p := ⟨W.heap.size, 2, none⟩) (by simp; omega)).trans (blk_cell HBB.out 2)
  have m2 : W1.cell? ⟨W.heap.size, 3, none⟩ = some (.slice ai f.incl.length capi) := (hb1.cell (p := ⟨W.heap.size, 3, none⟩) (by simp; omega)).trans (blk_cell HBB.out 3)
  have hw1 : Below W.heap.size W W1 := HB0.out.trans (hb1.mono (by omega))
  have HW1 := Lib.hid hw1; clear hw1 hb1 HBB HB0 HS
  have hz : z1 = false ∨ (z1 = true ∧ c = false) ∨ (z1 = true ∧ c = true) := by cases z1 <;> cases c <;> simp
  rcases hz with rfl | ⟨rfl, rfl⟩ | ⟨rfl, rfl⟩
  all_goals cases flag
  all_goals cases cmp
  all_goals cases any
  all_goals cases num
  all_goals cases defa
  all_goals
    go_wp2_with (first | ((with_reducible refine (between_calls f.fn 5 10 _ HC.out _).mono ?_); rintro e w' ⟨rfl, rfl⟩) | ((with_reducible refine (between_calls f.fn 1 14 _ HY.out _).mono ?_); rintro e w' ⟨rfl, rfl⟩))
    all_goals
      go_ret
      exact ⟨by simp [pairB, *], HW1.out⟩
end Go.Proofs.YtnbgigdloehbjaaGreatDoor.Ir
