/-
  Text of the value 2.5: its shortest digits.
-/
import Derived.Test.YtdmmmdnfofoefaaGreatDoorFlB
import Derived.Test.YtdmmmdnfofoefaaGreatDoorShelf
import Derived.LoopN
import Derived.Below
import Derived.Deep.QuietTactic
import Derived.BigQuiet
import Derived.Laws.BitsAllLaws
namespace Go.Proofs.YtdmmmdnfofoefaaGreatDoor.Fl
open Go Go.RowKit
set_option maxHeartbeats 4000000
set_option maxRecDepth 100000

theorem log10_51 (w : World) : Calls Tryz.prog 62 #[.int .i64 (-51)] w fun e w' => e = .returned (.int .i64 (-16)) ∧ w = w' := by
  go_enter Tryz.func62, Tryz.ntmps62
  go_wp2
  go_ret
  exact ⟨rfl, rfl⟩
theorem log2_16 (w : World) : Calls Tryz.prog 78 #[.int .i64 16] w fun e w' => e = .returned (.int .i64 53) ∧ w = w' := by
  go_enter Tryz.func78, Tryz.ntmps78
  go_wp2
  go_ret
  exact ⟨rfl, rfl⟩
theorem nudge_0 (u : Int) (h0 : 0 ≤ u) (h1 : u ≤ 1000000000000000000) (w : World) : Calls Tryz.prog 80 #[.int .u64 u, .int .i64 0] w fun e w' => e = .returned (.int .u64 u) ∧ w = w' := by
  go_enter Tryz.func80, Tryz.ntmps80
  go_wp2
  go_ret
  exact ⟨rfl, rfl⟩
theorem ceil_calls (w : World) : Calls Tryz.prog 81 #[.int .u64 99999999999999991] w fun e w' => e = .returned (.int .u64 24999999999999998) ∧ w = w' := by
  go_enter Tryz.func81, Tryz.ntmps81
  go_wp2
  go_ret
  exact ⟨rfl, rfl⟩
theorem floor_calls (w : World) : Calls Tryz.prog 82 #[.int .u64 100000000000000009] w fun e w' => e = .returned (.int .u64 25000000000000002) ∧ w = w' := by
  go_enter Tryz.func82, Tryz.ntmps82
  go_wp2
  go_ret
  exact ⟨rfl, rfl⟩
/-- A block with the scaler for 2.5. -/
structure Pre (w : World) (b : Nat) : Prop where
  c0 : w.cell? ⟨b, 0, none⟩ = some (.int .u64 10240000000000000000)
  c1 : w.cell? ⟨b, 1, none⟩ = some (.int .u64 0)
  c2 : w.cell? ⟨b, 2, none⟩ = some (.int .i64 6)
theorem uscale_lo (b : Nat) (w : World) (hp : Pre w b) : Calls Tryz.prog 79 #[.int .u64 11529215046068468736, .pointer (some ⟨b, 0, none⟩)] w fun e w' => e = .returned (.int .u64 99999999999999991) ∧ w = w' := by
  obtain ⟨h0, h1, h2⟩ := hp
  have hand : bits .and .i64 6 63 = 6 := by decide +kernel
  have hor : bits .or .u64 99999999999999990 1 = 99999999999999991 := by decide +kernel
  have m1 : (11529215046068468736 * 10240000000000000000 / 18446744073709551616 : Nat) = 6399999999999999431 := by decide +kernel
  have m2 : (11529215046068468736 * 10240000000000000000 % 18446744073709551616 : Nat) = 10437377940734869504 := by decide +kernel
  have hm := Tryz.bits_Mul64 11529215046068468736 10240000000000000000 (by decide) (by decide)
  rw [m1, m2] at hm
  have HM := Lib.hid hm
  clear hm m1 m2
  go_enter Tryz.func79, Tryz.ntmps79
  go_wp2_with ((refine (HM.out _).mono ?_); rintro e w' ⟨rfl, rfl⟩)
  go_ret
  exact ⟨rfl, rfl⟩
theorem uscale_hi (b : Nat) (w : World) (hp : Pre w b) : Calls Tryz.prog 79 #[.int .u64 11529215046068470784, .pointer (some ⟨b, 0, none⟩)] w fun e w' => e = .returned (.int .u64 100000000000000009) ∧ w = w' := by
  obtain ⟨h0, h1, h2⟩ := hp
  have hand : bits .and .i64 6 63 = 6 := by decide +kernel
  have hor : bits .or .u64 100000000000000008 1 = 100000000000000009 := by decide +kernel
  have m1 : (11529215046068470784 * 10240000000000000000 / 18446744073709551616 : Nat) = 6400000000000000568 := by decide +kernel
  have m2 : (11529215046068470784 * 10240000000000000000 % 18446744073709551616 : Nat) = 8009366132974682112 := by decide +kernel
  have hm := Tryz.bits_Mul64 11529215046068470784 10240000000000000000 (by decide) (by decide)
  rw [m1, m2] at hm
  have HM := Lib.hid hm
  clear hm m1 m2
  go_enter Tryz.func79, Tryz.ntmps79
  go_wp2_with ((refine (HM.out _).mono ?_); rintro e w' ⟨rfl, rfl⟩)
  go_ret
  exact ⟨rfl, rfl⟩
/-- The entry of the powers of ten that 2.5 asks for. -/
structure Pow (w : World) : Prop where
  hi : w.cell? ⟨7, 728, none⟩ = some (.int .u64 10240000000000000000)
  lo : w.cell? ⟨7, 729, none⟩ = some (.int .u64 0)
theorem prescale_calls (b : Nat) (w : World) (hp : Pow w) (hb : 7 < b) (x0 x1 x2 : Value) (h0 : w.cell? ⟨b, 0, none⟩ = some x0) (h1 : w.cell? ⟨b, 1, none⟩ = some x1) (h2 : w.cell? ⟨b, 2, none⟩ = some x2)
    (z0 : w.frozen? ⟨b, 0, none⟩ = false) (z1 : w.frozen? ⟨b, 1, none⟩ = false) (z2 : w.frozen? ⟨b, 2, none⟩ = false) :
    Calls Tryz.prog 77 #[.pointer (some ⟨b, 0, none⟩), .int .i64 (-62), .int .i64 16, .int .i64 53] w fun e w' => e = .returned (.tuple #[]) ∧ w' = ((w.setCell ⟨b, 0, none⟩ (.int .u64 10240000000000000000)).setCell ⟨b, 1, none⟩ (.int .u64 0)).setCell ⟨b, 2, none⟩ (.int .i64 6) := by
  obtain ⟨hh, hl⟩ := hp
  have hne : ¬ 7 = b := by omega
  have hne' : ¬ b = 7 := by omega
  go_enter Tryz.func77, Tryz.ntmps77
  go_wp2
  go_end0
  exact ⟨rfl, rfl⟩
theorem pow_alloc {w : World} (hp : Pow w) (hz : 7 < w.heap.size) (o : Obj) : Pow (w.alloc o) := by
  obtain ⟨h, l⟩ := hp
  have hb := ((Below.refl w.heap.size w).alloc (Nat.le_refl _) o)
  exact ⟨(hb.cell (p := ⟨_, _, none⟩) hz).trans h, (hb.cell (p := ⟨_, _, none⟩) hz).trans l⟩
/-- The scaler's new block, filled. -/
theorem pre_new (w : World) (hp : Pow w) (hz : 7 < w.heap.size) (t : TypeId) :
    Calls Tryz.prog 77 #[.pointer (some ⟨w.heap.size, 0, none⟩), .int .i64 (-62), .int .i64 16, .int .i64 53] (w.alloc (.cells #[.int .u64 0, .int .u64 0, .int .i64 0] t)) fun e w' => e = .returned (.tuple #[]) ∧ Pre w' w.heap.size ∧ Below w.heap.size w w' := by
  refine (prescale_calls w.heap.size _ (pow_alloc hp hz _) hz (.int .u64 0) (.int .u64 0) (.int .i64 0) (by simp) (by simp) (by simp) (by simp) (by simp) (by simp)).mono ?_
  rintro e w' ⟨rfl, rfl⟩
  refine ⟨rfl, ⟨by go_simp, by go_simp, by go_simp⟩, ?_⟩
  exact ((((Below.refl _ _).alloc (Nat.le_refl _) _).setCell (by simp) _).setCell (by simp) _).setCell (by simp) _
theorem short_calls (w : World) (hp : Pow w) (hz : 7 < w.heap.size) : Calls Tryz.prog 67 #[.int .u64 11529215046068469760, .int .i64 (-62)] w fun e w' => e = .returned (.tuple #[.int .u64 2500000000000000, .int .i64 (-15)]) ∧ Below w.heap.size w w' := by
  have HPre := Lib.hid (pre_new w hp hz)
  have b1 : bits .and .i64 5629499534213120 1 = 0 := by decide +kernel
  clear hp hz
  go_enter Tryz.func67, Tryz.ntmps67
  go_wp2_with (first | ((with_reducible refine (log10_51 _).mono ?_); rintro e w' ⟨rfl, rfl⟩) | ((with_reducible refine (log2_16 _).mono ?_); rintro e w' ⟨rfl, rfl⟩))
  refine (HPre.out _).mono ?_
  rintro e W ⟨rfl, hP, hB⟩
  have HP := Lib.hid hP
  have HB := Lib.hid hB
  clear hP hB
  go_wp2_with (first | ((with_reducible refine (uscale_lo _ _ HP.out).mono ?_); rintro e w' ⟨rfl, rfl⟩) | ((with_reducible refine (uscale_hi _ _ HP.out).mono ?_); rintro e w' ⟨rfl, rfl⟩) | ((with_reducible refine (ceil_calls _).mono ?_); rintro e w' ⟨rfl, rfl⟩) | ((with_reducible refine (floor_calls _).mono ?_); rintro e w' ⟨rfl, rfl⟩) | ((with_reducible refine (nudge_0 _ (by decide) (by decide) _).mono ?_); rintro e w' ⟨rfl, rfl⟩))

  go_ret2
  exact ⟨rfl, HB.out⟩
end Go.Proofs.YtdmmmdnfofoefaaGreatDoor.Fl
