/-
  The small functions of values: Canon, Bits, Same, Before, Holds and their kin, each by its law on words of 64 bits.
-/
import Derived.Test.YtdmmmdnfofoefaaGreatDoorProg
import Derived.Test.YtdmmmdnfofoefaaGreatDoorFlA
import Derived.WalkKit
import Derived.WalkLawsBesides
import Derived.KernelRfl
import Derived.Outline
import Derived.Lib.Hide
namespace Go.Proofs.YtdmmmdnfofoefaaGreatDoor.Fl
open Go Go.RowKit

def nz : Nat := 9221120237041090561
def canon (x : Nat) : Nat := if nan x then nz else x
theorem nan_nz : nan nz = true := by decide +kernel
theorem canon_of_nan {x : Nat} (h : nan x = true) : canon x = nz := by unfold canon; rw [if_pos h]
theorem canon_of_num {x : Nat} (h : nan x = false) : canon x = x := by unfold canon; rw [if_neg (by rw [h]; decide)]
theorem canon_canon (x : Nat) : canon (canon x) = canon x := by
  cases h : nan x
  · rw [canon_of_num h, canon_of_num h]
  · rw [canon_of_nan h, canon_of_nan nan_nz]
theorem nan_canon (x : Nat) : nan (canon x) = nan x := by
  cases h : nan x
  · rw [canon_of_num h, h]
  · rw [canon_of_nan h, nan_nz]

theorem ord (x y : Nat) : FloatKind.f64.format.order x y = if nan x || nan y then none else some (compare (key x) (key y)) := order_key x y
theorem ord_self (x : Nat) : FloatKind.f64.format.order x x = if nan x then none else some .eq := by
  rw [ord, Bool.or_self]; split
  · rfl
  · rw [show compare (key x) (key x) = .eq by rw [Int.compare_eq_eq]]

set_option maxHeartbeats 4000000
set_option maxRecDepth 100000
theorem run_frombits (n : Int) (w : World) : (callFunc 9 #[.int .u64 n]).run Tryz.prog w = .ok (.value (.float .f64 n.toNat)) w := by
  rw [run_callFunc_standIn (e := Extern.MathFloatBits.float64frombits) Tryz.func9 (by kernel_rfl) (by kernel_rfl) (by kernel_rfl) (by kernel_rfl)]
  rfl
theorem run_tobits (x : Nat) (w : World) : (callFunc 12 #[.float .f64 x]).run Tryz.prog w = .ok (.value (.int .u64 x)) w := by
  rw [run_callFunc_standIn (e := Extern.MathFloatBits.float64bits) Tryz.func12 (by kernel_rfl) (by kernel_rfl) (by kernel_rfl) (by kernel_rfl)]
  rfl
theorem ord_nl {x : Nat} (y : Nat) (h : nan x = true) : FloatKind.f64.format.order x y = none := by rw [ord, h]; rfl
theorem ord_nr (x : Nat) {y : Nat} (h : nan y = true) : FloatKind.f64.format.order x y = none := by rw [ord, h, Bool.or_true]; rfl
theorem ord_lt {x y : Nat} (hx : nan x = false) (hy : nan y = false) (h : key x < key y) : FloatKind.f64.format.order x y = some .lt := by
  rw [ord, hx, hy, Int.compare_eq_lt.2 h]; rfl
theorem ord_eq {x y : Nat} (hx : nan x = false) (hy : nan y = false) (h : key x = key y) : FloatKind.f64.format.order x y = some .eq := by
  rw [ord, hx, hy, Int.compare_eq_eq.2 h]; rfl
theorem ord_gt {x y : Nat} (hx : nan x = false) (hy : nan y = false) (h : key y < key x) : FloatKind.f64.format.order x y = some .gt := by
  rw [ord, hx, hy, Int.compare_eq_gt.2 h]; rfl
theorem nan_0 : nan 0 = false := by decide +kernel
theorem key_0 : key 0 = 0 := by decide +kernel

theorem canon_calls (x : Nat) (w : World) : Calls Tryz.prog 28 #[.float .f64 x] w fun e w' => e = .returned (.float .f64 (canon x)) ∧ w = w' := by
  have hx := run_frombits
  cases h : nan x
  · have ho := ord_eq h h rfl
    rw [canon_of_num h]
    go_enter Tryz.func28, Tryz.ntmps28
    go_wp2
    go_ret
    exact ⟨rfl, rfl⟩
  · have ho := ord_nl x h
    rw [canon_of_nan h]
    go_enter Tryz.func28, Tryz.ntmps28
    go_wp2
    go_ret
    exact ⟨rfl, rfl⟩
theorem rcanon_calls (x : Nat) (w : World) : Calls Tryz.prog 31 #[.float .f64 x] w fun e w' => e = .returned (.float .f64 (canon x)) ∧ w = w' := by
  have hx := run_frombits
  cases h : nan x
  · have ho := ord_eq h h rfl
    rw [canon_of_num h]
    go_enter Tryz.func31, Tryz.ntmps31
    go_wp2
    go_ret
    exact ⟨rfl, rfl⟩
  · have ho := ord_nl x h
    rw [canon_of_nan h]
    go_enter Tryz.func31, Tryz.ntmps31
    go_wp2
    go_ret
    exact ⟨rfl, rfl⟩
theorem bits_calls (x : Nat) (w : World) : Calls Tryz.prog 24 #[.float .f64 x] w fun e w' => e = .returned (.int .u64 (canon x : Int)) ∧ w = w' := by
  have hx := run_tobits
  go_enter Tryz.func24, Tryz.ntmps24
  go_wp2_with (refine (canon_calls _ _).mono ?_; rintro e w' ⟨rfl, rfl⟩)
  go_ret
  exact ⟨rfl, rfl⟩
theorem rbits_calls (x : Nat) (w : World) : Calls Tryz.prog 13 #[.float .f64 x] w fun e w' => e = .returned (.int .u64 (canon x : Int)) ∧ w = w' := by
  have hx := run_tobits
  go_enter Tryz.func13, Tryz.ntmps13
  go_wp2_with (refine (rcanon_calls _ _).mono ?_; rintro e w' ⟨rfl, rfl⟩)
  go_ret
  exact ⟨rfl, rfl⟩
def st : Nat := 9218868437227405314
def isSt (x : Nat) : Bool := decide (x = st)
def sameB (a b : Nat) : Bool := decide (canon a = canon b)
theorem stale_calls (w : World) : Calls Tryz.prog 29 #[] w fun e w' => e = .returned (.float .f64 st) ∧ w = w' := by
  have hx := run_frombits
  go_enter Tryz.func29, Tryz.ntmps29
  go_wp2
  go_ret
  exact ⟨rfl, rfl⟩
theorem isStale_calls (x : Nat) (w : World) : Calls Tryz.prog 25 #[.float .f64 x] w fun e w' => e = .returned (.bool (isSt x)) ∧ w = w' := by
  have hx := run_tobits
  by_cases h : x = st
  · have h1 : ((x : Int) == 9218868437227405314) = true := by rw [h]; rfl
    have h2 : isSt x = true := decide_eq_true h
    rw [h2]; clear h h2
    go_enter Tryz.func25, Tryz.ntmps25
    go_wp2
    go_ret
    exact ⟨rfl, rfl⟩
  · have h1 : ((x : Int) == 9218868437227405314) = false := by
      rw [beq_eq_false_iff_ne]; unfold st at h; omega
    have h2 : isSt x = false := decide_eq_false h
    rw [h2]; clear h h2
    go_enter Tryz.func25, Tryz.ntmps25
    go_wp2
    go_ret
    exact ⟨rfl, rfl⟩
theorem risStale_calls (x : Nat) (w : World) : Calls Tryz.prog 26 #[.float .f64 x] w fun e w' => e = .returned (.bool (isSt x)) ∧ w = w' := by
  have hx := run_tobits
  by_cases h : x = st
  · have h1 : ((x : Int) == 9218868437227405314) = true := by rw [h]; rfl
    have h2 : isSt x = true := decide_eq_true h
    rw [h2]; clear h h2
    go_enter Tryz.func26, Tryz.ntmps26
    go_wp2
    go_ret
    exact ⟨rfl, rfl⟩
  · have h1 : ((x : Int) == 9218868437227405314) = false := by
      rw [beq_eq_false_iff_ne]; unfold st at h; omega
    have h2 : isSt x = false := decide_eq_false h
    rw [h2]; clear h h2
    go_enter Tryz.func26, Tryz.ntmps26
    go_wp2
    go_ret
    exact ⟨rfl, rfl⟩
theorem same_calls (a b : Nat) (w : World) : Calls Tryz.prog 16 #[.float .f64 a, .float .f64 b] w fun e w' => e = .returned (.bool (sameB a b)) ∧ w = w' := by
  by_cases h : canon a = canon b
  · have h1 : ((canon a : Int) == (canon b : Int)) = true := by rw [h]; exact beq_self_eq_true _
    have h2 : sameB a b = true := decide_eq_true h
    rw [h2]; clear h h2
    go_enter Tryz.func16, Tryz.ntmps16
    go_wp2_with (refine (bits_calls _ _).mono ?_; rintro e w' ⟨rfl, rfl⟩)
    go_ret
    exact ⟨rfl, rfl⟩
  · have h1 : ((canon a : Int) == (canon b : Int)) = false := by
      rw [beq_eq_false_iff_ne]; omega
    have h2 : sameB a b = false := decide_eq_false h
    rw [h2]; clear h h2
    go_enter Tryz.func16, Tryz.ntmps16
    go_wp2_with (refine (bits_calls _ _).mono ?_; rintro e w' ⟨rfl, rfl⟩)
    go_ret
    exact ⟨rfl, rfl⟩
theorem rsame_calls (a b : Nat) (w : World) : Calls Tryz.prog 22 #[.float .f64 a, .float .f64 b] w fun e w' => e = .returned (.bool (sameB a b)) ∧ w = w' := by
  by_cases h : canon a = canon b
  · have h1 : ((canon a : Int) == (canon b : Int)) = true := by rw [h]; exact beq_self_eq_true _
    have h2 : sameB a b = true := decide_eq_true h
    rw [h2]; clear h h2
    go_enter Tryz.func22, Tryz.ntmps22
    go_wp2_with (refine (rbits_calls _ _).mono ?_; rintro e w' ⟨rfl, rfl⟩)
    go_ret
    exact ⟨rfl, rfl⟩
  · have h1 : ((canon a : Int) == (canon b : Int)) = false := by
      rw [beq_eq_false_iff_ne]; omega
    have h2 : sameB a b = false := decide_eq_false h
    rw [h2]; clear h h2
    go_enter Tryz.func22, Tryz.ntmps22
    go_wp2_with (refine (rbits_calls _ _).mono ?_; rintro e w' ⟨rfl, rfl⟩)
    go_ret
    exact ⟨rfl, rfl⟩
end Go.Proofs.YtdmmmdnfofoefaaGreatDoor.Fl
