/-
  What a node of a kind has (ir.of).
-/
import Derived.Test.YtnbgigdloehbjaaGreatDoorIrG
namespace Go.Proofs.YtnbgigdloehbjaaGreatDoor.Ir
open Go Go.RowKit Go.Proofs.YtnbgigdloehbjaaGreatDoor.Rg Go.Proofs.YtnbgigdloehbjaaGreatDoor.Ma
set_option maxHeartbeats 4000000
set_option maxRecDepth 100000

def hasNum (k fn : Int) : Bool := decide (k = 1) || (decide (k = 6) && (decide (fn = 4) || decide (fn = 5))) || (decide (k = 8) && (decide (fn = 6) || decide (fn = 7)))
def isK (k : Int) : Bool := decide (1 ≤ k ∧ k ≤ 13)
def hasV (k fn : Int) : List Value :=
  [.bool (hasNum k fn), .bool (decide (4 ≤ k ∧ k ≤ 8)), .bool (decide (k = 3 ∨ k = 4 ∨ k = 12)), .bool (decide (k = 4 ∨ k = 5)), .bool (decide (k = 5)), .bool (decide (k = 3 ∨ k = 4 ∨ k = 5)),
   .bool (decide (k = 8)), .bool (decide (k = 7)), .bool (decide (k = 11)), .int .i64 (if isK k then kidsOf k else 0)]
theorem of_calls (k fn : Int) (cs : List Value) (h0 : cs[0]? = some (.int .i64 k)) (h2 : cs[2]? = some (.int .i64 fn)) (W : World) :
    Calls Tryz.prog 22 #[.agg cs.toArray] W (RetB (.tuple #[.agg (hasV k fn).toArray, .bool (isK k)]) W) := by
  by_cases e1 : k = 1
  · subst e1
    go_enter Tryz.func22, Tryz.ntmps22
    go_wp2_with fail
    exact bodyPost_ret (v := .tuple #[.agg #[.bool true, .bool false, .bool false, .bool false, .bool false, .bool false, .bool false, .bool false, .bool false, .int .i64 0], .bool true]) (by simp [results, Tryz.results22, go_sem]) rfl ⟨rfl, ((Below.refl _ _).alloc (Nat.le_refl _) _).alloc (by simp) _⟩
  by_cases e2 : k = 2
  · subst e2
    go_enter Tryz.func22, Tryz.ntmps22
    go_wp2_with fail
    exact bodyPost_ret (v := .tuple #[.agg #[.bool false, .bool false, .bool false, .bool false, .bool false, .bool false, .bool false, .bool false, .bool false, .int .i64 0], .bool true]) (by simp [results, Tryz.results22, go_sem]) rfl ⟨rfl, ((Below.refl _ _).alloc (Nat.le_refl _) _).alloc (by simp) _⟩
  by_cases e3 : k = 3
  · subst e3
    go_enter Tryz.func22, Tryz.ntmps22
    go_wp2_with fail
    exact bodyPost_ret (v := .tuple #[.agg #[.bool false, .bool false, .bool true, .bool false, .bool false, .bool true, .bool false, .bool false, .bool false, .int .i64 0], .bool true]) (by simp [results, Tryz.results22, go_sem]) rfl ⟨rfl, ((Below.refl _ _).alloc (Nat.le_refl _) _).alloc (by simp) _⟩
  by_cases e4 : k = 4
  · subst e4
    go_enter Tryz.func22, Tryz.ntmps22
    go_wp2_with fail
    exact bodyPost_ret (v := .tuple #[.agg #[.bool false, .bool true, .bool true, .bool true, .bool false, .bool true, .bool false, .bool false, .bool false, .int .i64 0], .bool true]) (by simp [results, Tryz.results22, go_sem]) rfl ⟨rfl, ((Below.refl _ _).alloc (Nat.le_refl _) _).alloc (by simp) _⟩
  by_cases e5 : k = 5
  · subst e5
    go_enter Tryz.func22, Tryz.ntmps22
    go_wp2_with fail
    exact bodyPost_ret (v := .tuple #[.agg #[.bool false, .bool true, .bool false, .bool true, .bool true, .bool true, .bool false, .bool false, .bool false, .int .i64 1], .bool true]) (by simp [results, Tryz.results22, go_sem]) rfl ⟨rfl, ((Below.refl _ _).alloc (Nat.le_refl _) _).alloc (by simp) _⟩
  by_cases e6 : k = 6
  · subst e6
    by_cases f4 : fn = 4
    · subst f4
      go_enter Tryz.func22, Tryz.ntmps22
      go_wp2_with fail
      exact bodyPost_ret (v := .tuple #[.agg #[.bool true, .bool true, .bool false, .bool false, .bool false, .bool false, .bool false, .bool false, .bool false, .int .i64 1], .bool true]) (by simp [results, Tryz.results22, go_sem]) rfl ⟨rfl, ((Below.refl _ _).alloc (Nat.le_refl _) _).alloc (by simp) _⟩
    by_cases f5 : fn = 5
    · subst f5
      go_enter Tryz.func22, Tryz.ntmps22
      go_wp2_with fail
      exact bodyPost_ret (v := .tuple #[.agg #[.bool true, .bool true, .bool false, .bool false, .bool false, .bool false, .bool false, .bool false, .bool false, .int .i64 1], .bool true]) (by simp [results, Tryz.results22, go_sem]) rfl ⟨rfl, ((Below.refl _ _).alloc (Nat.le_refl _) _).alloc (by simp) _⟩
    have g4 : (fn == 4) = false := by rw [beq_eq_false_iff_ne]; exact f4
    have g5 : (fn == 5) = false := by rw [beq_eq_false_iff_ne]; exact f5
    go_enter Tryz.func22, Tryz.ntmps22
    go_wp2_with fail
    exact bodyPost_ret (v := .tuple #[.agg #[.bool false, .bool true, .bool false, .bool false, .bool false, .bool false, .bool false, .bool false, .bool false, .int .i64 1], .bool true]) (by simp [results, Tryz.results22, go_sem]) rfl ⟨by simp [hasV, hasNum, isK, kidsOf, f4, f5], ((Below.refl _ _).alloc (Nat.le_refl _) _).alloc (by simp) _⟩
  by_cases e7 : k = 7
  · subst e7
    go_enter Tryz.func22, Tryz.ntmps22
    go_wp2_with fail
    exact bodyPost_ret (v := .tuple #[.agg #[.bool false, .bool true, .bool false, .bool false, .bool false, .bool false, .bool false, .bool true, .bool false, .int .i64 2], .bool true]) (by simp [results, Tryz.results22, go_sem]) rfl ⟨rfl, ((Below.refl _ _).alloc (Nat.le_refl _) _).alloc (by simp) _⟩
  by_cases e8 : k = 8
  · subst e8
    by_cases f6 : fn = 6
    · subst f6
      go_enter Tryz.func22, Tryz.ntmps22
      go_wp2_with (go_at_call 46; go_in)
      exact bodyPost_ret (v := .tuple #[.agg #[.bool true, .bool true, .bool false, .bool false, .bool false, .bool false, .bool true, .bool false, .bool false, .int .i64 1], .bool true]) (by simp [results, Tryz.results22, go_sem]) rfl ⟨rfl, ((Below.refl _ _).alloc (Nat.le_refl _) _).alloc (by simp) _⟩
    by_cases f7 : fn = 7
    · subst f7
      go_enter Tryz.func22, Tryz.ntmps22
      go_wp2_with (go_at_call 46; go_in)
      exact bodyPost_ret (v := .tuple #[.agg #[.bool true, .bool true, .bool false, .bool false, .bool false, .bool false, .bool true, .bool false, .bool false, .int .i64 1], .bool true]) (by simp [results, Tryz.results22, go_sem]) rfl ⟨rfl, ((Below.refl _ _).alloc (Nat.le_refl _) _).alloc (by simp) _⟩
    have g6 : (fn == 6) = false := by rw [beq_eq_false_iff_ne]; exact f6
    have g7 : (fn == 7) = false := by rw [beq_eq_false_iff_ne]; exact f7
    go_enter Tryz.func22, Tryz.ntmps22
    go_wp2_with (go_at_call 46; go_in)
    exact bodyPost_ret (v := .tuple #[.agg #[.bool false, .bool true, .bool false, .bool false, .bool false, .bool false, .bool true, .bool false, .bool false, .int .i64 1], .bool true]) (by simp [results, Tryz.results22, go_sem]) rfl ⟨by simp [hasV, hasNum, isK, kidsOf, f6, f7], ((Below.refl _ _).alloc (Nat.le_refl _) _).alloc (by simp) _⟩
  by_cases e9 : k = 9
  · subst e9
    go_enter Tryz.func22, Tryz.ntmps22
    go_wp2_with fail
    exact bodyPost_ret (v := .tuple #[.agg #[.bool false, .bool false, .bool false, .bool false, .bool false, .bool false, .bool false, .bool false, .bool false, .int .i64 1], .bool true]) (by simp [results, Tryz.results22, go_sem]) rfl ⟨rfl, ((Below.refl _ _).alloc (Nat.le_refl _) _).alloc (by simp) _⟩
  by_cases e10 : k = 10
  · subst e10
    go_enter Tryz.func22, Tryz.ntmps22
    go_wp2_with fail
    exact bodyPost_ret (v := .tuple #[.agg #[.bool false, .bool false, .bool false, .bool false, .bool false, .bool false, .bool false, .bool false, .bool false, .int .i64 1], .bool true]) (by simp [results, Tryz.results22, go_sem]) rfl ⟨rfl, ((Below.refl _ _).alloc (Nat.le_refl _) _).alloc (by simp) _⟩
  by_cases e11 : k = 11
  · subst e11
    go_enter Tryz.func22, Tryz.ntmps22
    go_wp2_with fail
    exact bodyPost_ret (v := .tuple #[.agg #[.bool false, .bool false, .bool false, .bool false, .bool false, .bool false, .bool false, .bool false, .bool true, .int .i64 1], .bool true]) (by simp [results, Tryz.results22, go_sem]) rfl ⟨rfl, ((Below.refl _ _).alloc (Nat.le_refl _) _).alloc (by simp) _⟩
  by_cases e12 : k = 12
  · subst e12
    go_enter Tryz.func22, Tryz.ntmps22
    go_wp2_with fail
    exact bodyPost_ret (v := .tuple #[.agg #[.bool false, .bool false, .bool true, .bool false, .bool false, .bool false, .bool false, .bool false, .bool false, .int .i64 1], .bool true]) (by simp [results, Tryz.results22, go_sem]) rfl ⟨rfl, ((Below.refl _ _).alloc (Nat.le_refl _) _).alloc (by simp) _⟩
  by_cases e13 : k = 13
  · subst e13
    go_enter Tryz.func22, Tryz.ntmps22
    go_wp2_with fail
    exact bodyPost_ret (v := .tuple #[.agg #[.bool false, .bool false, .bool false, .bool false, .bool false, .bool false, .bool false, .bool false, .bool false, .int .i64 0], .bool true]) (by simp [results, Tryz.results22, go_sem]) rfl ⟨rfl, ((Below.refl _ _).alloc (Nat.le_refl _) _).alloc (by simp) _⟩
  have g1 : (k == 1) = false := by rw [beq_eq_false_iff_ne]; exact e1
  have g2 : (k == 2) = false := by rw [beq_eq_false_iff_ne]; exact e2
  have g3 : (k == 3) = false := by rw [beq_eq_false_iff_ne]; exact e3
  have g4 : (k == 4) = false := by rw [beq_eq_false_iff_ne]; exact e4
  have g5 : (k == 5) = false := by rw [beq_eq_false_iff_ne]; exact e5
  have g6 : (k == 6) = false := by rw [beq_eq_false_iff_ne]; exact e6
  have g7 : (k == 7) = false := by rw [beq_eq_false_iff_ne]; exact e7
  have g8 : (k == 8) = false := by rw [beq_eq_false_iff_ne]; exact e8
  have g9 : (k == 9) = false := by rw [beq_eq_false_iff_ne]; exact e9
  have g10 : (k == 10) = false := by rw [beq_eq_false_iff_ne]; exact e10
  have g11 : (k == 11) = false := by rw [beq_eq_false_iff_ne]; exact e11
  have g12 : (k == 12) = false := by rw [beq_eq_false_iff_ne]; exact e12
  have g13 : (k == 13) = false := by rw [beq_eq_false_iff_ne]; exact e13
  have hk : isK k = false := by rw [isK, decide_eq_false_iff_not]; omega
  have hv : hasV k fn = [.bool false, .bool false, .bool false, .bool false, .bool false, .bool false, .bool false, .bool false, .bool false, .int .i64 0] := by
    have t : ¬ (4 ≤ k ∧ k ≤ 8) := by omega
    simp [hasV, hasNum, hk, t, e1, e3, e4, e5, e6, e7, e8, e11, e12]
  have HV := Lib.hid hv; have HK := Lib.hid hk; clear hv hk
  go_enter Tryz.func22, Tryz.ntmps22
  go_wp2_with fail
  exact bodyPost_ret (v := .tuple #[.agg #[.bool false, .bool false, .bool false, .bool false, .bool false, .bool false, .bool false, .bool false, .bool false, .int .i64 0], .bool false]) (by simp [results, Tryz.results22, go_sem]) rfl ⟨by rw [HV.out, HK.out], ((Below.refl _ _).alloc (Nat.le_refl _) _).alloc (by simp) _⟩
end Go.Proofs.YtnbgigdloehbjaaGreatDoor.Ir
