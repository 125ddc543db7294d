/-
  Operators and functions on values: what they tell, as a plain function of words of 64 bits; a NaN's bits, which the language leaves open, are made one.
-/
import Derived.Test.YtdmmmdnfofoefaaGreatDoorFlC
namespace Go.Proofs.YtdmmmdnfofoefaaGreatDoor.Fl
open Go Go.RowKit
set_option maxHeartbeats 4000000
set_option maxRecDepth 100000

/-- What an operation gives, all NaNs as one. -/
def arith (op : BinOp) (a b : Nat) : Nat := match floatBits op .f64 a b with
  | some r => canon r
  | none => nz
def isArith : BinOp → Bool
  | .add | .sub | .mul | .quo => true
  | _ => false
theorem nan_cut (x y : Nat) (t : Nat) : nan ((Question.nanBits .f64 x y).cut t) = true := by
  unfold nan mag
  rw [decide_eq_true_iff]
  show infR < ((t % 2) * 2 ^ 63 + 0x7ff0000000000000 + 1 + (t / 2) % (2 ^ 52 - 1)) % two63
  have h : (t / 2) % (2 ^ 52 - 1) < 2 ^ 52 - 1 := Nat.mod_lt _ (by decide)
  generalize (t / 2) % (2 ^ 52 - 1) = m at h ⊢
  unfold infR two63
  have ht : t % 2 = 0 ∨ t % 2 = 1 := by omega
  rcases ht with ht | ht <;> rw [ht] <;> omega
theorem run_arith {op : BinOp} (ho : isArith op = true) (P : Program) (t : TypeId) (a b : Nat) (w : World) :
    ∃ r n, (binOp op t (.float .f64 a) (.float .f64 b)).run P w = .ok (.float .f64 r) (w.drewN n) ∧ canon r = arith op a b := by
  cases h : floatBits op .f64 a b with
  | some r => exact ⟨r, 0, run_float_arith w op t .f64 a b r h, by unfold arith; rw [h]⟩
  | none =>
    refine ⟨(Question.nanBits .f64 a b).cut (w.tape w.drawn (.nanBits .f64 a b)), 1, ?_, ?_⟩
    · unfold floatBits at h
      cases op <;> first | (cases ho; done) | skip
      all_goals simp only at h
      all_goals simp only [binOp, Op.floatArith, h]
      all_goals simp
      all_goals rfl
    · unfold arith
      rw [h]
      exact canon_of_nan (nan_cut _ _ _)
theorem read_isNaN {x : Nat} (h : nan x = true) : ∃ s f, (FloatKind.f64.format.read x) = .nan s f := by
  unfold nan at h
  exact ⟨_, _, read_nan (of_decide_eq_true h)⟩
theorem add_nan_l {a : Nat} (b : Nat) (h : nan a = true) : floatBits .add .f64 a b = none := by
  obtain ⟨s, f, e⟩ := read_isNaN h
  show (((FloatKind.f64.format.read a).sum (FloatKind.f64.format.read b)).map _) = none
  rw [e]; rfl
theorem add_nan_r (a : Nat) {b : Nat} (h : nan b = true) : floatBits .add .f64 a b = none := by
  obtain ⟨s, f, e⟩ := read_isNaN h
  show (((FloatKind.f64.format.read a).sum (FloatKind.f64.format.read b)).map _) = none
  rw [e]
  cases FloatKind.f64.format.read a <;> rfl
def one : Nat := 4607182418800017408
def mone : Nat := 13830554455654793216
theorem one_num : nan one = false := by decide +kernel
theorem mone_num : nan mone = false := by decide +kernel
def opV (op : Int) (a b : Nat) : Nat :=
  if op = 1 then arith .add a b else if op = 2 then arith .sub a b else if op = 3 then arith .mul a b else if op = 4 then arith .quo a b
  else if cmpB op (ordO a b) then one else 0
def opOk (op : Int) : Bool := decide (1 ≤ op) && decide (op ≤ 10)
/-- A call that reads alone, and may draw. -/
def Reads (v : Value) (w : World) (e : Ending) (w' : World) : Prop := e = .returned v ∧ ∃ n, w' = w.drewN n
theorem op_calls (op : Int) (a b : Nat) (w : World) : Calls Tryz.prog 15 #[.int .i64 op, .float .f64 a, .float .f64 b] w (Reads (.tuple #[.float .f64 (opV op a b), .bool (opOk op)]) w) := by
  by_cases h1 : op = 1
  · subst h1
    obtain ⟨r, n, hr, hc⟩ := run_arith (op := .add) rfl Tryz.prog 24 a b w
    have HC := Lib.hid hc
    clear hc
    go_enter Tryz.func15, Tryz.ntmps15
    go_wp2_with (refine (canon_calls _ _).mono ?_; rintro e w' ⟨rfl, rfl⟩)
    go_ret2
    exact ⟨by rw [HC.out]; rfl, n, rfl⟩
  by_cases h2 : op = 2
  · subst h2
    obtain ⟨r, n, hr, hc⟩ := run_arith (op := .sub) rfl Tryz.prog 24 a b w
    have HC := Lib.hid hc
    clear hc
    go_enter Tryz.func15, Tryz.ntmps15
    go_wp2_with (refine (canon_calls _ _).mono ?_; rintro e w' ⟨rfl, rfl⟩)
    go_ret2
    exact ⟨by rw [HC.out]; rfl, n, rfl⟩
  by_cases h3 : op = 3
  · subst h3
    obtain ⟨r, n, hr, hc⟩ := run_arith (op := .mul) rfl Tryz.prog 24 a b w
    have HC := Lib.hid hc
    clear hc
    go_enter Tryz.func15, Tryz.ntmps15
    go_wp2_with (refine (canon_calls _ _).mono ?_; rintro e w' ⟨rfl, rfl⟩)
    go_ret2
    exact ⟨by rw [HC.out]; rfl, n, rfl⟩
  by_cases h4 : op = 4
  · subst h4
    obtain ⟨r, n, hr, hc⟩ := run_arith (op := .quo) rfl Tryz.prog 24 a b w
    have HC := Lib.hid hc
    clear hc
    go_enter Tryz.func15, Tryz.ntmps15
    go_wp2_with (refine (canon_calls _ _).mono ?_; rintro e w' ⟨rfl, rfl⟩)
    go_ret2
    exact ⟨by rw [HC.out]; rfl, n, rfl⟩
  have b1 : (op == 1) = false := beq_eq_false_iff_ne.2 h1
  have b2 : (op == 2) = false := beq_eq_false_iff_ne.2 h2
  have b3 : (op == 3) = false := beq_eq_false_iff_ne.2 h3
  have b4 : (op == 4) = false := beq_eq_false_iff_ne.2 h4
  have hv : opV op a b = if cmpB op (ordO a b) then one else 0 := by unfold opV; rw [if_neg h1, if_neg h2, if_neg h3, if_neg h4]
  by_cases hr : 5 ≤ op ∧ op ≤ 10
  · have hok : opOk op = true := by unfold opOk; rw [decide_eq_true (by omega), decide_eq_true hr.2]; rfl
    rw [hok]
    have l1 : decide (op < 5) = false := decide_eq_false (by omega)
    have l2 : decide (10 < op) = false := decide_eq_false (by omega)
    cases hc : cmpB op (ordO a b)
    · rw [hv, hc]
      have HC := Lib.hid hc
      clear hc hv hok h1 h2 h3 h4 hr
      go_enter Tryz.func15, Tryz.ntmps15
      go_wp2_with (refine (holds_calls _ _ _ _).mono ?_; rw [HC.out]; rintro e w' ⟨rfl, rfl⟩)
      go_ret2
      exact ⟨rfl, 0, rfl⟩
    · rw [hv, hc]
      have HC := Lib.hid hc
      clear hc hv hok h1 h2 h3 h4 hr
      go_enter Tryz.func15, Tryz.ntmps15
      go_wp2_with (refine (holds_calls _ _ _ _).mono ?_; rw [HC.out]; rintro e w' ⟨rfl, rfl⟩)
      go_ret2
      exact ⟨rfl, 0, rfl⟩
  · have hok : opOk op = false := by
      unfold opOk
      by_cases q : 1 ≤ op
      · rw [decide_eq_false (by omega : ¬ op ≤ 10), Bool.and_false]
      · rw [decide_eq_false q, Bool.false_and]
    have hc : cmpB op (ordO a b) = false := by
      unfold cmpB
      rw [if_neg (by omega), if_neg (by omega), if_neg (by omega), if_neg (by omega), if_neg (by omega), if_neg (by omega)]
    rw [hok, hv, hc]
    clear hc hv hok
    by_cases l : op < 5
    · have l1 : decide (op < 5) = true := decide_eq_true l
      clear h1 h2 h3 h4 hr l
      go_enter Tryz.func15, Tryz.ntmps15
      go_wp2
      go_ret2
      exact ⟨rfl, 0, rfl⟩
    · have l1 : decide (op < 5) = false := decide_eq_false l
      have l2 : decide (10 < op) = true := decide_eq_true (by omega)
      clear h1 h2 h3 h4 hr l
      go_enter Tryz.func15, Tryz.ntmps15
      go_wp2
      go_ret2
      exact ⟨rfl, 0, rfl⟩
theorem rop_calls (op : Int) (a b : Nat) (w : World) : Calls Tryz.prog 20 #[.int .i64 op, .float .f64 a, .float .f64 b] w (Reads (.tuple #[.float .f64 (opV op a b), .bool (opOk op)]) w) := by
  by_cases h1 : op = 1
  · subst h1
    obtain ⟨r, n, hr, hc⟩ := run_arith (op := .add) rfl Tryz.prog 24 a b w
    have HC := Lib.hid hc
    clear hc
    go_enter Tryz.func20, Tryz.ntmps20
    go_wp2_with (refine (rcanon_calls _ _).mono ?_; rintro e w' ⟨rfl, rfl⟩)
    go_ret2
    exact ⟨by rw [HC.out]; rfl, n, rfl⟩
  by_cases h2 : op = 2
  · subst h2
    obtain ⟨r, n, hr, hc⟩ := run_arith (op := .sub) rfl Tryz.prog 24 a b w
    have HC := Lib.hid hc
    clear hc
    go_enter Tryz.func20, Tryz.ntmps20
    go_wp2_with (refine (rcanon_calls _ _).mono ?_; rintro e w' ⟨rfl, rfl⟩)
    go_ret2
    exact ⟨by rw [HC.out]; rfl, n, rfl⟩
  by_cases h3 : op = 3
  · subst h3
    obtain ⟨r, n, hr, hc⟩ := run_arith (op := .mul) rfl Tryz.prog 24 a b w
    have HC := Lib.hid hc
    clear hc
    go_enter Tryz.func20, Tryz.ntmps20
    go_wp2_with (refine (rcanon_calls _ _).mono ?_; rintro e w' ⟨rfl, rfl⟩)
    go_ret2
    exact ⟨by rw [HC.out]; rfl, n, rfl⟩
  by_cases h4 : op = 4
  · subst h4
    obtain ⟨r, n, hr, hc⟩ := run_arith (op := .quo) rfl Tryz.prog 24 a b w
    have HC := Lib.hid hc
    clear hc
    go_enter Tryz.func20, Tryz.ntmps20
    go_wp2_with (refine (rcanon_calls _ _).mono ?_; rintro e w' ⟨rfl, rfl⟩)
    go_ret2
    exact ⟨by rw [HC.out]; rfl, n, rfl⟩
  have b1 : (op == 1) = false := beq_eq_false_iff_ne.2 h1
  have b2 : (op == 2) = false := beq_eq_false_iff_ne.2 h2
  have b3 : (op == 3) = false := beq_eq_false_iff_ne.2 h3
  have b4 : (op == 4) = false := beq_eq_false_iff_ne.2 h4
  have hv : opV op a b = if cmpB op (ordO a b) then one else 0 := by unfold opV; rw [if_neg h1, if_neg h2, if_neg h3, if_neg h4]
  by_cases hr : 5 ≤ op ∧ op ≤ 10
  · have hok : opOk op = true := by unfold opOk; rw [decide_eq_true (by omega), decide_eq_true hr.2]; rfl
    rw [hok]
    have l1 : decide (op < 5) = false := decide_eq_false (by omega)
    have l2 : decide (10 < op) = false := decide_eq_false (by omega)
    cases hc : cmpB op (ordO a b)
    · rw [hv, hc]
      have HC := Lib.hid hc
      clear hc hv hok h1 h2 h3 h4 hr
      go_enter Tryz.func20, Tryz.ntmps20
      go_wp2_with (refine (rholds_calls _ _ _ _).mono ?_; rw [HC.out]; rintro e w' ⟨rfl, rfl⟩)
      go_ret2
      exact ⟨rfl, 0, rfl⟩
    · rw [hv, hc]
      have HC := Lib.hid hc
      clear hc hv hok h1 h2 h3 h4 hr
      go_enter Tryz.func20, Tryz.ntmps20
      go_wp2_with (refine (rholds_calls _ _ _ _).mono ?_; rw [HC.out]; rintro e w' ⟨rfl, rfl⟩)
      go_ret2
      exact ⟨rfl, 0, rfl⟩
  · have hok : opOk op = false := by
      unfold opOk
      by_cases q : 1 ≤ op
      · rw [decide_eq_false (by omega : ¬ op ≤ 10), Bool.and_false]
      · rw [decide_eq_false q, Bool.false_and]
    have hc : cmpB op (ordO a b) = false := by
      unfold cmpB
      rw [if_neg (by omega), if_neg (by omega), if_neg (by omega), if_neg (by omega), if_neg (by omega), if_neg (by omega)]
    rw [hok, hv, hc]
    clear hc hv hok
    by_cases l : op < 5
    · have l1 : decide (op < 5) = true := decide_eq_true l
      clear h1 h2 h3 h4 hr l
      go_enter Tryz.func20, Tryz.ntmps20
      go_wp2
      go_ret2
      exact ⟨rfl, 0, rfl⟩
    · have l1 : decide (op < 5) = false := decide_eq_false l
      have l2 : decide (10 < op) = true := decide_eq_true (by omega)
      clear h1 h2 h3 h4 hr l
      go_enter Tryz.func20, Tryz.ntmps20
      go_wp2
      go_ret2
      exact ⟨rfl, 0, rfl⟩
end Go.Proofs.YtdmmmdnfofoefaaGreatDoor.Fl
