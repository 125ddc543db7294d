/-
  The statement FvalSigns: its walk.
-/
import Derived.Test.YtdmmmdnfofoefaaGreatDoorFlK
import Derived.Test.YtdmmmdnfofoefaaGreatDoorFlQ
namespace Go.Proofs.YtdmmmdnfofoefaaGreatDoor.Fl
open Go Go.RowKit
set_option maxHeartbeats 16000000
set_option maxRecDepth 100000
set_option linter.unusedVariables false

theorem lt_t {x y : Nat} (hx : nan x = false) (hy : nan y = false) (h : key x < key y) : (FloatKind.f64.format.order x y == some .lt) = true := by rw [ord_lt hx hy h]; rfl
theorem lt_f {x y : Nat} (hx : nan x = false) (hy : nan y = false) (h : ¬ key x < key y) : (FloatKind.f64.format.order x y == some .lt) = false := by
  rcases Int.lt_trichotomy (key x) (key y) with l | l | l
  · exact absurd l h
  · rw [ord_eq hx hy l]; rfl
  · rw [ord_gt hx hy l]; rfl
theorem gt_t {x y : Nat} (hx : nan x = false) (hy : nan y = false) (h : key y < key x) : (FloatKind.f64.format.order x y == some .gt) = true := by rw [ord_gt hx hy h]; rfl
theorem gt_f {x y : Nat} (hx : nan x = false) (hy : nan y = false) (h : ¬ key y < key x) : (FloatKind.f64.format.order x y == some .gt) = false := by
  rcases Int.lt_trichotomy (key x) (key y) with l | l | l
  · rw [ord_lt hx hy l]; rfl
  · rw [ord_eq hx hy l]; rfl
  · exact absurd l h
theorem ge_t {x y : Nat} (hx : nan x = false) (hy : nan y = false) (h : key y ≤ key x) : (FloatKind.f64.format.order x y == some .gt || FloatKind.f64.format.order x y == some .eq) = true := by
  rcases Int.lt_trichotomy (key x) (key y) with l | l | l
  · omega
  · rw [ord_eq hx hy l]; rfl
  · rw [ord_gt hx hy l]; rfl
theorem le_t {x y : Nat} (hx : nan x = false) (hy : nan y = false) (h : key x ≤ key y) : (FloatKind.f64.format.order x y == some .lt || FloatKind.f64.format.order x y == some .eq) = true := by
  rcases Int.lt_trichotomy (key x) (key y) with l | l | l
  · rw [ord_lt hx hy l]; rfl
  · rw [ord_eq hx hy l]; rfl
  · omega
theorem key_mag (x : Nat) : key (mag x) = mag x := by
  unfold key
  have : sgn (mag x) = false := by
    unfold sgn
    have := mag_lt x
    rw [beq_eq_false_iff_ne, Nat.div_eq_of_lt this]; decide
  rw [this, mag_mag]; rfl
theorem key_neg {x : Nat} (hx : x < 18446744073709551616) : key (neg x) = - key x := by
  unfold key
  rw [mag_neg hx, sgn_neg hx]
  cases sgn x <;> simp
theorem key_le_mag (x : Nat) : key x ≤ mag x ∧ - key x ≤ mag x := by unfold key; split <;> omega
/-- What is told of a value's sign. -/
inductive SignIs (s : Nat) : Prop
  | pos (h1 : (FloatKind.f64.format.order s 4607182418800017408 == some .eq) = true)
  | neg (h1 : (FloatKind.f64.format.order s 4607182418800017408 == some .eq) = false) (h2 : (FloatKind.f64.format.order s 13830554455654793216 == some .eq) = true)
  | zero (h1 : (FloatKind.f64.format.order s 4607182418800017408 == some .eq) = false) (h2 : (FloatKind.f64.format.order s 13830554455654793216 == some .eq) = false) (h3 : (FloatKind.f64.format.order s 0 == some .eq) = true)
theorem sign_is {x : Nat} (nx : nan x = false) : SignIs (fnV 3 x 0) := by
  have e : fnV 3 x 0 = if nan x then nz else if 0 < key x then one else if key x < 0 then mone else x := rfl
  have k1 : key one = 4607182418800017408 := by decide +kernel
  have k2 : key mone = -4607182418800017408 := by decide +kernel
  rw [e, nx]
  rcases Int.lt_trichotomy (key x) 0 with l | l | l
  · rw [if_neg (by decide), if_neg (by omega), if_pos l]
    exact .neg (by decide +kernel) (by decide +kernel)
  · rw [if_neg (by decide), if_neg (by omega), if_neg (by omega)]
    have a1 := ord_lt nx one_num (by rw [l, k1]; decide)
    have a2 := ord_gt nx mone_num (by rw [l, k2]; decide)
    have a3 := ord_eq nx nan_0 (by rw [l, key_0])
    exact .zero (by rw [show (4607182418800017408 : Nat) = one from rfl, a1]; rfl) (by rw [show (13830554455654793216 : Nat) = mone from rfl, a2]; rfl) (by rw [a3]; rfl)
  · rw [if_neg (by decide), if_pos l]
    exact .pos (by decide +kernel)
theorem textNaN_calls (x : Nat) (h : nan x = true) (w : World) : Calls Tryz.prog 19 #[.float .f64 x] w fun e w' => e = .returned (.string ⟨#[78, 97, 78]⟩) ∧ w = w' := by
  have o1 := ord_nl x h
  go_enter Tryz.func19, Tryz.ntmps19
  go_wp2
  go_ret
  exact ⟨rfl, rfl⟩
theorem signs_pos_b (x lo hi : Nat) (HX : Hid (x < 18446744073709551616)) (hlo : lo < 18446744073709551616) (W : World) (HK : Hid (Calls Tryz.prog 8 #[] W (LawPost W))) (nx : nan x = false) (s : Nat) (HS : Hid (fnV 3 x 0 = s)) (e1 : (FloatKind.f64.format.order s 4607182418800017408 == some .eq) = true) (nlo : nan lo = false) (nhi : nan hi = false) (ol : FloatKind.f64.format.order lo lo = some .eq) (oh : FloatKind.f64.format.order hi hi = some .eq) (hlh : ¬ key hi < key lo) (g1 : (FloatKind.f64.format.order lo hi == some .gt) = false) (h1 : key x < key lo) : Calls Tryz.prog 6 #[.int .u64 x, .int .u64 lo, .int .u64 hi] W (LawPost W) := by
  have hf := run_frombits
  have hx := HX.out
  have HP := Lib.hid (show fnV 1 x 0 = mag x from canon_of_num ((nan_mag x).trans nx))
  have HN := Lib.hid (show fnV 2 x 0 = neg x from canon_of_num ((nan_neg hx).trans nx))
  have HM := Lib.hid (show fnV 2 (neg x) 0 = x by show canon (neg (neg x)) = x; rw [neg_neg hx]; exact canon_of_num nx)
  have HQ := Lib.hid (show fnV 1 (neg x) 0 = mag x by show canon (mag (neg x)) = mag x; rw [mag_neg hx]; exact canon_of_num ((nan_mag x).trans nx))
  have HNX := Lib.hid (neg_lt hx)
  have s1 := same_refl x
  have s2 := same_refl (mag x)
  have nm : nan (mag x) = false := (nan_mag x).trans nx
  have nn : nan (neg x) = false := (nan_neg hx).trans nx
  have ox := ord_eq nx nx rfl
  have p1 := lt_f nm nx (by rw [key_mag]; have := key_le_mag x; omega)
  have p2 := lt_f nm nn (by rw [key_mag, key_neg hx]; have := key_le_mag x; omega)
  clear nm nn hx
  have HC := Lib.hid (show fnV 4 x lo = lo by unfold fnV; rw [nx, nlo]; simp [h1])
  have HD := Lib.hid (show fnV 5 lo hi = lo by unfold fnV; rw [nlo, nhi]; simp [hlh])
  have HCL := Lib.hid hlo
  have g2 := ge_t nlo nlo (Int.le_refl _)
  have g3 := le_t nlo nhi (by omega)
  have g4 := lt_t nx nlo h1
  clear h1 hlh
  go_enter Tryz.func6, Tryz.ntmps6
  go_wp2_with fail
  refine HK.out.mono ?_
  rintro e W1 ⟨rfl, hb⟩
  have HB := Lib.hid hb
  clear hb
  go_wp2_with fail
  ((with_reducible refine (fn_calls 1 x 0 HX.out _).mono ?_); rw [HP.out]; rintro e w' ⟨rfl, n1, rfl⟩)
  go_wp2_with fail
  ((with_reducible refine (fn_calls 2 x 0 HX.out _).mono ?_); rw [HN.out]; rintro e w' ⟨rfl, n2, rfl⟩)
  go_wp2_with fail
  ((with_reducible refine (fn_calls 2 (neg x) 0 HNX.out _).mono ?_); rw [HM.out]; rintro e w' ⟨rfl, n3, rfl⟩)
  go_wp2_with fail
  ((with_reducible refine (fn_calls 1 (neg x) 0 HNX.out _).mono ?_); rw [HQ.out]; rintro e w' ⟨rfl, n4, rfl⟩)
  go_wp2_with fail
  ((with_reducible refine (fn_calls 3 x 0 HX.out _).mono ?_); rw [HS.out]; rintro e w' ⟨rfl, n5, rfl⟩)
  go_wp2_with fail
  ((with_reducible refine (same_calls x x _).mono ?_); rw [s1]; rintro e w' ⟨rfl, rfl⟩)
  go_wp2_with fail
  ((with_reducible refine (same_calls (mag x) (mag x) _).mono ?_); rw [s2]; rintro e w' ⟨rfl, rfl⟩)
  go_wp2_with fail
  ((with_reducible refine (fn_calls 4 x lo HX.out _).mono ?_); rw [HC.out]; rintro e w' ⟨rfl, n6, rfl⟩)
  go_wp2_with fail
  ((with_reducible refine (fn_calls 5 lo hi HCL.out _).mono ?_); rw [HD.out]; rintro e w' ⟨rfl, n7, rfl⟩)
  go_wp2_with fail
  go_ret
  exact ⟨rfl, below_drewN HB.out _⟩
theorem signs_pos_c (x lo hi : Nat) (HX : Hid (x < 18446744073709551616)) (hlo : lo < 18446744073709551616) (W : World) (HK : Hid (Calls Tryz.prog 8 #[] W (LawPost W))) (nx : nan x = false) (s : Nat) (HS : Hid (fnV 3 x 0 = s)) (e1 : (FloatKind.f64.format.order s 4607182418800017408 == some .eq) = true) (nlo : nan lo = false) (nhi : nan hi = false) (ol : FloatKind.f64.format.order lo lo = some .eq) (oh : FloatKind.f64.format.order hi hi = some .eq) (hlh : ¬ key hi < key lo) (g1 : (FloatKind.f64.format.order lo hi == some .gt) = false) (h1 : ¬ key x < key lo) (h2 : key hi < key x) : Calls Tryz.prog 6 #[.int .u64 x, .int .u64 lo, .int .u64 hi] W (LawPost W) := by
  have hf := run_frombits
  have hx := HX.out
  have HP := Lib.hid (show fnV 1 x 0 = mag x from canon_of_num ((nan_mag x).trans nx))
  have HN := Lib.hid (show fnV 2 x 0 = neg x from canon_of_num ((nan_neg hx).trans nx))
  have HM := Lib.hid (show fnV 2 (neg x) 0 = x by show canon (neg (neg x)) = x; rw [neg_neg hx]; exact canon_of_num nx)
  have HQ := Lib.hid (show fnV 1 (neg x) 0 = mag x by show canon (mag (neg x)) = mag x; rw [mag_neg hx]; exact canon_of_num ((nan_mag x).trans nx))
  have HNX := Lib.hid (neg_lt hx)
  have s1 := same_refl x
  have s2 := same_refl (mag x)
  have nm : nan (mag x) = false := (nan_mag x).trans nx
  have nn : nan (neg x) = false := (nan_neg hx).trans nx
  have ox := ord_eq nx nx rfl
  have p1 := lt_f nm nx (by rw [key_mag]; have := key_le_mag x; omega)
  have p2 := lt_f nm nn (by rw [key_mag, key_neg hx]; have := key_le_mag x; omega)
  clear nm nn hx
  have HC := Lib.hid (show fnV 4 x lo = x by unfold fnV; rw [nx, nlo]; simp [h1])
  have HD := Lib.hid (show fnV 5 x hi = hi by unfold fnV; rw [nx, nhi]; simp [h2])
  have HCL := Lib.hid HX.out
  have g2 := ge_t nhi nlo (by omega)
  have g3 := le_t nhi nhi (Int.le_refl _)
  have g4 := lt_f nx nlo h1
  have g5 := gt_t nx nhi h2
  clear h1 h2 hlh
  go_enter Tryz.func6, Tryz.ntmps6
  go_wp2_with fail
  refine HK.out.mono ?_
  rintro e W1 ⟨rfl, hb⟩
  have HB := Lib.hid hb
  clear hb
  go_wp2_with fail
  ((with_reducible refine (fn_calls 1 x 0 HX.out _).mono ?_); rw [HP.out]; rintro e w' ⟨rfl, n1, rfl⟩)
  go_wp2_with fail
  ((with_reducible refine (fn_calls 2 x 0 HX.out _).mono ?_); rw [HN.out]; rintro e w' ⟨rfl, n2, rfl⟩)
  go_wp2_with fail
  ((with_reducible refine (fn_calls 2 (neg x) 0 HNX.out _).mono ?_); rw [HM.out]; rintro e w' ⟨rfl, n3, rfl⟩)
  go_wp2_with fail
  ((with_reducible refine (fn_calls 1 (neg x) 0 HNX.out _).mono ?_); rw [HQ.out]; rintro e w' ⟨rfl, n4, rfl⟩)
  go_wp2_with fail
  ((with_reducible refine (fn_calls 3 x 0 HX.out _).mono ?_); rw [HS.out]; rintro e w' ⟨rfl, n5, rfl⟩)
  go_wp2_with fail
  ((with_reducible refine (same_calls x x _).mono ?_); rw [s1]; rintro e w' ⟨rfl, rfl⟩)
  go_wp2_with fail
  ((with_reducible refine (same_calls (mag x) (mag x) _).mono ?_); rw [s2]; rintro e w' ⟨rfl, rfl⟩)
  go_wp2_with fail
  ((with_reducible refine (fn_calls 4 x lo HX.out _).mono ?_); rw [HC.out]; rintro e w' ⟨rfl, n6, rfl⟩)
  go_wp2_with fail
  ((with_reducible refine (fn_calls 5 x hi HCL.out _).mono ?_); rw [HD.out]; rintro e w' ⟨rfl, n7, rfl⟩)
  go_wp2_with fail
  go_ret
  exact ⟨rfl, below_drewN HB.out _⟩
theorem signs_pos_d (x lo hi : Nat) (HX : Hid (x < 18446744073709551616)) (hlo : lo < 18446744073709551616) (W : World) (HK : Hid (Calls Tryz.prog 8 #[] W (LawPost W))) (nx : nan x = false) (s : Nat) (HS : Hid (fnV 3 x 0 = s)) (e1 : (FloatKind.f64.format.order s 4607182418800017408 == some .eq) = true) (nlo : nan lo = false) (nhi : nan hi = false) (ol : FloatKind.f64.format.order lo lo = some .eq) (oh : FloatKind.f64.format.order hi hi = some .eq) (hlh : ¬ key hi < key lo) (g1 : (FloatKind.f64.format.order lo hi == some .gt) = false) (h1 : ¬ key x < key lo) (h2 : ¬ key hi < key x) : Calls Tryz.prog 6 #[.int .u64 x, .int .u64 lo, .int .u64 hi] W (LawPost W) := by
  have hf := run_frombits
  have hx := HX.out
  have HP := Lib.hid (show fnV 1 x 0 = mag x from canon_of_num ((nan_mag x).trans nx))
  have HN := Lib.hid (show fnV 2 x 0 = neg x from canon_of_num ((nan_neg hx).trans nx))
  have HM := Lib.hid (show fnV 2 (neg x) 0 = x by show canon (neg (neg x)) = x; rw [neg_neg hx]; exact canon_of_num nx)
  have HQ := Lib.hid (show fnV 1 (neg x) 0 = mag x by show canon (mag (neg x)) = mag x; rw [mag_neg hx]; exact canon_of_num ((nan_mag x).trans nx))
  have HNX := Lib.hid (neg_lt hx)
  have s1 := same_refl x
  have s2 := same_refl (mag x)
  have nm : nan (mag x) = false := (nan_mag x).trans nx
  have nn : nan (neg x) = false := (nan_neg hx).trans nx
  have ox := ord_eq nx nx rfl
  have p1 := lt_f nm nx (by rw [key_mag]; have := key_le_mag x; omega)
  have p2 := lt_f nm nn (by rw [key_mag, key_neg hx]; have := key_le_mag x; omega)
  clear nm nn hx
  have HC := Lib.hid (show fnV 4 x lo = x by unfold fnV; rw [nx, nlo]; simp [h1])
  have HD := Lib.hid (show fnV 5 x hi = x by unfold fnV; rw [nx, nhi]; simp [h2])
  have HCL := Lib.hid HX.out
  have g2 := ge_t nx nlo (by omega)
  have g3 := le_t nx nhi (by omega)
  have g4 := lt_f nx nlo h1
  have g5 := gt_f nx nhi h2
  clear h1 h2 hlh
  go_enter Tryz.func6, Tryz.ntmps6
  go_wp2_with fail
  refine HK.out.mono ?_
  rintro e W1 ⟨rfl, hb⟩
  have HB := Lib.hid hb
  clear hb
  go_wp2_with fail
  ((with_reducible refine (fn_calls 1 x 0 HX.out _).mono ?_); rw [HP.out]; rintro e w' ⟨rfl, n1, rfl⟩)
  go_wp2_with fail
  ((with_reducible refine (fn_calls 2 x 0 HX.out _).mono ?_); rw [HN.out]; rintro e w' ⟨rfl, n2, rfl⟩)
  go_wp2_with fail
  ((with_reducible refine (fn_calls 2 (neg x) 0 HNX.out _).mono ?_); rw [HM.out]; rintro e w' ⟨rfl, n3, rfl⟩)
  go_wp2_with fail
  ((with_reducible refine (fn_calls 1 (neg x) 0 HNX.out _).mono ?_); rw [HQ.out]; rintro e w' ⟨rfl, n4, rfl⟩)
  go_wp2_with fail
  ((with_reducible refine (fn_calls 3 x 0 HX.out _).mono ?_); rw [HS.out]; rintro e w' ⟨rfl, n5, rfl⟩)
  go_wp2_with fail
  ((with_reducible refine (same_calls x x _).mono ?_); rw [s1]; rintro e w' ⟨rfl, rfl⟩)
  go_wp2_with fail
  ((with_reducible refine (same_calls (mag x) (mag x) _).mono ?_); rw [s2]; rintro e w' ⟨rfl, rfl⟩)
  go_wp2_with fail
  ((with_reducible refine (fn_calls 4 x lo HX.out _).mono ?_); rw [HC.out]; rintro e w' ⟨rfl, n6, rfl⟩)
  go_wp2_with fail
  ((with_reducible refine (fn_calls 5 x hi HCL.out _).mono ?_); rw [HD.out]; rintro e w' ⟨rfl, n7, rfl⟩)
  go_wp2_with fail
  ((with_reducible refine (same_calls x x _).mono ?_); rw [s1]; rintro e w' ⟨rfl, rfl⟩)
  go_wp2_with fail
  go_ret
  exact ⟨rfl, below_drewN HB.out _⟩
theorem signs_pos (x lo hi : Nat) (HX : Hid (x < 18446744073709551616)) (hlo : lo < 18446744073709551616) (W : World) (HK : Hid (Calls Tryz.prog 8 #[] W (LawPost W))) (nx : nan x = false) (s : Nat) (HS : Hid (fnV 3 x 0 = s)) (e1 : (FloatKind.f64.format.order s 4607182418800017408 == some .eq) = true) : Calls Tryz.prog 6 #[.int .u64 x, .int .u64 lo, .int .u64 hi] W (LawPost W) := by
  have hf := run_frombits
  have hx := HX.out
  have HP := Lib.hid (show fnV 1 x 0 = mag x from canon_of_num ((nan_mag x).trans nx))
  have HN := Lib.hid (show fnV 2 x 0 = neg x from canon_of_num ((nan_neg hx).trans nx))
  have HM := Lib.hid (show fnV 2 (neg x) 0 = x by show canon (neg (neg x)) = x; rw [neg_neg hx]; exact canon_of_num nx)
  have HQ := Lib.hid (show fnV 1 (neg x) 0 = mag x by show canon (mag (neg x)) = mag x; rw [mag_neg hx]; exact canon_of_num ((nan_mag x).trans nx))
  have HNX := Lib.hid (neg_lt hx)
  have s1 := same_refl x
  have s2 := same_refl (mag x)
  have nm : nan (mag x) = false := (nan_mag x).trans nx
  have nn : nan (neg x) = false := (nan_neg hx).trans nx
  have ox := ord_eq nx nx rfl
  have p1 := lt_f nm nx (by rw [key_mag]; have := key_le_mag x; omega)
  have p2 := lt_f nm nn (by rw [key_mag, key_neg hx]; have := key_le_mag x; omega)
  clear nm nn hx
  by_cases nlo : nan lo = true
  · have ol := ord_nl lo nlo
    go_enter Tryz.func6, Tryz.ntmps6
    go_wp2_with fail
    refine HK.out.mono ?_
    rintro e W1 ⟨rfl, hb⟩
    have HB := Lib.hid hb
    clear hb
    go_wp2_with fail
    ((with_reducible refine (fn_calls 1 x 0 HX.out _).mono ?_); rw [HP.out]; rintro e w' ⟨rfl, n1, rfl⟩)
    go_wp2_with fail
    ((with_reducible refine (fn_calls 2 x 0 HX.out _).mono ?_); rw [HN.out]; rintro e w' ⟨rfl, n2, rfl⟩)
    go_wp2_with fail
    ((with_reducible refine (fn_calls 2 (neg x) 0 HNX.out _).mono ?_); rw [HM.out]; rintro e w' ⟨rfl, n3, rfl⟩)
    go_wp2_with fail
    ((with_reducible refine (fn_calls 1 (neg x) 0 HNX.out _).mono ?_); rw [HQ.out]; rintro e w' ⟨rfl, n4, rfl⟩)
    go_wp2_with fail
    ((with_reducible refine (fn_calls 3 x 0 HX.out _).mono ?_); rw [HS.out]; rintro e w' ⟨rfl, n5, rfl⟩)
    go_wp2_with fail
    ((with_reducible refine (same_calls x x _).mono ?_); rw [s1]; rintro e w' ⟨rfl, rfl⟩)
    go_wp2_with fail
    ((with_reducible refine (same_calls (mag x) (mag x) _).mono ?_); rw [s2]; rintro e w' ⟨rfl, rfl⟩)
    go_wp2_with fail
    go_ret
    exact ⟨rfl, below_drewN HB.out _⟩
  replace nlo : nan lo = false := by simpa using nlo
  have ol := ord_eq nlo nlo rfl
  by_cases nhi : nan hi = true
  · have oh := ord_nl hi nhi
    go_enter Tryz.func6, Tryz.ntmps6
    go_wp2_with fail
    refine HK.out.mono ?_
    rintro e W1 ⟨rfl, hb⟩
    have HB := Lib.hid hb
    clear hb
    go_wp2_with fail
    ((with_reducible refine (fn_calls 1 x 0 HX.out _).mono ?_); rw [HP.out]; rintro e w' ⟨rfl, n1, rfl⟩)
    go_wp2_with fail
    ((with_reducible refine (fn_calls 2 x 0 HX.out _).mono ?_); rw [HN.out]; rintro e w' ⟨rfl, n2, rfl⟩)
    go_wp2_with fail
    ((with_reducible refine (fn_calls 2 (neg x) 0 HNX.out _).mono ?_); rw [HM.out]; rintro e w' ⟨rfl, n3, rfl⟩)
    go_wp2_with fail
    ((with_reducible refine (fn_calls 1 (neg x) 0 HNX.out _).mono ?_); rw [HQ.out]; rintro e w' ⟨rfl, n4, rfl⟩)
    go_wp2_with fail
    ((with_reducible refine (fn_calls 3 x 0 HX.out _).mono ?_); rw [HS.out]; rintro e w' ⟨rfl, n5, rfl⟩)
    go_wp2_with fail
    ((with_reducible refine (same_calls x x _).mono ?_); rw [s1]; rintro e w' ⟨rfl, rfl⟩)
    go_wp2_with fail
    ((with_reducible refine (same_calls (mag x) (mag x) _).mono ?_); rw [s2]; rintro e w' ⟨rfl, rfl⟩)
    go_wp2_with fail
    go_ret
    exact ⟨rfl, below_drewN HB.out _⟩
  replace nhi : nan hi = false := by simpa using nhi
  have oh := ord_eq nhi nhi rfl
  by_cases hlh : key hi < key lo
  · have g1 := gt_t nlo nhi hlh
    clear hlh
    go_enter Tryz.func6, Tryz.ntmps6
    go_wp2_with fail
    refine HK.out.mono ?_
    rintro e W1 ⟨rfl, hb⟩
    have HB := Lib.hid hb
    clear hb
    go_wp2_with fail
    ((with_reducible refine (fn_calls 1 x 0 HX.out _).mono ?_); rw [HP.out]; rintro e w' ⟨rfl, n1, rfl⟩)
    go_wp2_with fail
    ((with_reducible refine (fn_calls 2 x 0 HX.out _).mono ?_); rw [HN.out]; rintro e w' ⟨rfl, n2, rfl⟩)
    go_wp2_with fail
    ((with_reducible refine (fn_calls 2 (neg x) 0 HNX.out _).mono ?_); rw [HM.out]; rintro e w' ⟨rfl, n3, rfl⟩)
    go_wp2_with fail
    ((with_reducible refine (fn_calls 1 (neg x) 0 HNX.out _).mono ?_); rw [HQ.out]; rintro e w' ⟨rfl, n4, rfl⟩)
    go_wp2_with fail
    ((with_reducible refine (fn_calls 3 x 0 HX.out _).mono ?_); rw [HS.out]; rintro e w' ⟨rfl, n5, rfl⟩)
    go_wp2_with fail
    ((with_reducible refine (same_calls x x _).mono ?_); rw [s1]; rintro e w' ⟨rfl, rfl⟩)
    go_wp2_with fail
    ((with_reducible refine (same_calls (mag x) (mag x) _).mono ?_); rw [s2]; rintro e w' ⟨rfl, rfl⟩)
    go_wp2_with fail
    go_ret
    exact ⟨rfl, below_drewN HB.out _⟩
  have g1 := gt_f nlo nhi hlh
  by_cases h1 : key x < key lo
  · exact signs_pos_b x lo hi HX hlo W HK nx s HS e1 nlo nhi ol oh hlh g1 h1
  by_cases h2 : key hi < key x
  · exact signs_pos_c x lo hi HX hlo W HK nx s HS e1 nlo nhi ol oh hlh g1 h1 h2
  · exact signs_pos_d x lo hi HX hlo W HK nx s HS e1 nlo nhi ol oh hlh g1 h1 h2
theorem signs_neg_b (x lo hi : Nat) (HX : Hid (x < 18446744073709551616)) (hlo : lo < 18446744073709551616) (W : World) (HK : Hid (Calls Tryz.prog 8 #[] W (LawPost W))) (nx : nan x = false) (s : Nat) (HS : Hid (fnV 3 x 0 = s)) (e1 : (FloatKind.f64.format.order s 4607182418800017408 == some .eq) = false) (e2 : (FloatKind.f64.format.order s 13830554455654793216 == some .eq) = true) (nlo : nan lo = false) (nhi : nan hi = false) (ol : FloatKind.f64.format.order lo lo = some .eq) (oh : FloatKind.f64.format.order hi hi = some .eq) (hlh : ¬ key hi < key lo) (g1 : (FloatKind.f64.format.order lo hi == some .gt) = false) (h1 : key x < key lo) : Calls Tryz.prog 6 #[.int .u64 x, .int .u64 lo, .int .u64 hi] W (LawPost W) := by
  have hf := run_frombits
  have hx := HX.out
  have HP := Lib.hid (show fnV 1 x 0 = mag x from canon_of_num ((nan_mag x).trans nx))
  have HN := Lib.hid (show fnV 2 x 0 = neg x from canon_of_num ((nan_neg hx).trans nx))
  have HM := Lib.hid (show fnV 2 (neg x) 0 = x by show canon (neg (neg x)) = x; rw [neg_neg hx]; exact canon_of_num nx)
  have HQ := Lib.hid (show fnV 1 (neg x) 0 = mag x by show canon (mag (neg x)) = mag x; rw [mag_neg hx]; exact canon_of_num ((nan_mag x).trans nx))
  have HNX := Lib.hid (neg_lt hx)
  have s1 := same_refl x
  have s2 := same_refl (mag x)
  have nm : nan (mag x) = false := (nan_mag x).trans nx
  have nn : nan (neg x) = false := (nan_neg hx).trans nx
  have ox := ord_eq nx nx rfl
  have p1 := lt_f nm nx (by rw [key_mag]; have := key_le_mag x; omega)
  have p2 := lt_f nm nn (by rw [key_mag, key_neg hx]; have := key_le_mag x; omega)
  clear nm nn hx
  have HC := Lib.hid (show fnV 4 x lo = lo by unfold fnV; rw [nx, nlo]; simp [h1])
  have HD := Lib.hid (show fnV 5 lo hi = lo by unfold fnV; rw [nlo, nhi]; simp [hlh])
  have HCL := Lib.hid hlo
  have g2 := ge_t nlo nlo (Int.le_refl _)
  have g3 := le_t nlo nhi (by omega)
  have g4 := lt_t nx nlo h1
  clear h1 hlh
  go_enter Tryz.func6, Tryz.ntmps6
  go_wp2_with fail
  refine HK.out.mono ?_
  rintro e W1 ⟨rfl, hb⟩
  have HB := Lib.hid hb
  clear hb
  go_wp2_with fail
  ((with_reducible refine (fn_calls 1 x 0 HX.out _).mono ?_); rw [HP.out]; rintro e w' ⟨rfl, n1, rfl⟩)
  go_wp2_with fail
  ((with_reducible refine (fn_calls 2 x 0 HX.out _).mono ?_); rw [HN.out]; rintro e w' ⟨rfl, n2, rfl⟩)
  go_wp2_with fail
  ((with_reducible refine (fn_calls 2 (neg x) 0 HNX.out _).mono ?_); rw [HM.out]; rintro e w' ⟨rfl, n3, rfl⟩)
  go_wp2_with fail
  ((with_reducible refine (fn_calls 1 (neg x) 0 HNX.out _).mono ?_); rw [HQ.out]; rintro e w' ⟨rfl, n4, rfl⟩)
  go_wp2_with fail
  ((with_reducible refine (fn_calls 3 x 0 HX.out _).mono ?_); rw [HS.out]; rintro e w' ⟨rfl, n5, rfl⟩)
  go_wp2_with fail
  ((with_reducible refine (same_calls x x _).mono ?_); rw [s1]; rintro e w' ⟨rfl, rfl⟩)
  go_wp2_with fail
  ((with_reducible refine (same_calls (mag x) (mag x) _).mono ?_); rw [s2]; rintro e w' ⟨rfl, rfl⟩)
  go_wp2_with fail
  ((with_reducible refine (fn_calls 4 x lo HX.out _).mono ?_); rw [HC.out]; rintro e w' ⟨rfl, n6, rfl⟩)
  go_wp2_with fail
  ((with_reducible refine (fn_calls 5 lo hi HCL.out _).mono ?_); rw [HD.out]; rintro e w' ⟨rfl, n7, rfl⟩)
  go_wp2_with fail
  go_ret
  exact ⟨rfl, below_drewN HB.out _⟩
theorem signs_neg_c (x lo hi : Nat) (HX : Hid (x < 18446744073709551616)) (hlo : lo < 18446744073709551616) (W : World) (HK : Hid (Calls Tryz.prog 8 #[] W (LawPost W))) (nx : nan x = false) (s : Nat) (HS : Hid (fnV 3 x 0 = s)) (e1 : (FloatKind.f64.format.order s 4607182418800017408 == some .eq) = false) (e2 : (FloatKind.f64.format.order s 13830554455654793216 == some .eq) = true) (nlo : nan lo = false) (nhi : nan hi = false) (ol : FloatKind.f64.format.order lo lo = some .eq) (oh : FloatKind.f64.format.order hi hi = some .eq) (hlh : ¬ key hi < key lo) (g1 : (FloatKind.f64.format.order lo hi == some .gt) = false) (h1 : ¬ key x < key lo) (h2 : key hi < key x) : Calls Tryz.prog 6 #[.int .u64 x, .int .u64 lo, .int .u64 hi] W (LawPost W) := by
  have hf := run_frombits
  have hx := HX.out
  have HP := Lib.hid (show fnV 1 x 0 = mag x from canon_of_num ((nan_mag x).trans nx))
  have HN := Lib.hid (show fnV 2 x 0 = neg x from canon_of_num ((nan_neg hx).trans nx))
  have HM := Lib.hid (show fnV 2 (neg x) 0 = x by show canon (neg (neg x)) = x; rw [neg_neg hx]; exact canon_of_num nx)
  have HQ := Lib.hid (show fnV 1 (neg x) 0 = mag x by show canon (mag (neg x)) = mag x; rw [mag_neg hx]; exact canon_of_num ((nan_mag x).trans nx))
  have HNX := Lib.hid (neg_lt hx)
  have s1 := same_refl x
  have s2 := same_refl (mag x)
  have nm : nan (mag x) = false := (nan_mag x).trans nx
  have nn : nan (neg x) = false := (nan_neg hx).trans nx
  have ox := ord_eq nx nx rfl
  have p1 := lt_f nm nx (by rw [key_mag]; have := key_le_mag x; omega)
  have p2 := lt_f nm nn (by rw [key_mag, key_neg hx]; have := key_le_mag x; omega)
  clear nm nn hx
  have HC := Lib.hid (show fnV 4 x lo = x by unfold fnV; rw [nx, nlo]; simp [h1])
  have HD := Lib.hid (show fnV 5 x hi = hi by unfold fnV; rw [nx, nhi]; simp [h2])
  have HCL := Lib.hid HX.out
  have g2 := ge_t nhi nlo (by omega)
  have g3 := le_t nhi nhi (Int.le_refl _)
  have g4 := lt_f nx nlo h1
  have g5 := gt_t nx nhi h2
  clear h1 h2 hlh
  go_enter Tryz.func6, Tryz.ntmps6
  go_wp2_with fail
  refine HK.out.mono ?_
  rintro e W1 ⟨rfl, hb⟩
  have HB := Lib.hid hb
  clear hb
  go_wp2_with fail
  ((with_reducible refine (fn_calls 1 x 0 HX.out _).mono ?_); rw [HP.out]; rintro e w' ⟨rfl, n1, rfl⟩)
  go_wp2_with fail
  ((with_reducible refine (fn_calls 2 x 0 HX.out _).mono ?_); rw [HN.out]; rintro e w' ⟨rfl, n2, rfl⟩)
  go_wp2_with fail
  ((with_reducible refine (fn_calls 2 (neg x) 0 HNX.out _).mono ?_); rw [HM.out]; rintro e w' ⟨rfl, n3, rfl⟩)
  go_wp2_with fail
  ((with_reducible refine (fn_calls 1 (neg x) 0 HNX.out _).mono ?_); rw [HQ.out]; rintro e w' ⟨rfl, n4, rfl⟩)
  go_wp2_with fail
  ((with_reducible refine (fn_calls 3 x 0 HX.out _).mono ?_); rw [HS.out]; rintro e w' ⟨rfl, n5, rfl⟩)
  go_wp2_with fail
  ((with_reducible refine (same_calls x x _).mono ?_); rw [s1]; rintro e w' ⟨rfl, rfl⟩)
  go_wp2_with fail
  ((with_reducible refine (same_calls (mag x) (mag x) _).mono ?_); rw [s2]; rintro e w' ⟨rfl, rfl⟩)
  go_wp2_with fail
  ((with_reducible refine (fn_calls 4 x lo HX.out _).mono ?_); rw [HC.out]; rintro e w' ⟨rfl, n6, rfl⟩)
  go_wp2_with fail
  ((with_reducible refine (fn_calls 5 x hi HCL.out _).mono ?_); rw [HD.out]; rintro e w' ⟨rfl, n7, rfl⟩)
  go_wp2_with fail
  go_ret
  exact ⟨rfl, below_drewN HB.out _⟩
theorem signs_neg_d (x lo hi : Nat) (HX : Hid (x < 18446744073709551616)) (hlo : lo < 18446744073709551616) (W : World) (HK : Hid (Calls Tryz.prog 8 #[] W (LawPost W))) (nx : nan x = false) (s : Nat) (HS : Hid (fnV 3 x 0 = s)) (e1 : (FloatKind.f64.format.order s 4607182418800017408 == some .eq) = false) (e2 : (FloatKind.f64.format.order s 13830554455654793216 == some .eq) = true) (nlo : nan lo = false) (nhi : nan hi = false) (ol : FloatKind.f64.format.order lo lo = some .eq) (oh : FloatKind.f64.format.order hi hi = some .eq) (hlh : ¬ key hi < key lo) (g1 : (FloatKind.f64.format.order lo hi == some .gt) = false) (h1 : ¬ key x < key lo) (h2 : ¬ key hi < key x) : Calls Tryz.prog 6 #[.int .u64 x, .int .u64 lo, .int .u64 hi] W (LawPost W) := by
  have hf := run_frombits
  have hx := HX.out
  have HP := Lib.hid (show fnV 1 x 0 = mag x from canon_of_num ((nan_mag x).trans nx))
  have HN := Lib.hid (show fnV 2 x 0 = neg x from canon_of_num ((nan_neg hx).trans nx))
  have HM := Lib.hid (show fnV 2 (neg x) 0 = x by show canon (neg (neg x)) = x; rw [neg_neg hx]; exact canon_of_num nx)
  have HQ := Lib.hid (show fnV 1 (neg x) 0 = mag x by show canon (mag (neg x)) = mag x; rw [mag_neg hx]; exact canon_of_num ((nan_mag x).trans nx))
  have HNX := Lib.hid (neg_lt hx)
  have s1 := same_refl x
  have s2 := same_refl (mag x)
  have nm : nan (mag x) = false := (nan_mag x).trans nx
  have nn : nan (neg x) = false := (nan_neg hx).trans nx
  have ox := ord_eq nx nx rfl
  have p1 := lt_f nm nx (by rw [key_mag]; have := key_le_mag x; omega)
  have p2 := lt_f nm nn (by rw [key_mag, key_neg hx]; have := key_le_mag x; omega)
  clear nm nn hx
  have HC := Lib.hid (show fnV 4 x lo = x by unfold fnV; rw [nx, nlo]; simp [h1])
  have HD := Lib.hid (show fnV 5 x hi = x by unfold fnV; rw [nx, nhi]; simp [h2])
  have HCL := Lib.hid HX.out
  have g2 := ge_t nx nlo (by omega)
  have g3 := le_t nx nhi (by omega)
  have g4 := lt_f nx nlo h1
  have g5 := gt_f nx nhi h2
  clear h1 h2 hlh
  go_enter Tryz.func6, Tryz.ntmps6
  go_wp2_with fail
  refine HK.out.mono ?_
  rintro e W1 ⟨rfl, hb⟩
  have HB := Lib.hid hb
  clear hb
  go_wp2_with fail
  ((with_reducible refine (fn_calls 1 x 0 HX.out _).mono ?_); rw [HP.out]; rintro e w' ⟨rfl, n1, rfl⟩)
  go_wp2_with fail
  ((with_reducible refine (fn_calls 2 x 0 HX.out _).mono ?_); rw [HN.out]; rintro e w' ⟨rfl, n2, rfl⟩)
  go_wp2_with fail
  ((with_reducible refine (fn_calls 2 (neg x) 0 HNX.out _).mono ?_); rw [HM.out]; rintro e w' ⟨rfl, n3, rfl⟩)
  go_wp2_with fail
  ((with_reducible refine (fn_calls 1 (neg x) 0 HNX.out _).mono ?_); rw [HQ.out]; rintro e w' ⟨rfl, n4, rfl⟩)
  go_wp2_with fail
  ((with_reducible refine (fn_calls 3 x 0 HX.out _).mono ?_); rw [HS.out]; rintro e w' ⟨rfl, n5, rfl⟩)
  go_wp2_with fail
  ((with_reducible refine (same_calls x x _).mono ?_); rw [s1]; rintro e w' ⟨rfl, rfl⟩)
  go_wp2_with fail
  ((with_reducible refine (same_calls (mag x) (mag x) _).mono ?_); rw [s2]; rintro e w' ⟨rfl, rfl⟩)
  go_wp2_with fail
  ((with_reducible refine (fn_calls 4 x lo HX.out _).mono ?_); rw [HC.out]; rintro e w' ⟨rfl, n6, rfl⟩)
  go_wp2_with fail
  ((with_reducible refine (fn_calls 5 x hi HCL.out _).mono ?_); rw [HD.out]; rintro e w' ⟨rfl, n7, rfl⟩)
  go_wp2_with fail
  ((with_reducible refine (same_calls x x _).mono ?_); rw [s1]; rintro e w' ⟨rfl, rfl⟩)
  go_wp2_with fail
  go_ret
  exact ⟨rfl, below_drewN HB.out _⟩
theorem signs_neg (x lo hi : Nat) (HX : Hid (x < 18446744073709551616)) (hlo : lo < 18446744073709551616) (W : World) (HK : Hid (Calls Tryz.prog 8 #[] W (LawPost W))) (nx : nan x = false) (s : Nat) (HS : Hid (fnV 3 x 0 = s)) (e1 : (FloatKind.f64.format.order s 4607182418800017408 == some .eq) = false) (e2 : (FloatKind.f64.format.order s 13830554455654793216 == some .eq) = true) : Calls Tryz.prog 6 #[.int .u64 x, .int .u64 lo, .int .u64 hi] W (LawPost W) := by
  have hf := run_frombits
  have hx := HX.out
  have HP := Lib.hid (show fnV 1 x 0 = mag x from canon_of_num ((nan_mag x).trans nx))
  have HN := Lib.hid (show fnV 2 x 0 = neg x from canon_of_num ((nan_neg hx).trans nx))
  have HM := Lib.hid (show fnV 2 (neg x) 0 = x by show canon (neg (neg x)) = x; rw [neg_neg hx]; exact canon_of_num nx)
  have HQ := Lib.hid (show fnV 1 (neg x) 0 = mag x by show canon (mag (neg x)) = mag x; rw [mag_neg hx]; exact canon_of_num ((nan_mag x).trans nx))
  have HNX := Lib.hid (neg_lt hx)
  have s1 := same_refl x
  have s2 := same_refl (mag x)
  have nm : nan (mag x) = false := (nan_mag x).trans nx
  have nn : nan (neg x) = false := (nan_neg hx).trans nx
  have ox := ord_eq nx nx rfl
  have p1 := lt_f nm nx (by rw [key_mag]; have := key_le_mag x; omega)
  have p2 := lt_f nm nn (by rw [key_mag, key_neg hx]; have := key_le_mag x; omega)
  clear nm nn hx
  by_cases nlo : nan lo = true
  · have ol := ord_nl lo nlo
    go_enter Tryz.func6, Tryz.ntmps6
    go_wp2_with fail
    refine HK.out.mono ?_
    rintro e W1 ⟨rfl, hb⟩
    have HB := Lib.hid hb
    clear hb
    go_wp2_with fail
    ((with_reducible refine (fn_calls 1 x 0 HX.out _).mono ?_); rw [HP.out]; rintro e w' ⟨rfl, n1, rfl⟩)
    go_wp2_with fail
    ((with_reducible refine (fn_calls 2 x 0 HX.out _).mono ?_); rw [HN.out]; rintro e w' ⟨rfl, n2, rfl⟩)
    go_wp2_with fail
    ((with_reducible refine (fn_calls 2 (neg x) 0 HNX.out _).mono ?_); rw [HM.out]; rintro e w' ⟨rfl, n3, rfl⟩)
    go_wp2_with fail
    ((with_reducible refine (fn_calls 1 (neg x) 0 HNX.out _).mono ?_); rw [HQ.out]; rintro e w' ⟨rfl, n4, rfl⟩)
    go_wp2_with fail
    ((with_reducible refine (fn_calls 3 x 0 HX.out _).mono ?_); rw [HS.out]; rintro e w' ⟨rfl, n5, rfl⟩)
    go_wp2_with fail
    ((with_reducible refine (same_calls x x _).mono ?_); rw [s1]; rintro e w' ⟨rfl, rfl⟩)
    go_wp2_with fail
    ((with_reducible refine (same_calls (mag x) (mag x) _).mono ?_); rw [s2]; rintro e w' ⟨rfl, rfl⟩)
    go_wp2_with fail
    go_ret
    exact ⟨rfl, below_drewN HB.out _⟩
  replace nlo : nan lo = false := by simpa using nlo
  have ol := ord_eq nlo nlo rfl
  by_cases nhi : nan hi = true
  · have oh := ord_nl hi nhi
    go_enter Tryz.func6, Tryz.ntmps6
    go_wp2_with fail
    refine HK.out.mono ?_
    rintro e W1 ⟨rfl, hb⟩
    have HB := Lib.hid hb
    clear hb
    go_wp2_with fail
    ((with_reducible refine (fn_calls 1 x 0 HX.out _).mono ?_); rw [HP.out]; rintro e w' ⟨rfl, n1, rfl⟩)
    go_wp2_with fail
    ((with_reducible refine (fn_calls 2 x 0 HX.out _).mono ?_); rw [HN.out]; rintro e w' ⟨rfl, n2, rfl⟩)
    go_wp2_with fail
    ((with_reducible refine (fn_calls 2 (neg x) 0 HNX.out _).mono ?_); rw [HM.out]; rintro e w' ⟨rfl, n3, rfl⟩)
    go_wp2_with fail
    ((with_reducible refine (fn_calls 1 (neg x) 0 HNX.out _).mono ?_); rw [HQ.out]; rintro e w' ⟨rfl, n4, rfl⟩)
    go_wp2_with fail
    ((with_reducible refine (fn_calls 3 x 0 HX.out _).mono ?_); rw [HS.out]; rintro e w' ⟨rfl, n5, rfl⟩)
    go_wp2_with fail
    ((with_reducible refine (same_calls x x _).mono ?_); rw [s1]; rintro e w' ⟨rfl, rfl⟩)
    go_wp2_with fail
    ((with_reducible refine (same_calls (mag x) (mag x) _).mono ?_); rw [s2]; rintro e w' ⟨rfl, rfl⟩)
    go_wp2_with fail
    go_ret
    exact ⟨rfl, below_drewN HB.out _⟩
  replace nhi : nan hi = false := by simpa using nhi
  have oh := ord_eq nhi nhi rfl
  by_cases hlh : key hi < key lo
  · have g1 := gt_t nlo nhi hlh
    clear hlh
    go_enter Tryz.func6, Tryz.ntmps6
    go_wp2_with fail
    refine HK.out.mono ?_
    rintro e W1 ⟨rfl, hb⟩
    have HB := Lib.hid hb
    clear hb
    go_wp2_with fail
    ((with_reducible refine (fn_calls 1 x 0 HX.out _).mono ?_); rw [HP.out]; rintro e w' ⟨rfl, n1, rfl⟩)
    go_wp2_with fail
    ((with_reducible refine (fn_calls 2 x 0 HX.out _).mono ?_); rw [HN.out]; rintro e w' ⟨rfl, n2, rfl⟩)
    go_wp2_with fail
    ((with_reducible refine (fn_calls 2 (neg x) 0 HNX.out _).mono ?_); rw [HM.out]; rintro e w' ⟨rfl, n3, rfl⟩)
    go_wp2_with fail
    ((with_reducible refine (fn_calls 1 (neg x) 0 HNX.out _).mono ?_); rw [HQ.out]; rintro e w' ⟨rfl, n4, rfl⟩)
    go_wp2_with fail
    ((with_reducible refine (fn_calls 3 x 0 HX.out _).mono ?_); rw [HS.out]; rintro e w' ⟨rfl, n5, rfl⟩)
    go_wp2_with fail
    ((with_reducible refine (same_calls x x _).mono ?_); rw [s1]; rintro e w' ⟨rfl, rfl⟩)
    go_wp2_with fail
    ((with_reducible refine (same_calls (mag x) (mag x) _).mono ?_); rw [s2]; rintro e w' ⟨rfl, rfl⟩)
    go_wp2_with fail
    go_ret
    exact ⟨rfl, below_drewN HB.out _⟩
  have g1 := gt_f nlo nhi hlh
  by_cases h1 : key x < key lo
  · exact signs_neg_b x lo hi HX hlo W HK nx s HS e1 e2 nlo nhi ol oh hlh g1 h1
  by_cases h2 : key hi < key x
  · exact signs_neg_c x lo hi HX hlo W HK nx s HS e1 e2 nlo nhi ol oh hlh g1 h1 h2
  · exact signs_neg_d x lo hi HX hlo W HK nx s HS e1 e2 nlo nhi ol oh hlh g1 h1 h2
theorem signs_zero_b (x lo hi : Nat) (HX : Hid (x < 18446744073709551616)) (hlo : lo < 18446744073709551616) (W : World) (HK : Hid (Calls Tryz.prog 8 #[] W (LawPost W))) (nx : nan x = false) (s : Nat) (HS : Hid (fnV 3 x 0 = s)) (e1 : (FloatKind.f64.format.order s 4607182418800017408 == some .eq) = false) (e2 : (FloatKind.f64.format.order s 13830554455654793216 == some .eq) = false) (e3 : (FloatKind.f64.format.order s 0 == some .eq) = true) (nlo : nan lo = false) (nhi : nan hi = false) (ol : FloatKind.f64.format.order lo lo = some .eq) (oh : FloatKind.f64.format.order hi hi = some .eq) (hlh : ¬ key hi < key lo) (g1 : (FloatKind.f64.format.order lo hi == some .gt) = false) (h1 : key x < key lo) : Calls Tryz.prog 6 #[.int .u64 x, .int .u64 lo, .int .u64 hi] W (LawPost W) := by
  have hf := run_frombits
  have hx := HX.out
  have HP := Lib.hid (show fnV 1 x 0 = mag x from canon_of_num ((nan_mag x).trans nx))
  have HN := Lib.hid (show fnV 2 x 0 = neg x from canon_of_num ((nan_neg hx).trans nx))
  have HM := Lib.hid (show fnV 2 (neg x) 0 = x by show canon (neg (neg x)) = x; rw [neg_neg hx]; exact canon_of_num nx)
  have HQ := Lib.hid (show fnV 1 (neg x) 0 = mag x by show canon (mag (neg x)) = mag x; rw [mag_neg hx]; exact canon_of_num ((nan_mag x).trans nx))
  have HNX := Lib.hid (neg_lt hx)
  have s1 := same_refl x
  have s2 := same_refl (mag x)
  have nm : nan (mag x) = false := (nan_mag x).trans nx
  have nn : nan (neg x) = false := (nan_neg hx).trans nx
  have ox := ord_eq nx nx rfl
  have p1 := lt_f nm nx (by rw [key_mag]; have := key_le_mag x; omega)
  have p2 := lt_f nm nn (by rw [key_mag, key_neg hx]; have := key_le_mag x; omega)
  clear nm nn hx
  have HC := Lib.hid (show fnV 4 x lo = lo by unfold fnV; rw [nx, nlo]; simp [h1])
  have HD := Lib.hid (show fnV 5 lo hi = lo by unfold fnV; rw [nlo, nhi]; simp [hlh])
  have HCL := Lib.hid hlo
  have g2 := ge_t nlo nlo (Int.le_refl _)
  have g3 := le_t nlo nhi (by omega)
  have g4 := lt_t nx nlo h1
  clear h1 hlh
  go_enter Tryz.func6, Tryz.ntmps6
  go_wp2_with fail
  refine HK.out.mono ?_
  rintro e W1 ⟨rfl, hb⟩
  have HB := Lib.hid hb
  clear hb
  go_wp2_with fail
  ((with_reducible refine (fn_calls 1 x 0 HX.out _).mono ?_); rw [HP.out]; rintro e w' ⟨rfl, n1, rfl⟩)
  go_wp2_with fail
  ((with_reducible refine (fn_calls 2 x 0 HX.out _).mono ?_); rw [HN.out]; rintro e w' ⟨rfl, n2, rfl⟩)
  go_wp2_with fail
  ((with_reducible refine (fn_calls 2 (neg x) 0 HNX.out _).mono ?_); rw [HM.out]; rintro e w' ⟨rfl, n3, rfl⟩)
  go_wp2_with fail
  ((with_reducible refine (fn_calls 1 (neg x) 0 HNX.out _).mono ?_); rw [HQ.out]; rintro e w' ⟨rfl, n4, rfl⟩)
  go_wp2_with fail
  ((with_reducible refine (fn_calls 3 x 0 HX.out _).mono ?_); rw [HS.out]; rintro e w' ⟨rfl, n5, rfl⟩)
  go_wp2_with fail
  ((with_reducible refine (same_calls x x _).mono ?_); rw [s1]; rintro e w' ⟨rfl, rfl⟩)
  go_wp2_with fail
  ((with_reducible refine (same_calls (mag x) (mag x) _).mono ?_); rw [s2]; rintro e w' ⟨rfl, rfl⟩)
  go_wp2_with fail
  ((with_reducible refine (fn_calls 4 x lo HX.out _).mono ?_); rw [HC.out]; rintro e w' ⟨rfl, n6, rfl⟩)
  go_wp2_with fail
  ((with_reducible refine (fn_calls 5 lo hi HCL.out _).mono ?_); rw [HD.out]; rintro e w' ⟨rfl, n7, rfl⟩)
  go_wp2_with fail
  go_ret
  exact ⟨rfl, below_drewN HB.out _⟩
theorem signs_zero_c (x lo hi : Nat) (HX : Hid (x < 18446744073709551616)) (hlo : lo < 18446744073709551616) (W : World) (HK : Hid (Calls Tryz.prog 8 #[] W (LawPost W))) (nx : nan x = false) (s : Nat) (HS : Hid (fnV 3 x 0 = s)) (e1 : (FloatKind.f64.format.order s 4607182418800017408 == some .eq) = false) (e2 : (FloatKind.f64.format.order s 13830554455654793216 == some .eq) = false) (e3 : (FloatKind.f64.format.order s 0 == some .eq) = true) (nlo : nan lo = false) (nhi : nan hi = false) (ol : FloatKind.f64.format.order lo lo = some .eq) (oh : FloatKind.f64.format.order hi hi = some .eq) (hlh : ¬ key hi < key lo) (g1 : (FloatKind.f64.format.order lo hi == some .gt) = false) (h1 : ¬ key x < key lo) (h2 : key hi < key x) : Calls Tryz.prog 6 #[.int .u64 x, .int .u64 lo, .int .u64 hi] W (LawPost W) := by
  have hf := run_frombits
  have hx := HX.out
  have HP := Lib.hid (show fnV 1 x 0 = mag x from canon_of_num ((nan_mag x).trans nx))
  have HN := Lib.hid (show fnV 2 x 0 = neg x from canon_of_num ((nan_neg hx).trans nx))
  have HM := Lib.hid (show fnV 2 (neg x) 0 = x by show canon (neg (neg x)) = x; rw [neg_neg hx]; exact canon_of_num nx)
  have HQ := Lib.hid (show fnV 1 (neg x) 0 = mag x by show canon (mag (neg x)) = mag x; rw [mag_neg hx]; exact canon_of_num ((nan_mag x).trans nx))
  have HNX := Lib.hid (neg_lt hx)
  have s1 := same_refl x
  have s2 := same_refl (mag x)
  have nm : nan (mag x) = false := (nan_mag x).trans nx
  have nn : nan (neg x) = false := (nan_neg hx).trans nx
  have ox := ord_eq nx nx rfl
  have p1 := lt_f nm nx (by rw [key_mag]; have := key_le_mag x; omega)
  have p2 := lt_f nm nn (by rw [key_mag, key_neg hx]; have := key_le_mag x; omega)
  clear nm nn hx
  have HC := Lib.hid (show fnV 4 x lo = x by unfold fnV; rw [nx, nlo]; simp [h1])
  have HD := Lib.hid (show fnV 5 x hi = hi by unfold fnV; rw [nx, nhi]; simp [h2])
  have HCL := Lib.hid HX.out
  have g2 := ge_t nhi nlo (by omega)
  have g3 := le_t nhi nhi (Int.le_refl _)
  have g4 := lt_f nx nlo h1
  have g5 := gt_t nx nhi h2
  clear h1 h2 hlh
  go_enter Tryz.func6, Tryz.ntmps6
  go_wp2_with fail
  refine HK.out.mono ?_
  rintro e W1 ⟨rfl, hb⟩
  have HB := Lib.hid hb
  clear hb
  go_wp2_with fail
  ((with_reducible refine (fn_calls 1 x 0 HX.out _).mono ?_); rw [HP.out]; rintro e w' ⟨rfl, n1, rfl⟩)
  go_wp2_with fail
  ((with_reducible refine (fn_calls 2 x 0 HX.out _).mono ?_); rw [HN.out]; rintro e w' ⟨rfl, n2, rfl⟩)
  go_wp2_with fail
  ((with_reducible refine (fn_calls 2 (neg x) 0 HNX.out _).mono ?_); rw [HM.out]; rintro e w' ⟨rfl, n3, rfl⟩)
  go_wp2_with fail
  ((with_reducible refine (fn_calls 1 (neg x) 0 HNX.out _).mono ?_); rw [HQ.out]; rintro e w' ⟨rfl, n4, rfl⟩)
  go_wp2_with fail
  ((with_reducible refine (fn_calls 3 x 0 HX.out _).mono ?_); rw [HS.out]; rintro e w' ⟨rfl, n5, rfl⟩)
  go_wp2_with fail
  ((with_reducible refine (same_calls x x _).mono ?_); rw [s1]; rintro e w' ⟨rfl, rfl⟩)
  go_wp2_with fail
  ((with_reducible refine (same_calls (mag x) (mag x) _).mono ?_); rw [s2]; rintro e w' ⟨rfl, rfl⟩)
  go_wp2_with fail
  ((with_reducible refine (fn_calls 4 x lo HX.out _).mono ?_); rw [HC.out]; rintro e w' ⟨rfl, n6, rfl⟩)
  go_wp2_with fail
  ((with_reducible refine (fn_calls 5 x hi HCL.out _).mono ?_); rw [HD.out]; rintro e w' ⟨rfl, n7, rfl⟩)
  go_wp2_with fail
  go_ret
  exact ⟨rfl, below_drewN HB.out _⟩
theorem signs_zero_d (x lo hi : Nat) (HX : Hid (x < 18446744073709551616)) (hlo : lo < 18446744073709551616) (W : World) (HK : Hid (Calls Tryz.prog 8 #[] W (LawPost W))) (nx : nan x = false) (s : Nat) (HS : Hid (fnV 3 x 0 = s)) (e1 : (FloatKind.f64.format.order s 4607182418800017408 == some .eq) = false) (e2 : (FloatKind.f64.format.order s 13830554455654793216 == some .eq) = false) (e3 : (FloatKind.f64.format.order s 0 == some .eq) = true) (nlo : nan lo = false) (nhi : nan hi = false) (ol : FloatKind.f64.format.order lo lo = some .eq) (oh : FloatKind.f64.format.order hi hi = some .eq) (hlh : ¬ key hi < key lo) (g1 : (FloatKind.f64.format.order lo hi == some .gt) = false) (h1 : ¬ key x < key lo) (h2 : ¬ key hi < key x) : Calls Tryz.prog 6 #[.int .u64 x, .int .u64 lo, .int .u64 hi] W (LawPost W) := by
  have hf := run_frombits
  have hx := HX.out
  have HP := Lib.hid (show fnV 1 x 0 = mag x from canon_of_num ((nan_mag x).trans nx))
  have HN := Lib.hid (show fnV 2 x 0 = neg x from canon_of_num ((nan_neg hx).trans nx))
  have HM := Lib.hid (show fnV 2 (neg x) 0 = x by show canon (neg (neg x)) = x; rw [neg_neg hx]; exact canon_of_num nx)
  have HQ := Lib.hid (show fnV 1 (neg x) 0 = mag x by show canon (mag (neg x)) = mag x; rw [mag_neg hx]; exact canon_of_num ((nan_mag x).trans nx))
  have HNX := Lib.hid (neg_lt hx)
  have s1 := same_refl x
  have s2 := same_refl (mag x)
  have nm : nan (mag x) = false := (nan_mag x).trans nx
  have nn : nan (neg x) = false := (nan_neg hx).trans nx
  have ox := ord_eq nx nx rfl
  have p1 := lt_f nm nx (by rw [key_mag]; have := key_le_mag x; omega)
  have p2 := lt_f nm nn (by rw [key_mag, key_neg hx]; have := key_le_mag x; omega)
  clear nm nn hx
  have HC := Lib.hid (show fnV 4 x lo = x by unfold fnV; rw [nx, nlo]; simp [h1])
  have HD := Lib.hid (show fnV 5 x hi = x by unfold fnV; rw [nx, nhi]; simp [h2])
  have HCL := Lib.hid HX.out
  have g2 := ge_t nx nlo (by omega)
  have g3 := le_t nx nhi (by omega)
  have g4 := lt_f nx nlo h1
  have g5 := gt_f nx nhi h2
  clear h1 h2 hlh
  go_enter Tryz.func6, Tryz.ntmps6
  go_wp2_with fail
  refine HK.out.mono ?_
  rintro e W1 ⟨rfl, hb⟩
  have HB := Lib.hid hb
  clear hb
  go_wp2_with fail
  ((with_reducible refine (fn_calls 1 x 0 HX.out _).mono ?_); rw [HP.out]; rintro e w' ⟨rfl, n1, rfl⟩)
  go_wp2_with fail
  ((with_reducible refine (fn_calls 2 x 0 HX.out _).mono ?_); rw [HN.out]; rintro e w' ⟨rfl, n2, rfl⟩)
  go_wp2_with fail
  ((with_reducible refine (fn_calls 2 (neg x) 0 HNX.out _).mono ?_); rw [HM.out]; rintro e w' ⟨rfl, n3, rfl⟩)
  go_wp2_with fail
  ((with_reducible refine (fn_calls 1 (neg x) 0 HNX.out _).mono ?_); rw [HQ.out]; rintro e w' ⟨rfl, n4, rfl⟩)
  go_wp2_with fail
  ((with_reducible refine (fn_calls 3 x 0 HX.out _).mono ?_); rw [HS.out]; rintro e w' ⟨rfl, n5, rfl⟩)
  go_wp2_with fail
  ((with_reducible refine (same_calls x x _).mono ?_); rw [s1]; rintro e w' ⟨rfl, rfl⟩)
  go_wp2_with fail
  ((with_reducible refine (same_calls (mag x) (mag x) _).mono ?_); rw [s2]; rintro e w' ⟨rfl, rfl⟩)
  go_wp2_with fail
  ((with_reducible refine (fn_calls 4 x lo HX.out _).mono ?_); rw [HC.out]; rintro e w' ⟨rfl, n6, rfl⟩)
  go_wp2_with fail
  ((with_reducible refine (fn_calls 5 x hi HCL.out _).mono ?_); rw [HD.out]; rintro e w' ⟨rfl, n7, rfl⟩)
  go_wp2_with fail
  ((with_reducible refine (same_calls x x _).mono ?_); rw [s1]; rintro e w' ⟨rfl, rfl⟩)
  go_wp2_with fail
  go_ret
  exact ⟨rfl, below_drewN HB.out _⟩
theorem signs_zero (x lo hi : Nat) (HX : Hid (x < 18446744073709551616)) (hlo : lo < 18446744073709551616) (W : World) (HK : Hid (Calls Tryz.prog 8 #[] W (LawPost W))) (nx : nan x = false) (s : Nat) (HS : Hid (fnV 3 x 0 = s)) (e1 : (FloatKind.f64.format.order s 4607182418800017408 == some .eq) = false) (e2 : (FloatKind.f64.format.order s 13830554455654793216 == some .eq) = false) (e3 : (FloatKind.f64.format.order s 0 == some .eq) = true) : Calls Tryz.prog 6 #[.int .u64 x, .int .u64 lo, .int .u64 hi] W (LawPost W) := by
  have hf := run_frombits
  have hx := HX.out
  have HP := Lib.hid (show fnV 1 x 0 = mag x from canon_of_num ((nan_mag x).trans nx))
  have HN := Lib.hid (show fnV 2 x 0 = neg x from canon_of_num ((nan_neg hx).trans nx))
  have HM := Lib.hid (show fnV 2 (neg x) 0 = x by show canon (neg (neg x)) = x; rw [neg_neg hx]; exact canon_of_num nx)
  have HQ := Lib.hid (show fnV 1 (neg x) 0 = mag x by show canon (mag (neg x)) = mag x; rw [mag_neg hx]; exact canon_of_num ((nan_mag x).trans nx))
  have HNX := Lib.hid (neg_lt hx)
  have s1 := same_refl x
  have s2 := same_refl (mag x)
  have nm : nan (mag x) = false := (nan_mag x).trans nx
  have nn : nan (neg x) = false := (nan_neg hx).trans nx
  have ox := ord_eq nx nx rfl
  have p1 := lt_f nm nx (by rw [key_mag]; have := key_le_mag x; omega)
  have p2 := lt_f nm nn (by rw [key_mag, key_neg hx]; have := key_le_mag x; omega)
  clear nm nn hx
  by_cases nlo : nan lo = true
  · have ol := ord_nl lo nlo
    go_enter Tryz.func6, Tryz.ntmps6
    go_wp2_with fail
    refine HK.out.mono ?_
    rintro e W1 ⟨rfl, hb⟩
    have HB := Lib.hid hb
    clear hb
    go_wp2_with fail
    ((with_reducible refine (fn_calls 1 x 0 HX.out _).mono ?_); rw [HP.out]; rintro e w' ⟨rfl, n1, rfl⟩)
    go_wp2_with fail
    ((with_reducible refine (fn_calls 2 x 0 HX.out _).mono ?_); rw [HN.out]; rintro e w' ⟨rfl, n2, rfl⟩)
    go_wp2_with fail
    ((with_reducible refine (fn_calls 2 (neg x) 0 HNX.out _).mono ?_); rw [HM.out]; rintro e w' ⟨rfl, n3, rfl⟩)
    go_wp2_with fail
    ((with_reducible refine (fn_calls 1 (neg x) 0 HNX.out _).mono ?_); rw [HQ.out]; rintro e w' ⟨rfl, n4, rfl⟩)
    go_wp2_with fail
    ((with_reducible refine (fn_calls 3 x 0 HX.out _).mono ?_); rw [HS.out]; rintro e w' ⟨rfl, n5, rfl⟩)
    go_wp2_with fail
    ((with_reducible refine (same_calls x x _).mono ?_); rw [s1]; rintro e w' ⟨rfl, rfl⟩)
    go_wp2_with fail
    ((with_reducible refine (same_calls (mag x) (mag x) _).mono ?_); rw [s2]; rintro e w' ⟨rfl, rfl⟩)
    go_wp2_with fail
    go_ret
    exact ⟨rfl, below_drewN HB.out _⟩
  replace nlo : nan lo = false := by simpa using nlo
  have ol := ord_eq nlo nlo rfl
  by_cases nhi : nan hi = true
  · have oh := ord_nl hi nhi
    go_enter Tryz.func6, Tryz.ntmps6
    go_wp2_with fail
    refine HK.out.mono ?_
    rintro e W1 ⟨rfl, hb⟩
    have HB := Lib.hid hb
    clear hb
    go_wp2_with fail
    ((with_reducible refine (fn_calls 1 x 0 HX.out _).mono ?_); rw [HP.out]; rintro e w' ⟨rfl, n1, rfl⟩)
    go_wp2_with fail
    ((with_reducible refine (fn_calls 2 x 0 HX.out _).mono ?_); rw [HN.out]; rintro e w' ⟨rfl, n2, rfl⟩)
    go_wp2_with fail
    ((with_reducible refine (fn_calls 2 (neg x) 0 HNX.out _).mono ?_); rw [HM.out]; rintro e w' ⟨rfl, n3, rfl⟩)
    go_wp2_with fail
    ((with_reducible refine (fn_calls 1 (neg x) 0 HNX.out _).mono ?_); rw [HQ.out]; rintro e w' ⟨rfl, n4, rfl⟩)
    go_wp2_with fail
    ((with_reducible refine (fn_calls 3 x 0 HX.out _).mono ?_); rw [HS.out]; rintro e w' ⟨rfl, n5, rfl⟩)
    go_wp2_with fail
    ((with_reducible refine (same_calls x x _).mono ?_); rw [s1]; rintro e w' ⟨rfl, rfl⟩)
    go_wp2_with fail
    ((with_reducible refine (same_calls (mag x) (mag x) _).mono ?_); rw [s2]; rintro e w' ⟨rfl, rfl⟩)
    go_wp2_with fail
    go_ret
    exact ⟨rfl, below_drewN HB.out _⟩
  replace nhi : nan hi = false := by simpa using nhi
  have oh := ord_eq nhi nhi rfl
  by_cases hlh : key hi < key lo
  · have g1 := gt_t nlo nhi hlh
    clear hlh
    go_enter Tryz.func6, Tryz.ntmps6
    go_wp2_with fail
    refine HK.out.mono ?_
    rintro e W1 ⟨rfl, hb⟩
    have HB := Lib.hid hb
    clear hb
    go_wp2_with fail
    ((with_reducible refine (fn_calls 1 x 0 HX.out _).mono ?_); rw [HP.out]; rintro e w' ⟨rfl, n1, rfl⟩)
    go_wp2_with fail
    ((with_reducible refine (fn_calls 2 x 0 HX.out _).mono ?_); rw [HN.out]; rintro e w' ⟨rfl, n2, rfl⟩)
    go_wp2_with fail
    ((with_reducible refine (fn_calls 2 (neg x) 0 HNX.out _).mono ?_); rw [HM.out]; rintro e w' ⟨rfl, n3, rfl⟩)
    go_wp2_with fail
    ((with_reducible refine (fn_calls 1 (neg x) 0 HNX.out _).mono ?_); rw [HQ.out]; rintro e w' ⟨rfl, n4, rfl⟩)
    go_wp2_with fail
    ((with_reducible refine (fn_calls 3 x 0 HX.out _).mono ?_); rw [HS.out]; rintro e w' ⟨rfl, n5, rfl⟩)
    go_wp2_with fail
    ((with_reducible refine (same_calls x x _).mono ?_); rw [s1]; rintro e w' ⟨rfl, rfl⟩)
    go_wp2_with fail
    ((with_reducible refine (same_calls (mag x) (mag x) _).mono ?_); rw [s2]; rintro e w' ⟨rfl, rfl⟩)
    go_wp2_with fail
    go_ret
    exact ⟨rfl, below_drewN HB.out _⟩
  have g1 := gt_f nlo nhi hlh
  by_cases h1 : key x < key lo
  · exact signs_zero_b x lo hi HX hlo W HK nx s HS e1 e2 e3 nlo nhi ol oh hlh g1 h1
  by_cases h2 : key hi < key x
  · exact signs_zero_c x lo hi HX hlo W HK nx s HS e1 e2 e3 nlo nhi ol oh hlh g1 h1 h2
  · exact signs_zero_d x lo hi HX hlo W HK nx s HS e1 e2 e3 nlo nhi ol oh hlh g1 h1 h2
theorem signs_calls (x lo hi : Nat) (hx : x < 18446744073709551616) (hlo : lo < 18446744073709551616) (hhi : hi < 18446744073709551616) (W : World) (hL : Laid W) :
    Calls Tryz.prog 6 #[.int .u64 x, .int .u64 lo, .int .u64 hi] W (LawPost W) := by
  have hf := run_frombits
  have HK := Lib.hid (known_calls W hL)
  have HX := Lib.hid hx
  clear hL
  cases nx : nan x
  · have SI := sign_is nx
    rcases SI with ⟨e1⟩ | ⟨e1, e2⟩ | ⟨e1, e2, e3⟩
    · exact signs_pos x lo hi HX hlo W HK nx _ (Lib.hid rfl) e1
    · exact signs_neg x lo hi HX hlo W HK nx _ (Lib.hid rfl) e1 e2
    · exact signs_zero x lo hi HX hlo W HK nx _ (Lib.hid rfl) e1 e2 e3
  · have HP := Lib.hid (show fnV 1 x 0 = nz from canon_of_nan ((nan_mag x).trans nx))
    have HN := Lib.hid (show fnV 2 x 0 = nz from canon_of_nan ((nan_neg hx).trans nx))
    have HM := Lib.hid (show fnV 2 nz 0 = nz by decide +kernel)
    have HQ := Lib.hid (show fnV 1 nz 0 = nz by decide +kernel)
    have HNX := Lib.hid (show nz < 18446744073709551616 by decide)
    have s1 : sameB nz x = true := same_nan nan_nz nx
    have s2 := same_refl nz
    have ox := ord_nl x nx
    have q1 : ((⟨#[78, 97, 78]⟩ : ByteArray).toList == [78, 97, 78]) = true := by decide +kernel
    have q2 : (⟨#[78, 97, 78]⟩ : ByteArray).toList = [78, 97, 78] := by decide +kernel
    clear hx
    go_enter Tryz.func6, Tryz.ntmps6
    go_wp2_with fail
    refine HK.out.mono ?_
    rintro e W1 ⟨rfl, hb⟩
    have HB := Lib.hid hb
    clear hb
    go_wp2_with fail
    ((with_reducible refine (fn_calls 1 x 0 HX.out _).mono ?_); rw [HP.out]; rintro e w' ⟨rfl, n1, rfl⟩)
    go_wp2_with fail
    ((with_reducible refine (fn_calls 2 x 0 HX.out _).mono ?_); rw [HN.out]; rintro e w' ⟨rfl, n2, rfl⟩)
    go_wp2_with fail
    ((with_reducible refine (fn_calls 2 nz 0 HNX.out _).mono ?_); rw [HM.out]; rintro e w' ⟨rfl, n3, rfl⟩)
    go_wp2_with fail
    ((with_reducible refine (fn_calls 1 nz 0 HNX.out _).mono ?_); rw [HQ.out]; rintro e w' ⟨rfl, n4, rfl⟩)
    go_wp2_with fail
    ((with_reducible refine (fn_calls 3 x 0 HX.out _).mono ?_); rintro e w' ⟨rfl, n5, rfl⟩)
    go_wp2_with fail
    ((with_reducible refine (same_calls nz x _).mono ?_); rw [s1]; rintro e w' ⟨rfl, rfl⟩)
    go_wp2_with fail
    ((with_reducible refine (same_calls nz nz _).mono ?_); rw [s2]; rintro e w' ⟨rfl, rfl⟩)
    go_wp2_with fail
    ((with_reducible refine (textNaN_calls nz nan_nz _).mono ?_); rintro e w' ⟨rfl, rfl⟩)
    go_wp2_with fail
    go_ret
    exact ⟨rfl, below_drewN HB.out _⟩
end Go.Proofs.YtdmmmdnfofoefaaGreatDoor.Fl
