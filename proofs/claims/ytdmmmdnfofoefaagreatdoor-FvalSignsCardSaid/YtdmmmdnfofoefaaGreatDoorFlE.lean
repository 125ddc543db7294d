/-
  Functions on values: abs, the sign turned, the sign, at least, at most: as a plain function of words of 64 bits.
-/
import Derived.Test.YtdmmmdnfofoefaaGreatDoorFlD
namespace Go.Proofs.YtdmmmdnfofoefaaGreatDoor.Fl
open Go Go.RowKit
set_option maxHeartbeats 4000000
set_option maxRecDepth 100000

def fnV (fn : Int) (v arg : Nat) : Nat :=
  if fn = 1 then canon (mag v) else if fn = 2 then canon (neg v)
  else if fn = 3 then (if nan v then nz else if 0 < key v then one else if key v < 0 then mone else v)
  else if fn = 4 then (if nan v || nan arg then nz else if key v < key arg then arg else v)
  else if fn = 5 then (if nan v || nan arg then nz else if key arg < key v then arg else v)
  else 0
def fnOk (fn : Int) : Bool := decide (1 ≤ fn) && decide (fn ≤ 5)
theorem negFloat_eq {x : Nat} (hx : x < 18446744073709551616) : Op.negFloat .f64 x = neg x := xor_neg hx
theorem unary_neg_f {x : Nat} (hx : x < 18446744073709551616) : Op.unary .neg (.float .f64 x) = pure (.float .f64 (neg x)) := by
  show pure (Value.float .f64 (Op.negFloat .f64 x)) = _
  rw [negFloat_eq hx]
theorem fn_calls (fn : Int) (v arg : Nat) (hv : v < 18446744073709551616) (w : World) : Calls Tryz.prog 18 #[.int .i64 fn, .float .f64 v, .float .f64 arg] w (Reads (.tuple #[.float .f64 (fnV fn v arg), .bool (fnOk fn)]) w) := by
  have hng := unary_neg_f hv
  by_cases h1 : fn = 1
  · subst h1
    go_enter Tryz.func18, Tryz.ntmps18
    go_wp2_with (first | (refine (abs_calls _ hv _).mono ?_; rintro e w' ⟨rfl, rfl⟩) | (refine (canon_calls _ _).mono ?_; rintro e w' ⟨rfl, rfl⟩))
    go_ret2
    exact ⟨rfl, 0, rfl⟩
  by_cases h2 : fn = 2
  · subst h2
    go_enter Tryz.func18, Tryz.ntmps18
    go_wp2_with (first | (refine (abs_calls _ hv _).mono ?_; rintro e w' ⟨rfl, rfl⟩) | (refine (canon_calls _ _).mono ?_; rintro e w' ⟨rfl, rfl⟩))
    go_ret2
    exact ⟨rfl, 0, rfl⟩
  by_cases h3 : fn = 3
  · subst h3
    have e : fnV 3 v arg = if nan v then nz else if 0 < key v then one else if key v < 0 then mone else v := rfl
    rw [e]
    cases nv : nan v
    · rcases Int.lt_trichotomy (key v) 0 with l | l | l
      · have ov := ord_lt nv nan_0 (by rw [key_0]; exact l)
        have oo := canon_of_num mone_num
        rw [if_neg (by decide), if_neg (by omega), if_pos l]
        clear l
        go_enter Tryz.func18, Tryz.ntmps18
        go_wp2_with (first | (refine (abs_calls _ hv _).mono ?_; rintro e w' ⟨rfl, rfl⟩) | (refine (canon_calls _ _).mono ?_; rintro e w' ⟨rfl, rfl⟩))
        go_ret2
        exact ⟨rfl, 0, rfl⟩
      · have ov := ord_eq nv nan_0 (by rw [key_0]; exact l)
        have oo := Lib.hid (canon_of_num nv)
        rw [if_neg (by decide), if_neg (by omega), if_neg (by omega)]
        clear l
        go_enter Tryz.func18, Tryz.ntmps18
        go_wp2_with (refine (canon_calls _ _).mono ?_; rintro e w' ⟨rfl, rfl⟩)
        go_ret2
        exact ⟨by first | rfl | (rw [oo.out]; rfl), 0, rfl⟩
      · have ov := ord_gt nv nan_0 (by rw [key_0]; exact l)
        rw [if_neg (by decide), if_pos l]
        clear l
        go_enter Tryz.func18, Tryz.ntmps18
        go_wp2_with (first | (refine (abs_calls _ hv _).mono ?_; rintro e w' ⟨rfl, rfl⟩) | (refine (canon_calls _ _).mono ?_; rintro e w' ⟨rfl, rfl⟩))
        go_ret2
        exact ⟨rfl, 0, rfl⟩
    · have ov := ord_nl 0 nv
      have oo := Lib.hid (canon_of_nan nv)
      rw [if_pos rfl]
      go_enter Tryz.func18, Tryz.ntmps18
      go_wp2_with (refine (canon_calls _ _).mono ?_; rintro e w' ⟨rfl, rfl⟩)
      go_ret2
      exact ⟨by first | rfl | (rw [oo.out]; rfl), 0, rfl⟩
  by_cases h45 : fn = 4 ∨ fn = 5
  · cases nv : nan v
    · have vv := ord_eq nv nv rfl
      cases na : nan arg
      · have aa := ord_eq na na rfl
        have ov := Lib.hid (canon_of_num nv)
        have oa := Lib.hid (canon_of_num na)
        rcases Int.lt_trichotomy (key v) (key arg) with l | l | l
        · have oo := ord_lt nv na l
          rcases h45 with rfl | rfl
          · have e : fnV 4 v arg = arg := by unfold fnV; rw [nv, na]; simp [l]
            rw [e]; clear e l
            go_enter Tryz.func18, Tryz.ntmps18
            go_wp2_with (refine (canon_calls _ _).mono ?_; rintro e w' ⟨rfl, rfl⟩)
            go_ret2
            exact ⟨by first | rfl | (rw [oa.out]; rfl), 0, rfl⟩
          · have e : fnV 5 v arg = v := by unfold fnV; rw [nv, na]; simp; omega
            rw [e]; clear e l
            go_enter Tryz.func18, Tryz.ntmps18
            go_wp2_with (refine (canon_calls _ _).mono ?_; rintro e w' ⟨rfl, rfl⟩)
            go_ret2
            exact ⟨by first | rfl | (rw [ov.out]; rfl), 0, rfl⟩
        · have oo := ord_eq nv na l
          rcases h45 with rfl | rfl
          · have e : fnV 4 v arg = v := by unfold fnV; rw [nv, na]; simp; omega
            rw [e]; clear e l
            go_enter Tryz.func18, Tryz.ntmps18
            go_wp2_with (refine (canon_calls _ _).mono ?_; rintro e w' ⟨rfl, rfl⟩)
            go_ret2
            exact ⟨by first | rfl | (rw [ov.out]; rfl), 0, rfl⟩
          · have e : fnV 5 v arg = v := by unfold fnV; rw [nv, na]; simp; omega
            rw [e]; clear e l
            go_enter Tryz.func18, Tryz.ntmps18
            go_wp2_with (refine (canon_calls _ _).mono ?_; rintro e w' ⟨rfl, rfl⟩)
            go_ret2
            exact ⟨by first | rfl | (rw [ov.out]; rfl), 0, rfl⟩
        · have oo := ord_gt nv na l
          rcases h45 with rfl | rfl
          · have e : fnV 4 v arg = v := by unfold fnV; rw [nv, na]; simp; omega
            rw [e]; clear e l
            go_enter Tryz.func18, Tryz.ntmps18
            go_wp2_with (refine (canon_calls _ _).mono ?_; rintro e w' ⟨rfl, rfl⟩)
            go_ret2
            exact ⟨by first | rfl | (rw [ov.out]; rfl), 0, rfl⟩
          · have e : fnV 5 v arg = arg := by unfold fnV; rw [nv, na]; simp [l]
            rw [e]; clear e l
            go_enter Tryz.func18, Tryz.ntmps18
            go_wp2_with (refine (canon_calls _ _).mono ?_; rintro e w' ⟨rfl, rfl⟩)
            go_ret2
            exact ⟨by first | rfl | (rw [oa.out]; rfl), 0, rfl⟩
      · have aa := ord_nl arg na
        have e : fnV fn v arg = nz := by
          unfold fnV; rw [na, Bool.or_true]; rcases h45 with rfl | rfl <;> rfl
        rw [e]; clear e
        obtain ⟨r, n, hr, hc⟩ := run_arith (op := .add) rfl Tryz.prog 24 v arg w
        have hc' : canon r = nz := by
          rw [hc]; unfold arith
          rw [show floatBits .add .f64 v arg = none from add_nan_r v na]
        have oo := Lib.hid hc'
        clear hc hc'
        rcases h45 with rfl | rfl
        · go_enter Tryz.func18, Tryz.ntmps18
          go_wp2_with (first | (refine (mathNaN_calls _).mono ?_; rintro e w' ⟨rfl, rfl⟩) | (refine (canon_calls _ _).mono ?_; rintro e w' ⟨rfl, rfl⟩))
          go_ret2
          exact ⟨by first | rfl | (rw [oo.out]; rfl), by first | exact ⟨0, rfl⟩ | exact ⟨_, rfl⟩⟩
        · go_enter Tryz.func18, Tryz.ntmps18
          go_wp2_with (first | (refine (mathNaN_calls _).mono ?_; rintro e w' ⟨rfl, rfl⟩) | (refine (canon_calls _ _).mono ?_; rintro e w' ⟨rfl, rfl⟩))
          go_ret2
          exact ⟨by first | rfl | (rw [oo.out]; rfl), by first | exact ⟨0, rfl⟩ | exact ⟨_, rfl⟩⟩
    · have vv := ord_nl v nv
      have e : fnV fn v arg = nz := by
        unfold fnV; rw [nv, Bool.true_or]; rcases h45 with rfl | rfl <;> rfl
      rw [e]; clear e
      obtain ⟨r, n, hr, hc⟩ := run_arith (op := .add) rfl Tryz.prog 24 v arg w
      have hc' : canon r = nz := by
        rw [hc]; unfold arith
        rw [show floatBits .add .f64 v arg = none from add_nan_l arg nv]
      have oo := Lib.hid hc'
      clear hc hc'
      rcases h45 with rfl | rfl
      · go_enter Tryz.func18, Tryz.ntmps18
        go_wp2_with (first | (refine (mathNaN_calls _).mono ?_; rintro e w' ⟨rfl, rfl⟩) | (refine (canon_calls _ _).mono ?_; rintro e w' ⟨rfl, rfl⟩))
        go_ret2
        exact ⟨by first | rfl | (rw [oo.out]; rfl), by first | exact ⟨0, rfl⟩ | exact ⟨_, rfl⟩⟩
      · go_enter Tryz.func18, Tryz.ntmps18
        go_wp2_with (first | (refine (mathNaN_calls _).mono ?_; rintro e w' ⟨rfl, rfl⟩) | (refine (canon_calls _ _).mono ?_; rintro e w' ⟨rfl, rfl⟩))
        go_ret2
        exact ⟨by first | rfl | (rw [oo.out]; rfl), by first | exact ⟨0, rfl⟩ | exact ⟨_, rfl⟩⟩
  have e : fnV fn v arg = 0 := by unfold fnV; rw [if_neg h1, if_neg h2, if_neg h3, if_neg (fun h => h45 (.inl h)), if_neg (fun h => h45 (.inr h))]
  have e2 : fnOk fn = false := by
    unfold fnOk
    by_cases q : 1 ≤ fn
    · rw [decide_eq_false (by omega : ¬ fn ≤ 5), Bool.and_false]
    · rw [decide_eq_false q, Bool.false_and]
  rw [e, e2]
  have b1 : (fn == 1) = false := beq_eq_false_iff_ne.2 h1
  have b2 : (fn == 2) = false := beq_eq_false_iff_ne.2 h2
  have b3 : (fn == 3) = false := beq_eq_false_iff_ne.2 h3
  have b4 : (fn == 4) = false := beq_eq_false_iff_ne.2 (fun h => h45 (.inl h))
  have b5 : (fn == 5) = false := beq_eq_false_iff_ne.2 (fun h => h45 (.inr h))
  clear e e2 h1 h2 h3 h45
  go_enter Tryz.func18, Tryz.ntmps18
  go_wp2
  go_ret2
  exact ⟨rfl, 0, rfl⟩
theorem rfn_calls (fn : Int) (v arg : Nat) (hv : v < 18446744073709551616) (w : World) : Calls Tryz.prog 21 #[.int .i64 fn, .float .f64 v, .float .f64 arg] w (Reads (.tuple #[.float .f64 (fnV fn v arg), .bool (fnOk fn)]) w) := by
  have hf := run_tobits
  have hg := run_frombits
  have hng := xor_neg' hv
  by_cases h1 : fn = 1
  · subst h1
    go_enter Tryz.func21, Tryz.ntmps21
    go_wp2_with (first | (refine (rabs_calls _ hv _).mono ?_; rintro e w' ⟨rfl, rfl⟩) | (refine (rcanon_calls _ _).mono ?_; rintro e w' ⟨rfl, rfl⟩))
    go_ret2
    exact ⟨rfl, 0, rfl⟩
  by_cases h2 : fn = 2
  · subst h2
    go_enter Tryz.func21, Tryz.ntmps21
    go_wp2_with (first | (refine (rabs_calls _ hv _).mono ?_; rintro e w' ⟨rfl, rfl⟩) | (refine (rcanon_calls _ _).mono ?_; rintro e w' ⟨rfl, rfl⟩))
    go_ret2
    exact ⟨rfl, 0, rfl⟩
  by_cases h3 : fn = 3
  · subst h3
    have e : fnV 3 v arg = if nan v then nz else if 0 < key v then one else if key v < 0 then mone else v := rfl
    rw [e]
    cases nv : nan v
    · rcases Int.lt_trichotomy (key v) 0 with l | l | l
      · have ov := ord_lt nv nan_0 (by rw [key_0]; exact l)
        have oo := canon_of_num mone_num
        rw [if_neg (by decide), if_neg (by omega), if_pos l]
        clear l
        go_enter Tryz.func21, Tryz.ntmps21
        go_wp2_with (first | (refine (rabs_calls _ hv _).mono ?_; rintro e w' ⟨rfl, rfl⟩) | (refine (rcanon_calls _ _).mono ?_; rintro e w' ⟨rfl, rfl⟩))
        go_ret2
        exact ⟨rfl, 0, rfl⟩
      · have ov := ord_eq nv nan_0 (by rw [key_0]; exact l)
        have oo := Lib.hid (canon_of_num nv)
        rw [if_neg (by decide), if_neg (by omega), if_neg (by omega)]
        clear l
        go_enter Tryz.func21, Tryz.ntmps21
        go_wp2_with (refine (rcanon_calls _ _).mono ?_; rintro e w' ⟨rfl, rfl⟩)
        go_ret2
        exact ⟨by first | rfl | (rw [oo.out]; rfl), 0, rfl⟩
      · have ov := ord_gt nv nan_0 (by rw [key_0]; exact l)
        rw [if_neg (by decide), if_pos l]
        clear l
        go_enter Tryz.func21, Tryz.ntmps21
        go_wp2_with (first | (refine (rabs_calls _ hv _).mono ?_; rintro e w' ⟨rfl, rfl⟩) | (refine (rcanon_calls _ _).mono ?_; rintro e w' ⟨rfl, rfl⟩))
        go_ret2
        exact ⟨rfl, 0, rfl⟩
    · have ov := ord_nl 0 nv
      have oo := Lib.hid (canon_of_nan nv)
      rw [if_pos rfl]
      go_enter Tryz.func21, Tryz.ntmps21
      go_wp2_with (refine (rcanon_calls _ _).mono ?_; rintro e w' ⟨rfl, rfl⟩)
      go_ret2
      exact ⟨by first | rfl | (rw [oo.out]; rfl), 0, rfl⟩
  by_cases h45 : fn = 4 ∨ fn = 5
  · cases nv : nan v
    · have vv := ord_eq nv nv rfl
      cases na : nan arg
      · have aa := ord_eq na na rfl
        have ov := Lib.hid (canon_of_num nv)
        have oa := Lib.hid (canon_of_num na)
        rcases Int.lt_trichotomy (key v) (key arg) with l | l | l
        · have oo := ord_lt nv na l
          rcases h45 with rfl | rfl
          · have e : fnV 4 v arg = arg := by unfold fnV; rw [nv, na]; simp [l]
            rw [e]; clear e l
            go_enter Tryz.func21, Tryz.ntmps21
            go_wp2_with (refine (rcanon_calls _ _).mono ?_; rintro e w' ⟨rfl, rfl⟩)
            go_ret2
            exact ⟨by first | rfl | (rw [oa.out]; rfl), 0, rfl⟩
          · have e : fnV 5 v arg = v := by unfold fnV; rw [nv, na]; simp; omega
            rw [e]; clear e l
            go_enter Tryz.func21, Tryz.ntmps21
            go_wp2_with (refine (rcanon_calls _ _).mono ?_; rintro e w' ⟨rfl, rfl⟩)
            go_ret2
            exact ⟨by first | rfl | (rw [ov.out]; rfl), 0, rfl⟩
        · have oo := ord_eq nv na l
          rcases h45 with rfl | rfl
          · have e : fnV 4 v arg = v := by unfold fnV; rw [nv, na]; simp; omega
            rw [e]; clear e l
            go_enter Tryz.func21, Tryz.ntmps21
            go_wp2_with (refine (rcanon_calls _ _).mono ?_; rintro e w' ⟨rfl, rfl⟩)
            go_ret2
            exact ⟨by first | rfl | (rw [ov.out]; rfl), 0, rfl⟩
          · have e : fnV 5 v arg = v := by unfold fnV; rw [nv, na]; simp; omega
            rw [e]; clear e l
            go_enter Tryz.func21, Tryz.ntmps21
            go_wp2_with (refine (rcanon_calls _ _).mono ?_; rintro e w' ⟨rfl, rfl⟩)
            go_ret2
            exact ⟨by first | rfl | (rw [ov.out]; rfl), 0, rfl⟩
        · have oo := ord_gt nv na l
          rcases h45 with rfl | rfl
          · have e : fnV 4 v arg = v := by unfold fnV; rw [nv, na]; simp; omega
            rw [e]; clear e l
            go_enter Tryz.func21, Tryz.ntmps21
            go_wp2_with (refine (rcanon_calls _ _).mono ?_; rintro e w' ⟨rfl, rfl⟩)
            go_ret2
            exact ⟨by first | rfl | (rw [ov.out]; rfl), 0, rfl⟩
          · have e : fnV 5 v arg = arg := by unfold fnV; rw [nv, na]; simp [l]
            rw [e]; clear e l
            go_enter Tryz.func21, Tryz.ntmps21
            go_wp2_with (refine (rcanon_calls _ _).mono ?_; rintro e w' ⟨rfl, rfl⟩)
            go_ret2
            exact ⟨by first | rfl | (rw [oa.out]; rfl), 0, rfl⟩
      · have aa := ord_nl arg na
        have e : fnV fn v arg = nz := by
          unfold fnV; rw [na, Bool.or_true]; rcases h45 with rfl | rfl <;> rfl
        rw [e]; clear e
        obtain ⟨r, n, hr, hc⟩ := run_arith (op := .add) rfl Tryz.prog 24 v arg w
        have hc' : canon r = nz := by
          rw [hc]; unfold arith
          rw [show floatBits .add .f64 v arg = none from add_nan_r v na]
        have oo := Lib.hid hc'
        clear hc hc'
        rcases h45 with rfl | rfl
        · go_enter Tryz.func21, Tryz.ntmps21
          go_wp2_with (first | (refine (mathNaN_calls _).mono ?_; rintro e w' ⟨rfl, rfl⟩) | (refine (rcanon_calls _ _).mono ?_; rintro e w' ⟨rfl, rfl⟩))
          go_ret2
          exact ⟨by first | rfl | (rw [oo.out]; rfl), by first | exact ⟨0, rfl⟩ | exact ⟨_, rfl⟩⟩
        · go_enter Tryz.func21, Tryz.ntmps21
          go_wp2_with (first | (refine (mathNaN_calls _).mono ?_; rintro e w' ⟨rfl, rfl⟩) | (refine (rcanon_calls _ _).mono ?_; rintro e w' ⟨rfl, rfl⟩))
          go_ret2
          exact ⟨by first | rfl | (rw [oo.out]; rfl), by first | exact ⟨0, rfl⟩ | exact ⟨_, rfl⟩⟩
    · have vv := ord_nl v nv
      have e : fnV fn v arg = nz := by
        unfold fnV; rw [nv, Bool.true_or]; rcases h45 with rfl | rfl <;> rfl
      rw [e]; clear e
      obtain ⟨r, n, hr, hc⟩ := run_arith (op := .add) rfl Tryz.prog 24 v arg w
      have hc' : canon r = nz := by
        rw [hc]; unfold arith
        rw [show floatBits .add .f64 v arg = none from add_nan_l arg nv]
      have oo := Lib.hid hc'
      clear hc hc'
      rcases h45 with rfl | rfl
      · go_enter Tryz.func21, Tryz.ntmps21
        go_wp2_with (first | (refine (mathNaN_calls _).mono ?_; rintro e w' ⟨rfl, rfl⟩) | (refine (rcanon_calls _ _).mono ?_; rintro e w' ⟨rfl, rfl⟩))
        go_ret2
        exact ⟨by first | rfl | (rw [oo.out]; rfl), by first | exact ⟨0, rfl⟩ | exact ⟨_, rfl⟩⟩
      · go_enter Tryz.func21, Tryz.ntmps21
        go_wp2_with (first | (refine (mathNaN_calls _).mono ?_; rintro e w' ⟨rfl, rfl⟩) | (refine (rcanon_calls _ _).mono ?_; rintro e w' ⟨rfl, rfl⟩))
        go_ret2
        exact ⟨by first | rfl | (rw [oo.out]; rfl), by first | exact ⟨0, rfl⟩ | exact ⟨_, rfl⟩⟩
  have e : fnV fn v arg = 0 := by unfold fnV; rw [if_neg h1, if_neg h2, if_neg h3, if_neg (fun h => h45 (.inl h)), if_neg (fun h => h45 (.inr h))]
  have e2 : fnOk fn = false := by
    unfold fnOk
    by_cases q : 1 ≤ fn
    · rw [decide_eq_false (by omega : ¬ fn ≤ 5), Bool.and_false]
    · rw [decide_eq_false q, Bool.false_and]
  rw [e, e2]
  have b1 : (fn == 1) = false := beq_eq_false_iff_ne.2 h1
  have b2 : (fn == 2) = false := beq_eq_false_iff_ne.2 h2
  have b3 : (fn == 3) = false := beq_eq_false_iff_ne.2 h3
  have b4 : (fn == 4) = false := beq_eq_false_iff_ne.2 (fun h => h45 (.inl h))
  have b5 : (fn == 5) = false := beq_eq_false_iff_ne.2 (fun h => h45 (.inr h))
  clear e e2 h1 h2 h3 h45
  go_enter Tryz.func21, Tryz.ntmps21
  go_wp2
  go_ret2
  exact ⟨rfl, 0, rfl⟩
end Go.Proofs.YtdmmmdnfofoefaaGreatDoor.Fl
