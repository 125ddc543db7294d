/-
  The signs of values, which comes ahead, comparisons, operators and functions: each by its law on words of 64 bits.
-/
import Derived.Test.YtdmmmdnfofoefaaGreatDoorFlB
import Derived.Laws.BitsAllLaws
import Derived.Deep.Draws
namespace Go.Proofs.YtdmmmdnfofoefaaGreatDoor.Fl
open Go Go.RowKit
set_option maxHeartbeats 4000000
set_option maxRecDepth 100000

theorem sgn_eq {x : Nat} (hx : x < 18446744073709551616) : sgn x = decide (two63 ≤ x) := by
  unfold sgn two63
  rw [Bool.eq_iff_iff, beq_iff_eq, decide_eq_true_iff]; omega
theorem mag_lt (x : Nat) : mag x < two63 := Nat.mod_lt _ (by decide)
theorem mag_id {x : Nat} (h : x < two63) : mag x = x := Nat.mod_eq_of_lt h
theorem mag_big {x : Nat} (h : two63 ≤ x) (hx : x < 18446744073709551616) : mag x = x - two63 := by unfold mag two63 at *; omega
theorem mag_mag (x : Nat) : mag (mag x) = mag x := mag_id (mag_lt x)
theorem nan_mag (x : Nat) : nan (mag x) = nan x := by unfold nan; rw [mag_mag]

/-- The sign turned. -/
def neg (x : Nat) : Nat := if two63 ≤ x then x - two63 else x + two63
theorem xor_neg {x : Nat} (hx : x < 18446744073709551616) : x ^^^ 9223372036854775808 = neg x := by
  have h1 : (x ^^^ 2 ^ 63) % 2 ^ 63 = x % 2 ^ 63 := by rw [Nat.xor_mod_two_pow, Nat.mod_self, Nat.xor_zero]
  have h2 : (x ^^^ 2 ^ 63) / 2 ^ 63 = (x / 2 ^ 63) ^^^ 1 := by rw [Nat.xor_div_two_pow, Nat.div_self (Nat.two_pow_pos _)]
  have h3 := Nat.div_add_mod (x ^^^ 2 ^ 63) (2 ^ 63)
  have e : (9223372036854775808 : Nat) = 2 ^ 63 := by decide
  rw [e, ← h3, h1, h2]
  unfold neg two63
  have hq : x / 2 ^ 63 = 0 ∨ x / 2 ^ 63 = 1 := by omega
  rcases hq with hq | hq
  · rw [hq, show (0 ^^^ 1 : Nat) = 1 by decide, if_neg (by omega)]; omega
  · rw [hq, show (1 ^^^ 1 : Nat) = 0 by decide, if_pos (by omega)]; omega
theorem neg_lt {x : Nat} (hx : x < 18446744073709551616) : neg x < 18446744073709551616 := by unfold neg two63; split <;> omega
theorem mag_neg {x : Nat} (hx : x < 18446744073709551616) : mag (neg x) = mag x := by unfold neg mag two63; split <;> omega
theorem nan_neg {x : Nat} (hx : x < 18446744073709551616) : nan (neg x) = nan x := by unfold nan; rw [mag_neg hx]
theorem sgn_neg {x : Nat} (hx : x < 18446744073709551616) : sgn (neg x) = !sgn x := by
  rw [sgn_eq hx, sgn_eq (neg_lt hx)]
  by_cases h : two63 ≤ x
  · rw [decide_eq_true h, decide_eq_false]; rfl
    unfold neg; rw [if_pos h]; unfold two63 at *; omega
  · rw [decide_eq_false h, decide_eq_true]; rfl
    unfold neg; rw [if_neg h]; unfold two63 at *; omega
theorem neg_neg {x : Nat} (hx : x < 18446744073709551616) : neg (neg x) = x := by unfold neg two63; split <;> split <;> omega

theorem signbit_calls (x : Nat) (hx : x < 18446744073709551616) (w : World) : Calls Tryz.prog 32 #[.float .f64 x] w fun e w' => e = .returned (.bool (sgn x)) ∧ w = w' := by
  have hf := run_tobits
  rw [sgn_eq hx]
  by_cases h : two63 ≤ x
  · have h1 : IntKind.i64.wrap (x : Int) = x - 18446744073709551616 := by
      unfold two63 at h
      simp [IntKind.wrap, IntKind.signed, IntKind.bits]; omega
    rw [decide_eq_true h]
    have h2 : decide ((x : Int) - 18446744073709551616 < 0) = true := decide_eq_true (by omega)
    clear h
    go_enter Tryz.func32, Tryz.ntmps32
    go_wp2
    go_ret
    exact ⟨rfl, rfl⟩
  · have h1 : IntKind.i64.wrap (x : Int) = x := by
      unfold two63 at h
      simp [IntKind.wrap, IntKind.signed, IntKind.bits]; omega
    rw [decide_eq_false h]
    have h2 : decide ((x : Int) < 0) = false := decide_eq_false (by omega)
    clear h
    go_enter Tryz.func32, Tryz.ntmps32
    go_wp2
    go_ret
    exact ⟨rfl, rfl⟩
theorem minus_calls (x : Nat) (hx : x < 18446744073709551616) (w : World) : Calls Tryz.prog 38 #[.float .f64 x] w fun e w' => e = .returned (.bool (sgn x)) ∧ w = w' := by
  have hf := run_tobits
  rw [sgn_eq hx]
  by_cases h : two63 ≤ x
  · rw [decide_eq_true h]
    have h1 : (x : Int) / 9223372036854775808 = 1 := by unfold two63 at h; omega
    clear h
    go_enter Tryz.func38, Tryz.ntmps38
    go_wp2
    go_ret
    exact ⟨rfl, rfl⟩
  · rw [decide_eq_false h]
    have h1 : (x : Int) / 9223372036854775808 = 0 := by unfold two63 at h; omega
    clear h
    go_enter Tryz.func38, Tryz.ntmps38
    go_wp2
    go_ret
    exact ⟨rfl, rfl⟩
theorem andNot_mag {x : Nat} (hx : x < 18446744073709551616) : bits .andNot .u64 (x : Int) 9223372036854775808 = (mag x : Int) := by
  have := u64_andNot_nat x 9223372036854775808 hx (by decide)
  rw [show ((9223372036854775808 : Nat) : Int) = 9223372036854775808 from rfl] at this
  rw [this, show (18446744073709551615 - 9223372036854775808 : Nat) = 2 ^ 63 - 1 by decide, Nat.and_two_pow_sub_one_eq_mod]
  rfl
theorem xor_neg' {x : Nat} (hx : x < 18446744073709551616) : bits .xor .u64 (x : Int) 9223372036854775808 = (neg x : Int) := by
  have := u64_xor_nat x 9223372036854775808 hx (by decide)
  rw [show ((9223372036854775808 : Nat) : Int) = 9223372036854775808 from rfl] at this
  rw [this, xor_neg hx]
theorem abs_calls (x : Nat) (hx : x < 18446744073709551616) (w : World) : Calls Tryz.prog 33 #[.float .f64 x] w fun e w' => e = .returned (.float .f64 (mag x)) ∧ w = w' := by
  have hf := run_tobits
  have hg := run_frombits
  have hm := andNot_mag hx
  go_enter Tryz.func33, Tryz.ntmps33
  go_wp2
  go_ret
  exact ⟨rfl, rfl⟩
theorem rabs_calls (x : Nat) (hx : x < 18446744073709551616) (w : World) : Calls Tryz.prog 37 #[.float .f64 x] w fun e w' => e = .returned (.float .f64 (mag x)) ∧ w = w' := by
  have hf := run_tobits
  have hg := run_frombits
  have hm := andNot_mag hx
  go_enter Tryz.func37, Tryz.ntmps37
  go_wp2
  go_ret
  exact ⟨rfl, rfl⟩
theorem mathNaN_calls (w : World) : Calls Tryz.prog 34 #[] w fun e w' => e = .returned (.float .f64 nz) ∧ w = w' := by
  have hg := run_frombits
  go_enter Tryz.func34, Tryz.ntmps34
  go_wp2
  go_ret
  exact ⟨rfl, rfl⟩

/-- Which comes ahead. -/
def befB (a b : Nat) : Bool := if nan a || nan b then nan a && !nan b else if key a = 0 ∧ key b = 0 then sgn a && !sgn b else decide (key a < key b)
theorem bef_num {a b : Nat} (ha : nan a = false) (hb : nan b = false) : befB a b = if key a = 0 ∧ key b = 0 then sgn a && !sgn b else decide (key a < key b) := by
  unfold befB; rw [ha, hb]; rfl
set_option linter.unusedVariables false in
theorem before_calls (a b : Nat) (ha : a < 18446744073709551616) (hb : b < 18446744073709551616) (w : World) : Calls Tryz.prog 17 #[.float .f64 a, .float .f64 b] w fun e w' => e = .returned (.bool (befB a b)) ∧ w = w' := by
  cases na : nan a
  · cases nb : nan b
    · rw [bef_num na nb]
      by_cases k0 : key a = 0
      · by_cases k1 : key b = 0
        · rw [if_pos ⟨k0, k1⟩]
          have oa := ord_eq na na rfl
          have ob := ord_eq nb nb rfl
          have za := ord_eq na nan_0 (k0.trans key_0.symm)
          have zb := ord_eq nb nan_0 (k1.trans key_0.symm)
          clear k0 k1
          cases sa : sgn a
          · go_enter Tryz.func17, Tryz.ntmps17
            go_wp2_with (first | (refine (signbit_calls a ha _).mono ?_; rw [sa]; rintro e w' ⟨rfl, rfl⟩) | (refine (signbit_calls b hb _).mono ?_; rintro e w' ⟨rfl, rfl⟩))
            all_goals (go_ret; exact ⟨rfl, rfl⟩)
          · go_enter Tryz.func17, Tryz.ntmps17
            go_wp2_with (first | (refine (signbit_calls a ha _).mono ?_; rw [sa]; rintro e w' ⟨rfl, rfl⟩) | (refine (signbit_calls b hb _).mono ?_; rintro e w' ⟨rfl, rfl⟩))
            all_goals (go_ret; exact ⟨by rw [Bool.true_and]; rfl, rfl⟩)
        · rw [if_neg (fun h => k1 h.2)]
          have oa := ord_eq na na rfl
          have ob := ord_eq nb nb rfl
          have za := ord_eq na nan_0 (k0.trans key_0.symm)
          rcases Int.lt_trichotomy (key b) 0 with l | l | l
          · have zb := ord_lt nb nan_0 (by rw [key_0]; exact l)
            have ab := ord_gt na nb (by rw [k0]; exact l)
            rw [decide_eq_false (by rw [k0]; omega)]
            clear k0 k1 l
            go_enter Tryz.func17, Tryz.ntmps17
            go_wp2
            all_goals (go_ret; exact ⟨rfl, rfl⟩)
          · exact absurd l k1
          · have zb := ord_gt nb nan_0 (by rw [key_0]; exact l)
            have ab := ord_lt na nb (by rw [k0]; exact l)
            rw [decide_eq_true (by rw [k0]; omega)]
            clear k0 k1 l
            go_enter Tryz.func17, Tryz.ntmps17
            go_wp2
            all_goals (go_ret; exact ⟨rfl, rfl⟩)
      · rw [if_neg (fun h => k0 h.1)]
        have oa := ord_eq na na rfl
        have ob := ord_eq nb nb rfl
        have za : (FloatKind.f64.format.order a 0 == some .eq) = false := by
          rcases Int.lt_trichotomy (key a) 0 with l | l | l
          · rw [ord_lt na nan_0 (by rw [key_0]; exact l)]; rfl
          · exact absurd l k0
          · rw [ord_gt na nan_0 (by rw [key_0]; exact l)]; rfl
        rcases Int.lt_trichotomy (key a) (key b) with l | l | l
        · have ab := ord_lt na nb l
          rw [decide_eq_true l]
          clear k0 l
          go_enter Tryz.func17, Tryz.ntmps17
          go_wp2
          all_goals (go_ret; exact ⟨rfl, rfl⟩)
        · have ab := ord_eq na nb l
          rw [decide_eq_false (by omega)]
          clear k0 l
          go_enter Tryz.func17, Tryz.ntmps17
          go_wp2
          all_goals (go_ret; exact ⟨rfl, rfl⟩)
        · have ab := ord_gt na nb l
          rw [decide_eq_false (by omega)]
          clear k0 l
          go_enter Tryz.func17, Tryz.ntmps17
          go_wp2
          all_goals (go_ret; exact ⟨rfl, rfl⟩)
    · have oa := ord_eq na na rfl
      have ob := ord_nl b nb
      unfold befB; rw [na, nb]
      go_enter Tryz.func17, Tryz.ntmps17
      go_wp2
      all_goals (go_ret; exact ⟨rfl, rfl⟩)
  · have oa := ord_nl a na
    cases nb : nan b
    · have ob := ord_eq nb nb rfl
      unfold befB; rw [na, nb]
      go_enter Tryz.func17, Tryz.ntmps17
      go_wp2
      all_goals (go_ret; exact ⟨rfl, rfl⟩)
    · have ob := ord_nl b nb
      unfold befB; rw [na, nb]
      go_enter Tryz.func17, Tryz.ntmps17
      go_wp2
      all_goals (go_ret; exact ⟨rfl, rfl⟩)
set_option linter.unusedVariables false in
theorem rbefore_calls (a b : Nat) (ha : a < 18446744073709551616) (hb : b < 18446744073709551616) (w : World) : Calls Tryz.prog 27 #[.float .f64 a, .float .f64 b] w fun e w' => e = .returned (.bool (befB a b)) ∧ w = w' := by
  cases na : nan a
  · cases nb : nan b
    · rw [bef_num na nb]
      by_cases k0 : key a = 0
      · by_cases k1 : key b = 0
        · rw [if_pos ⟨k0, k1⟩]
          have oa := ord_eq na na rfl
          have ob := ord_eq nb nb rfl
          have za := ord_eq na nan_0 (k0.trans key_0.symm)
          have zb := ord_eq nb nan_0 (k1.trans key_0.symm)
          clear k0 k1
          cases sa : sgn a
          · go_enter Tryz.func27, Tryz.ntmps27
            go_wp2_with (first | (refine (minus_calls a ha _).mono ?_; rw [sa]; rintro e w' ⟨rfl, rfl⟩) | (refine (minus_calls b hb _).mono ?_; rintro e w' ⟨rfl, rfl⟩))
            all_goals (go_ret; exact ⟨rfl, rfl⟩)
          · go_enter Tryz.func27, Tryz.ntmps27
            go_wp2_with (first | (refine (minus_calls a ha _).mono ?_; rw [sa]; rintro e w' ⟨rfl, rfl⟩) | (refine (minus_calls b hb _).mono ?_; rintro e w' ⟨rfl, rfl⟩))
            all_goals (go_ret; exact ⟨by rw [Bool.true_and]; rfl, rfl⟩)
        · rw [if_neg (fun h => k1 h.2)]
          have oa := ord_eq na na rfl
          have ob := ord_eq nb nb rfl
          have za := ord_eq na nan_0 (k0.trans key_0.symm)
          rcases Int.lt_trichotomy (key b) 0 with l | l | l
          · have zb := ord_lt nb nan_0 (by rw [key_0]; exact l)
            have ab := ord_gt na nb (by rw [k0]; exact l)
            rw [decide_eq_false (by rw [k0]; omega)]
            clear k0 k1 l
            go_enter Tryz.func27, Tryz.ntmps27
            go_wp2
            all_goals (go_ret; exact ⟨rfl, rfl⟩)
          · exact absurd l k1
          · have zb := ord_gt nb nan_0 (by rw [key_0]; exact l)
            have ab := ord_lt na nb (by rw [k0]; exact l)
            rw [decide_eq_true (by rw [k0]; omega)]
            clear k0 k1 l
            go_enter Tryz.func27, Tryz.ntmps27
            go_wp2
            all_goals (go_ret; exact ⟨rfl, rfl⟩)
      · rw [if_neg (fun h => k0 h.1)]
        have oa := ord_eq na na rfl
        have ob := ord_eq nb nb rfl
        have za : (FloatKind.f64.format.order a 0 == some .eq) = false := by
          rcases Int.lt_trichotomy (key a) 0 with l | l | l
          · rw [ord_lt na nan_0 (by rw [key_0]; exact l)]; rfl
          · exact absurd l k0
          · rw [ord_gt na nan_0 (by rw [key_0]; exact l)]; rfl
        rcases Int.lt_trichotomy (key a) (key b) with l | l | l
        · have ab := ord_lt na nb l
          rw [decide_eq_true l]
          clear k0 l
          go_enter Tryz.func27, Tryz.ntmps27
          go_wp2
          all_goals (go_ret; exact ⟨rfl, rfl⟩)
        · have ab := ord_eq na nb l
          rw [decide_eq_false (by omega)]
          clear k0 l
          go_enter Tryz.func27, Tryz.ntmps27
          go_wp2
          all_goals (go_ret; exact ⟨rfl, rfl⟩)
        · have ab := ord_gt na nb l
          rw [decide_eq_false (by omega)]
          clear k0 l
          go_enter Tryz.func27, Tryz.ntmps27
          go_wp2
          all_goals (go_ret; exact ⟨rfl, rfl⟩)
    · have oa := ord_eq na na rfl
      have ob := ord_nl b nb
      unfold befB; rw [na, nb]
      go_enter Tryz.func27, Tryz.ntmps27
      go_wp2
      all_goals (go_ret; exact ⟨rfl, rfl⟩)
  · have oa := ord_nl a na
    cases nb : nan b
    · have ob := ord_eq nb nb rfl
      unfold befB; rw [na, nb]
      go_enter Tryz.func27, Tryz.ntmps27
      go_wp2
      all_goals (go_ret; exact ⟨rfl, rfl⟩)
    · have ob := ord_nl b nb
      unfold befB; rw [na, nb]
      go_enter Tryz.func27, Tryz.ntmps27
      go_wp2
      all_goals (go_ret; exact ⟨rfl, rfl⟩)

/-- Comparisons. -/
def ordO (a b : Nat) : Option Ordering := FloatKind.f64.format.order a b
def cmpB (op : Int) (o : Option Ordering) : Bool :=
  if op = 5 then o == some .eq else if op = 6 then o != some .eq else if op = 7 then o == some .gt else if op = 8 then o == some .lt
  else if op = 9 then (o == some .gt || o == some .eq) else if op = 10 then (o == some .lt || o == some .eq) else false
theorem holds_calls (op : Int) (a b : Nat) (w : World) : Calls Tryz.prog 10 #[.int .i64 op, .float .f64 a, .float .f64 b] w fun e w' => e = .returned (.bool (cmpB op (ordO a b))) ∧ w = w' := by
  by_cases h5 : op = 5
  · subst h5
    go_enter Tryz.func10, Tryz.ntmps10
    go_wp2
    all_goals (go_ret; exact ⟨rfl, rfl⟩)
  by_cases h6 : op = 6
  · subst h6
    go_enter Tryz.func10, Tryz.ntmps10
    go_wp2
    all_goals (go_ret; exact ⟨rfl, rfl⟩)
  by_cases h7 : op = 7
  · subst h7
    go_enter Tryz.func10, Tryz.ntmps10
    go_wp2
    all_goals (go_ret; exact ⟨rfl, rfl⟩)
  by_cases h8 : op = 8
  · subst h8
    go_enter Tryz.func10, Tryz.ntmps10
    go_wp2
    all_goals (go_ret; exact ⟨rfl, rfl⟩)
  by_cases h9 : op = 9
  · subst h9
    go_enter Tryz.func10, Tryz.ntmps10
    go_wp2
    all_goals (go_ret; exact ⟨rfl, rfl⟩)
  by_cases h10 : op = 10
  · subst h10
    go_enter Tryz.func10, Tryz.ntmps10
    go_wp2
    all_goals (go_ret; exact ⟨rfl, rfl⟩)
  have e : cmpB op (ordO a b) = false := by unfold cmpB; rw [if_neg h5, if_neg h6, if_neg h7, if_neg h8, if_neg h9, if_neg h10]
  rw [e]
  have b5 : (op == 5) = false := beq_eq_false_iff_ne.2 h5
  have b6 : (op == 6) = false := beq_eq_false_iff_ne.2 h6
  have b7 : (op == 7) = false := beq_eq_false_iff_ne.2 h7
  have b8 : (op == 8) = false := beq_eq_false_iff_ne.2 h8
  have b9 : (op == 9) = false := beq_eq_false_iff_ne.2 h9
  have b10 : (op == 10) = false := beq_eq_false_iff_ne.2 h10
  clear e h5 h6 h7 h8 h9 h10
  go_enter Tryz.func10, Tryz.ntmps10
  go_wp2
  all_goals (go_ret; exact ⟨rfl, rfl⟩)
theorem rholds_calls (op : Int) (a b : Nat) (w : World) : Calls Tryz.prog 23 #[.int .i64 op, .float .f64 a, .float .f64 b] w fun e w' => e = .returned (.bool (cmpB op (ordO a b))) ∧ w = w' := by
  by_cases h5 : op = 5
  · subst h5
    go_enter Tryz.func23, Tryz.ntmps23
    go_wp2
    all_goals (go_ret; exact ⟨rfl, rfl⟩)
  by_cases h6 : op = 6
  · subst h6
    go_enter Tryz.func23, Tryz.ntmps23
    go_wp2
    all_goals (go_ret; exact ⟨rfl, rfl⟩)
  by_cases h7 : op = 7
  · subst h7
    go_enter Tryz.func23, Tryz.ntmps23
    go_wp2
    all_goals (go_ret; exact ⟨rfl, rfl⟩)
  by_cases h8 : op = 8
  · subst h8
    go_enter Tryz.func23, Tryz.ntmps23
    go_wp2
    all_goals (go_ret; exact ⟨rfl, rfl⟩)
  by_cases h9 : op = 9
  · subst h9
    go_enter Tryz.func23, Tryz.ntmps23
    go_wp2
    all_goals (go_ret; exact ⟨rfl, rfl⟩)
  by_cases h10 : op = 10
  · subst h10
    go_enter Tryz.func23, Tryz.ntmps23
    go_wp2
    all_goals (go_ret; exact ⟨rfl, rfl⟩)
  have e : cmpB op (ordO a b) = false := by unfold cmpB; rw [if_neg h5, if_neg h6, if_neg h7, if_neg h8, if_neg h9, if_neg h10]
  rw [e]
  have b5 : (op == 5) = false := beq_eq_false_iff_ne.2 h5
  have b6 : (op == 6) = false := beq_eq_false_iff_ne.2 h6
  have b7 : (op == 7) = false := beq_eq_false_iff_ne.2 h7
  have b8 : (op == 8) = false := beq_eq_false_iff_ne.2 h8
  have b9 : (op == 9) = false := beq_eq_false_iff_ne.2 h9
  have b10 : (op == 10) = false := beq_eq_false_iff_ne.2 h10
  clear e h5 h6 h7 h8 h9 h10
  go_enter Tryz.func23, Tryz.ntmps23
  go_wp2
  all_goals (go_ret; exact ⟨rfl, rfl⟩)
end Go.Proofs.YtdmmmdnfofoefaaGreatDoor.Fl
