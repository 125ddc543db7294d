/-
  Values in plain Lean: a word of 64 bits has a key, a whole number; of two words that are no NaN the order is that of their keys.
-/
import Derived.WalkLawsBesides
namespace Go.Proofs.YtdmmmdnfofoefaaGreatDoor.Fl
open Go Ieee

def two63 : Nat := 9223372036854775808
def infR : Nat := 9218868437227405312
def B52 : Nat := 4503599627370496
def mag (x : Nat) : Nat := x % two63
def sgn (x : Nat) : Bool := x / two63 % 2 == 1
def nan (x : Nat) : Bool := decide (infR < mag x)
def key (x : Nat) : Int := if sgn x then -(mag x : Int) else (mag x : Int)

theorem sw_eq : Format.signWeight double = two63 := by decide +kernel
theorem bin_eq : Format.binade double = B52 := by decide +kernel
theorem inf_eq : Format.infRung double = infR := by decide +kernel
theorem lp_eq : Format.leastPlace double = -1074 := by decide +kernel

def val (r : Nat) : Nat := if r < B52 then r else (B52 + r % B52) * 2 ^ (r / B52 - 1)

theorem val_mono {r r' : Nat} (h : r < r') : val r < val r' := by
  unfold val
  have hB : 0 < B52 := by decide
  by_cases h1 : r' < B52
  · rw [if_pos h1, if_pos (by omega)]; exact h
  · rw [if_neg h1]
    have q1 : 1 ≤ r' / B52 := (Nat.le_div_iff_mul_le hB).2 (by omega)
    have p1 : 1 ≤ 2 ^ (r' / B52 - 1) := Nat.one_le_two_pow
    by_cases h2 : r < B52
    · rw [if_pos h2]
      calc r < B52 := h2
        _ ≤ B52 + r' % B52 := by omega
        _ = (B52 + r' % B52) * 1 := by omega
        _ ≤ _ := Nat.mul_le_mul_left _ p1
    · rw [if_neg h2]
      have q2 : 1 ≤ r / B52 := (Nat.le_div_iff_mul_le hB).2 (by omega)
      have hq : r / B52 ≤ r' / B52 := Nat.div_le_div_right (Nat.le_of_lt h)
      have m1 : r % B52 < B52 := Nat.mod_lt _ hB
      have d1 := Nat.div_add_mod r B52
      have d2 := Nat.div_add_mod r' B52
      by_cases he : r / B52 = r' / B52
      · rw [he]
        rw [he] at d1
        refine (Nat.mul_lt_mul_right (by omega)).2 ?_
        omega
      · have e1 : 2 ^ (r / B52 - 1) * 2 = 2 ^ (r / B52) := by rw [← Nat.pow_succ]; congr 1; omega
        have e2 : 2 ^ (r / B52) ≤ 2 ^ (r' / B52 - 1) := Nat.pow_le_pow_right (by decide) (by omega)
        have p2 : 1 ≤ 2 ^ (r / B52 - 1) := Nat.one_le_two_pow
        calc (B52 + r % B52) * 2 ^ (r / B52 - 1) < (B52 + B52) * 2 ^ (r / B52 - 1) := (Nat.mul_lt_mul_right (by omega)).2 (by omega)
          _ = B52 * 2 ^ (r / B52) := by rw [← e1, ← Nat.two_mul, Nat.mul_comm 2 B52, Nat.mul_assoc, Nat.mul_comm 2]
          _ ≤ B52 * 2 ^ (r' / B52 - 1) := Nat.mul_le_mul_left _ e2
          _ ≤ _ := Nat.mul_le_mul_right _ (by omega)

def sg (s : Bool) (n : Nat) : Int := if s then -(n : Int) else (n : Int)
theorem signed_eq (s : Bool) (m k : Nat) : signed s m k = sg s (m * 2 ^ k) := by
  unfold signed sg; rw [Nat.shiftLeft_eq]

theorem cmp_scale (a b : Int) (k : Nat) : compare (a * (2 ^ k : Nat)) (b * (2 ^ k : Nat)) = compare a b := by
  have hp : (0 : Int) < (2 ^ k : Nat) := by exact_mod_cast Nat.two_pow_pos k
  rcases Int.lt_trichotomy a b with h | h | h
  · rw [Int.compare_eq_lt.2 h, Int.compare_eq_lt.2 (Int.mul_lt_mul_of_pos_right h hp)]
  · rw [h]; simp
  · rw [Int.compare_eq_gt.2 h, Int.compare_eq_gt.2 (Int.mul_lt_mul_of_pos_right h hp)]

theorem sg_mul (s : Bool) (n k : Nat) : sg s n * (k : Int) = sg s (n * k) := by
  unfold sg; split <;> simp [Int.neg_mul]

theorem order_num (s t : Bool) (m n : Nat) (i j : Int) (hi : -1074 ≤ i) (hj : -1074 ≤ j) :
    Datum.order (.number s m i) (.number t n j) = some (compare (sg s (m * 2 ^ (i + 1074).toNat)) (sg t (n * 2 ^ (j + 1074).toNat))) := by
  unfold Datum.order
  simp only [signed_eq]
  congr 1
  rw [← cmp_scale _ _ (min i j + 1074).toNat]
  rw [sg_mul, sg_mul, Nat.mul_assoc, Nat.mul_assoc, ← Nat.pow_add, ← Nat.pow_add]
  have e1 : (i - min i j).toNat + (min i j + 1074).toNat = (i + 1074).toNat := by omega
  have e2 : (j - min i j).toNat + (min i j + 1074).toNat = (j + 1074).toNat := by omega
  rw [e1, e2]

theorem sg_cmp (s t : Bool) (a b : Nat) : compare (sg s (val a)) (sg t (val b)) = compare (sg s a) (sg t b) := by
  have h0 : val 0 = 0 := by decide
  have pos : ∀ x, 0 < x → 0 < val x := fun x hx => by have := val_mono hx; omega
  have ca : (a : Nat) = 0 ∨ 0 < a := by omega
  have cb : (b : Nat) = 0 ∨ 0 < b := by omega
  have key : ∀ (x y : Int) (x' y' : Int), (x < y ↔ x' < y') → (x = y ↔ x' = y') → compare x y = compare x' y' := by
    intro x y x' y' h1 h2
    rcases Int.lt_trichotomy x y with h | h | h
    · rw [Int.compare_eq_lt.2 h, Int.compare_eq_lt.2 (h1.1 h)]
    · rw [Int.compare_eq_eq.2 h, Int.compare_eq_eq.2 (h2.1 h)]
    · rw [Int.compare_eq_gt.2 h, Int.compare_eq_gt.2 (by
        have n1 : ¬ x' < y' := fun q => by have := h1.2 q; omega
        have n2 : ¬ x' = y' := fun q => by have := h2.2 q; omega
        omega)]
  have pa := pos a
  have pb := pos b
  have m1 : a < b → val a < val b := val_mono
  have m2 : b < a → val b < val a := val_mono
  have m3 : a = b → val a = val b := fun h => by rw [h]
  have z1 : a = 0 → val a = 0 := fun h => by rw [h, h0]
  have z2 : b = 0 → val b = 0 := fun h => by rw [h, h0]
  apply key <;> (unfold sg; cases s <;> cases t <;> simp <;> omega)

theorem read_eq (x : Nat) : Format.read double x =
    if mag x < B52 then .number (sgn x) (mag x) (-1074)
    else if mag x < infR then .number (sgn x) (B52 + mag x % B52) (-1074 + (mag x / B52 - 1 : Nat))
    else if mag x = infR then .infinity (sgn x) else .nan (sgn x) (mag x - infR) := by
  unfold Format.read
  rw [sw_eq, bin_eq, inf_eq, lp_eq]; rfl

theorem read_fin {x : Nat} (h : mag x < infR) : ∃ m i, Format.read double x = .number (sgn x) m i ∧ -1074 ≤ i ∧ m * 2 ^ (i + 1074).toNat = val (mag x) := by
  rw [read_eq]
  unfold val
  by_cases h1 : mag x < B52
  · rw [if_pos h1, if_pos h1]; exact ⟨_, _, rfl, by omega, by simp⟩
  · rw [if_neg h1, if_neg h1, if_pos h]
    refine ⟨_, _, rfl, by omega, ?_⟩
    congr 2
    omega
theorem read_inf {x : Nat} (h : mag x = infR) : Format.read double x = .infinity (sgn x) := by
  rw [read_eq, if_neg (by rw [h]; decide), if_neg (by omega), if_pos h]
theorem read_nan {x : Nat} (h : infR < mag x) : Format.read double x = .nan (sgn x) (mag x - infR) := by
  rw [read_eq, if_neg (by have : B52 < infR := by decide
                          omega), if_neg (by omega), if_neg (by omega)]

theorem order_key (x y : Nat) : Format.order double x y = if nan x || nan y then none else some (compare (key x) (key y)) := by
  unfold Format.order
  by_cases hx : infR < mag x
  · rw [read_nan hx]; simp [nan, hx, Datum.order]
  · by_cases hy : infR < mag y
    · rw [read_nan hy]; simp [nan, hy, Datum.order]
      cases Format.read double x <;> rfl
    · have e : (nan x || nan y) = false := by simp [nan, hx, hy]
      rw [e]
      have kx : key x = sg (sgn x) (mag x) := rfl
      have ky : key y = sg (sgn y) (mag y) := rfl
      rw [kx, ky]
      simp only [Bool.false_eq_true, if_false]
      by_cases fx : mag x < infR
      · obtain ⟨m, i, r1, l1, v1⟩ := read_fin fx
        by_cases fy : mag y < infR
        · obtain ⟨n, j, r2, l2, v2⟩ := read_fin fy
          rw [r1, r2, order_num _ _ _ _ _ _ l1 l2, v1, v2, sg_cmp]
        · have gy : mag y = infR := by omega
          rw [r1, read_inf gy]
          unfold Datum.order sg
          cases sgn y
          · simp only [Bool.false_eq_true, if_false]; rw [Int.compare_eq_lt.2 (by split <;> omega)]
          · simp only [if_true]; rw [Int.compare_eq_gt.2 (by split <;> omega)]
      · have gx : mag x = infR := by omega
        rw [read_inf gx]
        by_cases fy : mag y < infR
        · obtain ⟨n, j, r2, l2, v2⟩ := read_fin fy
          rw [r2]
          unfold Datum.order sg
          cases sgn x
          · simp only [Bool.false_eq_true, if_false]; rw [Int.compare_eq_gt.2 (by split <;> omega)]
          · simp only [if_true]; rw [Int.compare_eq_lt.2 (by split <;> omega)]
        · have gy : mag y = infR := by omega
          rw [read_inf gy, gx, gy]
          cases sgn x <;> cases sgn y <;> decide +kernel
end Go.Proofs.YtdmmmdnfofoefaaGreatDoor.Fl
