/-
  The order of values: none comes ahead of itself; of two one does, or they are the same; and of three in a row. The signs.
-/
import Derived.Test.YtdmmmdnfofoefaaGreatDoorFlE
namespace Go.Proofs.YtdmmmdnfofoefaaGreatDoor.Fl
open Go

theorem split {a : Nat} (ha : a < 18446744073709551616) : a = (if sgn a then two63 else 0) + mag a := by
  rw [sgn_eq ha]
  unfold mag
  by_cases h : two63 ≤ a
  · rw [decide_eq_true h]; simp only [if_true]; unfold two63 at *; omega
  · rw [decide_eq_false h]; simp only [Bool.false_eq_true, if_false]; unfold two63 at *; omega
theorem key_inj {a b : Nat} (ha : a < 18446744073709551616) (hb : b < 18446744073709551616) (hk : key a = key b) (hs : sgn a = sgn b) : a = b := by
  rw [split ha, split hb, hs]
  have : mag a = mag b := by unfold key at hk; rw [hs] at hk; split at hk <;> omega
  rw [this]
theorem key_sgn {a b : Nat} (hk : key a = key b) (h0 : key a ≠ 0) : sgn a = sgn b := by
  unfold key at hk h0
  cases h1 : sgn a <;> cases h2 : sgn b <;> rw [h1, h2] at hk <;> rw [h1] at h0 <;> first | rfl | (simp at hk h0; omega)
theorem same_num {a b : Nat} (na : nan a = false) (nb : nan b = false) : sameB a b = decide (a = b) := by unfold sameB; rw [canon_of_num na, canon_of_num nb]
theorem same_nan {a b : Nat} (na : nan a = true) (nb : nan b = true) : sameB a b = true := by unfold sameB; rw [canon_of_nan na, canon_of_nan nb]; decide
theorem same_l {a b : Nat} (na : nan a = true) (nb : nan b = false) : sameB a b = false := by
  unfold sameB; rw [canon_of_nan na, canon_of_num nb]
  exact decide_eq_false (fun e => by rw [← e, nan_nz] at nb; cases nb)
theorem same_r {a b : Nat} (na : nan a = false) (nb : nan b = true) : sameB a b = false := by
  unfold sameB; rw [canon_of_num na, canon_of_nan nb]
  exact decide_eq_false (fun e => by rw [e, nan_nz] at na; cases na)
theorem same_refl (a : Nat) : sameB a a = true := by unfold sameB; exact decide_eq_true rfl
theorem bef_irrefl (a : Nat) : befB a a = false := by
  cases na : nan a
  · rw [bef_num na na]
    split
    · cases sgn a <;> rfl
    · exact decide_eq_false (by omega)
  · unfold befB; rw [na]; rfl
inductive Tri (a b : Nat) : Prop
  | lt (h1 : befB a b = true) (h2 : befB b a = false) (h3 : sameB a b = false)
  | gt (h1 : befB a b = false) (h2 : befB b a = true) (h3 : sameB a b = false)
  | eq (h1 : befB a b = false) (h2 : befB b a = false) (h3 : sameB a b = true)
theorem bef_tri {a b : Nat} (ha : a < 18446744073709551616) (hb : b < 18446744073709551616) : Tri a b := by
  cases na : nan a
  · cases nb : nan b
    · have h1 := bef_num na nb
      have h2 := bef_num nb na
      have h3 := same_num na nb
      by_cases hz : key a = 0 ∧ key b = 0
      · rw [if_pos hz] at h1
        rw [if_pos hz.symm] at h2
        cases sa : sgn a <;> cases sb : sgn b <;> rw [sa, sb] at h1 h2
        · exact .eq h1 h2 (h3.trans (decide_eq_true (key_inj ha hb (hz.1.trans hz.2.symm) (sa.trans sb.symm))))
        · exact .gt h1 h2 (h3.trans (decide_eq_false (fun e => by rw [e, sb] at sa; cases sa)))
        · exact .lt h1 h2 (h3.trans (decide_eq_false (fun e => by rw [e, sb] at sa; cases sa)))
        · exact .eq h1 h2 (h3.trans (decide_eq_true (key_inj ha hb (hz.1.trans hz.2.symm) (sa.trans sb.symm))))
      · rw [if_neg hz] at h1
        rw [if_neg (fun h => hz h.symm)] at h2
        rcases Int.lt_trichotomy (key a) (key b) with l | l | l
        · exact .lt (h1.trans (decide_eq_true l)) (h2.trans (decide_eq_false (by omega))) (h3.trans (decide_eq_false (fun e => by rw [e] at l; omega)))
        · exact .eq (h1.trans (decide_eq_false (by omega))) (h2.trans (decide_eq_false (by omega))) (h3.trans (decide_eq_true (key_inj ha hb l (key_sgn l (fun e => hz ⟨e, by omega⟩)))))
        · exact .gt (h1.trans (decide_eq_false (by omega))) (h2.trans (decide_eq_true l)) (h3.trans (decide_eq_false (fun e => by rw [e] at l; omega)))
    · exact .gt (by unfold befB; rw [na, nb]; rfl) (by unfold befB; rw [na, nb]; rfl) (same_r na nb)
  · cases nb : nan b
    · exact .lt (by unfold befB; rw [na, nb]; rfl) (by unfold befB; rw [na, nb]; rfl) (same_l na nb)
    · exact .eq (by unfold befB; rw [na, nb]; rfl) (by unfold befB; rw [na, nb]; rfl) (same_nan na nb)
theorem bef_trans {a b c : Nat} (h1 : befB a b = true) (h2 : befB b c = true) : befB a c = true := by
  unfold befB at h1 h2 ⊢
  cases na : nan a <;> cases nb : nan b <;> cases nc : nan c <;> rw [na, nb] at h1 <;> rw [nb, nc] at h2 <;> simp at h1 h2 ⊢
  · have k1 : key a = if sgn a then -(mag a : Int) else mag a := rfl
    have k2 : key b = if sgn b then -(mag b : Int) else mag b := rfl
    have k3 : key c = if sgn c then -(mag c : Int) else mag c := rfl
    by_cases za : key a = 0 <;> by_cases zb : key b = 0 <;> by_cases zc : key c = 0 <;> simp [za, zb, zc] at h1 h2 ⊢ <;> first
      | exact ⟨h1.1, h2.2⟩
      | (rw [h2.1] at h1; simp at h1; done)
      | omega
end Go.Proofs.YtdmmmdnfofoefaaGreatDoor.Fl
