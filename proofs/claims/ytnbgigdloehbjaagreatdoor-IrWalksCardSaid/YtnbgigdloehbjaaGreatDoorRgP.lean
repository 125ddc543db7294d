/-
  Plain facts on the reader: what it leaves alone, and that it goes on.
-/
import Derived.Test.YtnbgigdloehbjaaGreatDoorRgA
namespace Go.Proofs.YtnbgigdloehbjaaGreatDoor.Rg
open Go

/-- r' is r, further on: the text, the depth and the program are the same; the first error stays. -/
structure Ext (r r' : Rd) : Prop where
  s : r'.s = r.s
  deep : r'.deep = r.deep
  l : r'.l = r.l
  le : r.at_ ≤ r'.at_
  top : r.at_ ≤ r.s.size → r'.at_ ≤ r.s.size
  err : r.err ≠ 0 → r'.err = r.err ∧ r'.bad = r.bad ∧ r'.at_ = r.at_

theorem Ext.refl (r : Rd) : Ext r r := ⟨rfl, rfl, rfl, Nat.le_refl _, id, fun _ => ⟨rfl, rfl, rfl⟩⟩
theorem Ext.trans {a b c : Rd} (h : Ext a b) (k : Ext b c) : Ext a c :=
  ⟨k.s.trans h.s, k.deep.trans h.deep, k.l.trans h.l, Nat.le_trans h.le k.le, fun ht => by
    have h1 := h.top ht
    rw [← h.s] at h1 ⊢
    exact k.top h1, fun he => by
    obtain ⟨e1, e2, e3⟩ := h.err he
    obtain ⟨f1, f2, f3⟩ := k.err (by rw [e1]; exact he)
    exact ⟨f1.trans e1, f2.trans e2, f3.trans e3⟩⟩
namespace Rd
variable (r : Rd)
theorem has_iff : r.has = true ↔ r.err = 0 ∧ r.at_ < r.s.size := by simp [has]
theorem fail_ext (e p : Nat) : Ext r (r.fail e p) := by
  unfold fail
  split
  · rename_i h
    exact ⟨rfl, rfl, rfl, Nat.le_refl _, id, fun h' => absurd h h'⟩
  · exact Ext.refl r
theorem fail_err (e p : Nat) (he : e ≠ 0) : (r.fail e p).err ≠ 0 := by
  unfold fail
  split
  · exact he
  · assumption
theorem adv_ext (h : r.has = true) : Ext r r.adv := by
  obtain ⟨h0, h1⟩ := (has_iff r).1 h
  exact ⟨rfl, rfl, rfl, Nat.le_succ _, fun _ => h1, fun h' => absurd h0 h'⟩
theorem isB_has {c : Nat} (h : r.isB c = true) : r.has = true ∧ r.cur = c := by simpa [isB] using h
theorem isR_ext (c : Nat) : Ext r (r.isR c) := by
  unfold isR
  split
  · rename_i h; exact adv_ext r (isB_has r h).1
  · exact Ext.refl r
theorem isR_at {c : Nat} (h : r.isB c = true) : (r.isR c).at_ = r.at_ + 1 := by simp [isR, h, adv]
theorem isR_err (c : Nat) : (r.isR c).err = r.err := by unfold isR; split <;> rfl
theorem escR_ext (wl : List Nat) (h : r.has = true) : Ext r (r.escR wl) := by
  unfold escR
  split
  · rename_i h1
    have : r.adv.has = true := by simp [escB] at h1; exact h1.1
    exact (adv_ext r h).trans (adv_ext _ this)
  · exact (adv_ext r h).trans (fail_ext _ _ _)
theorem escR_at (wl : List Nat) : r.at_ < (r.escR wl).at_ := by
  unfold escR
  split
  · simp [adv]; omega
  · unfold fail
    split <;> simp [adv]
theorem itemR_ext : Ext r r.itemR := by
  unfold itemR
  split
  · rename_i h
    split
    · exact escR_ext r _ h
    · split
      · exact fail_ext _ _ _
      · exact adv_ext r h
  · exact fail_ext _ _ _
theorem itemR_go (h : r.itemR.err = 0) : r.at_ < r.itemR.at_ := by
  unfold itemR at *
  split
  · rename_i h0
    rw [if_pos h0] at h
    split
    · exact escR_at r _
    · rename_i h1
      rw [if_neg h1] at h
      split
      · rename_i h2
        rw [if_pos h2] at h
        exact absurd h (fail_err r 2 _ (by decide))
      · simp [adv]
  · rename_i h0
    rw [if_neg h0] at h
    exact absurd h (fail_err r 2 _ (by decide))
theorem rangeR_ext : Ext r r.rangeR := by
  unfold rangeR
  split
  · split
    · exact (((itemR_ext r).trans (isR_ext _ _)).trans (itemR_ext _)).trans (fail_ext _ _ _)
    · exact ((itemR_ext r).trans (isR_ext _ _)).trans (itemR_ext _)
  · exact (itemR_ext r).trans (isR_ext _ _)
theorem Ext_err0 {r r' : Rd} (h : Ext r r') (h0 : r'.err = 0) : r.err = 0 := by
  apply Classical.byContradiction
  intro hn
  have := (h.err hn).1
  omega
theorem rangeR_go (h : r.rangeR.err = 0) : r.at_ < r.rangeR.at_ := by
  have hi : r.itemR.err = 0 := by
    unfold rangeR at h
    split at h
    · split at h
      · exact absurd h (fail_err _ 2 _ (by decide))
      · exact Ext_err0 ((isR_ext r.itemR 45).trans (itemR_ext _)) h
    · exact Ext_err0 (isR_ext r.itemR 45) h
  have h1 := itemR_go r hi
  have h2 : r.itemR.at_ ≤ r.rangeR.at_ := by
    unfold rangeR
    split
    · split
      · exact (((isR_ext _ _).trans (itemR_ext _)).trans (fail_ext _ _ _)).le
      · exact ((isR_ext _ _).trans (itemR_ext _)).le
    · exact (isR_ext _ _).le
  omega
theorem itemsR_ext (n : Nat) : Ext r (itemsR n r) := by
  induction n generalizing r with
  | zero => exact Ext.refl r
  | succ n ih =>
    unfold itemsR
    split
    · exact (rangeR_ext r).trans (ih _)
    · exact (rangeR_ext r).trans (isR_ext _ _)
theorem itemV_lt : r.itemV < 256 := by
  unfold itemV
  have hc : ∀ q : Rd, q.cur < 256 := fun q => by
    unfold cur byteAt
    split
    · exact UInt8.toNat_lt _
    · omega
  split
  · split
    · unfold escV
      split
      · exact hc _
      · omega
    · split
      · omega
      · exact hc _
  · omega
theorem rangeHi_lt : r.rangeHi < 256 := by
  unfold rangeHi
  split <;> exact itemV_lt _
theorem fuel_pos (h : r.at_ ≤ r.s.size) : 0 < r.fuel := by unfold fuel; omega
end Rd
end Go.Proofs.YtnbgigdloehbjaaGreatDoor.Rg
