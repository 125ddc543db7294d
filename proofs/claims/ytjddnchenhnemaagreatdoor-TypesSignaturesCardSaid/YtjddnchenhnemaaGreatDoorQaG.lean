/-
  Signatures: both tell the same.
-/
import Derived.Test.YtjddnchenhnemaaGreatDoorPsY
namespace Go.Proofs.YtjddnchenhnemaaGreatDoor.Ps
open Go Go.RowKit Go.Proofs.YtjddnchenhnemaaGreatDoor.QT Go.Proofs.YtjddnchenhnemaaGreatDoor.Rg Go.Proofs.YtjddnchenhnemaaGreatDoor.Ma Go.Proofs.YtjddnchenhnemaaGreatDoor.Ir
set_option maxHeartbeats 4000000
set_option maxRecDepth 100000
theorem win_eq (s : ByteArray) : decide (1 ≤ ixS winL s 1) = win s := by
  have hd : windowL = ⟨#[]⟩ :: winL := rfl
  unfold win
  rw [hd, ixS]
  by_cases h : (s.toList == (⟨#[]⟩ : ByteArray).toList) = true
  · have h0 : s = ⟨#[]⟩ := toList_inj (beq_iff_eq.1 h)
    subst h0
    decide +kernel
  · rw [if_neg (by intro h'; exact h (by rw [beq_iff_eq] at h' ⊢; first | exact h' | exact h'.symm))]
theorem of_b {s : ByteArray} (l : List UInt8) (hl : (⟨l.toArray⟩ : ByteArray).toList = l) (h : (s.toList == l) = true) : s = ⟨l.toArray⟩ := toList_inj ((beq_iff_eq.1 h).trans hl.symm)
theorem sig_eq (s : ByteArray) : sigR s = sigT s := by
  by_cases h1 : b1 s = true
  · rw [of_b _ (by decide +kernel) h1]; decide +kernel
  by_cases h2 : b2 s = true
  · rw [of_b _ (by decide +kernel) h2]; decide +kernel
  by_cases h3 : b3 s = true
  · rw [of_b _ (by decide +kernel) h3]; decide +kernel
  by_cases h4 : b4 s = true
  · rw [of_b _ (by decide +kernel) h4]; decide +kernel
  by_cases h5 : b5 s = true
  · rw [of_b _ (by decide +kernel) h5]; decide +kernel
  by_cases h6 : b6 s = true
  · rw [of_b _ (by decide +kernel) h6]; decide +kernel
  by_cases h7 : b7 s = true
  · rw [of_b _ (by decide +kernel) h7]; decide +kernel
  by_cases h8 : b8 s = true
  · rw [of_b _ (by decide +kernel) h8]; decide +kernel
  by_cases h9 : b9 s = true
  · rw [of_b _ (by decide +kernel) h9]; decide +kernel
  unfold sigR sigT
  rw [win_eq]
  simp only [h1, h2, h3, h4, h5, h6, h7, h8, h9]
  rfl
theorem any_ix (s : ByteArray) : ∀ (l : List ByteArray) (j : Nat), 1 ≤ j → decide (1 ≤ ixS l s j) = l.any fun t => t.toList == s.toList
  | [], _, _ => rfl
  | t :: l, j, hj => by
    rw [ixS, List.any_cons]
    obtain ⟨x, hx⟩ : ∃ x, (t.toList == s.toList) = x := ⟨_, rfl⟩
    have hx' : (s.toList == t.toList) = x := by rw [← hx]; exact BEq.comm
    cases x with
    | true => simp only [hx, hx', if_true, Bool.true_or]; exact decide_eq_true (by omega)
    | false => simp only [hx, hx', Bool.false_or]; exact any_ix s l (j + 1) (by omega)
theorem tl_b1 (s : ByteArray) : ((⟨#[99, 108, 97, 109, 112, 95, 109, 105, 110]⟩ : ByteArray).toList == s.toList) = b1 s := by rw [show (⟨#[99, 108, 97, 109, 112, 95, 109, 105, 110]⟩ : ByteArray).toList = [99, 108, 97, 109, 112, 95, 109, 105, 110] by decide +kernel]; exact BEq.comm
theorem tl_b2 (s : ByteArray) : ((⟨#[99, 108, 97, 109, 112, 95, 109, 97, 120]⟩ : ByteArray).toList == s.toList) = b2 s := by rw [show (⟨#[99, 108, 97, 109, 112, 95, 109, 97, 120]⟩ : ByteArray).toList = [99, 108, 97, 109, 112, 95, 109, 97, 120] by decide +kernel]; exact BEq.comm
theorem tl_b3 (s : ByteArray) : ((⟨#[108, 97, 98, 101, 108, 95, 115, 101, 116]⟩ : ByteArray).toList == s.toList) = b3 s := by rw [show (⟨#[108, 97, 98, 101, 108, 95, 115, 101, 116]⟩ : ByteArray).toList = [108, 97, 98, 101, 108, 95, 115, 101, 116] by decide +kernel]; exact BEq.comm
theorem tl_b4 (s : ByteArray) : ((⟨#[116, 105, 109, 101]⟩ : ByteArray).toList == s.toList) = b4 s := by rw [show (⟨#[116, 105, 109, 101]⟩ : ByteArray).toList = [116, 105, 109, 101] by decide +kernel]; exact BEq.comm
theorem tl_b5 (s : ByteArray) : ((⟨#[115, 99, 97, 108, 97, 114]⟩ : ByteArray).toList == s.toList) = b5 s := by rw [show (⟨#[115, 99, 97, 108, 97, 114]⟩ : ByteArray).toList = [115, 99, 97, 108, 97, 114] by decide +kernel]; exact BEq.comm
theorem tl_b6 (s : ByteArray) : ((⟨#[118, 101, 99, 116, 111, 114]⟩ : ByteArray).toList == s.toList) = b6 s := by rw [show (⟨#[118, 101, 99, 116, 111, 114]⟩ : ByteArray).toList = [118, 101, 99, 116, 111, 114] by decide +kernel]; exact BEq.comm
theorem tl_b7 (s : ByteArray) : ((⟨#[97, 98, 115]⟩ : ByteArray).toList == s.toList) = b7 s := by rw [show (⟨#[97, 98, 115]⟩ : ByteArray).toList = [97, 98, 115] by decide +kernel]; exact BEq.comm
theorem tl_b8 (s : ByteArray) : ((⟨#[115, 103, 110]⟩ : ByteArray).toList == s.toList) = b8 s := by rw [show (⟨#[115, 103, 110]⟩ : ByteArray).toList = [115, 103, 110] by decide +kernel]; exact BEq.comm
theorem tl_b9 (s : ByteArray) : ((⟨#[97, 98, 115, 101, 110, 116]⟩ : ByteArray).toList == s.toList) = b9 s := by rw [show (⟨#[97, 98, 115, 101, 110, 116]⟩ : ByteArray).toList = [97, 98, 115, 101, 110, 116] by decide +kernel]; exact BEq.comm
theorem mem_eq (s : ByteArray) : (sortL.any fun t => t.toList == s.toList) = (sigT s).2.2 := by
  have hp : (sortL.map ByteArray.toList).Perm ((name9 ++ winL).map ByteArray.toList) := List.isPerm_iff.1 (by decide +kernel)
  have ha : ∀ l : List ByteArray, (l.any fun t => t.toList == s.toList) = (l.map ByteArray.toList).any fun t => t == s.toList := fun l => by rw [List.any_map]; rfl
  rw [ha, hp.any_eq, ← ha, List.any_append, ← any_ix s winL 1 (Nat.le_refl _), win_eq]
  simp only [name9, List.any_cons, List.any_nil, tl_b1, tl_b2, tl_b3, tl_b4, tl_b5, tl_b6, tl_b7, tl_b8, tl_b9, sigT]
  cases b1 s
  rotate_left
  · simp
  cases b2 s
  rotate_left
  · simp
  cases b3 s
  rotate_left
  · simp
  cases b4 s
  rotate_left
  · simp
  cases b5 s
  rotate_left
  · simp
  cases b6 s
  rotate_left
  · simp
  cases b7 s
  rotate_left
  · simp
  cases b8 s
  rotate_left
  · simp
  cases b9 s
  rotate_left
  · simp
  cases win s <;> simp
end Go.Proofs.YtjddnchenhnemaaGreatDoor.Ps
