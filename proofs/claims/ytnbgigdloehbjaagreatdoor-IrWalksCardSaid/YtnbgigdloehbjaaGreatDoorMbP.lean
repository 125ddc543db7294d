/-
  Matchers in plain Lean: which may be.
-/
import Derived.Test.YtnbgigdloehbjaaGreatDoorMbR
import Derived.Test.YtnbgigdloehbjaaGreatDoorMbA
import Derived.Test.YtnbgigdloehbjaaGreatDoorRgA
namespace Go.Proofs.YtnbgigdloehbjaaGreatDoor.Ma
open Go Go.RowKit Go.Proofs.YtnbgigdloehbjaaGreatDoor.Rg
def Mr.small (m : Mr) : Bool := decide (m.name.size ≤ 300) && decide (m.value.size ≤ 300)
def fewB (l : List Mr) : Bool := (l.take 41).all Mr.small && decide (l.length ≤ 40)
def badM (m : Mr) : Bool := decide (m.kind < 1) || decide (4 < m.kind) || !nameB m.name || decide (256 < m.value.size)
def Mr.like (m : Mr) : Bool := decide (m.kind = 3) || decide (m.kind = 4)
def err1 (m : Mr) : Nat := if badM m then 1 else if m.like then errOf m.value else 0
def errL : List Mr → Nat
  | [] => 0
  | m :: l => if err1 m = 0 then errL l else err1 m
def errM (l : List Mr) : Nat := if 32 < l.length then 1 else errL l
theorem errL_drop {l : List Mr} {k : Nat} {m : Mr} (h : l[k]? = some m) : errL (l.drop k) = if err1 m = 0 then errL (l.drop (k + 1)) else err1 m := by
  obtain ⟨hlt, rfl⟩ := List.getElem?_eq_some_iff.1 h
  rw [List.drop_eq_getElem_cons hlt, errL]
theorem err1_bad {m : Mr} (h : badM m = true) : err1 m = 1 := by rw [err1, if_pos h]
theorem err1_plain {m : Mr} (h : badM m = false) (hl : m.like = false) : err1 m = 0 := by rw [err1, h, hl]; rfl
theorem err1_like {m : Mr} (h : badM m = false) (hl : m.like = true) : err1 m = errOf m.value := by rw [err1, h, hl]; rfl
end Go.Proofs.YtnbgigdloehbjaaGreatDoor.Ma
