/-
  What is wrong with a node by itself (ir.fields).
-/
import Derived.Test.YtnbgigdloehbjaaGreatDoorIrH
import Derived.Test.YtnbgigdloehbjaaGreatDoorIrI
import Derived.Test.YtnbgigdloehbjaaGreatDoorMbK
namespace Go.Proofs.YtnbgigdloehbjaaGreatDoor.Ir
open Go Go.RowKit Go.Proofs.YtnbgigdloehbjaaGreatDoor.Rg Go.Proofs.YtnbgigdloehbjaaGreatDoor.Ma
set_option maxHeartbeats 8000000
set_option maxRecDepth 100000

theorem mcells_get : ∀ (l : List Mr) (i : Nat) (m : Mr), l[i]? = some m → (mcells l)[i * 3]? = some (.int .i64 m.kind) ∧ (mcells l)[i * 3 + 1]? = some (.string m.name) ∧ (mcells l)[i * 3 + 2]? = some (.string m.value)
  | [], i, m, h => by simp at h
  | x :: l, 0, m, h => by
    simp at h
    subst h
    exact ⟨rfl, rfl, rfl⟩
  | x :: l, i + 1, m, h => by
    have := mcells_get l i m (by simpa using h)
    have e : mcells (x :: l) = .int .i64 x.kind :: .string x.name :: .string x.value :: mcells l := rfl
    rw [e, show (i + 1) * 3 = i * 3 + 1 + 1 + 1 by omega]
    exact this
theorem rowM_of {W : World} {F : Nat → Prop} {v : Value} {l : List Mr} (h : Row W F v l.length 3 (mcells l)) : RowM W v l := by
  obtain ⟨_, ao, cap, hv, hc⟩ := h
  refine ⟨ao, cap, hv, fun h0 => ?_⟩
  obtain ⟨b, o, _, ha, hr⟩ := hc h0
  refine ⟨b, o, ha, fun i m hi => ?_⟩
  obtain ⟨h1, h2, h3⟩ := mcells_get l i m hi
  exact ⟨hr _ _ h1, by rw [Nat.add_assoc]; exact hr _ _ h2, by rw [Nat.add_assoc]; exact hr _ _ h3⟩
theorem quiet_eq {P : Program} {f : FuncId} {args : Array Value} {w : World} {n : Nat} {v : Value} (h : Calls P f args (w.drewN n) fun e w' => e = .returned v ∧ w.drewN n = w') :
    Calls P f args (w.drewN n) fun e w'' => e = .returned v ∧ ∃ m, w'' = w.drewN m := Calls.quiet_of_same (h.mono fun _ _ ⟨a, b⟩ => ⟨a, b.symm⟩)
/-- The bounds of what is walked. -/
structure Sml (f : Fd) : Prop where
  m : f.m.length ≤ 1000
  ms : ∀ m ∈ f.m, m.name.size ≤ 300 ∧ m.value.size ≤ 300
  g : f.gn.length ≤ 100000
  gs : ∀ s ∈ f.gn, s.size ≤ 300
  x : f.xn.length ≤ 100000
  xs : ∀ s ∈ f.xn, s.size ≤ 300
  i : f.incl.length ≤ 100000
  is : ∀ s ∈ f.incl, s.size ≤ 300
  n : f.name.size ≤ 300
  v : f.value.size ≤ 600
theorem box_far {W W1 : World} {cs : List Value} {o : Obj} (hb : Below (W.alloc (.cells cs.toArray 31)).heap.size (W.alloc (.cells cs.toArray 31)) W1) (j : Nat) {u : Value} (h : cs[j]? = some u) :
    (W1.alloc o).cell? ⟨W.heap.size, j, none⟩ = some u := by
  have hs : W.heap.size < W1.heap.size := by have := hb.size; simp at this; omega
  exact (((Below.refl W1.heap.size W1).alloc (Nat.le_refl _) o).cell (p := ⟨W.heap.size, j, none⟩) hs).trans ((hb.cell (p := ⟨W.heap.size, j, none⟩) (by simp)).trans (box_cell j h))
end Go.Proofs.YtnbgigdloehbjaaGreatDoor.Ir
