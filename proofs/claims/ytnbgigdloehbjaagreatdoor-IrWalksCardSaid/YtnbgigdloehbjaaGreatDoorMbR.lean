/-
  Matchers: rows of them in memory.
-/
import Derived.Test.YtnbgigdloehbjaaGreatDoorBaA
namespace Go.Proofs.YtnbgigdloehbjaaGreatDoor.Ma
open Go Go.RowKit Go.Proofs.YtnbgigdloehbjaaGreatDoor.Rg

structure Mr where
  kind : Int
  name : ByteArray
  value : ByteArray
/-- A row of matchers. -/
structure RowM (W : World) (v : Value) (l : List Mr) : Prop where
  val : ∃ ao cap, v = .slice ao l.length cap ∧ (0 < l.length → ∃ b o, ao = some ⟨b, o, none⟩ ∧ ∀ (i : Nat) (m : Mr), l[i]? = some m →
    W.cell? ⟨b, o + i * 3, none⟩ = some (.int .i64 m.kind) ∧ W.cell? ⟨b, o + i * 3 + 1, none⟩ = some (.string m.name) ∧ W.cell? ⟨b, o + i * 3 + 2, none⟩ = some (.string m.value))
theorem RowM.below {W W1 : World} {v : Value} {l : List Mr} (h : RowM W v l) (hb : Below W.heap.size W W1) : RowM W1 v l := by
  obtain ⟨ao, cap, hv, hc⟩ := h.val
  refine ⟨ao, cap, hv, fun h0 => ?_⟩
  obtain ⟨b, o, ha, hm⟩ := hc h0
  refine ⟨b, o, ha, fun i m hi => ?_⟩
  obtain ⟨h1, h2, h3⟩ := hm i m hi
  exact ⟨by rw [hb.cell (World.block_lt_of_cell? W _ h1)]; exact h1, by rw [hb.cell (World.block_lt_of_cell? W _ h2)]; exact h2, by rw [hb.cell (World.block_lt_of_cell? W _ h3)]; exact h3⟩
end Go.Proofs.YtnbgigdloehbjaaGreatDoor.Ma
