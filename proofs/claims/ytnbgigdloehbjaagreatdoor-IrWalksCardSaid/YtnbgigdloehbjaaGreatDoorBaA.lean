/-
  What all walks here lean on: blocks of cells, rows of one's own, bytes.
-/
import Derived.Below
import Derived.Test.YtnbgigdloehbjaaGreatDoorProg
import Derived.WalkKit
import Derived.Deep.AppendLies
import Derived.Deep.Draws
import Derived.Test.YtnbgigdloehbjaaGreatDoorQTail
import Derived.Deep.QuietTactic
import Derived.BigQuiet
import Derived.Lib.Hide
import Derived.Outline
import Derived.Deep.RegionHeld3
import Derived.KernelRfl
import Derived.Deep.RegionLaw
import Derived.Deep.LoopGhost
import Derived.Laws.BitsAllLaws
import Derived.Laws.Rows
import Derived.WalkMore
import Derived.WalkSmall
import Derived.Laws.IdiomStrings
namespace Go.Proofs.YtnbgigdloehbjaaGreatDoor.Rg
open Go Go.RowKit

def byteAt (s : ByteArray) (i : Nat) : Nat := if h : i < s.size then (s[i]'h).toNat else 0
theorem blk_cell {w : World} {g : Nat} {t : TypeId} {cs : Array Value} {fr : Nat × Nat} (h : w.heap[g]? = some (.cells cs t fr)) (i : Nat) : w.cell? ⟨g, i, none⟩ = cs[i]? := cell_of_row w g i cs t fr h
theorem blk_frozen {w : World} {g : Nat} {t : TypeId} {cs : Array Value} (h : w.heap[g]? = some (.cells cs t (0, 0))) (i : Nat) : w.frozen? ⟨g, i, none⟩ = false := by simp [World.frozen?, h]
theorem blk_lt {w : World} {g : Nat} {o : Obj} (h : w.heap[g]? = some o) : g < w.heap.size := (Array.getElem?_eq_some_iff.1 h).1
theorem blk_set {w : World} {g : Nat} {t : TypeId} {cs : Array Value} {fr : Nat × Nat} (h : w.heap[g]? = some (.cells cs t fr)) (i : Nat) (u : Value) : (w.setCell ⟨g, i, none⟩ u).heap[g]? = some (.cells (cs.setIfInBounds i u) t fr) := by
  simp [World.setCell, Array.getElem?_modify, h]
theorem blk_far {w : World} {g : Nat} {o : Obj} (h : w.heap[g]? = some o) {p : Addr} (hp : g ≠ p.block) (u : Value) : (w.setCell p u).heap[g]? = some o := (Below.heap_setCell w p u g hp).trans h
theorem blk_alloc {w : World} {g : Nat} {o : Obj} (h : w.heap[g]? = some o) (o' : Obj) : (w.alloc o').heap[g]? = some o := (Below.heap_alloc w o' g (blk_lt h)).trans h
theorem blk_new (w : World) (o : Obj) : (w.alloc o).heap[w.heap.size]? = some o := heap_alloc_new w o
theorem blk_new2 (w : World) (o o' : Obj) : ((w.alloc o).alloc o').heap[w.heap.size + 1]? = some o' := by
  have := heap_alloc_new (w.alloc o) o'
  simpa using this
theorem own_any {base e size : Nat} {u : Value} {n : Nat} {xs : List Value} {W1 : World} (h : W1.ownsRow base e size u n xs) : ∃ ao cap, u = .slice ao n cap := by
  rcases h.2 with ⟨rfl, h0⟩ | ⟨g', cap', cur, rfl, _⟩
  · exact ⟨none, 0, by rw [h0]⟩
  · exact ⟨_, _, rfl⟩
def u8s (l : List UInt8) : List Value := l.map fun b => .int .u8 (b.toNat : Int)
theorem u8s_length (l : List UInt8) : (u8s l).length = l.length := by simp [u8s]
theorem u8s_app (a b : List UInt8) : u8s (a ++ b) = u8s a ++ u8s b := by simp [u8s]
theorem infoU8 : (Tryz.prog.info? 5).map (fun i => (i.zero, i.size, i.bytes)) = some (some (.int .u8 0), 1, 1) := by kernel_rfl
/-- A row of bytes of one's own, as a string. -/
theorem own_string {w : World} {base n cap : Nat} {a : Option Addr} {l : List UInt8} (h : w.ownsRow base 5 1 (.slice a n cap) n (u8s l)) (hn : n = l.length) :
    (convert 87 9 (.slice a n cap)).run Tryz.prog w = .ok (.string ⟨l.toArray⟩) w := by
  subst hn
  by_cases h0 : 0 < l.length
  · obtain ⟨g, cap', hv, hg, hgl⟩ := h.form h0
    simp only [Value.slice.injEq, true_and] at hv
    obtain ⟨rfl, rfl⟩ := hv
    refine run_convert_bytes_back w _ _ 5 _ _ l Tryz.underlying87 Tryz.underlying5 Tryz.underlying9 (fun j hj => ?_)
    rw [show ((⟨g, 0, none⟩ : Addr).add j) = ⟨g, j, none⟩ by unfold Addr.add; simp <;> omega, h.cellAt j (by omega)]
    simp [u8s, hj]
  · have hl : l = [] := List.eq_nil_of_length_eq_zero (by omega)
    subst hl
    rcases a with _ | a
    · rw [run_convert_bytes_string w _ _ 5 _ _ _ Tryz.underlying87 Tryz.underlying5 Tryz.underlying9]
      rfl
    · refine run_convert_bytes_back w _ _ 5 a _ [] Tryz.underlying87 Tryz.underlying5 Tryz.underlying9 (fun j hj => ?_)
      simp at hj
theorem u8s_cell {w : World} {base n : Nat} {v : Value} {l : List UInt8} (h : w.ownsRow base 5 1 v n (u8s l)) : n = l.length := by
  have := h.1
  rw [u8s_length] at this; omega
end Go.Proofs.YtnbgigdloehbjaaGreatDoor.Rg
