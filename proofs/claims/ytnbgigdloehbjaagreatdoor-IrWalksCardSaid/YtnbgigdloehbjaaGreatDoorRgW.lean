/-
  Where the reader of patterns lies in memory; what its methods may turn.
-/
import Derived.Test.YtnbgigdloehbjaaGreatDoorRgA
import Derived.Test.YtnbgigdloehbjaaGreatDoorProg
import Derived.WalkKit
import Derived.Deep.AppendLies
import Derived.Deep.Draws
namespace Go.Proofs.YtnbgigdloehbjaaGreatDoor.Rg
open Go Go.RowKit

/-- The element type of a block of cells. -/
def tyOf : Obj → Option Nat
  | .cells _ e _ => some e
  | _ => none
/-- Below B nothing turns; of what lies from B on at most readers' and instructions' blocks. -/
structure Fr (B : Nat) (W W' : World) : Prop where
  below : Below B W W'
  keep : ∀ (k : Nat) (o : Obj), W.heap[k]? = some o → tyOf o ≠ some 139 → tyOf o ≠ some 145 → W'.heap[k]? = some o

theorem Fr.refl (B : Nat) (W : World) : Fr B W W := ⟨Below.refl _ _, fun _ _ h _ _ => h⟩
theorem Fr.trans {B : Nat} {W W1 W2 : World} (h : Fr B W W1) (k : Fr B W1 W2) : Fr B W W2 :=
  ⟨h.below.trans k.below, fun i o ho h1 h2 => k.keep i o (h.keep i o ho h1 h2) h1 h2⟩
theorem Fr.drew {B : Nat} {W W1 : World} (h : Fr B W W1) : Fr B W W1.drew := ⟨h.below.drew, h.keep⟩
theorem Fr.drewN {B : Nat} {W W1 : World} (h : Fr B W W1) (n : Nat) : Fr B W (W1.drewN n) := ⟨⟨h.below.os, h.below.tape, h.below.output, h.below.size, h.below.block⟩, h.keep⟩
theorem Fr.alloc {B : Nat} {W W1 : World} (h : Fr B W W1) (hB : B ≤ W.heap.size) (o : Obj) : Fr B W (W1.alloc o) :=
  ⟨h.below.alloc (Nat.le_trans hB h.below.size) o, fun k o' ho h1 h2 => by
    have := h.keep k o' ho h1 h2
    rw [Below.heap_alloc _ _ _ (Array.getElem?_eq_some_iff.1 this).1]; exact this⟩
theorem Fr.set {B : Nat} {W W1 : World} (h : Fr B W W1) {p : Addr} {cs : Array Value} {t : TypeId} {fr : Nat × Nat} (hb : W1.heap[p.block]? = some (.cells cs t fr)) (hp : B ≤ p.block)
    (ht : t = 139 ∨ t = 145) (u : Value) : Fr B W (W1.setCell p u) :=
  ⟨h.below.setCell hp u, fun k o' ho h1 h2 => by
    have hk := h.keep k o' ho h1 h2
    by_cases e : k = p.block
    · exfalso
      subst e
      rw [hb] at hk
      cases hk
      rcases ht with rfl | rfl
      · exact h1 rfl
      · exact h2 rfl
    · rw [Below.heap_setCell _ _ _ _ e]; exact hk⟩
theorem Fr.far {B : Nat} {W W1 : World} (h : Fr B W W1) (hB : B ≤ W.heap.size) {p : Addr} (hp : W.heap.size ≤ p.block) (u : Value) : Fr B W (W1.setCell p u) :=
  ⟨h.below.setCell (Nat.le_trans hB hp) u, fun k o' ho h1 h2 => by
    have hk := h.keep k o' ho h1 h2
    have hlt := (Array.getElem?_eq_some_iff.1 ho).1
    rw [Below.heap_setCell _ _ _ _ (by omega)]; exact hk⟩
theorem Fr.grown {B : Nat} {W W1 W2 : World} (h : Fr B W W1) {row : Option Nat} (hg : W1.grownBy W2 row) (hB : B ≤ W.heap.size)
    (hr : ∀ k, row = some k → B ≤ k ∧ ∃ cs fr, W1.heap[k]? = some (.cells cs 145 fr)) : Fr B W W2 :=
  ⟨h.below.grown hg (Nat.le_trans hB h.below.size) (fun k hk => (hr k hk).1), fun k o' ho h1 h2 => by
    have hk := h.keep k o' ho h1 h2
    rw [hg.block k (Array.getElem?_eq_some_iff.1 hk).1 (fun e => by
      obtain ⟨_, cs, fr, hb⟩ := hr k e.symm
      rw [hk] at hb
      cases hb
      exact h2 rfl)]
    exact hk⟩
/-- A block of another type is there as it was. -/
theorem Fr.blk {B : Nat} {W W1 : World} (h : Fr B W W1) {k : Nat} {cs : Array Value} {t : TypeId} {fr : Nat × Nat} (hb : W.heap[k]? = some (.cells cs t fr)) (h1 : t ≠ 139) (h2 : t ≠ 145) :
    W1.heap[k]? = some (.cells cs t fr) := h.keep k _ hb (by simpa [tyOf] using h1) (by simpa [tyOf] using h2)

theorem blk_ne {w : World} {g g' : Nat} {t t' : TypeId} {cs cs' : Array Value} {fr fr' : Nat × Nat} (h : w.heap[g]? = some (.cells cs t fr)) (h' : w.heap[g']? = some (.cells cs' t' fr')) (hne : t ≠ t') : g ≠ g' := by
  rintro rfl
  rw [h] at h'
  cases h'
  exact hne rfl
/-- The block of what is owned. -/
theorem own_blk {w : World} {base : Nat} {e : TypeId} {size : Nat} {v : Value} {n : Nat} {xs : List Value} (h : w.ownsRow base e size v n xs) {k : Nat} (hk : v.ownBlock = some k) :
    base ≤ k ∧ ∃ cs fr, w.heap[k]? = some (.cells cs e fr) := by
  rcases h.2 with ⟨rfl, _⟩ | ⟨g, cap, cur, rfl, hb, hg, _⟩
  · simp [Value.ownBlock] at hk
  · simp [Value.ownBlock] at hk
    subst hk
    exact ⟨hb, cur, (0, 0), hg⟩
/-- What is owned stays owned where another block is written. -/
theorem own_set {w : World} {base : Nat} {e : TypeId} {size : Nat} {v : Value} {n : Nat} {xs : List Value} (h : w.ownsRow base e size v n xs) {p : Addr} (hp : ∀ k, v.ownBlock = some k → k ≠ p.block) (u : Value) :
    (w.setCell p u).ownsRow base e size v n xs := by
  refine ⟨h.1, ?_⟩
  rcases h.2 with hn | ⟨g, cap, cur, rfl, hb, hg, rest⟩
  · exact .inl hn
  · exact .inr ⟨g, cap, cur, rfl, hb, blk_far hg (hp g (by simp [Value.ownBlock])) u, rest⟩

/-- The reader r lies at block g of W, its instructions in the slice v. -/
structure Is (B : Nat) (W : World) (g : Nat) (r : Rd) (v : Value) : Prop where
  blk : W.heap[g]? = some (.cells #[.string r.s, .int .i64 r.at_, .int .i64 r.deep, v, .int .i64 r.err, .int .i64 r.bad] 139 (0, 0))
  ge : B ≤ g
  own : W.ownsRow B 145 7 v r.l.length (flat r.l)
  sz : r.s.size ≤ 4096
section
variable {B : Nat} {W : World} {g : Nat} {r : Rd} {v : Value}
theorem Is.c0 (h : Is B W g r v) : W.cell? ⟨g, 0, none⟩ = some (.string r.s) := blk_cell h.blk 0
theorem Is.c1 (h : Is B W g r v) : W.cell? ⟨g, 1, none⟩ = some (.int .i64 r.at_) := blk_cell h.blk 1
theorem Is.c2 (h : Is B W g r v) : W.cell? ⟨g, 2, none⟩ = some (.int .i64 r.deep) := blk_cell h.blk 2
theorem Is.c3 (h : Is B W g r v) : W.cell? ⟨g, 3, none⟩ = some v := blk_cell h.blk 3
theorem Is.c4 (h : Is B W g r v) : W.cell? ⟨g, 4, none⟩ = some (.int .i64 r.err) := blk_cell h.blk 4
theorem Is.c5 (h : Is B W g r v) : W.cell? ⟨g, 5, none⟩ = some (.int .i64 r.bad) := blk_cell h.blk 5
theorem Is.fz (h : Is B W g r v) (i : Nat) : W.frozen? ⟨g, i, none⟩ = false := blk_frozen h.blk i
theorem Is.lt (h : Is B W g r v) : g < W.heap.size := blk_lt h.blk
theorem Is.drew (h : Is B W g r v) : Is B W.drew g r v := ⟨h.blk, h.ge, h.own, h.sz⟩
theorem Is.drewN (h : Is B W g r v) (n : Nat) : Is B (W.drewN n) g r v := ⟨h.blk, h.ge, h.own, h.sz⟩
theorem Is.alloc (h : Is B W g r v) (o : Obj) : Is B (W.alloc o) g r v := ⟨blk_alloc h.blk o, h.ge, h.own.alloc o, h.sz⟩
theorem Is.apart (h : Is B W g r v) {k : Nat} (hk : v.ownBlock = some k) : k ≠ g := by
  obtain ⟨_, cs, fr, hb⟩ := own_blk h.own hk
  exact blk_ne hb h.blk (by decide)
/-- another block is written -/
theorem Is.far (h : Is B W g r v) {p : Addr} {cs : Array Value} {t : TypeId} {fr : Nat × Nat} (hb : W.heap[p.block]? = some (.cells cs t fr)) (h1 : t ≠ 139) (h2 : t ≠ 145) (u : Value) : Is B (W.setCell p u) g r v :=
  ⟨blk_far h.blk (blk_ne h.blk hb (Ne.symm h1)) u, h.ge, own_set h.own (fun k hk => by
    obtain ⟨_, cs', fr', hb'⟩ := own_blk h.own hk
    exact blk_ne hb' hb (Ne.symm h2)) u, h.sz⟩
theorem Is.setAt (h : Is B W g r v) (n : Nat) : Is B (W.setCell ⟨g, 1, none⟩ (.int .i64 n)) g { r with at_ := n } v :=
  ⟨blk_set h.blk 1 _, h.ge, own_set h.own (fun _ hk => h.apart hk) _, h.sz⟩
theorem Is.setDeep (h : Is B W g r v) (n : Nat) : Is B (W.setCell ⟨g, 2, none⟩ (.int .i64 n)) g { r with deep := n } v :=
  ⟨blk_set h.blk 2 _, h.ge, own_set h.own (fun _ hk => h.apart hk) _, h.sz⟩
theorem Is.setErr (h : Is B W g r v) (n : Nat) : Is B (W.setCell ⟨g, 4, none⟩ (.int .i64 n)) g { r with err := n } v :=
  ⟨blk_set h.blk 4 _, h.ge, own_set h.own (fun _ hk => h.apart hk) _, h.sz⟩
theorem Is.setBad (h : Is B W g r v) (n : Nat) : Is B (W.setCell ⟨g, 5, none⟩ (.int .i64 n)) g { r with bad := n } v :=
  ⟨blk_set h.blk 5 _, h.ge, own_set h.own (fun _ hk => h.apart hk) _, h.sz⟩
theorem Is.frSet (h : Is B W g r v) {W0 : World} (hf : Fr B W0 W) (i : Nat) (u : Value) : Fr B W0 (W.setCell ⟨g, i, none⟩ u) := hf.set (p := ⟨g, i, none⟩) h.blk h.ge (.inl rfl) u
end
theorem flat_length (l : List Inst) : (flat l).length = l.length * 7 := by
  induction l with
  | nil => rfl
  | cons x l ih => simp only [flat, List.flatMap_cons, List.length_append] at *; rw [ih]; simp [Inst.cells]; omega
theorem flat_append (l m : List Inst) : flat (l ++ m) = flat l ++ flat m := by simp [flat]
theorem flat_get (l : List Inst) (i j : Nat) (hi : i < l.length) (hj : j < 7) : (flat l)[i * 7 + j]? = (l[i]'hi).cells[j]? := by
  induction l generalizing i with
  | nil => simp at hi
  | cons x l ih =>
    have hx : x.cells.length = 7 := rfl
    cases i with
    | zero => simp only [flat, List.flatMap_cons, Nat.zero_mul, Nat.zero_add, List.getElem_cons_zero]; rw [List.getElem?_append_left (by omega)]
    | succ i =>
      simp only [flat, List.flatMap_cons, List.getElem_cons_succ] at *
      rw [List.getElem?_append_right (by omega), ← ih i (by simpa using hi)]
      congr 1; omega
theorem flat_set (l : List Inst) (i j : Nat) (hi : i < l.length) (u : Value) (x : Inst) (hx : x.cells = (l[i]'hi).cells.set j u) (hj : j < 7) : (flat l).set (i * 7 + j) u = flat (l.set i x) := by
  induction l generalizing i with
  | nil => simp at hi
  | cons y l ih =>
    have hy : y.cells.length = 7 := rfl
    cases i with
    | zero => simp only [flat, List.flatMap_cons, Nat.zero_mul, Nat.zero_add, List.set_cons_zero, List.getElem_cons_zero] at *; rw [List.set_append_left _ _ (by omega), hx]
    | succ i =>
      simp only [flat, List.flatMap_cons, List.getElem_cons_succ, List.set_cons_succ] at *
      rw [List.set_append_right _ _ (by omega), ← ih i (by simpa using hi) hx]
      congr 2; omega
end Go.Proofs.YtnbgigdloehbjaaGreatDoor.Rg
