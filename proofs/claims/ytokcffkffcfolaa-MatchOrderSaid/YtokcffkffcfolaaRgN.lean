/-
  What Match computes, as plain functions on lists; what reach keeps in memory.
-/
import Derived.Test.YtokcffkffcfolaaRgM
import Derived.WalkSmall
namespace Go.Proofs.Ytokcffkffcfolaa.Rg
open Go Go.RowKit

/-- Where one goes on to without a byte. -/
def succs (P : List Inst) (i : Nat) : List Nat :=
  match P[i]? with
  | some x => if x.kind = 1 then [x.a, x.b] else if x.kind = 2 then [x.a] else []
  | none => []
/-- All that can be come to: n is fuel; st: what waits. -/
def reachF (P : List Inst) : Nat → List Bool → List Nat → List Nat → List Bool × List Nat
  | 0, m, l, _ => (m, l)
  | _ + 1, m, l, [] => (m, l)
  | n + 1, m, l, i :: st => if m.getD i true then reachF P n m l st else reachF P n (m.set i true) (l ++ [i]) (succs P i ++ st)
def cf (m : List Bool) : Nat := m.count false
/-- Jumps stay in the program; behind a byte there is something. -/
def WF (P : List Inst) : Prop := ∀ i x, P[i]? = some x → (x.kind = 1 → x.a < P.length ∧ x.b < P.length) ∧ (x.kind = 2 → x.a < P.length) ∧ (x.kind = 0 → i + 1 < P.length) ∧ x.set.ok
def boolVals (m : List Bool) : Array Value := (m.map Value.bool).toArray

theorem cf_set (m : List Bool) (i : Nat) (h : m[i]? = some false) : cf (m.set i true) + 1 = cf m := by
  induction m generalizing i with
  | nil => simp at h
  | cons b m ih =>
    cases i with
    | zero => simp at h; subst h; simp [cf]
    | succ i =>
      simp only [List.getElem?_cons_succ] at h
      have := ih i h
      simp only [cf, List.set_cons_succ, List.count_cons] at this ⊢
      omega

/-- Below base all is as it was, but for block bi. -/
structure FrI (base bi : Nat) (W W' : World) : Prop where
  os : W'.os = W.os
  tape : W'.tape = W.tape
  output : W'.output = W.output
  size : W.heap.size ≤ W'.heap.size
  block : ∀ k, k < base → k ≠ bi → W'.heap[k]? = W.heap[k]?
section
variable {base bi : Nat} {W W1 W2 : World}
theorem FrI.refl (base bi : Nat) (W : World) : FrI base bi W W := ⟨rfl, rfl, rfl, Nat.le_refl _, fun _ _ _ => rfl⟩
theorem FrI.trans (h : FrI base bi W W1) (k : FrI base bi W1 W2) : FrI base bi W W2 :=
  ⟨k.os.trans h.os, k.tape.trans h.tape, k.output.trans h.output, Nat.le_trans h.size k.size, fun i h1 h2 => (k.block i h1 h2).trans (h.block i h1 h2)⟩
theorem FrI.drew (h : FrI base bi W W1) : FrI base bi W W1.drew := ⟨h.os, h.tape, h.output, h.size, h.block⟩
theorem FrI.drewN (h : FrI base bi W W1) (n : Nat) : FrI base bi W (W1.drewN n) := ⟨h.os, h.tape, h.output, h.size, h.block⟩
theorem FrI.alloc (h : FrI base bi W W1) (hb : base ≤ W.heap.size) (o : Obj) : FrI base bi W (W1.alloc o) :=
  ⟨h.os, h.tape, h.output, by have := h.size; simp; omega, fun k h1 h2 => by rw [Below.heap_alloc _ _ _ (by have := h.size; omega)]; exact h.block k h1 h2⟩
theorem FrI.set (h : FrI base bi W W1) {p : Addr} (hp : p.block = bi ∨ base ≤ p.block) (u : Value) : FrI base bi W (W1.setCell p u) :=
  ⟨h.os, h.tape, h.output, by have := h.size; simpa [World.setCell] using this, fun k h1 h2 => by rw [Below.heap_setCell _ _ _ _ (by omega)]; exact h.block k h1 h2⟩
theorem FrI.grown (h : FrI base bi W W1) (hb : base ≤ W.heap.size) {row : Option Nat} (hg : W1.grownBy W2 row) (hr : ∀ k, row = some k → base ≤ k) : FrI base bi W W2 :=
  ⟨hg.os.trans h.os, hg.tape.trans h.tape, hg.output.trans h.output, Nat.le_trans h.size hg.size, fun k h1 h2 => by
    rw [hg.block k (by have := h.size; omega) (fun e => by have := hr k e.symm; omega)]
    exact h.block k h1 h2⟩
end

section
variable {W W1 : World} {p : Nat} {P : List Inst}
theorem IsProg.alloc (h : IsProg W p P) (o : Obj) : IsProg (W.alloc o) p P := h.below ((Below.refl _ _).alloc (Nat.le_refl _) o)
theorem IsProg.drew (h : IsProg W p P) : IsProg W.drew p P := h
theorem IsProg.drewN (h : IsProg W p P) (n : Nat) : IsProg (W.drewN n) p P := h
/-- Another block, of another type, is written. -/
theorem IsProg.keep (h : IsProg W p P) {b : Nat} {cs : Array Value} {t : TypeId} {fr : Nat × Nat} (hb : W.heap[b]? = some (.cells cs t fr)) (h1 : t ≠ 72) (h2 : t ≠ 70)
    (hk : ∀ k, k < W.heap.size → k ≠ b → W1.heap[k]? = W.heap[k]?) : IsProg W1 p P := by
  obtain ⟨gg, cap, hp, hl, ho⟩ := h
  refine ⟨gg, cap, (hk p (blk_lt hp) (blk_ne hp hb (Ne.symm h1))).trans hp, hl, ?_⟩
  rcases ho with hn | ⟨q, cap', cur, hv, hq, hg, rest⟩
  · exact .inl hn
  · exact .inr ⟨q, cap', cur, hv, hq, (hk q (blk_lt hg) (blk_ne hg hb (Ne.symm h2))).trans hg, rest⟩
theorem IsProg.set (h : IsProg W p P) {a : Addr} {cs : Array Value} {t : TypeId} {fr : Nat × Nat} (hb : W.heap[a.block]? = some (.cells cs t fr)) (h1 : t ≠ 72) (h2 : t ≠ 70) (u : Value) : IsProg (W.setCell a u) p P :=
  h.keep hb h1 h2 (fun _ _ hk => Below.heap_setCell _ _ _ _ hk)
theorem IsProg.grown (h : IsProg W p P) {row : Option Nat} (hg : W.grownBy W1 row) {t : TypeId} (hr : ∀ k, row = some k → ∃ cs fr, W.heap[k]? = some (.cells cs t fr)) (h1 : t ≠ 72) (h2 : t ≠ 70) : IsProg W1 p P := by
  cases row with
  | none =>
    obtain ⟨gg, cap, hp, hl, ho⟩ := h
    refine ⟨gg, cap, (hg.block p (blk_lt hp) (by simp)).trans hp, hl, ?_⟩
    rcases ho with hn | ⟨q, cap', cur, hv, hq, hgq, rest⟩
    · exact .inl hn
    · exact .inr ⟨q, cap', cur, hv, hq, (hg.block q (blk_lt hgq) (by simp)).trans hgq, rest⟩
  | some k =>
    obtain ⟨cs, fr, hb⟩ := hr k rfl
    exact h.keep hb h1 h2 (fun j hj hne => hg.block j hj (by simpa using hne))
/-- What a walk reads of a program: its slice, and an instruction. -/
theorem IsProg.cells (h : IsProg W p P) : ∃ gg cap, W.cell? ⟨p, 0, none⟩ = some (.slice (some ⟨gg, 0, none⟩) P.length cap) ∧ (∀ i j, (hi : i < P.length) → j < 7 → W.cell? ⟨gg, i * 7 + j, none⟩ = (P[i]'hi).cells[j]?) := by
  obtain ⟨gg, cap, hp, ho⟩ := h
  exact ⟨gg, cap, blk_cell hp 0, fun i j hi hj => by rw [ho.cellAt _ (by omega), flat_get _ _ _ hi hj]⟩
end

theorem own_cap {w : World} {base e size g n cap : Nat} {xs : List Value} (h : w.ownsRow base e size (.slice (some ⟨g, 0, none⟩) n cap) n xs) : n ≤ cap ∧ cap ≤ 9223372036854775807 := by
  rcases h.2 with ⟨h0, _⟩ | ⟨g', cap', cur, hv, hg, hh, hn, hcap, _⟩
  · cases h0
  · cases hv
    exact ⟨hn, by unfold maxLen at hcap; omega⟩
theorem blk_newS (w : World) (a : Addr) (u : Value) (o : Obj) : ((w.setCell a u).alloc o).heap[w.heap.size]? = some o := by
  have := blk_new (w.setCell a u) o
  have e : (w.setCell a u).heap.size = w.heap.size := by simp [World.setCell]
  rw [e] at this
  exact this
/-- One instruction, field by field. -/
theorem IsProg.read {W : World} {p : Nat} {P : List Inst} (h : IsProg W p P) {i : Nat} {x : Inst} (hx : P[i]? = some x) :
    ∃ gg cap, W.cell? ⟨p, 0, none⟩ = some (.slice (some ⟨gg, 0, none⟩) P.length cap) ∧ W.cell? ⟨gg, i * 7, none⟩ = some (.int .i64 x.kind) ∧ W.cell? ⟨gg, i * 7 + 1, none⟩ = some (.int .u64 x.set.w0) ∧ W.cell? ⟨gg, i * 7 + 2, none⟩ = some (.int .u64 x.set.w1) ∧
      W.cell? ⟨gg, i * 7 + 3, none⟩ = some (.int .u64 x.set.w2) ∧ W.cell? ⟨gg, i * 7 + 4, none⟩ = some (.int .u64 x.set.w3) ∧ W.cell? ⟨gg, i * 7 + 5, none⟩ = some (.int .i64 x.a) ∧ W.cell? ⟨gg, i * 7 + 6, none⟩ = some (.int .i64 x.b) := by
  obtain ⟨hi, rfl⟩ := List.getElem?_eq_some_iff.1 hx
  obtain ⟨gg, cap, h0, hc⟩ := h.cells
  exact ⟨gg, cap, h0, hc i 0 hi (by omega), hc i 1 hi (by omega), hc i 2 hi (by omega), hc i 3 hi (by omega), hc i 4 hi (by omega), hc i 5 hi (by omega), hc i 6 hi (by omega)⟩
/-- What reach holds: the marks m at block bi, what was come to l, what waits st. -/
structure RS (base bi p : Nat) (P : List Inst) (W0 wr : World) (m : List Bool) (l st : List Nat) (vl vw : Value) : Prop where
  prog : IsProg wr p P
  inb : wr.heap[bi]? = some (.cells (boolVals m) 4 (0, 0))
  lo : wr.ownsRow base 3 1 vl l.length (outVals l)
  wo : wr.ownsRow base 3 1 vw st.length (outVals st.reverse)
  ap : ∀ k, vl.ownBlock = some k → vw.ownBlock ≠ some k
  fr : FrI base bi W0 wr
section
variable {base bi p : Nat} {P : List Inst} {W0 wr w1 : World} {m : List Bool} {l st : List Nat} {vl vw : Value}
theorem RS.alloc (h : RS base bi p P W0 wr m l st vl vw) (hb : base ≤ W0.heap.size) (o : Obj) : RS base bi p P W0 (wr.alloc o) m l st vl vw :=
  ⟨h.prog.alloc o, blk_alloc h.inb o, h.lo.alloc o, h.wo.alloc o, h.ap, h.fr.alloc hb o⟩
theorem RS.drew (h : RS base bi p P W0 wr m l st vl vw) : RS base bi p P W0 wr.drew m l st vl vw := ⟨h.prog, h.inb, h.lo, h.wo, h.ap, h.fr.drew⟩
theorem RS.mark (h : RS base bi p P W0 wr m l st vl vw) (i : Nat) : RS base bi p P W0 (wr.setCell ⟨bi, i, none⟩ (.bool true)) (m.set i true) l st vl vw := by
  refine ⟨h.prog.set (a := ⟨bi, i, none⟩) h.inb (by decide) (by decide) _, (blk_set h.inb i _).trans ?_, own_set h.lo ?_ _, own_set h.wo ?_ _, h.ap, h.fr.set (.inl rfl) _⟩
  · simp [boolVals, List.map_set]
  · intro k hk
    obtain ⟨_, cs, fr, hb⟩ := own_blk h.lo hk
    exact blk_ne hb h.inb (by decide)
  · intro k hk
    obtain ⟨_, cs, fr, hb⟩ := own_blk h.wo hk
    exact blk_ne hb h.inb (by decide)
theorem RS.pop {i wb cap : Nat} (h : RS base bi p P W0 wr m l (i :: st) vl (.slice (some ⟨wb, 0, none⟩) (st.length + 1) cap)) : RS base bi p P W0 wr m l st vl (.slice (some ⟨wb, 0, none⟩) st.length cap) := by
  have hw := h.wo
  have e : outVals (i :: st).reverse = outVals st.reverse ++ [.int .i64 (i : Int)] := by simp [outVals]
  rw [e] at hw
  exact ⟨h.prog, h.inb, h.lo, ownsRow_pop (by simp [outVals]) hw, h.ap, h.fr⟩
theorem RS.top {i wb cap : Nat} (h : RS base bi p P W0 wr m l (i :: st) vl (.slice (some ⟨wb, 0, none⟩) (st.length + 1) cap)) : wr.cell? ⟨wb, st.length, none⟩ = some (.int .i64 (i : Int)) := by
  have hw := h.wo
  have := hw.cellAt st.length (by simp)
  rw [this]
  simp [outVals]
theorem RS.marks (h : RS base bi p P W0 wr m l st vl vw) (i : Nat) (hi : i < m.length) : wr.cell? ⟨bi, i, none⟩ = some (.bool (m[i]'hi)) := by
  rw [blk_cell h.inb i]
  simp [boolVals, hi]
theorem RS.pushL (h : RS base bi p P W0 wr m l st vl vw) (hb : base ≤ W0.heap.size) {g cap H : Nat} {new : List Nat} (hgrow : wr.grownBy w1 vl.ownBlock) (hat : vl.ownBlock = some g ∨ g = H) (hH : wr.heap.size = H)
    (hown : w1.ownsRow base 3 1 (.slice (some ⟨g, 0, none⟩) (l ++ new).length cap) (l ++ new).length (outVals (l ++ new))) :
    RS base bi p P W0 w1 m (l ++ new) st (.slice (some ⟨g, 0, none⟩) (l ++ new).length cap) vw := by
  have hrow : ∀ k, vl.ownBlock = some k → ∃ cs fr, wr.heap[k]? = some (.cells cs 3 fr) := fun k hk => (own_blk h.lo hk).2
  refine ⟨h.prog.grown hgrow hrow (by decide) (by decide), ?_, hown, h.wo.kept hgrow ?_, ?_, h.fr.grown hb hgrow (fun k hk => (own_blk h.lo hk).1)⟩
  · rw [hgrow.block bi (blk_lt h.inb) (fun e => by
      obtain ⟨cs, fr, hb'⟩ := hrow bi e.symm
      exact blk_ne h.inb hb' (by decide) rfl)]
    exact h.inb
  · cases hv : vw.ownBlock with
    | none => exact .inl rfl
    | some k => exact .inr (fun e => h.ap k e.symm hv)
  · intro k hk
    simp [Value.ownBlock] at hk
    subst hk
    rcases hat with h' | h'
    · exact h.ap _ h'
    · intro e
      have := (h.wo.lt _ e).2
      omega
theorem RS.pushW (h : RS base bi p P W0 wr m l st vl vw) (hb : base ≤ W0.heap.size) {g cap H : Nat} {new : List Nat} (hgrow : wr.grownBy w1 vw.ownBlock) (hat : vw.ownBlock = some g ∨ g = H) (hH : wr.heap.size = H)
    (hown : w1.ownsRow base 3 1 (.slice (some ⟨g, 0, none⟩) (new ++ st).length cap) (new ++ st).length (outVals (new ++ st).reverse)) :
    RS base bi p P W0 w1 m l (new ++ st) vl (.slice (some ⟨g, 0, none⟩) (new ++ st).length cap) := by
  have hrow : ∀ k, vw.ownBlock = some k → ∃ cs fr, wr.heap[k]? = some (.cells cs 3 fr) := fun k hk => (own_blk h.wo hk).2
  refine ⟨h.prog.grown hgrow hrow (by decide) (by decide), ?_, h.lo.kept hgrow ?_, hown, ?_, h.fr.grown hb hgrow (fun k hk => (own_blk h.wo hk).1)⟩
  · rw [hgrow.block bi (blk_lt h.inb) (fun e => by
      obtain ⟨cs, fr, hb'⟩ := hrow bi e.symm
      exact blk_ne h.inb hb' (by decide) rfl)]
    exact h.inb
  · cases hv : vl.ownBlock with
    | none => exact .inl rfl
    | some k => exact .inr (fun e => h.ap k hv e.symm)
  · intro k hk
    simp only [Value.ownBlock, ne_eq, Option.some.injEq]
    rintro rfl
    rcases hat with h' | h'
    · exact h.ap _ hk h'
    · have := (h.lo.lt _ hk).2
      omega
theorem RS.pushN (h : RS base bi p P W0 wr m l st vl vw) (hb : base ≤ W0.heap.size) {g cap H N : Nat} {xs : List Value} (new : List Nat) (hgrow : wr.grownBy w1 vw.ownBlock) (hat : vw.ownBlock = some g ∨ g = H) (hH : wr.heap.size = H)
    (hN : N = (new ++ st).length) (hX : xs = outVals (new ++ st).reverse) (hown : w1.ownsRow base 3 1 (.slice (some ⟨g, 0, none⟩) N cap) N xs) :
    RS base bi p P W0 w1 m l (new ++ st) vl (.slice (some ⟨g, 0, none⟩) N cap) := by
  subst hN hX
  exact RS.pushW h hb hgrow hat hH hown
end
end Go.Proofs.Ytokcffkffcfolaa.Rg
