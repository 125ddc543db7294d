/-
  Instructions in memory: one read, a field of one written, one written whole; the reader's method shift.
-/
import Derived.Test.YtnbgigdloehbjaaGreatDoorRgF
import Derived.Test.YtnbgigdloehbjaaGreatDoorCopy
namespace Go.Proofs.YtnbgigdloehbjaaGreatDoor.Rg
open Go Go.RowKit
variable {B : Nat} {W : World} {g : Nat} {r : Rd} {v : Value}

theorem Is.form (h : Is B W g r v) (hn : 0 < r.l.length) : ∃ gg cap, v = .slice (some ⟨gg, 0, none⟩) r.l.length cap ∧ B ≤ gg ∧ gg ≠ g := by
  obtain ⟨gg, cap, rfl, hb, _⟩ := h.own.form hn
  exact ⟨gg, cap, rfl, hb, h.apart rfl⟩
theorem Is.anyForm (h : Is B W g r v) : ∃ ao cap, v = .slice ao r.l.length cap := by
  rcases h.own.2 with ⟨rfl, h0⟩ | ⟨g', cap', cur, rfl, _⟩
  · exact ⟨none, 0, by rw [h0]⟩
  · exact ⟨_, _, rfl⟩
theorem Is.inst {gg cap n : Nat} (h : Is B W g r (.slice (some ⟨gg, 0, none⟩) n cap)) (hn : n = r.l.length) (i j : Nat) (hi : i < r.l.length) (hj : j < 7) : W.cell? ⟨gg, i * 7 + j, none⟩ = (r.l[i]'hi).cells[j]? := by
  subst hn
  rw [h.own.cellAt _ (by omega), flat_get _ _ _ hi hj]
theorem Is.instFz {gg cap n : Nat} (h : Is B W g r (.slice (some ⟨gg, 0, none⟩) n cap)) (hn : n = r.l.length) (i : Nat) : W.frozen? ⟨gg, i, none⟩ = false := by
  subst hn
  exact h.own.frozenAt i
theorem Is.setInst {gg cap n : Nat} (h : Is B W g r (.slice (some ⟨gg, 0, none⟩) n cap)) (hn : n = r.l.length) (i j : Nat) (hi : i < r.l.length) (hj : j < 7) (u : Value) (x : Inst) (hx : x.cells = (r.l[i]'hi).cells.set j u) :
    Is B (W.setCell ⟨gg, i * 7 + j, none⟩ u) g { r with l := r.l.set i x } (.slice (some ⟨gg, 0, none⟩) n cap) := by
  subst hn
  refine ⟨blk_far (p := ⟨gg, i * 7 + j, none⟩) h.blk (Ne.symm (h.apart (k := gg) rfl)) u, h.ge, ?_, h.sz⟩
  have := (h.own.stored (i * 7 + j) u).1
  rw [flat_set _ _ _ hi u x hx hj] at this
  simpa using this
theorem Is.bump2 {gg cap n : Nat} (h : Is B W g r (.slice (some ⟨gg, 0, none⟩) n cap)) (hn : n = r.l.length) (i : Nat) (hi : i < r.l.length) (x : Inst) (hx : r.l[i]? = some x) (a b : Nat) :
    Is B ((W.setCell ⟨gg, i * 7 + 5, none⟩ (.int .i64 a)).setCell ⟨gg, i * 7 + 6, none⟩ (.int .i64 b)) g { r with l := r.l.set i { x with a := a, b := b } } (.slice (some ⟨gg, 0, none⟩) n cap) := by
  have hx' : r.l[i] = x := by simpa [List.getElem?_eq_getElem hi] using hx
  have h1 := h.setInst hn i 5 hi (by omega) (.int .i64 a) { x with a := a } (by rw [hx']; rfl)
  have h2 := h1.setInst (by simpa using hn) i 6 (by simpa using hi) (by omega) (.int .i64 b) { x with a := a, b := b } (by simp; rfl)
  simpa using h2
theorem Is.frInst {gg cap n : Nat} (h : Is B W g r (.slice (some ⟨gg, 0, none⟩) n cap)) {W0 : World} (hf : Fr B W0 W) (i : Nat) (u : Value) : Fr B W0 (W.setCell ⟨gg, i, none⟩ u) := by
  obtain ⟨hB, cs, fr, hb⟩ := own_blk h.own (k := gg) rfl
  exact hf.set (p := ⟨gg, i, none⟩) hb hB (.inr rfl) u

theorem Is.frInst2 {gg cap n : Nat} (h : Is B W g r (.slice (some ⟨gg, 0, none⟩) n cap)) {W0 : World} (hf : Fr B W0 W) (i j : Nat) (u u' : Value) : Fr B W0 ((W.setCell ⟨gg, i, none⟩ u).setCell ⟨gg, j, none⟩ u') := by
  obtain ⟨hB, cs, fr, hb⟩ := own_blk h.own (k := gg) rfl
  exact (hf.set (p := ⟨gg, i, none⟩) hb hB (.inr rfl) u).set (p := ⟨gg, j, none⟩) (blk_set hb i u) hB (.inr rfl) u'
/-- The world in which the instruction at place i has been written whole. -/
def put7 (W : World) (gg i : Nat) (x : Inst) : World :=
  ((((((W.setCell ⟨gg, i * 7, none⟩ (.int .i64 x.kind)).setCell ⟨gg, i * 7 + 1, none⟩ (.int .u64 x.set.w0)).setCell ⟨gg, i * 7 + 2, none⟩ (.int .u64 x.set.w1)).setCell ⟨gg, i * 7 + 3, none⟩ (.int .u64 x.set.w2)).setCell ⟨gg, i * 7 + 4, none⟩ (.int .u64 x.set.w3)).setCell ⟨gg, i * 7 + 5, none⟩ (.int .i64 x.a)).setCell ⟨gg, i * 7 + 6, none⟩ (.int .i64 x.b)
theorem Is.put7 {gg cap n : Nat} (h : Is B W g r (.slice (some ⟨gg, 0, none⟩) n cap)) (hn : n = r.l.length) (i : Nat) (hi : i < r.l.length) (x : Inst) :
    Is B (put7 W gg i x) g (r.setAt i x) (.slice (some ⟨gg, 0, none⟩) n cap) := by
  obtain ⟨y, hy⟩ : ∃ y, y = r.l[i] := ⟨_, rfl⟩
  have h0 := h.setInst hn i 0 hi (by omega) (.int .i64 x.kind) ⟨x.kind, y.set, y.a, y.b⟩ (by rw [← hy]; rfl)
  have h1 := h0.setInst (by simpa using hn) i 1 (by simpa using hi) (by omega) (.int .u64 x.set.w0) ⟨x.kind, ⟨x.set.w0, y.set.w1, y.set.w2, y.set.w3⟩, y.a, y.b⟩ (by simp; rfl)
  have h2 := h1.setInst (by simpa using hn) i 2 (by simpa using hi) (by omega) (.int .u64 x.set.w1) ⟨x.kind, ⟨x.set.w0, x.set.w1, y.set.w2, y.set.w3⟩, y.a, y.b⟩ (by simp; rfl)
  have h3 := h2.setInst (by simpa using hn) i 3 (by simpa using hi) (by omega) (.int .u64 x.set.w2) ⟨x.kind, ⟨x.set.w0, x.set.w1, x.set.w2, y.set.w3⟩, y.a, y.b⟩ (by simp; rfl)
  have h4 := h3.setInst (by simpa using hn) i 4 (by simpa using hi) (by omega) (.int .u64 x.set.w3) ⟨x.kind, x.set, y.a, y.b⟩ (by simp; rfl)
  have h5 := h4.setInst (by simpa using hn) i 5 (by simpa using hi) (by omega) (.int .i64 x.a) ⟨x.kind, x.set, x.a, y.b⟩ (by simp; rfl)
  have h6 := h5.setInst (by simpa using hn) i 6 (by simpa using hi) (by omega) (.int .i64 x.b) x (by simp; rfl)
  unfold Rg.put7 Rd.setAt
  simpa using h6
theorem Is.frPut7 {gg cap n : Nat} (h : Is B W g r (.slice (some ⟨gg, 0, none⟩) n cap)) {W0 : World} (hf : Fr B W0 W) (i : Nat) (x : Inst) : Fr B W0 (Rg.put7 W gg i x) := by
  obtain ⟨hB, cs, fr, hb⟩ := own_blk h.own (k := gg) rfl
  unfold Rg.put7
  have step : ∀ {W1 : World} {cs : Array Value}, Fr B W0 W1 → W1.heap[gg]? = some (.cells cs 145 fr) → ∀ (j : Nat) (u : Value), Fr B W0 (W1.setCell ⟨gg, j, none⟩ u) ∧ (W1.setCell ⟨gg, j, none⟩ u).heap[gg]? = some (.cells (cs.setIfInBounds j u) 145 fr) :=
    fun hF hb j u => ⟨hF.set (p := ⟨gg, j, none⟩) hb hB (.inr rfl) u, blk_set hb j u⟩
  obtain ⟨f1, b1⟩ := step hf hb (i * 7) (.int .i64 x.kind)
  obtain ⟨f2, b2⟩ := step f1 b1 (i * 7 + 1) (.int .u64 x.set.w0)
  obtain ⟨f3, b3⟩ := step f2 b2 (i * 7 + 2) (.int .u64 x.set.w1)
  obtain ⟨f4, b4⟩ := step f3 b3 (i * 7 + 3) (.int .u64 x.set.w2)
  obtain ⟨f5, b5⟩ := step f4 b4 (i * 7 + 4) (.int .u64 x.set.w3)
  obtain ⟨f6, b6⟩ := step f5 b5 (i * 7 + 5) (.int .i64 x.a)
  exact (step f6 b6 (i * 7 + 6) (.int .i64 x.b)).1
/-- All that a store of an instruction asks. -/
theorem Is.room {gg cap n : Nat} (h : Is B W g r (.slice (some ⟨gg, 0, none⟩) n cap)) (hn : n = r.l.length) (i : Nat) (hi : i < r.l.length) :
    (∃ u0 u1 u2 u3 u4 u5 u6, W.cell? ⟨gg, i * 7, none⟩ = some u0 ∧ W.cell? ⟨gg, i * 7 + 1, none⟩ = some u1 ∧ W.cell? ⟨gg, i * 7 + 2, none⟩ = some u2 ∧ W.cell? ⟨gg, i * 7 + 3, none⟩ = some u3 ∧ W.cell? ⟨gg, i * 7 + 4, none⟩ = some u4 ∧ W.cell? ⟨gg, i * 7 + 5, none⟩ = some u5 ∧ W.cell? ⟨gg, i * 7 + 6, none⟩ = some u6) ∧
    W.frozen? ⟨gg, i * 7, none⟩ = false ∧ W.frozen? ⟨gg, i * 7 + 1, none⟩ = false ∧ W.frozen? ⟨gg, i * 7 + 2, none⟩ = false ∧ W.frozen? ⟨gg, i * 7 + 3, none⟩ = false ∧ W.frozen? ⟨gg, i * 7 + 4, none⟩ = false ∧ W.frozen? ⟨gg, i * 7 + 5, none⟩ = false ∧ W.frozen? ⟨gg, i * 7 + 6, none⟩ = false :=
  ⟨⟨_, _, _, _, _, _, _, h.inst hn i 0 hi (by omega), h.inst hn i 1 hi (by omega), h.inst hn i 2 hi (by omega), h.inst hn i 3 hi (by omega), h.inst hn i 4 hi (by omega), h.inst hn i 5 hi (by omega), h.inst hn i 6 hi (by omega)⟩,
    h.instFz hn _, h.instFz hn _, h.instFz hn _, h.instFz hn _, h.instFz hn _, h.instFz hn _, h.instFz hn _⟩
theorem Is.row {gg cap n : Nat} (h : Is B W g r (.slice (some ⟨gg, 0, none⟩) n cap)) : ∃ cur : Array Value, W.heap[gg]? = some (.cells cur 145 (0, 0)) ∧ cur.size = cap * 7 ∧ r.l.length ≤ cap ∧ cap ≤ maxLen ∧ cur.toList.take (r.l.length * 7) = flat r.l := by
  rcases h.own.2 with ⟨h', _⟩ | ⟨g', cap', cur, hv, _, hcur, hcap, hcm, hcs, htk⟩
  · simp at h'
  · simp only [Value.slice.injEq, Option.some.injEq, Addr.mk.injEq, and_true] at hv
    obtain ⟨rfl, _, rfl⟩ := hv
    exact ⟨cur, hcur, hcs, hcap, hcm, htk⟩
theorem Inst.cells_length (x : Inst) : x.cells.length = 7 := rfl
theorem flat_oneCell (l : List Inst) : ∀ u ∈ flat l, u.oneCell' = true := by
  intro u hu
  simp only [flat, List.mem_flatMap] at hu
  obtain ⟨x, _, hx⟩ := hu
  simp only [Inst.cells, List.mem_cons, List.not_mem_nil, or_false] at hx
  rcases hx with rfl | rfl | rfl | rfl | rfl | rfl | rfl <;> rfl
theorem flat_take (l : List Inst) (n : Nat) : (flat l).take (n * 7) = flat (l.take n) := by
  induction l generalizing n with
  | nil => simp [flat]
  | cons x l ih =>
    cases n with
    | zero => simp [flat]
    | succ n =>
      simp only [flat, List.flatMap_cons, List.take_succ_cons] at *
      rw [List.take_append, x.cells_length, List.take_of_length_le (by rw [x.cells_length]; omega), ← ih n]
      congr 2; omega
theorem flat_drop (l : List Inst) (n : Nat) : (flat l).drop (n * 7) = flat (l.drop n) := by
  induction l generalizing n with
  | nil => simp [flat]
  | cons x l ih =>
    cases n with
    | zero => simp [flat]
    | succ n =>
      simp only [flat, List.flatMap_cons, List.drop_succ_cons] at *
      rw [List.drop_append, x.cells_length, List.drop_of_length_le (by rw [x.cells_length]; omega), ← ih n]
      simp only [List.nil_append]
      congr 1; omega

theorem infoSize : (Tryz.prog.info? 145).map (·.size) = some 7 := by kernel_rfl

theorem grown_setRow (W : World) (gg : Nat) (cs : Array Value) : W.grownBy (W.setRow gg cs) (some gg) :=
  ⟨rfl, rfl, rfl, by simp [World.setRow], fun k _ hne => setRow_other W gg k cs (fun e => hne (by rw [e]))⟩
/-- What stands behind the copy of shift: all from p on once more, one place further. -/
def copied (l : List Inst) (p : Nat) : List Inst := l.take (p + 1) ++ (l.drop p).take (l.length - (p + 1))

/-- Behind the copy. -/
theorem Is.copy {gg cap p : Nat} {cur : Array Value} (h : Is B W g r (.slice (some ⟨gg, 0, none⟩) r.l.length cap)) (hp : p + 1 < r.l.length)
    (hcur : W.heap[gg]? = some (.cells cur 145 (0, 0))) (hcs : cur.size = cap * 7) (hcap : r.l.length ≤ cap) (hm : cap ≤ maxLen) (htk : cur.toList.take (r.l.length * 7) = flat r.l) :
    Is B (W.setRow gg (cur.toList.take ((p + 1) * 7) ++ (flat ((r.l.drop p).take (r.l.length - (p + 1)))) ++ cur.toList.drop ((p + 1) * 7 + (flat ((r.l.drop p).take (r.l.length - (p + 1)))).length)).toArray) g
      { r with l := copied r.l p } (.slice (some ⟨gg, 0, none⟩) r.l.length cap) := by
  have hne := h.apart (k := gg) rfl
  have hlen : (copied r.l p).length = r.l.length := by simp [copied]; omega
  have hl2 : (flat ((r.l.drop p).take (r.l.length - (p + 1)))).length = (r.l.length - (p + 1)) * 7 := by rw [flat_length]; simp; omega
  have hsz : cur.toList.length = cap * 7 := by simpa using hcs
  refine ⟨?_, h.ge, ?_, h.sz⟩
  · rw [setRow_other W gg g _ (Ne.symm hne)]; exact h.blk
  · have hB := (own_blk h.own (k := gg) rfl).1
    show World.ownsRow _ B _ 7 _ (copied r.l p).length (flat (copied r.l p))
    rw [hlen]
    refine ⟨by rw [flat_length, hlen], .inr ⟨gg, cap, _, rfl, hB, setRow_heap W gg cur _ _ _ hcur, hcap, hm, ?_, ?_⟩⟩
    · simp [hl2]; omega
    · simp only [List.append_assoc]
      have e1 : cur.toList.take ((p + 1) * 7) = flat (r.l.take (p + 1)) := by
        rw [← flat_take, ← htk, List.take_take]; congr 1; omega
      rw [e1]
      simp only [copied, flat_append]
      have l1 : (flat (r.l.take (p + 1))).length = (p + 1) * 7 := by rw [flat_length]; simp; omega
      rw [← List.append_assoc, List.take_append_of_le_length (by simp [l1, hl2]; omega)]
      exact List.take_of_length_le (by simp [l1, hl2]; omega)

def zI : Inst := ⟨0, .zero, 0, 0⟩
/-- The program in the midst of shift: k instructions are put right. -/
def shiftTo (l : List Inst) (p k : Nat) : List Inst := l.take p ++ l.getD p zI :: (((l.drop p).take k).map Rd.bump ++ (l.drop p).drop k)
theorem shiftTo_zero (l : List Inst) (p : Nat) (hp : p ≤ l.length) : copied (l ++ [zI]) p = shiftTo l p 0 := by
  unfold copied shiftTo
  rcases Nat.lt_or_ge p l.length with h | h
  · have e1 : (l ++ [zI]).take (p + 1) = l.take p ++ [l.getD p zI] := by
      rw [List.take_append_of_le_length (by omega), List.take_succ_eq_append_getElem h]
      simp [List.getD, List.getElem?_eq_getElem h]
    have e2 : ((l ++ [zI]).drop p).take ((l ++ [zI]).length - (p + 1)) = l.drop p := by
      rw [List.drop_append_of_le_length (by omega), List.take_append_of_le_length (by simp)]
      exact List.take_of_length_le (by simp)
    rw [e1, e2]
    simp
  · have hpe : p = l.length := by omega
    subst hpe
    simp [List.getD]
    exact List.take_of_length_le (by simp)
theorem shiftTo_length (l : List Inst) (p k : Nat) (hp : p ≤ l.length) : (shiftTo l p k).length = l.length + 1 := by
  simp [shiftTo]; omega
theorem shiftTo_get (l : List Inst) (p k : Nat) (hk : p + k < l.length) : (shiftTo l p k)[p + 1 + k]? = some (l[p + k]'hk) := by
  have e1 : (l.take p).length = p := by simp; omega
  unfold shiftTo
  rw [List.getElem?_append_right (by omega), e1, show p + 1 + k - p = k + 1 by omega, List.getElem?_cons_succ]
  rw [List.getElem?_append_right (by simp; omega)]
  have e2 : k - (((l.drop p).take k).map Rd.bump).length = 0 := by simp; omega
  rw [e2, List.getElem?_drop, List.getElem?_drop, Nat.add_zero, List.getElem?_eq_getElem hk]
theorem shiftTo_succ (l : List Inst) (p k : Nat) (hk : p + k < l.length) : (shiftTo l p k).set (p + 1 + k) (Rd.bump (l[p + k]'hk)) = shiftTo l p (k + 1) := by
  have e1 : (l.take p).length = p := by simp; omega
  unfold shiftTo
  rw [List.set_append_right _ _ (by omega), e1, show p + 1 + k - p = k + 1 by omega, List.set_cons_succ]
  rw [List.set_append_right _ _ (by simp; omega)]
  have e2 : k - (((l.drop p).take k).map Rd.bump).length = 0 := by simp; omega
  have hk2 : k < (l.drop p).length := by simp; omega
  rw [e2]
  have e3 : (l.drop p).drop k = l[p + k] :: (l.drop p).drop (k + 1) := by
    rw [List.drop_eq_getElem_cons hk2]; simp
  have e4 : (l.drop p).take (k + 1) = (l.drop p).take k ++ [l[p + k]] := by
    rw [List.take_succ_eq_append_getElem hk2]; simp
  rw [e3, e4]
  simp
theorem shiftTo_all (l : List Inst) (p : Nat) : shiftTo l p (l.length - p) = (Rd.shift ⟨.empty, 0, 0, l, 0, 0⟩ p).l := by
  unfold shiftTo Rd.shift
  have e1 : (l.drop p).take (l.length - p) = l.drop p := List.take_of_length_le (by simp)
  have e2 : (l.drop p).drop (l.length - p) = [] := List.drop_of_length_le (by simp)
  rw [e1, e2, List.append_nil]
  rfl
end Go.Proofs.YtnbgigdloehbjaaGreatDoor.Rg
