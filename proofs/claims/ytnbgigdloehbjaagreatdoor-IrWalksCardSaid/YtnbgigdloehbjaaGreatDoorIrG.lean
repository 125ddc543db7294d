/-
  Matches of operators (join.Check), whole.
-/
import Derived.Test.YtnbgigdloehbjaaGreatDoorIrF
namespace Go.Proofs.YtnbgigdloehbjaaGreatDoor.Ir
open Go Go.RowKit Go.Proofs.YtnbgigdloehbjaaGreatDoor.Rg Go.Proofs.YtnbgigdloehbjaaGreatDoor.Ma
set_option maxHeartbeats 4000000
set_option maxRecDepth 100000

theorem aggE_one (how : Int) (l : List ByteArray) : aggE how l = 0 ∨ aggE how l = 1 := by
  unfold aggE
  split
  · exact .inr rfl
  · exact .inl rfl
theorem joinCheck_calls (f : Fd) (vX vI : Value) (W : World) (hX : Row W Any vX f.xn.length 1 (scells f.xn)) (hI : Row W Any vI f.incl.length 1 (scells f.incl)) (hxl : f.xn.length ≤ 100000) (hil : f.incl.length ≤ 100000)
    (hxs : ∀ s ∈ f.xn, s.size ≤ 300) (his : ∀ s ∈ f.incl, s.size ≤ 300) :
    Calls Tryz.prog 67 #[.agg #[.int .i64 f.xhow, vX, .int .i64 f.card, vI]] W (RetB (.int .i64 (joinE f : Nat)) W) := by
  obtain ⟨_, ax, capx, rfl, _⟩ := id hX
  obtain ⟨_, ai, capi, rfl, _⟩ := id hI
  have HX := Lib.hid hX; have HI := Lib.hid hI; clear hX hI
  have HXs := Lib.hid hxs; have HIs := Lib.hid his; clear hxs his
  obtain ⟨B, hB⟩ : ∃ B, B = W.alloc (.cells #[.int .i64 f.xhow, .slice ax f.xn.length capx, .int .i64 f.card, .slice ai f.incl.length capi] 28) := ⟨_, rfl⟩
  have hb0 : Below W.heap.size W B := by rw [hB]; exact (Below.refl _ _).alloc (Nat.le_refl _) _
  have hbb : B.heap[W.heap.size]? = some (.cells #[.int .i64 f.xhow, .slice ax f.xn.length capx, .int .i64 f.card, .slice ai f.incl.length capi] 28 (0, 0)) := by rw [hB]; exact blk_new W _
  have hbs : B.heap.size = W.heap.size + 1 := by rw [hB]; simp
  have b0 : B.cell? ⟨W.heap.size, 0, none⟩ = some (.int .i64 f.xhow) := blk_cell hbb 0
  have b1 : B.cell? ⟨W.heap.size, 1, none⟩ = some (.slice ax f.xn.length capx) := blk_cell hbb 1
  have HBB := Lib.hid hbb; clear hbb
  have HB0 := Lib.hid hb0; clear hb0
  have HA := Lib.hid (aggCheck_calls f.xhow _ f.xn B (HX.out.keep (by decide) (Keeps.below HB0.out)) hxl HXs.out)
  go_enter Tryz.func67, Tryz.ntmps67
  go_wp2_with fail
  rw [← hB]
  clear hB
  (with_reducible refine HA.out.mono ?_)
  rintro e W1 ⟨rfl, hb1⟩
  have k0 : W1.cell? ⟨W.heap.size, 0, none⟩ = some (.int .i64 f.xhow) := (hb1.cell (p := ⟨W.heap.size, 0, none⟩) (by simp; omega)).trans b0
  have k2 : W1.cell? ⟨W.heap.size, 2, none⟩ = some (.int .i64 f.card) := (hb1.cell (p := ⟨W.heap.size, 2, none⟩) (by simp; omega)).trans (blk_cell HBB.out 2)
  have k3 : W1.cell? ⟨W.heap.size, 3, none⟩ = some (.slice ai f.incl.length capi) := (hb1.cell (p := ⟨W.heap.size, 3, none⟩) (by simp; omega)).trans (blk_cell HBB.out 3)
  have hw1 : Below W.heap.size W W1 := HB0.out.trans (hb1.mono (by omega))
  have h1s := hb1.size
  have HW1 := Lib.hid hw1; clear hw1
  have HB1 := Lib.hid hb1; clear hb1 b0 b1
  rcases aggE_one f.xhow f.xn with ha | ha
  rotate_left
  · have hfin : joinE f = 1 := by rw [joinE, if_pos (by omega)]
    have HF := Lib.hid hfin; clear hfin
    rw [ha]
    clear ha
    go_wp2_with fail
    go_ret
    exact ⟨by rw [HF.out]; rfl, HW1.out⟩
  rw [ha]
  have hj : joinE f = if f.card < 0 ∨ 2 < f.card ∨ (f.card = 0 ∧ 0 < f.incl.length) ∨ onceB f.incl = false then 1 else if f.xhow = 1 ∧ (f.incl.any fun s => decide (s.data ∈ dl f.xn)) = true then 1 else 0 := by rw [joinE, if_neg (by omega)]
  clear ha
  by_cases h1 : f.card < 0
  · have hfin : joinE f = 1 := by rw [hj, if_pos (.inl h1)]
    have HF := Lib.hid hfin; clear hfin hj
    go_wp2_with fail
    go_ret
    exact ⟨by rw [HF.out]; rfl, HW1.out⟩
  by_cases h2 : 2 < f.card
  · have hfin : joinE f = 1 := by rw [hj, if_pos (.inr (.inl h2))]
    have HF := Lib.hid hfin; clear hfin hj
    go_wp2_with fail
    go_ret
    exact ⟨by rw [HF.out]; rfl, HW1.out⟩
  by_cases h3 : f.card = 0 ∧ 0 < f.incl.length
  · have hfin : joinE f = 1 := by rw [hj, if_pos (.inr (.inr (.inl h3)))]
    have t0 : (f.card == 0) = true := by rw [h3.1]; rfl
    have h3' := h3.2
    have HF := Lib.hid hfin; clear hfin hj h3
    go_wp2_with fail
    go_ret
    exact ⟨by rw [HF.out]; rfl, HW1.out⟩
  obtain ⟨x, hx⟩ : ∃ x, onceB f.incl = x := ⟨_, rfl⟩
  have HO := Lib.hid (once_calls _ f.incl W1 (HI.out.keep (by decide) (Keeps.below HW1.out)) hil HIs.out x hx)
  have hcase : ((f.card == 0) = true ∧ ¬ 0 < f.incl.length) ∨ (f.card == 0) = false := by
    by_cases h : f.card = 0
    · left; exact ⟨by rw [h]; rfl, fun h' => h3 ⟨h, h'⟩⟩
    · right; rw [beq_eq_false_iff_ne]; exact h
  cases x with
  | false =>
    have hfin : joinE f = 1 := by rw [hj, if_pos (.inr (.inr (.inr hx)))]
    have HF := Lib.hid hfin; clear hfin hj h3 hx
    rcases hcase with ⟨t0, t1⟩ | t0
    all_goals
      go_wp2_with ((with_reducible refine HO.out.mono ?_); rintro e W2 ⟨rfl, hb2⟩; have HW2 := Lib.hid (HW1.out.trans (hb2.mono HW1.out.size)); clear hb2)
      go_ret
      exact ⟨by rw [HF.out]; rfl, HW2.out⟩
  | true =>
    rw [if_neg (by rintro (h | h | h | h) <;> first | omega | exact h3 h | (rw [hx] at h; cases h))] at hj
    have HJ := Lib.hid hj; clear hj h3 hx
    rcases hcase with ⟨t0, t1⟩ | t0
    all_goals
      go_wp2_with fail
      (with_reducible refine HO.out.mono ?_)
      rintro e W2 ⟨rfl, hb2⟩
      have m0 : W2.cell? ⟨W.heap.size, 0, none⟩ = some (.int .i64 f.xhow) := (hb2.cell (p := ⟨W.heap.size, 0, none⟩) (by simp; omega)).trans k0
      have m1 : W2.cell? ⟨W.heap.size, 1, none⟩ = some (.slice ax f.xn.length capx) := (hb2.cell (p := ⟨W.heap.size, 1, none⟩) (by simp; omega)).trans ((HB1.out.cell (p := ⟨W.heap.size, 1, none⟩) (by simp; omega)).trans (blk_cell HBB.out 1))
      have m3 : W2.cell? ⟨W.heap.size, 3, none⟩ = some (.slice ai f.incl.length capi) := (hb2.cell (p := ⟨W.heap.size, 3, none⟩) (by simp; omega)).trans k3
      have hw2 : Below W.heap.size W W2 := HW1.out.trans (hb2.mono HW1.out.size)
      have h2s := hb2.size
      have HW2 := Lib.hid hw2; clear hw2 hb2 k0 k2 k3
      by_cases hh : f.xhow = 1
      · have q0 : (f.xhow == 1) = true := by rw [hh]; rfl
        have HC := Lib.hid (containsA_calls W.heap.size _ f.xn _ f.incl W2 m1 (by omega) (HX.out.keep (by decide) (Keeps.below HW2.out)) hxl (HI.out.keep (by decide) (Keeps.below HW2.out)) hil)
        obtain ⟨y, hy⟩ : ∃ y, (f.incl.any fun s => decide (s.data ∈ dl f.xn)) = y := ⟨_, rfl⟩
        rw [hy] at HC
        have hfin : joinE f = if y = true then 1 else 0 := by rw [HJ.out, hy]; simp [hh]
        have HF := Lib.hid hfin; clear hfin hy
        clear m1
        cases y
        all_goals
          go_wp2_with ((with_reducible refine HC.out.mono ?_); rintro e W3 ⟨rfl, hb3⟩; have HW3 := Lib.hid (HW2.out.trans (hb3.mono HW2.out.size)); clear hb3)
          go_ret
          exact ⟨by rw [HF.out]; rfl, HW3.out⟩
      · have q0 : (f.xhow == 1) = false := by rw [beq_eq_false_iff_ne]; exact hh
        have hfin : joinE f = 0 := by rw [HJ.out, if_neg (fun h => hh h.1)]
        have HF := Lib.hid hfin; clear hfin
        go_wp2_with fail
        go_ret
        exact ⟨by rw [HF.out]; rfl, HW2.out⟩
end Go.Proofs.YtnbgigdloehbjaaGreatDoor.Ir
