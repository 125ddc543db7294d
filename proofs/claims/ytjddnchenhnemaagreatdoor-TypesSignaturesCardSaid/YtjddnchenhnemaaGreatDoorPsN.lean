/-
  The reader of queries: an operator without words of its own; a match of nothing may be.
-/
import Derived.Test.YtjddnchenhnemaaGreatDoorPsM
import Derived.Maps.Own
namespace Go.Proofs.YtjddnchenhnemaaGreatDoor.Ps
open Go Go.RowKit Go.Proofs.YtjddnchenhnemaaGreatDoor.QT Go.Proofs.YtjddnchenhnemaaGreatDoor.Rg Go.Proofs.YtjddnchenhnemaaGreatDoor.Ma Go.Proofs.YtjddnchenhnemaaGreatDoor.Ir Go.Proofs.YtjddnchenhnemaaGreatDoor.Pm Go.Proofs.YtjddnchenhnemaaGreatDoor.Le
set_option maxHeartbeats 8000000
set_option maxRecDepth 100000
/-- A match of nothing. -/
abbrev mz : Array Value := #[.int .i64 0, .slice none 0 0, .int .i64 0, .slice none 0 0]
theorem sizeM : (Tryz.prog.info? 39).map (·.size) = some 4 := by kernel_rfl
theorem matching_none {E : Env} {W : World} {p d : Nat} (hP : PS E W p d) (x : Nat) (hx13 : x ≤ 13)
    (h1 : isB (E.tk p) ⟨#[98, 111, 111, 108]⟩ = false) (h2 : isB (E.tk p) ⟨#[111, 110]⟩ = false) (h3 : isB (E.tk p) ⟨#[105, 103, 110, 111, 114, 105, 110, 103]⟩ = false) :
    Calls Tryz.prog 69 #[.pointer (some ⟨E.g, 0, none⟩), .int .i64 (x : Int)] W (RetB (.tuple #[.bool false, .agg mz]) W) := by
  obtain ⟨B0, hB0⟩ : ∃ B0, B0 = (W.alloc (.cells #[.int .i64 0, .slice none 0 0, .int .i64 0, .slice none 0 0] 39)).alloc (.cells #[.int .i64 0, .slice none 0 0, .int .i64 0, .slice none 0 0] 39) := ⟨_, rfl⟩
  have hb0 : Below W.heap.size W B0 := by rw [hB0]; exact ((Below.refl _ _).alloc (Nat.le_refl _) _).alloc (by simp) _
  have hrb : B0.heap[W.heap.size]? = some (.cells mz 39 (0, 0)) := by rw [hB0]; exact blk_alloc (blk_new W _) _
  have hxb : B0.heap[W.heap.size + 1]? = some (.cells mz 39 (0, 0)) := by rw [hB0]; exact blk_new2 W _ _
  have hps : PS E B0 p d := hP.below hb0
  have hx : (W.alloc (.cells #[.int .i64 0, .slice none 0 0, .int .i64 0, .slice none 0 0] 39)).alloc (.cells #[.int .i64 0, .slice none 0 0, .int .i64 0, .slice none 0 0] 39) = B0 := hB0.symm
  have HB0 := Lib.hid hb0; have HRB := Lib.hid hrb; have HXB := Lib.hid hxb; have HPS := Lib.hid hps
  have H1 := Lib.hid h1; have H2 := Lib.hid h2; have H3 := Lib.hid h3
  clear hB0 hb0 hrb hxb hps hP h1 h2 h3
  have t14 : ((x : Int) == 14) = false := by rw [beq_eq_false_iff_ne]; omega
  by_cases hc : 5 ≤ x ∧ x ≤ 10
  · have e1 : (5 : Int) ≤ x := by omega
    have e2 : (x : Int) ≤ 10 := by omega
    clear hc
    go_enter Tryz.func69, Tryz.ntmps69
    go_wp2_with (go_at_call 89; go_in)
    clear hx
    (with_reducible refine (takes_no HPS.out _ H1.out).mono ?_)
    rintro e W1 ⟨rfl, hb1⟩
    have HP1 := Lib.hid (HPS.out.below hb1)
    have HB1 := Lib.hid hb1
    clear hb1
    go_wp2_with fail
    (with_reducible refine (takes_no HP1.out _ H2.out).mono ?_)
    rintro e W2 ⟨rfl, hb2⟩
    have hb02 := HB1.out.trans (hb2.mono HB1.out.size)
    have HP2 := Lib.hid (HPS.out.below hb02)
    have HB2 := Lib.hid hb02
    clear hb2 hb02
    go_wp2_with fail
    (with_reducible refine (takes_no HP2.out _ H3.out).mono ?_)
    rintro e W3 ⟨rfl, hb3⟩
    have hb03 := HB2.out.trans (hb3.mono HB2.out.size)
    have hr3 := (hb03.block _ (blk_lt HRB.out)).trans HRB.out
    have hx3 := (hb03.block _ (blk_lt HXB.out)).trans HXB.out
    have HB3 := Lib.hid hb03; have HR3 := Lib.hid hr3; have HX3 := Lib.hid hx3
    clear hb3 hb03 hr3 hx3
    go_wp2_with fail
    have l0 : W3.cell? ⟨W.heap.size + 1, 0, none⟩ = some (.int .i64 0) := blk_cell HX3.out 0
    have l1 : W3.cell? ⟨W.heap.size + 1, 1, none⟩ = some (.slice none 0 0) := blk_cell HX3.out 1
    have l2 : W3.cell? ⟨W.heap.size + 1, 2, none⟩ = some (.int .i64 0) := blk_cell HX3.out 2
    have l3 : W3.cell? ⟨W.heap.size + 1, 3, none⟩ = some (.slice none 0 0) := blk_cell HX3.out 3
    refine QT.wp_region_qtail 3 (by kernel_rfl) (by kernel_rfl) (by kernel_rfl) ?_
    simp only [List.take_succ_cons, List.take_zero, List.drop_succ_cons, List.drop_zero]
    repeat (go_big_quiet_step (fail))
    refine wpQuiet_nil ?_
    refine wpList_setA sizeM rfl _ _ rfl W.heap.size mz mz HR3.out rfl rfl rfl rfl (by simp [Value.oneCell']) ?_
    go_wp2_with fail
    have hF := setRow_heap W3.drew W.heap.size mz mz 39 (0, 0) HR3.out
    have k0 : (W3.drew.setRow W.heap.size mz).cell? ⟨W.heap.size, 0, none⟩ = some (.int .i64 0) := blk_cell hF 0
    have k1 : (W3.drew.setRow W.heap.size mz).cell? ⟨W.heap.size, 1, none⟩ = some (.slice none 0 0) := blk_cell hF 1
    have k2 : (W3.drew.setRow W.heap.size mz).cell? ⟨W.heap.size, 2, none⟩ = some (.int .i64 0) := blk_cell hF 2
    have k3 : (W3.drew.setRow W.heap.size mz).cell? ⟨W.heap.size, 3, none⟩ = some (.slice none 0 0) := blk_cell hF 3
    refine bodyPost_ret (v := .tuple #[.bool false, .agg mz]) ?_ rfl ⟨rfl, below_row ((HB0.out.trans (HB3.out.mono HB0.out.size)).drew) (Nat.le_refl _) _⟩
    generalize W3.drew.setRow W.heap.size mz = WF at k0 k1 k2 k3 ⊢
    simp [results, Tryz.results69, go_sem, k0, k1, k2, k3]
  · have e1 : decide ((5 : Int) ≤ (x : Int)) = false ∨ decide ((x : Int) ≤ 10) = false := by
      by_cases h5 : 5 ≤ x
      · exact .inr (decide_eq_false (by omega))
      · exact .inl (decide_eq_false (by omega))
    rcases e1 with e1 | e1
    · have e2 : ¬ (5 : Int) ≤ x := by simpa using e1
      clear hc e1
      go_enter Tryz.func69, Tryz.ntmps69
      go_wp2_with (go_at_call 89; go_in)
      clear hx
      have HP1 := HPS
      have HB1 := Lib.hid (Below.refl B0.heap.size B0)
      (with_reducible refine (takes_no HP1.out _ H2.out).mono ?_)
      rintro e W2 ⟨rfl, hb2⟩
      have hb02 := HB1.out.trans (hb2.mono HB1.out.size)
      have HP2 := Lib.hid (HPS.out.below hb02)
      have HB2 := Lib.hid hb02
      clear hb2 hb02
      go_wp2_with fail
      (with_reducible refine (takes_no HP2.out _ H3.out).mono ?_)
      rintro e W3 ⟨rfl, hb3⟩
      have hb03 := HB2.out.trans (hb3.mono HB2.out.size)
      have hr3 := (hb03.block _ (blk_lt HRB.out)).trans HRB.out
      have hx3 := (hb03.block _ (blk_lt HXB.out)).trans HXB.out
      have HB3 := Lib.hid hb03; have HR3 := Lib.hid hr3; have HX3 := Lib.hid hx3
      clear hb3 hb03 hr3 hx3
      go_wp2_with fail
      have l0 : W3.cell? ⟨W.heap.size + 1, 0, none⟩ = some (.int .i64 0) := blk_cell HX3.out 0
      have l1 : W3.cell? ⟨W.heap.size + 1, 1, none⟩ = some (.slice none 0 0) := blk_cell HX3.out 1
      have l2 : W3.cell? ⟨W.heap.size + 1, 2, none⟩ = some (.int .i64 0) := blk_cell HX3.out 2
      have l3 : W3.cell? ⟨W.heap.size + 1, 3, none⟩ = some (.slice none 0 0) := blk_cell HX3.out 3
      refine QT.wp_region_qtail 3 (by kernel_rfl) (by kernel_rfl) (by kernel_rfl) ?_
      simp only [List.take_succ_cons, List.take_zero, List.drop_succ_cons, List.drop_zero]
      repeat (go_big_quiet_step (fail))
      refine wpQuiet_nil ?_
      refine wpList_setA sizeM rfl _ _ rfl W.heap.size mz mz HR3.out rfl rfl rfl rfl (by simp [Value.oneCell']) ?_
      go_wp2_with fail
      have hF := setRow_heap W3.drew W.heap.size mz mz 39 (0, 0) HR3.out
      have k0 : (W3.drew.setRow W.heap.size mz).cell? ⟨W.heap.size, 0, none⟩ = some (.int .i64 0) := blk_cell hF 0
      have k1 : (W3.drew.setRow W.heap.size mz).cell? ⟨W.heap.size, 1, none⟩ = some (.slice none 0 0) := blk_cell hF 1
      have k2 : (W3.drew.setRow W.heap.size mz).cell? ⟨W.heap.size, 2, none⟩ = some (.int .i64 0) := blk_cell hF 2
      have k3 : (W3.drew.setRow W.heap.size mz).cell? ⟨W.heap.size, 3, none⟩ = some (.slice none 0 0) := blk_cell hF 3
      refine bodyPost_ret (v := .tuple #[.bool false, .agg mz]) ?_ rfl ⟨rfl, below_row ((HB0.out.trans (HB3.out.mono HB0.out.size)).drew) (Nat.le_refl _) _⟩
      generalize W3.drew.setRow W.heap.size mz = WF at k0 k1 k2 k3 ⊢
      simp [results, Tryz.results69, go_sem, k0, k1, k2, k3]
    · have e2 : ¬ (x : Int) ≤ 10 := by simpa using e1
      have e3 : (5 : Int) ≤ x := by omega
      clear hc e1
      go_enter Tryz.func69, Tryz.ntmps69
      go_wp2_with (go_at_call 89; go_in)
      clear hx
      have HP1 := HPS
      have HB1 := Lib.hid (Below.refl B0.heap.size B0)
      (with_reducible refine (takes_no HP1.out _ H2.out).mono ?_)
      rintro e W2 ⟨rfl, hb2⟩
      have hb02 := HB1.out.trans (hb2.mono HB1.out.size)
      have HP2 := Lib.hid (HPS.out.below hb02)
      have HB2 := Lib.hid hb02
      clear hb2 hb02
      go_wp2_with fail
      (with_reducible refine (takes_no HP2.out _ H3.out).mono ?_)
      rintro e W3 ⟨rfl, hb3⟩
      have hb03 := HB2.out.trans (hb3.mono HB2.out.size)
      have hr3 := (hb03.block _ (blk_lt HRB.out)).trans HRB.out
      have hx3 := (hb03.block _ (blk_lt HXB.out)).trans HXB.out
      have HB3 := Lib.hid hb03; have HR3 := Lib.hid hr3; have HX3 := Lib.hid hx3
      clear hb3 hb03 hr3 hx3
      go_wp2_with fail
      have l0 : W3.cell? ⟨W.heap.size + 1, 0, none⟩ = some (.int .i64 0) := blk_cell HX3.out 0
      have l1 : W3.cell? ⟨W.heap.size + 1, 1, none⟩ = some (.slice none 0 0) := blk_cell HX3.out 1
      have l2 : W3.cell? ⟨W.heap.size + 1, 2, none⟩ = some (.int .i64 0) := blk_cell HX3.out 2
      have l3 : W3.cell? ⟨W.heap.size + 1, 3, none⟩ = some (.slice none 0 0) := blk_cell HX3.out 3
      refine QT.wp_region_qtail 3 (by kernel_rfl) (by kernel_rfl) (by kernel_rfl) ?_
      simp only [List.take_succ_cons, List.take_zero, List.drop_succ_cons, List.drop_zero]
      repeat (go_big_quiet_step (fail))
      refine wpQuiet_nil ?_
      refine wpList_setA sizeM rfl _ _ rfl W.heap.size mz mz HR3.out rfl rfl rfl rfl (by simp [Value.oneCell']) ?_
      go_wp2_with fail
      have hF := setRow_heap W3.drew W.heap.size mz mz 39 (0, 0) HR3.out
      have k0 : (W3.drew.setRow W.heap.size mz).cell? ⟨W.heap.size, 0, none⟩ = some (.int .i64 0) := blk_cell hF 0
      have k1 : (W3.drew.setRow W.heap.size mz).cell? ⟨W.heap.size, 1, none⟩ = some (.slice none 0 0) := blk_cell hF 1
      have k2 : (W3.drew.setRow W.heap.size mz).cell? ⟨W.heap.size, 2, none⟩ = some (.int .i64 0) := blk_cell hF 2
      have k3 : (W3.drew.setRow W.heap.size mz).cell? ⟨W.heap.size, 3, none⟩ = some (.slice none 0 0) := blk_cell hF 3
      refine bodyPost_ret (v := .tuple #[.bool false, .agg mz]) ?_ rfl ⟨rfl, below_row ((HB0.out.trans (HB3.out.mono HB0.out.size)).drew) (Nat.le_refl _) _⟩
      generalize W3.drew.setRow W.heap.size mz = WF at k0 k1 k2 k3 ⊢
      simp [results, Tryz.results69, go_sem, k0, k1, k2, k3]
end Go.Proofs.YtjddnchenhnemaaGreatDoor.Ps
