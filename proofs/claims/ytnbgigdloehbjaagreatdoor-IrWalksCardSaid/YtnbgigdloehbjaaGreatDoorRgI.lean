/-
  The reader's method many.
-/
import Derived.Test.YtnbgigdloehbjaaGreatDoorRgH
namespace Go.Proofs.YtnbgigdloehbjaaGreatDoor.Rg
open Go Go.RowKit
variable {B : Nat} {W : World} {g : Nat} {r : Rd} {v : Value}

/-- All targets are small. -/
def Small (l : List Inst) : Prop := ∀ x ∈ l, x.a ≤ 90000 ∧ x.b ≤ 90000

set_option maxRecDepth 100000 in
set_option maxHeartbeats 1600000 in
theorem many_calls (p : Nat) (hI : Is B W g r v) (hB : B ≤ W.heap.size) (hn : r.l.length ≤ 19990) (hp : p ≤ r.l.length) (hab : Small r.l) :
    Calls Tryz.prog 151 #[.pointer (some ⟨g, 0, none⟩), .int .i64 p] W fun q W' => q = .returned (.tuple #[]) ∧ (∃ v', Is B W' g (r.many p) v') ∧ Fr B W W' := by
  by_cases h1 : r.isB 43 = true
  · have hm : r.many p = (r.isR 43).put ⟨1, .zero, p, (r.isR 43).l.length + 1⟩ := by rw [Rd.many, if_pos h1]
    have hl2 : (r.isR 43).l = r.l := (Rd.isR_ext r 43).l
    have H1 := Lib.hid h1; clear h1
    have HM := Lib.hid hm; clear hm
    have HL2 := Lib.hid hl2; clear hl2
    clear hab
    go_enter Tryz.func151, Tryz.ntmps151
    go_wp2_with fail
    refine (is_calls 43 hI).mono ?_
    rintro q W1 ⟨rfl, hI1, hF1⟩
    rw [H1.out]
    clear hI
    obtain ⟨ao, cap, rfl⟩ := hI1.anyForm
    rw [HL2.out] at hI1
    have c3 := hI1.c3
    have HI1 := Lib.hid hI1; clear hI1
    have HF1 := Lib.hid hF1; clear hF1
    go_wp2_with fail
    refine (put_calls ⟨1, .zero, p, r.l.length + 1⟩ HI1.out (Nat.le_trans hB HF1.out.below.size) (by rw [HL2.out]; omega)).mono ?_
    rintro q W2 ⟨rfl, hI2, hF2⟩
    have HI2 := Lib.hid hI2; clear hI2
    have HF2 := Lib.hid hF2; clear hF2
    go_wp2
    go_end0
    refine ⟨rfl, ?_, HF1.out.trans HF2.out⟩
    rw [HM.out, HL2.out]; exact HI2.out
  · have h1' : r.isB 43 = false := by simpa using h1
    have hr1 : r.isR 43 = r := if_neg h1
    by_cases h2 : r.isB 63 = true
    · have hm : r.many p = ((r.isR 63).shift p).setAt p ⟨1, .zero, p + 1, ((r.isR 63).shift p).l.length⟩ := by rw [Rd.many, if_neg h1, if_pos h2]
      have hl2 : (r.isR 63).l = r.l := (Rd.isR_ext r 63).l
      have H1 := Lib.hid h1'; clear h1' h1
      have H2 := Lib.hid h2; clear h2
      have HM := Lib.hid hm; clear hm
      have HR1 := Lib.hid hr1; clear hr1
      have HL2 := Lib.hid hl2; clear hl2
      go_enter Tryz.func151, Tryz.ntmps151
      go_wp2_with fail
      refine (is_calls 43 hI).mono ?_
      rintro q W1 ⟨rfl, hI1, hF1⟩
      rw [H1.out]
      rw [HR1.out] at hI1
      clear hI
      go_wp2_with fail
      refine (is_calls 63 hI1).mono ?_
      rintro q W2 ⟨rfl, hI2, hF2⟩
      rw [H2.out]
      clear hI1
      go_wp2_with fail
      refine (shift_calls p hI2 (Nat.le_trans hB (hF1.trans hF2).below.size) (by rw [HL2.out]; omega) (by rw [HL2.out]; omega) (by rw [HL2.out]; exact fun x hx => ⟨by have := (hab x hx).1; omega, by have := (hab x hx).2; omega⟩)).mono ?_
      rintro q W3 ⟨rfl, ⟨v3, hI3⟩, hF3⟩
      have hl3 : ((r.isR 63).shift p).l.length = r.l.length + 1 := by simp [Rd.shift, HL2.out]; omega
      obtain ⟨gg, cap, rfl, hgg, hne⟩ := hI3.form (by omega)
      have c3 := hI3.c3
      rw [hl3] at c3 hI3
      obtain ⟨⟨u0, u1, u2, u3, u4, u5, u6, k0, k1, k2, k3, k4, k5, k6⟩, f0, f1, f2, f3, f4, f5, f6⟩ := hI3.room hl3.symm p (by omega)
      have HI3 := Lib.hid hI3; clear hI3
      have HF := Lib.hid ((hF1.trans hF2).trans hF3); clear hF1 hF2 hF3 hI2
      have HL3 := Lib.hid hl3; clear hl3
      clear hab
      go_wp2_with fail
      refine QT.wp_region_qtail 14 (by kernel_rfl) (by kernel_rfl) (by kernel_rfl) ?_
      simp only [List.take_succ_cons, List.take_zero, List.drop_succ_cons, List.drop_zero]
      repeat (go_big_quiet_step (fail))
      refine wpQuiet_nil ?_
      go_wp2
      go_end0
      refine ⟨rfl, ⟨.slice (some ⟨gg, 0, none⟩) (r.l.length + 1) cap, ?_⟩, ?_⟩
      · rw [HM.out, HL3.out]
        exact (HI3.out.put7 HL3.out.symm p (by rw [HL3.out]; omega) ⟨1, .zero, p + 1, r.l.length + 1⟩).drew
      · exact (HI3.out.frPut7 HF.out p ⟨1, .zero, p + 1, r.l.length + 1⟩).drew
    · have h2' : r.isB 63 = false := by simpa using h2
      have hr2 : r.isR 63 = r := if_neg h2
      by_cases h3 : r.isB 42 = true
      · have hm : r.many p = (((r.isR 42).shift p).put ⟨2, .zero, p, 0⟩).setAt p ⟨1, .zero, p + 1, (((r.isR 42).shift p).put ⟨2, .zero, p, 0⟩).l.length⟩ := by rw [Rd.many, if_neg h1, if_neg h2, if_pos h3]
        have hl2 : (r.isR 42).l = r.l := (Rd.isR_ext r 42).l
        have H1 := Lib.hid h1'; clear h1' h1
        have H2 := Lib.hid h2'; clear h2' h2
        have H3 := Lib.hid h3; clear h3
        have HM := Lib.hid hm; clear hm
        have HR1 := Lib.hid hr1; clear hr1
        have HR2 := Lib.hid hr2; clear hr2
        have HL2 := Lib.hid hl2; clear hl2
        go_enter Tryz.func151, Tryz.ntmps151
        go_wp2_with fail
        refine (is_calls 43 hI).mono ?_
        rintro q W1 ⟨rfl, hI1, hF1⟩
        rw [H1.out]
        rw [HR1.out] at hI1
        clear hI
        go_wp2_with fail
        refine (is_calls 63 hI1).mono ?_
        rintro q W2 ⟨rfl, hI2, hF2⟩
        rw [H2.out]
        rw [HR2.out] at hI2
        clear hI1
        go_wp2_with fail
        refine (is_calls 42 hI2).mono ?_
        rintro q W3 ⟨rfl, hI3, hF3⟩
        rw [H3.out]
        clear hI2
        have hF := (hF1.trans hF2).trans hF3
        clear hF1 hF2 hF3
        go_wp2_with fail
        refine (shift_calls p hI3 (Nat.le_trans hB hF.below.size) (by rw [HL2.out]; omega) (by rw [HL2.out]; omega) (by rw [HL2.out]; exact fun x hx => ⟨by have := (hab x hx).1; omega, by have := (hab x hx).2; omega⟩)).mono ?_
        rintro q W4 ⟨rfl, ⟨v4, hI4⟩, hF4⟩
        have hl3 : ((r.isR 42).shift p).l.length = r.l.length + 1 := by simp [Rd.shift, HL2.out]; omega
        have hF5 := hF.trans hF4
        clear hF hF4 hI3
        go_wp2_with fail
        refine (put_calls ⟨2, .zero, p, 0⟩ hI4 (Nat.le_trans hB hF5.below.size) (by rw [hl3]; omega)).mono ?_
        rintro q W5 ⟨rfl, ⟨v5, hI5⟩, hF6⟩
        have hl4 : (((r.isR 42).shift p).put ⟨2, .zero, p, 0⟩).l.length = r.l.length + 2 := by simp [Rd.put, hl3]
        obtain ⟨gg, cap, rfl, hgg, hne⟩ := hI5.form (by omega)
        rw [hl4] at hI5
        have c3 := hI5.c3
        obtain ⟨⟨u0, u1, u2, u3, u4, u5, u6, k0, k1, k2, k3, k4, k5, k6⟩, f0, f1, f2, f3, f4, f5, f6⟩ := hI5.room hl4.symm p (by omega)
        have HI5 := Lib.hid hI5; clear hI5
        have HF := Lib.hid (hF5.trans hF6); clear hF5 hF6 hI4
        have HL4 := Lib.hid hl4; clear hl4 hl3
        clear hab
        go_wp2_with fail
        refine QT.wp_region_qtail 14 (by kernel_rfl) (by kernel_rfl) (by kernel_rfl) ?_
        simp only [List.take_succ_cons, List.take_zero, List.drop_succ_cons, List.drop_zero]
        repeat (go_big_quiet_step (fail))
        refine wpQuiet_nil ?_
        go_wp2
        go_end0
        refine ⟨rfl, ⟨.slice (some ⟨gg, 0, none⟩) (r.l.length + 2) cap, ?_⟩, ?_⟩
        · rw [HM.out, HL4.out]
          exact (HI5.out.put7 HL4.out.symm p (by rw [HL4.out]; omega) ⟨1, .zero, p + 1, r.l.length + 2⟩).drew
        · exact (HI5.out.frPut7 HF.out p ⟨1, .zero, p + 1, r.l.length + 2⟩).drew
      · have h3' : r.isB 42 = false := by simpa using h3
        have hr3 : r.isR 42 = r := if_neg h3
        have hm : r.many p = r := by rw [Rd.many, if_neg h1, if_neg h2, if_neg h3]
        have H1 := Lib.hid h1'; clear h1' h1
        have H2 := Lib.hid h2'; clear h2' h2
        have H3 := Lib.hid h3'; clear h3' h3
        have HM := Lib.hid hm; clear hm
        have HR1 := Lib.hid hr1; clear hr1
        have HR2 := Lib.hid hr2; clear hr2
        have HR3 := Lib.hid hr3; clear hr3
        clear hab
        go_enter Tryz.func151, Tryz.ntmps151
        go_wp2_with fail
        refine (is_calls 43 hI).mono ?_
        rintro q W1 ⟨rfl, hI1, hF1⟩
        rw [H1.out]
        rw [HR1.out] at hI1
        clear hI
        go_wp2_with fail
        refine (is_calls 63 hI1).mono ?_
        rintro q W2 ⟨rfl, hI2, hF2⟩
        rw [H2.out]
        rw [HR2.out] at hI2
        clear hI1
        go_wp2_with fail
        refine (is_calls 42 hI2).mono ?_
        rintro q W3 ⟨rfl, hI3, hF3⟩
        rw [H3.out]
        rw [HR3.out] at hI3
        clear hI2
        have HF := Lib.hid ((hF1.trans hF2).trans hF3)
        clear hF1 hF2 hF3
        have HI3 := Lib.hid hI3; clear hI3
        go_wp2
        go_end0
        refine ⟨rfl, ⟨v, ?_⟩, HF.out⟩
        rw [HM.out]; exact HI3.out
end Go.Proofs.YtnbgigdloehbjaaGreatDoor.Rg
