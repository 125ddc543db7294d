/-
  The reader's small methods: fail, next, is, put: what each returns and what it makes of the reader.
-/
import Derived.Test.YtnbgigdloehbjaaGreatDoorRgW
import Derived.Test.YtnbgigdloehbjaaGreatDoorQTail
import Derived.Deep.QuietTactic
import Derived.BigQuiet
import Derived.Lib.Hide
import Derived.Outline
import Derived.Deep.RegionHeld3
import Derived.KernelRfl
namespace Go.Proofs.YtnbgigdloehbjaaGreatDoor.Rg
open Go Go.RowKit
variable {B : Nat} {W : World} {g : Nat} {r : Rd} {v : Value}

theorem ret_int {k : IntKind} {a b : Int} (h : a = b) : Ending.returned (.int k a) = .returned (.int k b) := by rw [h]

theorem fail_calls (e p : Nat) (hI : Is B W g r v) :
    Calls Tryz.prog 102 #[.pointer (some ⟨g, 0, none⟩), .int .i64 e, .int .i64 p] W fun q W' => q = .returned (.tuple #[]) ∧ Is B W' g (r.fail e p) v ∧ Fr B W W' := by
  have c4 := hI.c4
  have c5 := hI.c5
  have f4 := hI.fz 4
  have f5 := hI.fz 5
  by_cases h : r.err = 0
  · have hr : r.fail e p = { r with err := e, bad := p } := if_pos h
    have HR := Lib.hid hr; clear hr
    rw [h] at c4
    have HI := Lib.hid hI; clear hI; have H := Lib.hid h; clear h
    go_enter Tryz.func102, Tryz.ntmps102
    go_wp2
    go_end0
    refine ⟨rfl, ?_, ?_⟩
    · rw [HR.out]; exact (HI.out.setErr e).setBad p
    · exact (HI.out.setErr e).frSet (HI.out.frSet (Fr.refl _ _) _ _) _ _
  · have hr : r.fail e p = r := if_neg h
    have HR := Lib.hid hr; clear hr
    have h1 : ((r.err : Int) == 0) = false := by rw [beq_eq_false_iff_ne]; omega
    have HI := Lib.hid hI; clear hI; have H := Lib.hid h; clear h
    go_enter Tryz.func102, Tryz.ntmps102
    go_wp2
    go_end0
    refine ⟨rfl, ?_, ?_⟩
    · rw [HR.out]; exact HI.out
    · exact Fr.refl _ _

theorem next_calls (hI : Is B W g r v) :
    Calls Tryz.prog 148 #[.pointer (some ⟨g, 0, none⟩)] W fun q W' => q = .returned (.tuple #[.int .u8 r.nextV, .bool r.has]) ∧ Is B W' g r v ∧ Fr B W W' := by
  have c0 := hI.c0
  have c1 := hI.c1
  have c4 := hI.c4
  by_cases h : r.err = 0
  · rw [h] at c4
    by_cases hlt : r.at_ < r.s.size
    · have hr : r.has = true := by simp [Rd.has, h, hlt]
      have hc : r.cur = (r.s[r.at_]'hlt).toNat := by simp [Rd.cur, byteAt, hlt]
      have HR := Lib.hid hr; clear hr
      have HC := Lib.hid hc; clear hc
      have HI := Lib.hid hI; clear hI; have H := Lib.hid h; clear h
      go_enter Tryz.func148, Tryz.ntmps148
      go_wp2
      go_quiet (fail)
      go_wp2
      go_quiet (fail)
      go_wp2
      go_ret2
      refine ⟨?_, ?_, ?_⟩
      · rw [HR.out, Rd.nextV, if_pos HR.out, HC.out]; rfl
      · repeat (first | exact HI.out | apply Is.drewN)
      · repeat (first | exact Fr.refl _ _ | apply Fr.drewN)
    · have hr : r.has = false := by simp [Rd.has, h, hlt]
      have HR := Lib.hid hr; clear hr
      have hge : r.s.size ≤ r.at_ := by omega
      have HI := Lib.hid hI; clear hI; have H := Lib.hid h; clear h; clear hlt
      go_enter Tryz.func148, Tryz.ntmps148
      go_wp2
      go_quiet (fail)
      go_wp2
      go_ret2
      refine ⟨?_, ?_, ?_⟩
      · rw [HR.out, Rd.nextV, if_neg (by rw [HR.out]; simp)]; rfl
      · repeat (first | exact HI.out | apply Is.drewN)
      · repeat (first | exact Fr.refl _ _ | apply Fr.drewN)
  · have h1 : ((r.err : Int) != 0) = true := by rw [bne_iff_ne]; omega
    have hr : r.has = false := by simp [Rd.has, h]
    have HR := Lib.hid hr; clear hr
    have HI := Lib.hid hI; clear hI; have H := Lib.hid h; clear h
    go_enter Tryz.func148, Tryz.ntmps148
    go_wp2
    go_quiet (fail)
    go_wp2
    go_ret2
    refine ⟨?_, ?_, ?_⟩
    · rw [HR.out, Rd.nextV, if_neg (by rw [HR.out]; simp)]; rfl
    · repeat (first | exact HI.out | apply Is.drewN)
    · repeat (first | exact Fr.refl _ _ | apply Fr.drewN)

theorem is_calls (c : Nat) (hI : Is B W g r v) :
    Calls Tryz.prog 125 #[.pointer (some ⟨g, 0, none⟩), .int .u8 c] W fun q W' => q = .returned (.bool (r.isB c)) ∧ Is B W' g (r.isR c) v ∧ Fr B W W' := by
  by_cases h : r.isB c = true
  · have hh : r.has = true ∧ r.cur = c := by simpa [Rd.isB] using h
    obtain ⟨hr, hc⟩ := hh
    have hn : r.nextV = c := by rw [Rd.nextV, if_pos hr, hc]
    have hR : r.isR c = { r with at_ := r.at_ + 1 } := if_pos h
    have hsz : r.at_ < r.s.size := by
      have : r.err = 0 ∧ r.at_ < r.s.size := by simpa [Rd.has] using hr
      exact this.2
    have hS := hI.sz
    have HR := Lib.hid hR; clear hR
    have H := Lib.hid h; clear h
    clear hc
    go_enter Tryz.func125, Tryz.ntmps125
    go_wp2_with fail
    refine (next_calls hI).mono ?_
    rintro q W1 ⟨rfl, hI1, hF1⟩
    have c1 := hI1.c1
    have f1 := hI1.fz 1
    have HI := Lib.hid hI1; clear hI1
    have HF := Lib.hid hF1; clear hF1
    clear hI
    go_wp2
    go_ret
    refine ⟨?_, ?_, ?_⟩
    · rw [H.out]; rfl
    · rw [HR.out]; exact HI.out.setAt (r.at_ + 1)
    · exact HI.out.frSet HF.out _ _
  · have h' : r.isB c = false := by simpa using h
    have hR : r.isR c = r := if_neg h
    have HR := Lib.hid hR; clear hR
    have H := Lib.hid h'; clear h'
    by_cases hr : r.has = true
    · have hn : ((r.nextV : Int) == (c : Int)) = false := by
        rw [Rd.nextV, if_pos hr, beq_eq_false_iff_ne]
        simp only [Rd.isB, hr, Bool.true_and, beq_iff_eq] at h
        omega
      clear h
      go_enter Tryz.func125, Tryz.ntmps125
      go_wp2_with fail
      refine (next_calls hI).mono ?_
      rintro q W1 ⟨rfl, hI1, hF1⟩
      have HI := Lib.hid hI1; clear hI1
      have HF := Lib.hid hF1; clear hF1
      clear hI
      go_wp2
      go_ret
      refine ⟨?_, ?_, ?_⟩
      · rw [H.out]; rfl
      · rw [HR.out]; exact HI.out
      · exact HF.out
    · have hr' : r.has = false := by simpa using hr
      clear h hr
      go_enter Tryz.func125, Tryz.ntmps125
      go_wp2_with fail
      refine (next_calls hI).mono ?_
      rintro q W1 ⟨rfl, hI1, hF1⟩
      have HI := Lib.hid hI1; clear hI1
      have HF := Lib.hid hF1; clear hF1
      clear hI
      go_wp2
      go_ret
      refine ⟨?_, ?_, ?_⟩
      · rw [H.out]; rfl
      · rw [HR.out]; exact HI.out
      · exact HF.out
end Go.Proofs.YtnbgigdloehbjaaGreatDoor.Rg
