/-
  The lexer (package lex), place by place: rules for any text.
-/
import Derived.Test.YtjddnchenhnemaaGreatDoorRwA
import Derived.Test.YtjddnchenhnemaaGreatDoorMbN
import Derived.Test.YtjddnchenhnemaaGreatDoorLaps
import Derived.Test.YtjddnchenhnemaaGreatDoorShelf
namespace Go.Proofs.YtjddnchenhnemaaGreatDoor.Le
open Go Go.RowKit Go.Proofs.YtjddnchenhnemaaGreatDoor.QT Go.Proofs.YtjddnchenhnemaaGreatDoor.Rg Go.Proofs.YtjddnchenhnemaaGreatDoor.Ma Go.Proofs.YtjddnchenhnemaaGreatDoor.Ir
set_option maxHeartbeats 4000000
set_option maxRecDepth 100000

structure Tk where
  kind : Int
  at_ : Int
  text : ByteArray
  v : Nat := 0
  n : Int := 0
def Tk.val (t : Tk) : Value := .agg #[.int .i64 t.kind, .int .i64 t.at_, .string t.text, .float .f64 t.v, .int .i64 t.n]
def Tk.cells (t : Tk) : List Value := [.int .i64 t.kind, .int .i64 t.at_, .string t.text, .float .f64 t.v, .int .i64 t.n]
def blankB (c : Nat) : Bool := decide (c = 32) || decide (c = 9) || decide (c = 10) || decide (c = 13)
def wdB (c : Nat) : Bool := wordB c || decide (c = 58)
theorem ixb (s : ByteArray) (c r : Int) (h : (Lib.indexByte s.data.toList c.toNat.toUInt8 : Int) = r) (w : World) : Calls Tryz.prog 79 #[.string s, .int .u8 c] w fun e w' => e = .returned (.int .i64 r) ∧ w = w' :=
  (Tryz.strings_IndexByte s c w).mono fun e w' ⟨he, hw⟩ => ⟨by rw [he, h], hw.symm⟩
theorem ixBlanks : ∀ c : Nat, c < 256 → (Lib.indexByte [32, 9, 10, 13] (Int.toNat (c : Int)).toUInt8 : Int) = if c = 32 then 0 else if c = 9 then 1 else if c = 10 then 2 else if c = 13 then 3 else -1 := by decide +kernel
theorem ix_no {c : Nat} (hc : c < 256) (h : blankB c = false) (w : World) : Calls Tryz.prog 79 #[.string ⟨#[32, 9, 10, 13]⟩, .int .u8 (c : Int)] w fun e w' => e = .returned (.int .i64 (-1)) ∧ w = w' :=
  ixb _ _ _ (by
    show (Lib.indexByte [32, 9, 10, 13] _ : Int) = _
    rw [ixBlanks c hc]
    simp [blankB] at h
    rw [if_neg (by omega), if_neg (by omega), if_neg (by omega), if_neg (by omega)]) w
theorem ix_yes {c : Nat} (hc : c < 256) (h : blankB c = true) (w : World) : Calls Tryz.prog 79 #[.string ⟨#[32, 9, 10, 13]⟩, .int .u8 (c : Int)] w fun e w' => ∃ r : Int, 0 ≤ r ∧ r ≤ 3 ∧ e = .returned (.int .i64 r) ∧ w = w' :=
  (Tryz.strings_IndexByte _ _ w).mono fun e w' ⟨he, hw⟩ => ⟨_, by
    show 0 ≤ (Lib.indexByte [32, 9, 10, 13] _ : Int)
    rw [ixBlanks c hc]
    simp [blankB] at h
    (repeat' split) <;> omega, by
    show (Lib.indexByte [32, 9, 10, 13] _ : Int) ≤ 3
    rw [ixBlanks c hc]
    (repeat' split) <;> omega, he, hw.symm⟩
/-- A byte, wherever it is read. -/
def By (s : ByteArray) (i c : Nat) : Prop := i < s.size ∧ c < 256 ∧ byteAt s i = c
theorem By.get {s : ByteArray} {i c : Nat} (h : By s i c) : ∀ h : i < s.size, (s[i]'h).toNat = c := by
  intro hi
  have h2 := h.2.2
  rw [byteAt, dif_pos hi] at h2
  exact h2
theorem By.of {s : ByteArray} {i : Nat} (h : i < s.size) : By s i (byteAt s i) := ⟨h, by rw [byteAt, dif_pos h]; exact UInt8.toNat_lt _, rfl⟩
def RetI (v : Int) (W : World) (e : Ending) (W' : World) : Prop := e = .returned (.int .i64 v) ∧ W = W'
theorem pass0 (s : ByteArray) (i c : Nat) (hs : s.size ≤ 4096) (hc : By s i c) (h35 : c ≠ 35) (hb : blankB c = false) (W : World) :
    Calls Tryz.prog 59 #[.string s, .int .i64 (i : Int)] W (RetI i W) := by
  have b := hc.get
  have hi := hc.1
  have h255 := hc.2.1
  have t1 : ((c : Int) == 35) = false := by rw [beq_eq_false_iff_ne]; omega
  have t0 : ((i : Int) == (s.size : Int)) = false := by rw [beq_eq_false_iff_ne]; omega
  have HB := Lib.hid hb; clear hb
  have HC := Lib.hid hc; clear hc
  go_enter Tryz.func59, Tryz.ntmps59
  go_wp2_with fail
  refine wp_scope_laps 1 ?_
  rw [laps_succ]
  go_wp2_with fail
  go_step3
  go_wp2_with (go_at_call 79; refine (ix_no h255 HB.out _).mono ?_; rintro e w' ⟨rfl, rfl⟩)
  rw [lap_ret]
  go_ret
  exact ⟨rfl, rfl⟩
theorem pass1 (s : ByteArray) (i c d : Nat) (hs : s.size ≤ 4096) (hd : By s i d) (hdb : blankB d = true) (hc : By s (i + 1) c) (h35 : c ≠ 35) (hb : blankB c = false) (W : World) :
    Calls Tryz.prog 59 #[.string s, .int .i64 (i : Int)] W (RetI ((i + 1 : Nat) : Int) W) := by
  have b := hc.get
  have b0 := hd.get
  have hi := hc.1
  have hi0 := hd.1
  have h255 := hc.2.1
  have h2550 := hd.2.1
  have t1 : ((c : Int) == 35) = false := by rw [beq_eq_false_iff_ne]; omega
  have t2 : ((d : Int) == 35) = false := by rw [beq_eq_false_iff_ne]; simp [blankB] at hdb; omega
  have t0 : ((i : Int) == (s.size : Int)) = false := by rw [beq_eq_false_iff_ne]; omega
  have t3 : ((i : Int) + 1 == (s.size : Int)) = false := by rw [beq_eq_false_iff_ne]; omega
  have HB := Lib.hid hb; clear hb
  have HDB := Lib.hid hdb; clear hdb
  have HC := Lib.hid hc; clear hc
  have HD := Lib.hid hd; clear hd
  go_enter Tryz.func59, Tryz.ntmps59
  go_wp2_with fail
  refine wp_scope_laps 2 ?_
  rw [laps_succ]
  go_wp2_with fail
  go_step3
  go_wp2_with fail
  (with_reducible refine (ix_yes h2550 HDB.out _).mono ?_)
  rintro e w' ⟨r, hr0, hr3, rfl, rfl⟩
  go_wp2_with fail
  go_step3
  refine lap_goto rfl ?_
  rw [laps_succ]
  go_wp2_with fail
  (with_reducible refine (ix_no h255 HB.out _).mono ?_)
  rintro e w' ⟨rfl, rfl⟩
  go_wp2_with fail
  rw [lap_ret]
  go_ret
  exact ⟨by first | rfl | (congr 2; omega), rfl⟩
theorem pass_end (s : ByteArray) (i : Nat) (hs : s.size ≤ 4096) (hi : i = s.size) (W : World) :
    Calls Tryz.prog 59 #[.string s, .int .i64 (i : Int)] W (RetI i W) := by
  have t0 : ((i : Int) == (s.size : Int)) = true := by rw [beq_iff_eq]; omega
  have HI := Lib.hid hi; clear hi
  go_enter Tryz.func59, Tryz.ntmps59
  go_wp2_with fail
  refine wp_scope_laps 1 ?_
  rw [laps_succ]
  go_wp2_with fail
  go_step3
  go_wp2_with fail
  rw [lap_ret]
  go_ret
  exact ⟨rfl, rfl⟩
end Go.Proofs.YtjddnchenhnemaaGreatDoor.Le
