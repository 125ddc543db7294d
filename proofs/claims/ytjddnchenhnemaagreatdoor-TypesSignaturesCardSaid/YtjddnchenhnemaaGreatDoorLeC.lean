/-
  The lexer: marks; the next token, where it is a word, a mark, or none.
-/
import Derived.Test.YtjddnchenhnemaaGreatDoorLeB
namespace Go.Proofs.YtjddnchenhnemaaGreatDoor.Le
open Go Go.RowKit Go.Proofs.YtjddnchenhnemaaGreatDoor.QT Go.Proofs.YtjddnchenhnemaaGreatDoor.Rg Go.Proofs.YtjddnchenhnemaaGreatDoor.Ma Go.Proofs.YtjddnchenhnemaaGreatDoor.Ir
set_option maxHeartbeats 4000000
set_option maxRecDepth 100000

def singles : List UInt8 := [43, 45, 42, 47, 62, 60, 61, 40, 41, 123, 125, 91, 93, 44, 58, 124]
def singleB (c : Nat) : Bool := singles.contains c.toUInt8
def m2 (t : ByteArray) : Bool := (t.toList == [61, 61]) || (t.toList == [33, 61]) || (t.toList == [62, 61]) || (t.toList == [60, 61]) || (t.toList == [61, 126]) || (t.toList == [33, 126])
theorem ixSingle : ∀ c : Nat, c < 256 → singleB c = true → 0 ≤ (Lib.indexByte [43, 45, 42, 47, 62, 60, 61, 40, 41, 123, 125, 91, 93, 44, 58, 124] (Int.toNat (c : Int)).toUInt8 : Int) := by decide +kernel
theorem ix_single {c : Nat} (hc : c < 256) (h : singleB c = true) (w : World) : Calls Tryz.prog 79 #[.string ⟨#[43, 45, 42, 47, 62, 60, 61, 40, 41, 123, 125, 91, 93, 44, 58, 124]⟩, .int .u8 (c : Int)] w fun e w' => ∃ r : Int, 0 ≤ r ∧ e = .returned (.int .i64 r) ∧ w = w' :=
  (Tryz.strings_IndexByte _ _ w).mono fun e w' ⟨he, hw⟩ => ⟨_, ixSingle c hc h, he, hw.symm⟩
theorem run_cut (s : ByteArray) (lo hi : Nat) (x y : Int) (hx : x = lo) (hy : y = hi) (h1 : lo ≤ hi) (h2 : hi ≤ s.size) (r : ByteArray) (hr : s.extract lo hi = r) :
    ∀ w, (Instr.slice 9 (.string s) (some (.int .i64 x)) (some (.int .i64 y)) none).run Tryz.prog w = .ok (.string r) w := by
  intro w
  subst hx hy hr
  have := run_slice_string (P := Tryz.prog) w 9 s .i64 .i64 (lo : Int) (hi : Int) Tryz.underlying9 (by omega) (by omega) (by omega)
  simpa using this
theorem mark2 (s : ByteArray) (i : Nat) (hs : s.size ≤ 4096) (hi : i + 1 < s.size) (hm : m2 (s.extract i (i + 2)) = true) (W : World) :
    Calls Tryz.prog 66 #[.string s, .int .i64 (i : Int)] W (RetI 2 W) := by
  obtain ⟨t, ht⟩ : ∃ t, s.extract i (i + 2) = t := ⟨_, rfl⟩
  have hcut := run_cut s i (i + 2) (i : Int) ((i : Int) + 2) rfl (by omega) (by omega) (by omega) t ht
  rw [ht] at hm
  clear ht
  unfold m2 at hm
  obtain ⟨b1, h1⟩ : ∃ b, (t.toList == [61, 61]) = b := ⟨_, rfl⟩
  obtain ⟨b2, h2⟩ : ∃ b, (t.toList == [33, 61]) = b := ⟨_, rfl⟩
  obtain ⟨b3, h3⟩ : ∃ b, (t.toList == [62, 61]) = b := ⟨_, rfl⟩
  obtain ⟨b4, h4⟩ : ∃ b, (t.toList == [60, 61]) = b := ⟨_, rfl⟩
  obtain ⟨b5, h5⟩ : ∃ b, (t.toList == [61, 126]) = b := ⟨_, rfl⟩
  obtain ⟨b6, h6⟩ : ∃ b, (t.toList == [33, 126]) = b := ⟨_, rfl⟩
  rw [h1, h2, h3, h4, h5, h6] at hm
  cases b1 with
  | true =>
    clear h2 h3 h4 h5 h6 hm
    go_enter Tryz.func66, Tryz.ntmps66
    go_wp2_with fail
    go_ret
    exact ⟨rfl, rfl⟩
  | false =>
  cases b2 with
  | true =>
    clear h3 h4 h5 h6 hm
    go_enter Tryz.func66, Tryz.ntmps66
    go_wp2_with fail
    go_ret
    exact ⟨rfl, rfl⟩
  | false =>
  cases b3 with
  | true =>
    clear h4 h5 h6 hm
    go_enter Tryz.func66, Tryz.ntmps66
    go_wp2_with fail
    go_ret
    exact ⟨rfl, rfl⟩
  | false =>
  cases b4 with
  | true =>
    clear h5 h6 hm
    go_enter Tryz.func66, Tryz.ntmps66
    go_wp2_with fail
    go_ret
    exact ⟨rfl, rfl⟩
  | false =>
  cases b5 with
  | true =>
    clear h6 hm
    go_enter Tryz.func66, Tryz.ntmps66
    go_wp2_with fail
    go_ret
    exact ⟨rfl, rfl⟩
  | false =>
  cases b6 with
  | true =>
    clear hm
    go_enter Tryz.func66, Tryz.ntmps66
    go_wp2_with fail
    go_ret
    exact ⟨rfl, rfl⟩
  | false => cases hm
theorem mark1 (s : ByteArray) (i c : Nat) (hs : s.size ≤ 4096) (hc : By s i c) (h1 : singleB c = true) (hm : i + 1 < s.size → m2 (s.extract i (i + 2)) = false) (W : World) :
    Calls Tryz.prog 66 #[.string s, .int .i64 (i : Int)] W (RetI 1 W) := by
  have b := hc.get
  have hi := hc.1
  have h255 := hc.2.1
  have HS := Lib.hid h1; clear h1
  by_cases hi1 : i + 1 < s.size
  · have hm := hm hi1
    obtain ⟨t, ht⟩ : ∃ t, s.extract i (i + 2) = t := ⟨_, rfl⟩
    have hcut := run_cut s i (i + 2) (i : Int) ((i : Int) + 2) rfl (by omega) (by omega) (by omega) t ht
    rw [ht] at hm
    clear ht
    unfold m2 at hm
    simp only [Bool.or_eq_false_iff] at hm
    obtain ⟨⟨⟨⟨⟨q1, q2⟩, q3⟩, q4⟩, q5⟩, q6⟩ := hm
    go_enter Tryz.func66, Tryz.ntmps66
    go_wp2_with fail
    (with_reducible refine (ix_single h255 HS.out _).mono ?_)
    rintro e w' ⟨r, hr0, rfl, rfl⟩
    go_wp2_with fail
    go_ret
    exact ⟨rfl, rfl⟩
  · clear hm
    go_enter Tryz.func66, Tryz.ntmps66
    go_wp2_with fail
    (with_reducible refine (ix_single h255 HS.out _).mono ?_)
    rintro e w' ⟨r, hr0, rfl, rfl⟩
    go_wp2_with fail
    go_ret
    exact ⟨rfl, rfl⟩
theorem run_store_float (a : Addr) (n : Nat) (m : Mode) (w : World) : (store a (.float .f64 n) m).run Tryz.prog w = stored Tryz.prog w a (.float .f64 n) m := run_store Tryz.prog w a _ m rfl
/-- At place i the token t stands; behind it place j. -/
def NextPost (W : World) (t : Tk) (j : Nat) (e : Ending) (W' : World) : Prop := e = .returned (.tuple #[t.val, .int .i64 (j : Int), .int .i64 0]) ∧ Below W.heap.size W W'
def PassTo (s : ByteArray) (i a : Nat) : Prop := ∀ W, Calls Tryz.prog 59 #[.string s, .int .i64 (i : Int)] W (RetI a W)
theorem letter_lo {c : Nat} (h : letterB c = true) : digitB c = false := by
  rw [letter_iff] at h
  simp [digitB]; omega
theorem next_word (s : ByteArray) (i a j c : Nat) (hs : s.size ≤ 4096) (hi : i ≤ s.size) (hP : PassTo s i a) (hc : By s a c) (hl : letterB c = true) (haj : a ≤ j) (hj : j ≤ s.size)
    (hW : ∀ W, Calls Tryz.prog 61 #[.string s, .int .i64 (a : Int)] W (RetI j W)) (W : World) :
    Calls Tryz.prog 43 #[.string s, .int .i64 (i : Int)] W (NextPost W ⟨1, a, s.extract a j, 0, 0⟩ j) := by
  have b := hc.get
  have ha := hc.1
  have h255 := hc.2.1
  have hst := run_store_float
  have LC := letter_calls c h255
  rw [hl] at LC
  have LL := Lib.hid LC; clear LC hl
  have HP := Lib.hid hP; clear hP
  have HW := Lib.hid hW; clear hW
  have t0 : ((a : Int) == (s.size : Int)) = false := by rw [beq_eq_false_iff_ne]; omega
  have hcut := run_cut s a j (a : Int) (j : Int) rfl rfl (by omega) (by omega) _ rfl
  have HC := Lib.hid hc; clear hc
  go_enter Tryz.func43, Tryz.ntmps43
  go_wp2_with (first | (go_at_call 59; refine (HP.out _).mono ?_; rintro e w' ⟨rfl, rfl⟩) | (go_at_call 60; refine (LL.out _).mono ?_; rintro e w' ⟨rfl, rfl⟩) | (go_at_call 61; refine (HW.out _).mono ?_; rintro e w' ⟨rfl, rfl⟩))
  exact bodyPost_ret (v := .tuple #[(Tk.mk 1 a (s.extract a j) 0 0).val, .int .i64 (j : Int), .int .i64 0]) (by simp [results, Tryz.results43, go_sem, Tk.val]) rfl ⟨rfl, (Below.refl _ _).alloc (Nat.le_refl _) _⟩
theorem next_mark (s : ByteArray) (i a c n : Nat) (hs : s.size ≤ 4096) (hi : i ≤ s.size) (hP : PassTo s i a) (hc : By s a c) (hl : letterB c = false) (hd : digitB c = false) (h34 : c ≠ 34) (h46 : c ≠ 46) (hn : 0 < n) (hj : a + n ≤ s.size)
    (hW : ∀ W, Calls Tryz.prog 66 #[.string s, .int .i64 (a : Int)] W (RetI n W)) (W : World) :
    Calls Tryz.prog 43 #[.string s, .int .i64 (i : Int)] W (NextPost W ⟨5, a, s.extract a (a + n), 0, 0⟩ (a + n)) := by
  have b := hc.get
  have ha := hc.1
  have h255 := hc.2.1
  have hst := run_store_float
  have LC := letter_calls c h255
  rw [hl] at LC
  have LL := Lib.hid LC; clear LC hl
  have DC := digit_calls c h255
  rw [hd] at DC
  have DD := Lib.hid DC; clear DC hd
  have HP := Lib.hid hP; clear hP
  have HW := Lib.hid hW; clear hW
  have t0 : ((a : Int) == (s.size : Int)) = false := by rw [beq_eq_false_iff_ne]; omega
  have t1 : ((c : Int) == 34) = false := by rw [beq_eq_false_iff_ne]; omega
  have t2 : ((c : Int) == 46) = false := by rw [beq_eq_false_iff_ne]; omega
  have hcut := run_cut s a (a + n) (a : Int) ((a : Int) + (n : Int)) rfl (by omega) (by omega) (by omega) _ rfl
  have hn1 : (0 : Int) < (n : Int) := by omega
  have HC := Lib.hid hc; clear hc
  go_enter Tryz.func43, Tryz.ntmps43
  go_wp2_with (first | (go_at_call 59; refine (HP.out _).mono ?_; rintro e w' ⟨rfl, rfl⟩) | (go_at_call 60; refine (LL.out _).mono ?_; rintro e w' ⟨rfl, rfl⟩) | (go_at_call 62; refine (DD.out _).mono ?_; rintro e w' ⟨rfl, rfl⟩) | (go_at_call 66; refine (HW.out _).mono ?_; rintro e w' ⟨rfl, rfl⟩))
  exact bodyPost_ret (v := .tuple #[(Tk.mk 5 a (s.extract a (a + n)) 0 0).val, .int .i64 ((a + n : Nat) : Int), .int .i64 0]) (by simp [results, Tryz.results43, go_sem, Tk.val]) rfl ⟨rfl, (Below.refl _ _).alloc (Nat.le_refl _) _⟩
theorem next_end (s : ByteArray) (i : Nat) (hs : s.size ≤ 4096) (hi : i ≤ s.size) (hP : PassTo s i s.size) (W : World) :
    Calls Tryz.prog 43 #[.string s, .int .i64 (i : Int)] W (NextPost W ⟨0, s.size, ⟨#[]⟩, 0, 0⟩ s.size) := by
  have hst := run_store_float
  have HP := Lib.hid hP; clear hP
  have t0 : ((s.size : Int) == (s.size : Int)) = true := by rw [beq_iff_eq]
  go_enter Tryz.func43, Tryz.ntmps43
  go_wp2_with (go_at_call 59; refine (HP.out _).mono ?_; rintro e w' ⟨rfl, rfl⟩)
  exact bodyPost_ret (v := .tuple #[(Tk.mk 0 s.size ⟨#[]⟩ 0 0).val, .int .i64 (s.size : Int), .int .i64 0]) (by simp [results, Tryz.results43, go_sem, Tk.val]) rfl ⟨rfl, (Below.refl _ _).alloc (Nat.le_refl _) _⟩
end Go.Proofs.YtjddnchenhnemaaGreatDoor.Le
