/-
  Text of the value 0 (fval.Text).
  What a plan's text leans on: texts of small numbers, of no names, of bools.
  The text of the plan that is a time alone (ir.Text).
-/
import Derived.Test.YtnbgigdloehbjaaGreatDoorMbA
import Derived.LoopN
import Derived.Laws.BitsAllLaws
import Derived.WalkLawsBesides
import Derived.Test.YtnbgigdloehbjaaGreatDoorShelf
import Derived.Test.YtnbgigdloehbjaaGreatDoorIrQ
import Derived.Deep.RegionHeld3
namespace Go.Proofs.YtnbgigdloehbjaaGreatDoor.Tz
open Go Go.RowKit Go.Proofs.YtnbgigdloehbjaaGreatDoor.Rg Go.Proofs.YtnbgigdloehbjaaGreatDoor.Ma
set_option maxHeartbeats 4000000
set_option maxRecDepth 100000

def Gives (v : Value) (W : World) (e : Ending) (w' : World) : Prop := e = .returned v ∧ Below W.heap.size W w'
theorem below_drewN {B : Nat} {a w : World} (h : Below B a w) (n : Nat) : Below B a (w.drewN n) := ⟨h.os, h.tape, h.output, h.size, h.block⟩
theorem efg0_calls (W wr : World) (g : Nat) (h : Bts W wr (.slice (some ⟨g, 0, none⟩) 0 24) 0 []) :
    Calls Tryz.prog 116 #[.slice (some ⟨g, 0, none⟩) 0 24, .bool false, .slice none 0 0, .int .i64 0, .int .i64 0, .int .i64 (-1), .int .u8 103, .bool true] wr (fun e w' => ∃ v, e = .returned v ∧ Bts W w' v 1 [48]) := by
  have HD := Lib.hid h
  have x1 : max (0 : Int) 0 = 0 := rfl
  have x2 : max (0 : Int) (-1) = 0 := rfl
  have x3 : min (0 : Int) 0 = 0 := rfl
  have x4 : max (0 : Int) 1 = 1 := rfl
  clear h
  go_enter Tryz.func116, Tryz.ntmps116
  go_wp2_with (at_builtin; refine wpList_bytes rfl (.tmp 209) (.tmp 210) rfl HD.out [48] (by decide) (by decide) _ rfl rfl rfl ?_; intro g1 cap1 w1 hD1; have HD1 := Lib.hid hD1; clear hD1)
  go_ret
  exact ⟨_, rfl, HD1.out⟩
theorem run_itobits (x : Nat) (w : World) : (callFunc 113 #[.float .f64 x]).run Tryz.prog w = .ok (.value (.int .u64 x)) w := by
  rw [run_callFunc_standIn (e := Extern.MathFloatBits.float64bits) Tryz.func113 (by kernel_rfl) (by kernel_rfl) (by kernel_rfl) (by kernel_rfl)]
  rfl
theorem ftoa0_calls (W wr : World) (g : Nat) (h : Bts W wr (.slice (some ⟨g, 0, none⟩) 0 24) 0 []) :
    Calls Tryz.prog 98 #[.slice (some ⟨g, 0, none⟩) 0 24, .float .f64 0, .int .u8 103, .int .i64 (-1)] wr (fun e w' => ∃ v, e = .returned v ∧ Bts W w' v 1 [48]) := by
  have hx := run_itobits
  have y1 : bits .and .u64 0 4503599627370495 = 0 := by decide +kernel
  have y2 : bits .and .i64 0 2047 = 0 := by decide +kernel
  have HD := Lib.hid h
  clear h
  go_enter Tryz.func98, Tryz.ntmps98
  go_wp2_with fail
  go_quiet (fail)
  go_wp2_with fail
  refine (efg0_calls W (wr.drewN nq) g ⟨HD.out.own, HD.out.len, below_drewN HD.out.bel _⟩).mono ?_
  rintro e w' ⟨v, rfl, hv⟩
  have HV := Lib.hid hv
  clear hv
  go_wp2_with fail
  go_ret
  exact ⟨_, rfl, HV.out⟩
/-- A new row of 24 bytes, none of them in use. -/
theorem make24 (W : World) : ∃ w1, (Instr.makeSlice 87 (.int .i64 0) (.int .i64 24)).run Tryz.prog W = .ok (.slice (some ⟨W.heap.size, 0, none⟩) 0 24) w1 ∧
    Bts W w1 (.slice (some ⟨W.heap.size, 0, none⟩) 0 24) 0 [] := by
  obtain ⟨i0, hi0, hz0, hz1, hz2⟩ := info_parts infoU8
  obtain ⟨w1, hr, ho, hg⟩ := run_make_own (P := Tryz.prog) W W.heap.size 87 5 i0 (.int .u8 0) 1 Tryz.underlying87 hi0 hz0 hz1 .i64 .i64 24 (by omega) (by decide) (Nat.le_refl _)
  exact ⟨w1, hr, ho, rfl, ⟨hg.os, hg.tape, hg.output, hg.size, fun k hk => hg.block k hk (by simp)⟩⟩
theorem iformat0_calls (W : World) :
    Calls Tryz.prog 76 #[.float .f64 0, .int .u8 103, .int .i64 (-1), .int .i64 64] W (Gives (.string (⟨#[48]⟩ : ByteArray)) W) := by
  have x1 : max (3 : Int) 24 = 24 := rfl
  obtain ⟨w1, hmk, ho⟩ := make24 W
  have HO := Lib.hid ho
  clear ho
  go_enter Tryz.func76, Tryz.ntmps76
  go_wp2_with fail
  refine (ftoa0_calls W _ W.heap.size HO.out).mono ?_
  rintro e w' ⟨v, rfl, hD⟩
  obtain ⟨ao, cap, hv⟩ := own_any hD.own
  subst hv
  have hc := own_string hD.own hD.len.symm
  have hs : (⟨[48].toArray⟩ : ByteArray) = (⟨#[48]⟩ : ByteArray) := rfl
  rw [hs] at hc
  have HB := Lib.hid hD.bel
  clear hs hD
  go_wp2_with fail
  go_ret
  exact ⟨rfl, HB.out⟩
theorem format0_calls (W : World) :
    Calls Tryz.prog 49 #[.float .f64 0, .int .u8 103, .int .i64 (-1), .int .i64 64] W (Gives (.string (⟨#[48]⟩ : ByteArray)) W) := by
  have HF := Lib.hid (iformat0_calls W)
  go_enter Tryz.func49, Tryz.ntmps49
  go_wp2_with fail
  refine HF.out.mono ?_
  rintro e w' ⟨rfl, hb⟩
  have HB := Lib.hid hb
  clear hb
  go_wp2_with fail
  go_ret
  exact ⟨rfl, HB.out⟩
theorem isInf0_p (w : World) : Calls Tryz.prog 48 #[.float .f64 0, .int .i64 1] w fun e w' => e = .returned (.bool false) ∧ w = w' := by
  have o1 : FloatKind.f64.format.order 0 9218868437227405311 = some .lt := by decide +kernel
  go_enter Tryz.func48, Tryz.ntmps48
  go_wp2
  go_ret
  exact ⟨rfl, rfl⟩
theorem isInf0_m (w : World) : Calls Tryz.prog 48 #[.float .f64 0, .int .i64 (-1)] w fun e w' => e = .returned (.bool false) ∧ w = w' := by
  have hng : Op.unary .neg (.float .f64 0) = pure (.float .f64 9223372036854775808) := by
    show pure (Value.float .f64 (Op.negFloat .f64 0)) = _
    rw [show Op.negFloat .f64 0 = 9223372036854775808 by decide +kernel]
  have o1 : FloatKind.f64.format.order 9223372036854775808 9218868437227405311 = some .lt := by decide +kernel
  go_enter Tryz.func48, Tryz.ntmps48
  go_wp2
  go_ret
  exact ⟨rfl, rfl⟩
theorem text0_calls (W : World) : Calls Tryz.prog 26 #[.float .f64 0] W (Gives (.string (⟨#[48]⟩ : ByteArray)) W) := by
  have HF := Lib.hid (format0_calls W)
  have o1 : FloatKind.f64.format.order 0 0 = some .eq := by decide +kernel
  go_enter Tryz.func26, Tryz.ntmps26
  go_wp2_with (first | ((with_reducible refine (isInf0_p _).mono ?_); rintro e w' ⟨rfl, rfl⟩) | ((with_reducible refine (isInf0_m _).mono ?_); rintro e w' ⟨rfl, rfl⟩) | fail)
  refine HF.out.mono ?_
  rintro e w' ⟨rfl, hb⟩
  have HB := Lib.hid hb
  clear hb
  go_wp2_with fail
  go_ret
  exact ⟨rfl, HB.out⟩
end Go.Proofs.YtnbgigdloehbjaaGreatDoor.Tz
namespace Go.Proofs.YtnbgigdloehbjaaGreatDoor.Tz
open Go Go.RowKit Go.Proofs.YtnbgigdloehbjaaGreatDoor.Rg Go.Proofs.YtnbgigdloehbjaaGreatDoor.Ma
set_option maxHeartbeats 4000000
set_option maxRecDepth 100000

theorem itoa_calls (i : Nat) (hi : i < 100) (w : World) : Calls Tryz.prog 23 #[.int .i64 (i : Int)] w fun e w' => e = .returned (.string ⟨(Lib.decDigits i).toArray⟩) ∧ w = w' :=
  (Tryz.strconv_Itoa_small i hi w).mono fun _ _ ⟨a, b⟩ => ⟨a, b.symm⟩
theorem itoa0_calls (w : World) : Calls Tryz.prog 23 #[.int .i64 0] w fun e w' => e = .returned (.string (⟨#[48]⟩ : ByteArray)) ∧ w = w' :=
  (itoa_calls 0 (by decide) w).mono fun _ _ ⟨a, b⟩ => ⟨a.trans (by rw [show (⟨(Lib.decDigits 0).toArray⟩ : ByteArray) = (⟨#[48]⟩ : ByteArray) by decide +kernel]), b⟩
theorem itoa2_calls (w : World) : Calls Tryz.prog 23 #[.int .i64 2] w fun e w' => e = .returned (.string (⟨#[50]⟩ : ByteArray)) ∧ w = w' :=
  (itoa_calls 2 (by decide) w).mono fun _ _ ⟨a, b⟩ => ⟨a.trans (by rw [show (⟨(Lib.decDigits 2).toArray⟩ : ByteArray) = (⟨#[50]⟩ : ByteArray) by decide +kernel]), b⟩
theorem join0_calls (sep : ByteArray) (w : World) : Calls Tryz.prog 31 #[.slice none 0 0, .string sep] w fun e w' => e = .returned (.string ⟨#[]⟩) ∧ w = w' := by
  go_enter Tryz.func31, Tryz.ntmps31
  go_wp2_with fail
  go_ret
  exact ⟨rfl, rfl⟩
theorem join1_calls (sep s : ByteArray) (b o cap : Nat) (w : World) (h : w.cell? ⟨b, o, none⟩ = some (.string s)) : Calls Tryz.prog 31 #[.slice (some ⟨b, o, none⟩) 1 cap, .string sep] w fun e w' => e = .returned (.string s) ∧ w = w' := by
  go_enter Tryz.func31, Tryz.ntmps31
  go_wp2_with fail
  go_ret
  exact ⟨rfl, rfl⟩
theorem list0_calls (w : World) : Calls Tryz.prog 27 #[.slice none 0 0] w fun e w' => e = .returned (.string (⟨#[91, 93]⟩ : ByteArray)) ∧ w = w' := by
  go_enter Tryz.func27, Tryz.ntmps27
  go_wp2_with ((with_reducible refine (join0_calls _ _).mono ?_); rintro e w' ⟨rfl, rfl⟩)
  go_ret
  exact ⟨rfl, rfl⟩
theorem ifmtF_calls (w : World) : Calls Tryz.prog 50 #[.bool false] w fun e w' => e = .returned (.string ⟨#[102, 97, 108, 115, 101]⟩) ∧ w = w' := by
  go_enter Tryz.func50, Tryz.ntmps50
  go_wp2_with fail
  go_ret
  exact ⟨rfl, rfl⟩
theorem fmtF_calls (w : World) : Calls Tryz.prog 29 #[.bool false] w fun e w' => e = .returned (.string ⟨#[102, 97, 108, 115, 101]⟩) ∧ w = w' := by
  go_enter Tryz.func29, Tryz.ntmps29
  go_wp2_with ((with_reducible refine (ifmtF_calls _).mono ?_); rintro e w' ⟨rfl, rfl⟩)
  go_ret
  exact ⟨rfl, rfl⟩
theorem grouped0_calls (W : World) : Calls Tryz.prog 28 #[.agg #[.int .i64 0, .slice none 0 0]] W (Gives (.string (⟨#[48, 91, 93]⟩ : ByteArray)) W) := by
  go_enter Tryz.func28, Tryz.ntmps28
  go_wp2_with fail
  go_quiet (first | (go_at_call 23; refine Ir.quiet_eq (itoa0_calls _)) | (go_at_call 27; refine Ir.quiet_eq (list0_calls _)))
  go_wp2_with fail
  go_ret
  exact ⟨rfl, below_drewN ((Below.refl _ _).alloc (Nat.le_refl _) _) _⟩
theorem add0_calls (s : ByteArray) (p : Value) (w : World) : Calls Tryz.prog 24 #[.bool false, .string s, p] w fun e w' => e = .returned (.tuple #[]) ∧ w = w' := by
  go_enter Tryz.func24, Tryz.ntmps24
  go_wp2_with fail
  go_end0
  exact ⟨rfl, rfl⟩
theorem quote0_calls (W : World) : Calls Tryz.prog 30 #[.string ⟨#[]⟩] W (Gives (.string (⟨#[34, 34]⟩ : ByteArray)) W) :=
  (quote_calls ⟨#[]⟩ (by decide) W).mono fun _ _ ⟨a, b⟩ => ⟨a.trans (by rw [show quoteS ⟨#[]⟩ = (⟨#[34, 34]⟩ : ByteArray) by decide +kernel]), b⟩
end Go.Proofs.YtnbgigdloehbjaaGreatDoor.Tz
namespace Go.Proofs.YtnbgigdloehbjaaGreatDoor.Tz
open Go Go.RowKit Go.Proofs.YtnbgigdloehbjaaGreatDoor.Rg Go.Proofs.YtnbgigdloehbjaaGreatDoor.Ma
set_option maxHeartbeats 8000000
set_option maxRecDepth 100000

def tcl : List Value := [.int .i64 2, .float .f64 0, .int .i64 0, .slice none 0 0, .int .i64 0, .int .i64 0, .int .i64 0, .int .i64 0, .slice none 0 0, .int .i64 0, .slice none 0 0, .int .i64 0, .slice none 0 0, .bool false, .string ⟨#[]⟩, .string ⟨#[]⟩, .slice none 0 0]
def hcl : List Value := [.bool false, .bool false, .bool false, .bool false, .bool false, .bool false, .bool false, .bool false, .bool false, .int .i64 0]
/-- What Text's variables hold. -/
structure Ts (w : World) (nb hb tb sb : Nat) : Prop where
  n : ∀ j u, tcl[j]? = some u → w.cell? ⟨nb, j, none⟩ = some u
  h : ∀ j u, hcl[j]? = some u → w.cell? ⟨hb, j, none⟩ = some u
  t : w.cell? ⟨tb, 0, none⟩ = some (.slice (some ⟨sb, 0, none⟩) 1 1)
  s : w.cell? ⟨sb, 0, none⟩ = some (.string ⟨#[50]⟩)
theorem cell_below {w w1 : World} {b j : Nat} {u : Value} (h : w.cell? ⟨b, j, none⟩ = some u) (hb : Below w.heap.size w w1) : w1.cell? ⟨b, j, none⟩ = some u :=
  (hb.cell (p := ⟨b, j, none⟩) (World.block_lt_of_cell? w _ h)).trans h
theorem Ts.below {w w1 : World} {nb hb tb sb : Nat} (h : Ts w nb hb tb sb) (hb1 : Below w.heap.size w w1) : Ts w1 nb hb tb sb :=
  ⟨fun j u hu => cell_below (h.n j u hu) hb1, fun j u hu => cell_below (h.h j u hu) hb1, cell_below h.t hb1, cell_below h.s hb1⟩
theorem keep2 {w w1 : World} {b1 b2 j1 j2 : Nat} {u1 u2 : Value} (h : w.cell? ⟨b1, j1, none⟩ = some u1 ∧ w.cell? ⟨b2, j2, none⟩ = some u2) (hb : Below w.heap.size w w1) :
    w1.cell? ⟨b1, j1, none⟩ = some u1 ∧ w1.cell? ⟨b2, j2, none⟩ = some u2 := ⟨cell_below h.1 hb, cell_below h.2 hb⟩
theorem keep1 {w w1 : World} {b1 j1 : Nat} {u1 : Value} (h : w.cell? ⟨b1, j1, none⟩ = some u1) (hb : Below w.heap.size w w1) : w1.cell? ⟨b1, j1, none⟩ = some u1 := cell_below h hb
theorem keep3 {w w1 : World} {b1 b2 b3 j1 j2 j3 : Nat} {u1 u2 u3 : Value} (h : w.cell? ⟨b1, j1, none⟩ = some u1 ∧ w.cell? ⟨b2, j2, none⟩ = some u2 ∧ w.cell? ⟨b3, j3, none⟩ = some u3) (hb : Below w.heap.size w w1) :
    w1.cell? ⟨b1, j1, none⟩ = some u1 ∧ w1.cell? ⟨b2, j2, none⟩ = some u2 ∧ w1.cell? ⟨b3, j3, none⟩ = some u3 := ⟨cell_below h.1 hb, cell_below h.2.1 hb, cell_below h.2.2 hb⟩
theorem keep5 {w w1 : World} {b1 b2 b3 b4 b5 j1 j2 j3 j4 j5 : Nat} {u1 u2 u3 u4 u5 : Value} (h : w.cell? ⟨b1, j1, none⟩ = some u1 ∧ w.cell? ⟨b2, j2, none⟩ = some u2 ∧ w.cell? ⟨b3, j3, none⟩ = some u3 ∧ w.cell? ⟨b4, j4, none⟩ = some u4 ∧ w.cell? ⟨b5, j5, none⟩ = some u5) (hb : Below w.heap.size w w1) :
    w1.cell? ⟨b1, j1, none⟩ = some u1 ∧ w1.cell? ⟨b2, j2, none⟩ = some u2 ∧ w1.cell? ⟨b3, j3, none⟩ = some u3 ∧ w1.cell? ⟨b4, j4, none⟩ = some u4 ∧ w1.cell? ⟨b5, j5, none⟩ = some u5 := ⟨cell_below h.1 hb, cell_below h.2.1 hb, cell_below h.2.2.1 hb, cell_below h.2.2.2.1 hb, cell_below h.2.2.2.2 hb⟩
theorem time_text (W : World) : Calls Tryz.prog 13 #[.agg tcl.toArray] W (Gives (.string ⟨#[40, 50, 41]⟩) W) := by
  have HO := Lib.hid (Ir.of_calls 2 0 tcl rfl rfl (W.alloc (.cells tcl.toArray 31)))
  have eV : Ir.hasV 2 0 = [.bool false, .bool false, .bool false, .bool false, .bool false, .bool false, .bool false, .bool false, .bool false, .int .i64 0] := rfl
  have eK : Ir.isK 2 = true := rfl
  rw [eV, eK] at HO
  clear eV eK
  have hl17 : tcl.length = 17 := rfl
  go_enter Tryz.func13, Tryz.ntmps13
  go_wp2_with (with_reducible refine Ir.wpList_loadNd rfl _ rfl W.heap.size 0 rfl tcl (Ir.range_blk (blk_new W _)) hl17 ?_)
  (with_reducible refine HO.out.mono ?_)
  rintro e W1 ⟨rfl, hb1⟩
  have n0 : ∀ o, (W1.alloc o).cell? ⟨W.heap.size, 0, none⟩ = some (.int .i64 2) := fun o => Ir.box_far (cs := tcl) hb1 0 rfl
  have n3 : ∀ o o2 o3, (((W1.alloc o).alloc o2).alloc o3).cell? ⟨W.heap.size, 3, none⟩ = some (.slice none 0 0) := fun o o2 o3 =>
    cell_below (cell_below (Ir.box_far (cs := tcl) (o := o) hb1 3 rfl) ((Below.refl _ _).alloc (Nat.le_refl _) o2)) ((Below.refl _ _).alloc (Nat.le_refl _) o3)
  have hbw := Ir.after1 (Below.refl W.heap.size W) hb1
  have hs1 := hbw.size
  have HB1 := Lib.hid hbw
  have hnb : ∀ j u, tcl[j]? = some u → W1.cell? ⟨W.heap.size, j, none⟩ = some u := fun j u hu => (hb1.cell (p := ⟨W.heap.size, j, none⟩) (by simp)).trans (Ir.box_cell j hu)
  have HNb := Lib.hid hnb
  clear hb1 hbw hnb
  go_wp2_with ((with_reducible refine (itoa2_calls _).mono ?_); rintro e w9 ⟨rfl, rfl⟩)
  refine wp_loop_rounds 1 ?_
  rw [rounds_succ]
  go_wp2_with fail
  obtain ⟨w2, hw2⟩ : ∃ w2, w2 = ((W1.alloc (.cells #[.bool false, .bool false, .bool false, .bool false, .bool false, .bool false, .bool false, .bool false, .bool false, .int .i64 0] 60)).alloc (.cells #[.string ⟨#[50]⟩] 9)).alloc (.cells #[.slice (some ⟨W1.heap.size + 1, 0, none⟩) 1 1] 24) := ⟨_, rfl⟩
  have hb2 : Below W1.heap.size W1 w2 := by rw [hw2]; exact (((Below.refl _ _).alloc (Nat.le_refl _) _).alloc (by simp) _).alloc (by simp; omega) _
  have HT : Ts w2 W.heap.size W1.heap.size (W1.heap.size + 2) (W1.heap.size + 1) := by
    refine ⟨fun j u hu => cell_below (HNb.out j u hu) hb2, fun j u hu => ?_, ?_, ?_⟩
    · rw [hw2]; exact cell_below (cell_below ((blk_cell (blk_new W1 _) j).trans (by simpa [hcl] using hu)) ((Below.refl _ _).alloc (Nat.le_refl _) _)) ((Below.refl _ _).alloc (Nat.le_refl _) _)
    · rw [hw2]; exact (by simpa using blk_cell (blk_new ((W1.alloc (.cells #[.bool false, .bool false, .bool false, .bool false, .bool false, .bool false, .bool false, .bool false, .bool false, .int .i64 0] 60)).alloc (.cells #[.string ⟨#[50]⟩] 9)) (.cells #[.slice (some ⟨W1.heap.size + 1, 0, none⟩) 1 1] 24)) 0)
    · rw [hw2]; exact cell_below (blk_cell (blk_new2 W1 _ _) 0) ((Below.refl _ _).alloc (Nat.le_refl _) _)
  replace HT := Lib.hid HT
  have HB := Lib.hid (HB1.out.trans (hb2.mono hs1))
  rw [← hw2]
  clear hw2 hb2 n0 n3
  have c0 := HT.out.h 0 _ rfl
  have m1 : w2.cell? ⟨W.heap.size, 1, none⟩ = some (.float .f64 0) := HT.out.n 1 _ rfl
  go_region_held3 (fun w' => w'.cell? ⟨W1.heap.size, 0, none⟩ = some (.bool false) ∧ w'.cell? ⟨W.heap.size, 1, none⟩ = some (.float .f64 0)) (first | go_keep | (go_split_ands; exact keep2 ⟨by assumption, by assumption⟩ hb1)) (first | (go_at_call 26; refine (text0_calls _).mono ?_; rintro e v0 ⟨rfl, hb1⟩) | (go_at_call 24; refine (add0_calls _ _ _).mono ?_; rintro e w9 ⟨rfl, rfl⟩))
  replace HT := Lib.hid ((HT.out.below (Below.refl _ _).drew).below hb1)
  replace HB := Lib.hid ((HB.out.trans ((Below.refl w2.heap.size w2).drew.mono HB.out.size)).trans (hb1.mono HB.out.size))
  clear c0 m1 hb1
  go_wp2_with fail
  have c0 := HT.out.h 1 _ rfl
  have m2 : v0.cell? ⟨W.heap.size, 2, none⟩ = some (.int .i64 0) := HT.out.n 2 _ rfl
  go_region_held3 (fun w' => w'.cell? ⟨W1.heap.size, 1, none⟩ = some (.bool false) ∧ w'.cell? ⟨W.heap.size, 2, none⟩ = some (.int .i64 0)) (first | go_keep | (go_split_ands; exact keep2 ⟨by assumption, by assumption⟩ hb1)) (first | (go_at_call 23; refine (itoa0_calls _).mono ?_; rintro e w9 ⟨rfl, rfl⟩) | (go_at_call 24; refine (add0_calls _ _ _).mono ?_; rintro e w9 ⟨rfl, rfl⟩))
  obtain ⟨v1, hnx⟩ : ∃ x, x = v0.drew := ⟨_, rfl⟩
  rw [← hnx]
  replace HT := Lib.hid (show Ts v1 W.heap.size W1.heap.size (W1.heap.size + 2) (W1.heap.size + 1) by rw [hnx]; exact HT.out.below (Below.refl _ _).drew)
  replace HB := Lib.hid (show Below W.heap.size W v1 by rw [hnx]; exact HB.out.drew)
  clear c0 m2 hnx
  go_wp2_with fail
  have c0 := HT.out.h 2 _ rfl
  go_region_held3 (fun w' => w'.cell? ⟨W1.heap.size, 2, none⟩ = some (.bool false)) (first | go_keep | (go_split_ands; exact keep1 ⟨by assumption⟩ hb1)) (first | (go_at_call 27; refine (list0_calls _).mono ?_; rintro e w9 ⟨rfl, rfl⟩) | (go_at_call 24; refine (add0_calls _ _ _).mono ?_; rintro e w9 ⟨rfl, rfl⟩))
  obtain ⟨v2, hnx⟩ : ∃ x, x = v1.drew := ⟨_, rfl⟩
  rw [← hnx]
  replace HT := Lib.hid (show Ts v2 W.heap.size W1.heap.size (W1.heap.size + 2) (W1.heap.size + 1) by rw [hnx]; exact HT.out.below (Below.refl _ _).drew)
  replace HB := Lib.hid (show Below W.heap.size W v2 by rw [hnx]; exact HB.out.drew)
  clear c0  hnx
  go_wp2_with fail
  have c0 := HT.out.h 3 _ rfl
  have m4 : v2.cell? ⟨W.heap.size, 4, none⟩ = some (.int .i64 0) := HT.out.n 4 _ rfl
  go_region_held3 (fun w' => w'.cell? ⟨W1.heap.size, 3, none⟩ = some (.bool false) ∧ w'.cell? ⟨W.heap.size, 4, none⟩ = some (.int .i64 0)) (first | go_keep | (go_split_ands; exact keep2 ⟨by assumption, by assumption⟩ hb1)) (first | (go_at_call 23; refine (itoa0_calls _).mono ?_; rintro e w9 ⟨rfl, rfl⟩) | (go_at_call 24; refine (add0_calls _ _ _).mono ?_; rintro e w9 ⟨rfl, rfl⟩))
  obtain ⟨v3, hnx⟩ : ∃ x, x = v2.drew := ⟨_, rfl⟩
  rw [← hnx]
  replace HT := Lib.hid (show Ts v3 W.heap.size W1.heap.size (W1.heap.size + 2) (W1.heap.size + 1) by rw [hnx]; exact HT.out.below (Below.refl _ _).drew)
  replace HB := Lib.hid (show Below W.heap.size W v3 by rw [hnx]; exact HB.out.drew)
  clear c0 m4 hnx
  go_wp2_with fail
  have c0 := HT.out.h 4 _ rfl
  have m5 : v3.cell? ⟨W.heap.size, 5, none⟩ = some (.int .i64 0) := HT.out.n 5 _ rfl
  go_region_held3 (fun w' => w'.cell? ⟨W1.heap.size, 4, none⟩ = some (.bool false) ∧ w'.cell? ⟨W.heap.size, 5, none⟩ = some (.int .i64 0)) (first | go_keep | (go_split_ands; exact keep2 ⟨by assumption, by assumption⟩ hb1)) (first | (go_at_call 23; refine (itoa0_calls _).mono ?_; rintro e w9 ⟨rfl, rfl⟩) | (go_at_call 24; refine (add0_calls _ _ _).mono ?_; rintro e w9 ⟨rfl, rfl⟩))
  obtain ⟨v4, hnx⟩ : ∃ x, x = v3.drew := ⟨_, rfl⟩
  rw [← hnx]
  replace HT := Lib.hid (show Ts v4 W.heap.size W1.heap.size (W1.heap.size + 2) (W1.heap.size + 1) by rw [hnx]; exact HT.out.below (Below.refl _ _).drew)
  replace HB := Lib.hid (show Below W.heap.size W v4 by rw [hnx]; exact HB.out.drew)
  clear c0 m5 hnx
  go_wp2_with fail
  have c0 := HT.out.h 5 _ rfl
  have m6 : v4.cell? ⟨W.heap.size, 6, none⟩ = some (.int .i64 0) := HT.out.n 6 _ rfl
  go_region_held3 (fun w' => w'.cell? ⟨W1.heap.size, 5, none⟩ = some (.bool false) ∧ w'.cell? ⟨W.heap.size, 6, none⟩ = some (.int .i64 0)) (first | go_keep | (go_split_ands; exact keep2 ⟨by assumption, by assumption⟩ hb1)) (first | (go_at_call 23; refine (itoa0_calls _).mono ?_; rintro e w9 ⟨rfl, rfl⟩) | (go_at_call 24; refine (add0_calls _ _ _).mono ?_; rintro e w9 ⟨rfl, rfl⟩))
  obtain ⟨v5, hnx⟩ : ∃ x, x = v4.drew := ⟨_, rfl⟩
  rw [← hnx]
  replace HT := Lib.hid (show Ts v5 W.heap.size W1.heap.size (W1.heap.size + 2) (W1.heap.size + 1) by rw [hnx]; exact HT.out.below (Below.refl _ _).drew)
  replace HB := Lib.hid (show Below W.heap.size W v5 by rw [hnx]; exact HB.out.drew)
  clear c0 m6 hnx
  go_wp2_with fail
  have c0 := HT.out.h 6 _ rfl
  have m7 : v5.cell? ⟨W.heap.size, 7, none⟩ = some (.int .i64 0) := HT.out.n 7 _ rfl
  have m8 : v5.cell? ⟨W.heap.size, 8, none⟩ = some (.slice none 0 0) := HT.out.n 8 _ rfl
  go_region_held3 (fun w' => w'.cell? ⟨W1.heap.size, 6, none⟩ = some (.bool false) ∧ w'.cell? ⟨W.heap.size, 7, none⟩ = some (.int .i64 0) ∧ w'.cell? ⟨W.heap.size, 8, none⟩ = some (.slice none 0 0)) (first | go_keep | (go_split_ands; exact keep3 ⟨by assumption, by assumption, by assumption⟩ hb1)) (first | (go_at_call 28; refine (grouped0_calls _).mono ?_; rintro e v6 ⟨rfl, hb1⟩) | (go_at_call 24; refine (add0_calls _ _ _).mono ?_; rintro e w9 ⟨rfl, rfl⟩))
  replace HT := Lib.hid ((HT.out.below (Below.refl _ _).drew).below hb1)
  replace HB := Lib.hid ((HB.out.trans ((Below.refl v5.heap.size v5).drew.mono HB.out.size)).trans (hb1.mono HB.out.size))
  clear c0 m7 m8 hb1
  go_wp2_with fail
  have c0 := HT.out.h 7 _ rfl
  have m9 : v6.cell? ⟨W.heap.size, 9, none⟩ = some (.int .i64 0) := HT.out.n 9 _ rfl
  have m10 : v6.cell? ⟨W.heap.size, 10, none⟩ = some (.slice none 0 0) := HT.out.n 10 _ rfl
  have m11 : v6.cell? ⟨W.heap.size, 11, none⟩ = some (.int .i64 0) := HT.out.n 11 _ rfl
  have m12 : v6.cell? ⟨W.heap.size, 12, none⟩ = some (.slice none 0 0) := HT.out.n 12 _ rfl
  go_region_held3 (fun w' => w'.cell? ⟨W1.heap.size, 7, none⟩ = some (.bool false) ∧ w'.cell? ⟨W.heap.size, 9, none⟩ = some (.int .i64 0) ∧ w'.cell? ⟨W.heap.size, 10, none⟩ = some (.slice none 0 0) ∧ w'.cell? ⟨W.heap.size, 11, none⟩ = some (.int .i64 0) ∧ w'.cell? ⟨W.heap.size, 12, none⟩ = some (.slice none 0 0)) (first | go_keep | (go_split_ands; exact keep5 ⟨by assumption, by assumption, by assumption, by assumption, by assumption⟩ hb1)) (first | (go_at_call 28; refine (grouped0_calls _).mono ?_; rintro e v7 ⟨rfl, hb1⟩) | (go_at_call 23; refine (itoa0_calls _).mono ?_; rintro e w9 ⟨rfl, rfl⟩) | (go_at_call 27; refine (list0_calls _).mono ?_; rintro e w9 ⟨rfl, rfl⟩) | (go_at_call 24; refine (add0_calls _ _ _).mono ?_; rintro e w9 ⟨rfl, rfl⟩))
  replace HT := Lib.hid ((HT.out.below (Below.refl _ _).drew).below hb1)
  replace HB := Lib.hid ((HB.out.trans ((Below.refl v6.heap.size v6).drew.mono HB.out.size)).trans (hb1.mono HB.out.size))
  clear c0 m9 m10 m11 m12 hb1
  go_wp2_with fail
  have c0 := HT.out.h 7 _ rfl
  have m13 : v7.cell? ⟨W.heap.size, 13, none⟩ = some (.bool false) := HT.out.n 13 _ rfl
  go_region_held3 (fun w' => w'.cell? ⟨W1.heap.size, 7, none⟩ = some (.bool false) ∧ w'.cell? ⟨W.heap.size, 13, none⟩ = some (.bool false)) (first | go_keep | (go_split_ands; exact keep2 ⟨by assumption, by assumption⟩ hb1)) (first | (go_at_call 29; refine (fmtF_calls _).mono ?_; rintro e w9 ⟨rfl, rfl⟩) | (go_at_call 24; refine (add0_calls _ _ _).mono ?_; rintro e w9 ⟨rfl, rfl⟩))
  obtain ⟨v8, hnx⟩ : ∃ x, x = v7.drew := ⟨_, rfl⟩
  rw [← hnx]
  replace HT := Lib.hid (show Ts v8 W.heap.size W1.heap.size (W1.heap.size + 2) (W1.heap.size + 1) by rw [hnx]; exact HT.out.below (Below.refl _ _).drew)
  replace HB := Lib.hid (show Below W.heap.size W v8 by rw [hnx]; exact HB.out.drew)
  clear c0 m13 hnx
  go_wp2_with fail
  have c0 := HT.out.h 8 _ rfl
  have m14 : v8.cell? ⟨W.heap.size, 14, none⟩ = some (.string ⟨#[]⟩) := HT.out.n 14 _ rfl
  go_region_held3 (fun w' => w'.cell? ⟨W1.heap.size, 8, none⟩ = some (.bool false) ∧ w'.cell? ⟨W.heap.size, 14, none⟩ = some (.string ⟨#[]⟩)) (first | go_keep | (go_split_ands; exact keep2 ⟨by assumption, by assumption⟩ hb1)) (first | (go_at_call 30; refine (quote0_calls _).mono ?_; rintro e v9 ⟨rfl, hb1⟩) | (go_at_call 24; refine (add0_calls _ _ _).mono ?_; rintro e w9 ⟨rfl, rfl⟩))
  replace HT := Lib.hid ((HT.out.below (Below.refl _ _).drew).below hb1)
  replace HB := Lib.hid ((HB.out.trans ((Below.refl v8.heap.size v8).drew.mono HB.out.size)).trans (hb1.mono HB.out.size))
  clear c0 m14 hb1
  go_wp2_with fail
  have c0 := HT.out.h 8 _ rfl
  have m15 : v9.cell? ⟨W.heap.size, 15, none⟩ = some (.string ⟨#[]⟩) := HT.out.n 15 _ rfl
  go_region_held3 (fun w' => w'.cell? ⟨W1.heap.size, 8, none⟩ = some (.bool false) ∧ w'.cell? ⟨W.heap.size, 15, none⟩ = some (.string ⟨#[]⟩)) (first | go_keep | (go_split_ands; exact keep2 ⟨by assumption, by assumption⟩ hb1)) (first | (go_at_call 30; refine (quote0_calls _).mono ?_; rintro e v10 ⟨rfl, hb1⟩) | (go_at_call 24; refine (add0_calls _ _ _).mono ?_; rintro e w9 ⟨rfl, rfl⟩))
  replace HT := Lib.hid ((HT.out.below (Below.refl _ _).drew).below hb1)
  replace HB := Lib.hid ((HB.out.trans ((Below.refl v9.heap.size v9).drew.mono HB.out.size)).trans (hb1.mono HB.out.size))
  clear c0 m15 hb1
  have n16 : v10.cell? ⟨W.heap.size, 16, none⟩ = some (.slice none 0 0) := HT.out.n 16 _ rfl
  have t0 : v10.cell? ⟨W1.heap.size + 1 + 1, 0, none⟩ = some (.slice (some ⟨W1.heap.size + 1, 0, none⟩) 1 1) := HT.out.t
  go_wp2_with fail
  refine wp_loop_rounds 1 ?_
  rw [rounds_succ]
  go_wp2_with fail
  (with_reducible refine (join1_calls _ _ _ _ _ _ HT.out.s).mono ?_)
  rintro e w9 ⟨rfl, rfl⟩
  go_wp2_with fail
  go_ret
  exact ⟨rfl, HB.out⟩
end Go.Proofs.YtnbgigdloehbjaaGreatDoor.Tz
