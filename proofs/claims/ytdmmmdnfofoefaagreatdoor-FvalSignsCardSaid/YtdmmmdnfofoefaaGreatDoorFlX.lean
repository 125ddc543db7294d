/-
  What is known of values: a NaN, a sum, a text.
-/
import Derived.Test.YtdmmmdnfofoefaaGreatDoorFlW
import Derived.Test.YtdmmmdnfofoefaaGreatDoorFlE
import Derived.Test.YtdmmmdnfofoefaaGreatDoorFlP
namespace Go.Proofs.YtdmmmdnfofoefaaGreatDoor.Fl
open Go Go.RowKit Go.Proofs.YtdmmmdnfofoefaaGreatDoor.Rg
set_option maxHeartbeats 4000000
set_option maxRecDepth 100000

def s25 : ByteArray := ⟨#[50, 46, 53]⟩
theorem s25_size : s25.size = 3 := rfl
theorem s25_list : s25.toList = [50, 46, 53] := by decide +kernel
theorem s25_0 (h : 0 < s25.size) : (s25[0]'h).toNat = 50 := rfl
theorem s25_1 (h : 1 < s25.size) : (s25[1]'h).toNat = 46 := rfl
theorem s25_2 (h : 2 < s25.size) : (s25[2]'h).toNat = 53 := rfl
def Gives (v : Value) (W : World) (e : Ending) (w' : World) : Prop := e = .returned v ∧ Below W.heap.size W w'
/-- A new row of 24 bytes, none of them in use. -/
theorem make24 (W : World) : ∃ w1, (Instr.makeSlice 56 (.int .i64 0) (.int .i64 24)).run Tryz.prog W = .ok (.slice (some ⟨W.heap.size, 0, none⟩) 0 24) w1 ∧
    w1.ownsRow W.heap.size 5 1 (.slice (some ⟨W.heap.size, 0, none⟩) 0 24) 0 [] ∧ Below W.heap.size W w1 ∧ W.heap.size < w1.heap.size := by
  obtain ⟨i0, hi0, hz0, hz1, hz2⟩ := info_parts infoU8
  obtain ⟨w1, hr, ho, hg⟩ := run_make_own (P := Tryz.prog) W W.heap.size 56 5 i0 (.int .u8 0) 1 Tryz.underlying56 hi0 hz0 hz1 .i64 .i64 24 (by omega) (by decide) (Nat.le_refl _)
  refine ⟨w1, hr, ho, ⟨hg.os, hg.tape, hg.output, hg.size, fun k hk => hg.block k hk (by simp)⟩, ?_⟩
  rcases ho.2 with ⟨h1, _⟩ | ⟨g', cap', cur, h1, h2, h3, h4⟩
  · cases h1
  · cases h1
    exact blk_lt h3
theorem iformat_calls (W : World) (hF : Fmt W) :
    Calls Tryz.prog 42 #[.float .f64 4612811918334230528, .int .u8 103, .int .i64 (-1), .int .i64 64] W (Gives (.string s25) W) := by
  have x1 : max (3 : Int) 24 = 24 := rfl
  have HF := Lib.hid hF
  obtain ⟨w1, hmk, ho, hb, hl⟩ := make24 W
  have HO := Lib.hid ho
  have HB1 := Lib.hid hb
  have HL := Lib.hid hl
  clear hF ho hb hl
  go_enter Tryz.func42, Tryz.ntmps42
  go_wp2_with fail
  refine (ftoa_calls W _ W.heap.size HO.out HB1.out HL.out (HF.out.below HB1.out HF.out.big)).mono ?_
  rintro e w' ⟨v, b, rfl, hD⟩
  obtain ⟨ao, cap, hv⟩ := own_any hD.own
  subst hv
  have hc := own_string hD.own hD.len.symm
  have hs : (⟨[50, 46, 53].toArray⟩ : ByteArray) = s25 := rfl
  rw [hs] at hc
  have HB := Lib.hid hD.bel
  clear hs hD
  go_wp2_with fail
  go_ret
  exact ⟨rfl, HB.out⟩
theorem format_calls (W : World) (hF : Fmt W) :
    Calls Tryz.prog 36 #[.float .f64 4612811918334230528, .int .u8 103, .int .i64 (-1), .int .i64 64] W (Gives (.string s25) W) := by
  have HF := Lib.hid (iformat_calls W hF)
  clear hF
  go_enter Tryz.func36, Tryz.ntmps36
  go_wp2_with fail
  refine HF.out.mono ?_
  rintro e w' ⟨rfl, hb⟩
  have HB := Lib.hid hb
  clear hb
  go_wp2_with fail
  go_ret
  exact ⟨rfl, HB.out⟩
theorem isInf_p (w : World) : Calls Tryz.prog 35 #[.float .f64 4612811918334230528, .int .i64 1] w fun e w' => e = .returned (.bool false) ∧ w = w' := by
  have o1 : FloatKind.f64.format.order 4612811918334230528 9218868437227405311 = some .lt := by decide +kernel
  go_enter Tryz.func35, Tryz.ntmps35
  go_wp2
  go_ret
  exact ⟨rfl, rfl⟩
theorem isInf_m (w : World) : Calls Tryz.prog 35 #[.float .f64 4612811918334230528, .int .i64 (-1)] w fun e w' => e = .returned (.bool false) ∧ w = w' := by
  have hng := unary_neg_f (x := 4612811918334230528) (by decide)
  rw [show neg 4612811918334230528 = 13836183955189006336 by decide +kernel] at hng
  have o1 : FloatKind.f64.format.order 13836183955189006336 9218868437227405311 = some .lt := by decide +kernel
  go_enter Tryz.func35, Tryz.ntmps35
  go_wp2
  go_ret
  exact ⟨rfl, rfl⟩
theorem text_calls (W : World) (hF : Fmt W) : Calls Tryz.prog 19 #[.float .f64 4612811918334230528] W (Gives (.string s25) W) := by
  have HF := Lib.hid (format_calls W hF)
  have o1 : FloatKind.f64.format.order 4612811918334230528 4612811918334230528 = some .eq := by decide +kernel
  clear hF
  go_enter Tryz.func19, Tryz.ntmps19
  go_wp2_with (first | ((with_reducible refine (isInf_p _).mono ?_); rintro e w' ⟨rfl, rfl⟩) | ((with_reducible refine (isInf_m _).mono ?_); rintro e w' ⟨rfl, rfl⟩) | fail)
  refine HF.out.mono ?_
  rintro e w' ⟨rfl, hb⟩
  have HB := Lib.hid hb
  clear hb
  go_wp2_with fail
  go_ret
  exact ⟨rfl, HB.out⟩
end Go.Proofs.YtdmmmdnfofoefaaGreatDoor.Fl
