/-
  What the statements ask of the program first: a NaN, a quotient, a number's text, a sum.
-/
import Derived.Test.YtdmmmdnfofoefaaGreatDoorFlX
import Derived.Test.YtdmmmdnfofoefaaGreatDoorFlS
namespace Go.Proofs.YtdmmmdnfofoefaaGreatDoor.Fl
open Go Go.RowKit Go.Proofs.YtdmmmdnfofoefaaGreatDoor.Rg
set_option maxHeartbeats 4000000
set_option maxRecDepth 100000

def LawPost (W : World) : Ending → World → Prop := Gives (.bool true) W
structure Laid (w : World) : Prop where
  tabs : Tabs w
  fmt : Fmt w
theorem Laid.drewN {w : World} (h : Laid w) (n : Nat) : Laid (w.drewN n) :=
  ⟨⟨h.tabs.mant, h.tabs.opt, h.tabs.ten⟩, ⟨⟨h.fmt.pow.hi, h.fmt.pow.lo⟩, h.fmt.ten, h.fmt.big⟩⟩
theorem known_calls (W : World) (hL : Laid W) : Calls Tryz.prog 8 #[] W (LawPost W) := by
  have e1 : (Reads (.tuple #[.float .f64 (opV 4 4607182418800017408 4616189618054758400), .bool (opOk 4)]) W) = (Reads (.tuple #[.float .f64 4598175219545276416, .bool true]) W) := by
    rw [show opV 4 4607182418800017408 4616189618054758400 = 4598175219545276416 by decide +kernel]; rfl
  have hop := op_calls 4 4607182418800017408 4616189618054758400 W
  rw [e1] at hop
  have HOp := Lib.hid hop
  have cst : canon st = 9221120237041090561 := by decide +kernel
  have ist : isSt st = true := by decide +kernel
  have isn : isSt 9221120237041090561 = false := by decide +kernel
  have o1 : FloatKind.f64.format.order 4598175219545276416 4598175219545276416 = some .eq := by decide +kernel
  have o2 : FloatKind.f64.format.order 4652007308841189376 4652007308841189376 = some .eq := by decide +kernel
  have o3 : FloatKind.f64.format.order 4618441417868443648 4618441417868443648 = some .eq := by decide +kernel
  have hs : sumV [4607182418800017408, 4611686018427387904, 4613937818241073152] = 4618441417868443648 := by decide +kernel
  have q1 : (s25.toList == [50, 46, 53]) = true := by decide +kernel
  have HS := Lib.hid hs
  have HL := Lib.hid hL
  clear hop e1 hL hs
  go_enter Tryz.func8, Tryz.ntmps8
  go_wp2_with (first | ((with_reducible refine (stale_calls _).mono ?_); rintro e w' ⟨rfl, rfl⟩) | fail)
  refine HOp.out.mono ?_
  rintro e w1 ⟨rfl, n1, rfl⟩
  go_wp2_with fail
  refine (parse_1e3 _ (HL.out.drewN n1).tabs).mono ?_
  rintro e w1 ⟨rfl, rfl⟩
  go_wp2_with (first | ((with_reducible refine (bits_calls _ _).mono ?_); rw [cst]; rintro e w' ⟨rfl, rfl⟩) | ((with_reducible refine (isStale_calls _ _).mono ?_); (first | rw [ist] | rw [isn]); rintro e w' ⟨rfl, rfl⟩) | ((with_reducible refine (canon_calls _ _).mono ?_); rw [cst]; rintro e w' ⟨rfl, rfl⟩) | fail)
  have hL1 := HL.out.drewN n1
  refine (text_calls _ hL1.fmt).mono ?_
  rintro e w2 ⟨rfl, hb⟩
  have HB := Lib.hid hb
  clear hb hL1
  go_wp2_with fail
  refine (sum_calls _ [4607182418800017408, 4611686018427387904, 4613937818241073152] _ (by decide) (.inr ⟨w2.heap.size, 3, rfl, by decide, ?_⟩)).mono ?_
  · intro i h
    refine (blk_cell (blk_new w2 _) i).trans ?_
    rcases i with _ | _ | _ | i
    · rfl
    · rfl
    · rfl
    · simp at h; omega
  rw [HS.out]
  rintro e w3 ⟨rfl, n3, rfl⟩
  go_wp2_with fail
  go_ret
  exact ⟨rfl, below_drewN (((below_drewN (Below.refl _ _) n1).trans (HB.out.mono (Nat.le_refl _))).alloc HB.out.size _) n3⟩
end Go.Proofs.YtdmmmdnfofoefaaGreatDoor.Fl
