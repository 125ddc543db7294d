/-
  Parse of the text 1e3.
-/
import Derived.Test.YtdmmmdnfofoefaaGreatDoorFlB
import Derived.LoopN
namespace Go.Proofs.YtdmmmdnfofoefaaGreatDoor.Fl
open Go Go.RowKit
set_option maxHeartbeats 4000000
set_option maxRecDepth 100000

def sA : ByteArray := ⟨#[49, 101, 51]⟩
theorem sA_size : sA.size = 3 := rfl
theorem sA_list : sA.toList = [49, 101, 51] := by decide +kernel
theorem sA_0 (h : 0 < sA.size) : (sA[0]'h).toNat = 49 := rfl
theorem sA_1 (h : 1 < sA.size) : (sA[1]'h).toNat = 101 := rfl
theorem sA_2 (h : 2 < sA.size) : (sA[2]'h).toNat = 51 := rfl
def sB : ByteArray := ⟨#[101, 51]⟩
theorem sB_size : sB.size = 2 := rfl
theorem sB_list : sB.toList = [101, 51] := by decide +kernel
theorem sB_0 (h : 0 < sB.size) : (sB[0]'h).toNat = 101 := rfl
theorem sB_1 (h : 1 < sB.size) : (sB[1]'h).toNat = 51 := rfl
def sC : ByteArray := ⟨#[51]⟩
theorem sC_size : sC.size = 1 := rfl
theorem sC_list : sC.toList = [51] := by decide +kernel
theorem sC_0 (h : 0 < sC.size) : (sC[0]'h).toNat = 51 := rfl
def sE : ByteArray := ⟨#[]⟩
theorem sE_size : sE.size = 0 := rfl
theorem sE_list : sE.toList = [] := by decide +kernel
theorem sAB : sA.extract 1 3 = sB := by decide +kernel
theorem sBC : sB.extract 1 2 = sC := by decide +kernel
theorem sCE : sC.extract 1 1 = sE := by decide +kernel
theorem digits_1e3 (w : World) : Calls Tryz.prog 43 #[.string sA] w fun e w' => e = .returned (.string sB) ∧ w = w' := by
  have sA_z := sA_size
  have sA_b0 := sA_0
  have sA_b1 := sA_1
  have sA_b2 := sA_2
  have sA_e : sA.toList.isEmpty = false := by rw [sA_list]; rfl
  have sA_n : ¬ sA.toList = [] := by rw [sA_list]; exact List.cons_ne_nil _ _
  have sB_z := sB_size
  have sB_b0 := sB_0
  have sB_b1 := sB_1
  have sB_e : sB.toList.isEmpty = false := by rw [sB_list]; rfl
  have sB_n : ¬ sB.toList = [] := by rw [sB_list]; exact List.cons_ne_nil _ _
  have h1 := sAB
  go_enter Tryz.func43, Tryz.ntmps43
  go_wp2
  refine wp_loop_rounds 2 ?_
  rw [rounds_succ]
  go_wp2
  rw [rounds_succ]
  go_wp2
  go_ret
  exact ⟨rfl, rfl⟩
theorem digits_3 (w : World) : Calls Tryz.prog 43 #[.string sC] w fun e w' => e = .returned (.string sE) ∧ w = w' := by
  have sC_z := sC_size
  have sC_b0 := sC_0
  have sC_e : sC.toList.isEmpty = false := by rw [sC_list]; rfl
  have sC_n : ¬ sC.toList = [] := by rw [sC_list]; exact List.cons_ne_nil _ _
  have sE_z := sE_size
  have sE_e : sE.toList.isEmpty = true := by rw [sE_list]; rfl
  have sE_n : sE.toList = [] := sE_list
  have h1 := sCE
  go_enter Tryz.func43, Tryz.ntmps43
  go_wp2
  refine wp_loop_rounds 2 ?_
  rw [rounds_succ]
  go_wp2
  rw [rounds_succ]
  go_wp2
  go_ret
  exact ⟨rfl, rfl⟩
theorem number_1e3 (w : World) : Calls Tryz.prog 40 #[.string sA] w fun e w' => e = .returned (.bool true) ∧ w = w' := by
  have sA_z := sA_size
  have sA_b0 := sA_0
  have sA_b1 := sA_1
  have sA_b2 := sA_2
  have sA_e : sA.toList.isEmpty = false := by rw [sA_list]; rfl
  have sA_n : ¬ sA.toList = [] := by rw [sA_list]; exact List.cons_ne_nil _ _
  have sB_z := sB_size
  have sB_b0 := sB_0
  have sB_b1 := sB_1
  have sB_e : sB.toList.isEmpty = false := by rw [sB_list]; rfl
  have sB_n : ¬ sB.toList = [] := by rw [sB_list]; exact List.cons_ne_nil _ _
  have sC_z := sC_size
  have sC_b0 := sC_0
  have sC_e : sC.toList.isEmpty = false := by rw [sC_list]; rfl
  have sC_n : ¬ sC.toList = [] := by rw [sC_list]; exact List.cons_ne_nil _ _
  have sE_z := sE_size
  have sE_e : sE.toList.isEmpty = true := by rw [sE_list]; rfl
  have sE_n : sE.toList = [] := sE_list
  have h1 := sAB
  have h2 := sBC
  go_enter Tryz.func40, Tryz.ntmps40
  go_wp2_with (first | ((with_reducible refine (digits_1e3 _).mono ?_); rintro e w' ⟨rfl, rfl⟩) | ((with_reducible refine (digits_3 _).mono ?_); rintro e w' ⟨rfl, rfl⟩))

  go_ret
  exact ⟨rfl, rfl⟩
theorem special_1e3 (w : World) : Calls Tryz.prog 94 #[.string sA] w fun e w' => e = .returned (.tuple #[.float .f64 0, .int .i64 0, .bool false]) ∧ w = w' := by
  have sA_z := sA_size
  have sA_b0 := sA_0
  have sA_b1 := sA_1
  have sA_b2 := sA_2
  have sA_e : sA.toList.isEmpty = false := by rw [sA_list]; rfl
  have sA_n : ¬ sA.toList = [] := by rw [sA_list]; exact List.cons_ne_nil _ _
  go_enter Tryz.func94, Tryz.ntmps94
  go_wp2
  go_ret3
  exact ⟨rfl, rfl⟩
theorem lower_e (w : World) : Calls Tryz.prog 75 #[.int .u8 101] w fun e w' => e = .returned (.int .u8 101) ∧ w = w' := by
  have hl : bits .or .u8 101 32 = 101 := by decide +kernel
  go_enter Tryz.func75, Tryz.ntmps75
  go_wp2
  go_ret
  exact ⟨rfl, rfl⟩
theorem readFloat_1e3 (w : World) : Calls Tryz.prog 95 #[.string sA] w fun e w' => e = .returned (.tuple #[.int .u64 1, .int .i64 3, .bool false, .bool false, .bool false, .int .i64 3, .bool true]) ∧ w = w' := by
  have sA_z := sA_size
  have sA_b0 := sA_0
  have sA_b1 := sA_1
  have sA_b2 := sA_2
  have sA_e : sA.toList.isEmpty = false := by rw [sA_list]; rfl
  have sA_n : ¬ sA.toList = [] := by rw [sA_list]; exact List.cons_ne_nil _ _
  go_enter Tryz.func95, Tryz.ntmps95
  go_wp2_with ((with_reducible refine (lower_e _).mono ?_); rintro e w' ⟨rfl, rfl⟩)
  go_step3
  go_wp2_with ((with_reducible refine (lower_e _).mono ?_); rintro e w' ⟨rfl, rfl⟩)
  go_step3
  go_wp2_with ((with_reducible refine (lower_e _).mono ?_); rintro e w' ⟨rfl, rfl⟩)
  refine wp_loop_rounds 2 ?_
  rw [rounds_succ]
  go_wp2_with ((with_reducible refine (lower_e _).mono ?_); rintro e w' ⟨rfl, rfl⟩)
  rw [rounds_succ]
  go_wp2_with ((with_reducible refine (lower_e _).mono ?_); rintro e w' ⟨rfl, rfl⟩)
  refine wp_loop_rounds 2 ?_
  rw [rounds_succ]
  go_wp2_with ((with_reducible refine (lower_e _).mono ?_); rintro e w' ⟨rfl, rfl⟩)
  rw [rounds_succ]
  go_wp2_with ((with_reducible refine (lower_e _).mono ?_); rintro e w' ⟨rfl, rfl⟩)
  rw [Exit.noGoto_ret]
  exact bodyPost_ret (v := .tuple #[.int .u64 1, .int .i64 3, .bool false, .bool false, .bool false, .int .i64 3, .bool true]) (by simp [results, Tryz.results95, go_sem]) rfl ⟨rfl, rfl⟩

/-- What the number's reader asks of the package's variables. -/
structure Tabs (w : World) : Prop where
  mant : w.cell? ⟨6, 0, none⟩ = some (.int .u64 52)
  opt : w.cell? ⟨1, 0, none⟩ = some (.bool true)
  ten : ∃ (a : Addr) (cap : Nat), w.cell? ⟨11, 0, none⟩ = some (.slice (some a) 23 cap) ∧ w.cell? (a.add 2) = some (.float .f64 4636737291354636288) ∧ w.cell? (a.add 3) = some (.float .f64 4652007308841189376)
theorem exact_1e3 (w : World) (hT : Tabs w) : Calls Tryz.prog 105 #[.int .u64 1, .int .i64 3, .bool false] w fun e w' => e = .returned (.tuple #[.float .f64 4652007308841189376, .bool true]) ∧ w = w' := by
  obtain ⟨hm, ho, a, cap, ha, h2, h3⟩ := hT
  have hc : floatOfInt .f64 1 = 4607182418800017408 := by decide +kernel
  have o1 : FloatKind.f64.format.order 4607182418800017408 4831355200913801216 = some .lt := by decide +kernel
  have o2 : FloatKind.f64.format.order 4607182418800017408 14054727237768577024 = some .gt := by decide +kernel
  have hmul : ∀ w, (binOp .mul 24 (.float .f64 4607182418800017408) (.float .f64 4652007308841189376)).run Tryz.prog w = .ok (.float .f64 4652007308841189376) w := fun w => run_float_arith w .mul _ .f64 _ _ _ (by decide +kernel)
  have h3' : w.cell? ⟨a.block, a.off + 3, none⟩ = some (.float .f64 4652007308841189376) := by simpa [Addr.add] using h3
  clear h2 h3
  go_enter Tryz.func105, Tryz.ntmps105
  go_wp2
  go_ret2
  exact ⟨rfl, rfl⟩
theorem bool2_no (w : World) : Calls Tryz.prog 103 #[.bool false] w fun e w' => e = .returned (.int .u64 0) ∧ w = w' := by
  go_enter Tryz.func103, Tryz.ntmps103
  go_wp2
  go_ret
  exact ⟨rfl, rfl⟩
theorem atof64_1e3 (w : World) (hT : Tabs w) : Calls Tryz.prog 69 #[.string sA] w fun e w' => e = .returned (.tuple #[.float .f64 4652007308841189376, .int .i64 3, .nilIface]) ∧ w = w' := by
  have ho := hT.opt
  go_enter Tryz.func69, Tryz.ntmps69
  go_wp2_with (first | ((with_reducible refine (special_1e3 _).mono ?_); rintro e w' ⟨rfl, rfl⟩) | ((with_reducible refine (readFloat_1e3 _).mono ?_); rintro e w' ⟨rfl, rfl⟩) | ((with_reducible refine (bool2_no _).mono ?_); rintro e w' ⟨rfl, rfl⟩) | ((with_reducible refine (exact_1e3 _ hT).mono ?_); rintro e w' ⟨rfl, rfl⟩))
  go_ret3
  exact ⟨rfl, rfl⟩
theorem prefix_1e3 (w : World) (hT : Tabs w) : Calls Tryz.prog 48 #[.string sA, .int .i64 64] w fun e w' => e = .returned (.tuple #[.float .f64 4652007308841189376, .int .i64 3, .nilIface]) ∧ w = w' := by
  go_enter Tryz.func48, Tryz.ntmps48
  go_wp2_with ((with_reducible refine (atof64_1e3 _ hT).mono ?_); rintro e w' ⟨rfl, rfl⟩)
  go_ret3
  exact ⟨rfl, rfl⟩
theorem inner_1e3 (w : World) (hT : Tabs w) : Calls Tryz.prog 44 #[.string sA, .int .i64 64] w fun e w' => e = .returned (.tuple #[.float .f64 4652007308841189376, .nilIface]) ∧ w = w' := by
  have sA_z := sA_size
  have sA_b0 := sA_0
  have sA_b1 := sA_1
  have sA_b2 := sA_2
  have sA_e : sA.toList.isEmpty = false := by rw [sA_list]; rfl
  have sA_n : ¬ sA.toList = [] := by rw [sA_list]; exact List.cons_ne_nil _ _
  go_enter Tryz.func44, Tryz.ntmps44
  go_wp2_with ((with_reducible refine (prefix_1e3 _ hT).mono ?_); rintro e w' ⟨rfl, rfl⟩)
  go_ret2
  exact ⟨rfl, rfl⟩
theorem parseFloat_1e3 (w : World) (hT : Tabs w) : Calls Tryz.prog 41 #[.string sA, .int .i64 64] w fun e w' => e = .returned (.tuple #[.float .f64 4652007308841189376, .nilIface]) ∧ w = w' := by
  have sA_z := sA_size
  have sA_b0 := sA_0
  have sA_b1 := sA_1
  have sA_b2 := sA_2
  have sA_e : sA.toList.isEmpty = false := by rw [sA_list]; rfl
  have sA_n : ¬ sA.toList = [] := by rw [sA_list]; exact List.cons_ne_nil _ _
  go_enter Tryz.func41, Tryz.ntmps41
  go_wp2_with ((with_reducible refine (inner_1e3 _ hT).mono ?_); rintro e w' ⟨rfl, rfl⟩)
  go_ret2
  exact ⟨rfl, rfl⟩
theorem parse_1e3 (w : World) (hT : Tabs w) : Calls Tryz.prog 30 #[.string sA] w fun e w' => e = .returned (.tuple #[.float .f64 4652007308841189376, .bool true]) ∧ w = w' := by
  have sA_z := sA_size
  have sA_b0 := sA_0
  have sA_b1 := sA_1
  have sA_b2 := sA_2
  have sA_e : sA.toList.isEmpty = false := by rw [sA_list]; rfl
  have sA_n : ¬ sA.toList = [] := by rw [sA_list]; exact List.cons_ne_nil _ _
  have q1 : (sA.toList == [73, 110, 102]) = false := by decide +kernel
  have q2 : (sA.toList == [78, 97, 78]) = false := by decide +kernel
  go_enter Tryz.func30, Tryz.ntmps30
  go_wp2_with (first | ((with_reducible refine (number_1e3 _).mono ?_); rintro e w' ⟨rfl, rfl⟩) | ((with_reducible refine (parseFloat_1e3 _ hT).mono ?_); rintro e w' ⟨rfl, rfl⟩))
  go_ret2
  exact ⟨rfl, rfl⟩
end Go.Proofs.YtdmmmdnfofoefaaGreatDoor.Fl
