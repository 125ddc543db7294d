/-
  Parse of the text 1.5e3.
-/
import Derived.Test.YtdmmmdnfofoefaaDoorProg
import Derived.WalkKit
import Derived.WalkLawsBesides
import Derived.KernelRfl
import Derived.Outline
import Derived.Lib.Hide
import Derived.LoopN
namespace Go.Proofs.YtdmmmdnfofoefaaDoor.Lx
open Go Go.RowKit
set_option maxHeartbeats 4000000
set_option maxRecDepth 100000

def sN : ByteArray := ⟨#[49, 46, 53, 101, 51]⟩
theorem sN_size : sN.size = 5 := rfl
theorem sN_list : sN.toList = [49, 46, 53, 101, 51] := by decide +kernel
theorem sN_0 (h : 0 < sN.size) : (sN[0]'h).toNat = 49 := rfl
theorem sN_1 (h : 1 < sN.size) : (sN[1]'h).toNat = 46 := rfl
theorem sN_2 (h : 2 < sN.size) : (sN[2]'h).toNat = 53 := rfl
theorem sN_3 (h : 3 < sN.size) : (sN[3]'h).toNat = 101 := rfl
theorem sN_4 (h : 4 < sN.size) : (sN[4]'h).toNat = 51 := rfl
def sD : ByteArray := ⟨#[46, 53, 101, 51]⟩
theorem sD_size : sD.size = 4 := rfl
theorem sD_list : sD.toList = [46, 53, 101, 51] := by decide +kernel
theorem sD_0 (h : 0 < sD.size) : (sD[0]'h).toNat = 46 := rfl
theorem sD_1 (h : 1 < sD.size) : (sD[1]'h).toNat = 53 := rfl
theorem sD_2 (h : 2 < sD.size) : (sD[2]'h).toNat = 101 := rfl
theorem sD_3 (h : 3 < sD.size) : (sD[3]'h).toNat = 51 := rfl
def s5 : ByteArray := ⟨#[53, 101, 51]⟩
theorem s5_size : s5.size = 3 := rfl
theorem s5_list : s5.toList = [53, 101, 51] := by decide +kernel
theorem s5_0 (h : 0 < s5.size) : (s5[0]'h).toNat = 53 := rfl
theorem s5_1 (h : 1 < s5.size) : (s5[1]'h).toNat = 101 := rfl
theorem s5_2 (h : 2 < s5.size) : (s5[2]'h).toNat = 51 := rfl
def sB : ByteArray := ⟨#[101, 51]⟩
theorem sB_size : sB.size = 2 := rfl
theorem sB_list : sB.toList = [101, 51] := by decide +kernel
theorem sB_0 (h : 0 < sB.size) : (sB[0]'h).toNat = 101 := rfl
theorem sB_1 (h : 1 < sB.size) : (sB[1]'h).toNat = 51 := rfl
def sC : ByteArray := ⟨#[51]⟩
theorem sC_size : sC.size = 1 := rfl
theorem sC_list : sC.toList = [51] := by decide +kernel
theorem sC_0 (h : 0 < sC.size) : (sC[0]'h).toNat = 51 := rfl
def sE : ByteArray := ⟨#[]⟩
theorem sE_size : sE.size = 0 := rfl
theorem sE_list : sE.toList = [] := by decide +kernel
theorem sND : sN.extract 1 5 = sD := by decide +kernel
theorem sD5 : sD.extract 1 4 = s5 := by decide +kernel
theorem s5B : s5.extract 1 3 = sB := by decide +kernel
theorem sBC : sB.extract 1 2 = sC := by decide +kernel
theorem sCE : sC.extract 1 1 = sE := by decide +kernel
theorem digits_n (w : World) : Calls Tryd.prog 30 #[.string sN] w fun e w' => e = .returned (.string sD) ∧ w = w' := by
  have sN_z := sN_size
  have sN_b0 := sN_0
  have sN_b1 := sN_1
  have sN_b2 := sN_2
  have sN_b3 := sN_3
  have sN_b4 := sN_4
  have sN_e : sN.toList.isEmpty = false := by rw [sN_list]; rfl
  have sN_n : ¬ sN.toList = [] := by rw [sN_list]; exact List.cons_ne_nil _ _
  have sD_z := sD_size
  have sD_b0 := sD_0
  have sD_b1 := sD_1
  have sD_b2 := sD_2
  have sD_b3 := sD_3
  have sD_e : sD.toList.isEmpty = false := by rw [sD_list]; rfl
  have sD_n : ¬ sD.toList = [] := by rw [sD_list]; exact List.cons_ne_nil _ _
  have h1 := sND
  go_enter Tryd.func30, Tryd.ntmps30
  go_wp2
  refine wp_loop_rounds 2 ?_
  rw [rounds_succ]
  go_wp2
  rw [rounds_succ]
  go_wp2
  go_ret
  exact ⟨rfl, rfl⟩
theorem digits_5 (w : World) : Calls Tryd.prog 30 #[.string s5] w fun e w' => e = .returned (.string sB) ∧ w = w' := by
  have s5_z := s5_size
  have s5_b0 := s5_0
  have s5_b1 := s5_1
  have s5_b2 := s5_2
  have s5_e : s5.toList.isEmpty = false := by rw [s5_list]; rfl
  have s5_n : ¬ s5.toList = [] := by rw [s5_list]; exact List.cons_ne_nil _ _
  have sB_z := sB_size
  have sB_b0 := sB_0
  have sB_b1 := sB_1
  have sB_e : sB.toList.isEmpty = false := by rw [sB_list]; rfl
  have sB_n : ¬ sB.toList = [] := by rw [sB_list]; exact List.cons_ne_nil _ _
  have h1 := s5B
  go_enter Tryd.func30, Tryd.ntmps30
  go_wp2
  refine wp_loop_rounds 2 ?_
  rw [rounds_succ]
  go_wp2
  rw [rounds_succ]
  go_wp2
  go_ret
  exact ⟨rfl, rfl⟩
theorem digits_3 (w : World) : Calls Tryd.prog 30 #[.string sC] w fun e w' => e = .returned (.string sE) ∧ w = w' := by
  have sC_z := sC_size
  have sC_b0 := sC_0
  have sC_e : sC.toList.isEmpty = false := by rw [sC_list]; rfl
  have sC_n : ¬ sC.toList = [] := by rw [sC_list]; exact List.cons_ne_nil _ _
  have sE_z := sE_size
  have sE_e : sE.toList.isEmpty = true := by rw [sE_list]; rfl
  have sE_n : sE.toList = [] := sE_list
  have h1 := sCE
  go_enter Tryd.func30, Tryd.ntmps30
  go_wp2
  refine wp_loop_rounds 2 ?_
  rw [rounds_succ]
  go_wp2
  rw [rounds_succ]
  go_wp2
  go_ret
  exact ⟨rfl, rfl⟩
theorem number_n (w : World) : Calls Tryd.prog 26 #[.string sN] w fun e w' => e = .returned (.bool true) ∧ w = w' := by
  have sN_z := sN_size
  have sN_b0 := sN_0
  have sN_b1 := sN_1
  have sN_b2 := sN_2
  have sN_b3 := sN_3
  have sN_b4 := sN_4
  have sN_e : sN.toList.isEmpty = false := by rw [sN_list]; rfl
  have sN_n : ¬ sN.toList = [] := by rw [sN_list]; exact List.cons_ne_nil _ _
  have sD_z := sD_size
  have sD_b0 := sD_0
  have sD_b1 := sD_1
  have sD_b2 := sD_2
  have sD_b3 := sD_3
  have sD_e : sD.toList.isEmpty = false := by rw [sD_list]; rfl
  have sD_n : ¬ sD.toList = [] := by rw [sD_list]; exact List.cons_ne_nil _ _
  have s5_z := s5_size
  have s5_b0 := s5_0
  have s5_b1 := s5_1
  have s5_b2 := s5_2
  have s5_e : s5.toList.isEmpty = false := by rw [s5_list]; rfl
  have s5_n : ¬ s5.toList = [] := by rw [s5_list]; exact List.cons_ne_nil _ _
  have sB_z := sB_size
  have sB_b0 := sB_0
  have sB_b1 := sB_1
  have sB_e : sB.toList.isEmpty = false := by rw [sB_list]; rfl
  have sB_n : ¬ sB.toList = [] := by rw [sB_list]; exact List.cons_ne_nil _ _
  have sC_z := sC_size
  have sC_b0 := sC_0
  have sC_e : sC.toList.isEmpty = false := by rw [sC_list]; rfl
  have sC_n : ¬ sC.toList = [] := by rw [sC_list]; exact List.cons_ne_nil _ _
  have sE_z := sE_size
  have sE_e : sE.toList.isEmpty = true := by rw [sE_list]; rfl
  have sE_n : sE.toList = [] := sE_list
  have h1 := sD5
  have h2 := sBC
  go_enter Tryd.func26, Tryd.ntmps26
  go_wp2_with (first | ((with_reducible refine (digits_n _).mono ?_); rintro e w' ⟨rfl, rfl⟩) | ((with_reducible refine (digits_5 _).mono ?_); rintro e w' ⟨rfl, rfl⟩) | ((with_reducible refine (digits_3 _).mono ?_); rintro e w' ⟨rfl, rfl⟩))
  go_ret
  exact ⟨rfl, rfl⟩
theorem special_n (w : World) : Calls Tryd.prog 43 #[.string sN] w fun e w' => e = .returned (.tuple #[.float .f64 0, .int .i64 0, .bool false]) ∧ w = w' := by
  have sN_z := sN_size
  have sN_b0 := sN_0
  have sN_b1 := sN_1
  have sN_b2 := sN_2
  have sN_b3 := sN_3
  have sN_b4 := sN_4
  have sN_e : sN.toList.isEmpty = false := by rw [sN_list]; rfl
  have sN_n : ¬ sN.toList = [] := by rw [sN_list]; exact List.cons_ne_nil _ _
  go_enter Tryd.func43, Tryd.ntmps43
  go_wp2
  go_ret3
  exact ⟨rfl, rfl⟩
theorem lower_e (w : World) : Calls Tryd.prog 60 #[.int .u8 101] w fun e w' => e = .returned (.int .u8 101) ∧ w = w' := by
  have hl : bits .or .u8 101 32 = 101 := by decide +kernel
  go_enter Tryd.func60, Tryd.ntmps60
  go_wp2
  go_ret
  exact ⟨rfl, rfl⟩
theorem readFloat_n (w : World) : Calls Tryd.prog 44 #[.string sN] w fun e w' => e = .returned (.tuple #[.int .u64 15, .int .i64 2, .bool false, .bool false, .bool false, .int .i64 5, .bool true]) ∧ w = w' := by
  have sN_z := sN_size
  have sN_b0 := sN_0
  have sN_b1 := sN_1
  have sN_b2 := sN_2
  have sN_b3 := sN_3
  have sN_b4 := sN_4
  have sN_e : sN.toList.isEmpty = false := by rw [sN_list]; rfl
  have sN_n : ¬ sN.toList = [] := by rw [sN_list]; exact List.cons_ne_nil _ _
  go_enter Tryd.func44, Tryd.ntmps44
  go_wp2_with ((with_reducible refine (lower_e _).mono ?_); rintro e w' ⟨rfl, rfl⟩)
  go_step3
  go_wp2_with ((with_reducible refine (lower_e _).mono ?_); rintro e w' ⟨rfl, rfl⟩)
  go_step3
  go_wp2_with ((with_reducible refine (lower_e _).mono ?_); rintro e w' ⟨rfl, rfl⟩)
  refine wp_loop_rounds 4 ?_
  rw [rounds_succ]
  go_wp2_with ((with_reducible refine (lower_e _).mono ?_); rintro e w' ⟨rfl, rfl⟩)
  rw [rounds_succ]
  go_wp2_with ((with_reducible refine (lower_e _).mono ?_); rintro e w' ⟨rfl, rfl⟩)
  rw [rounds_succ]
  go_wp2_with ((with_reducible refine (lower_e _).mono ?_); rintro e w' ⟨rfl, rfl⟩)
  rw [rounds_succ]
  go_wp2_with ((with_reducible refine (lower_e _).mono ?_); rintro e w' ⟨rfl, rfl⟩)
  refine wp_loop_rounds 2 ?_
  rw [rounds_succ]
  go_wp2_with ((with_reducible refine (lower_e _).mono ?_); rintro e w' ⟨rfl, rfl⟩)
  rw [rounds_succ]
  go_wp2_with ((with_reducible refine (lower_e _).mono ?_); rintro e w' ⟨rfl, rfl⟩)
  rw [Exit.noGoto_ret]
  exact bodyPost_ret (v := .tuple #[.int .u64 15, .int .i64 2, .bool false, .bool false, .bool false, .int .i64 5, .bool true]) (by simp [results, Tryd.results44, go_sem]) rfl ⟨rfl, rfl⟩

/-- What the number's reader asks of the package's variables. -/
structure Tabs (w : World) : Prop where
  mant : w.cell? ⟨6, 0, none⟩ = some (.int .u64 52)
  opt : w.cell? ⟨5, 0, none⟩ = some (.bool true)
  ten : ∃ (a : Addr) (cap : Nat), w.cell? ⟨9, 0, none⟩ = some (.slice (some a) 23 cap) ∧ w.cell? (a.add 2) = some (.float .f64 4636737291354636288)
theorem exact_n (w : World) (hT : Tabs w) : Calls Tryd.prog 54 #[.int .u64 15, .int .i64 2, .bool false] w fun e w' => e = .returned (.tuple #[.float .f64 4654311885213007872, .bool true]) ∧ w = w' := by
  obtain ⟨hm, ho, a, cap, ha, h2⟩ := hT
  have hc : floatOfInt .f64 15 = 4624633867356078080 := by decide +kernel
  have o1 : FloatKind.f64.format.order 4624633867356078080 4831355200913801216 = some .lt := by decide +kernel
  have o2 : FloatKind.f64.format.order 4624633867356078080 14054727237768577024 = some .gt := by decide +kernel
  have hmul : ∀ w, (binOp .mul 24 (.float .f64 4624633867356078080) (.float .f64 4636737291354636288)).run Tryd.prog w = .ok (.float .f64 4654311885213007872) w := fun w => run_float_arith w .mul _ .f64 _ _ _ (by decide +kernel)
  have h2' : w.cell? ⟨a.block, a.off + 2, none⟩ = some (.float .f64 4636737291354636288) := by simpa [Addr.add] using h2
  clear h2
  go_enter Tryd.func54, Tryd.ntmps54
  go_wp2
  go_ret2
  exact ⟨rfl, rfl⟩
theorem bool2_no (w : World) : Calls Tryd.prog 52 #[.bool false] w fun e w' => e = .returned (.int .u64 0) ∧ w = w' := by
  go_enter Tryd.func52, Tryd.ntmps52
  go_wp2
  go_ret
  exact ⟨rfl, rfl⟩
theorem atof64_n (w : World) (hT : Tabs w) : Calls Tryd.prog 39 #[.string sN] w fun e w' => e = .returned (.tuple #[.float .f64 4654311885213007872, .int .i64 5, .nilIface]) ∧ w = w' := by
  have ho := hT.opt
  go_enter Tryd.func39, Tryd.ntmps39
  go_wp2_with (first | ((with_reducible refine (special_n _).mono ?_); rintro e w' ⟨rfl, rfl⟩) | ((with_reducible refine (readFloat_n _).mono ?_); rintro e w' ⟨rfl, rfl⟩) | ((with_reducible refine (bool2_no _).mono ?_); rintro e w' ⟨rfl, rfl⟩) | ((with_reducible refine (exact_n _ hT).mono ?_); rintro e w' ⟨rfl, rfl⟩))
  go_ret3
  exact ⟨rfl, rfl⟩
theorem prefix_n (w : World) (hT : Tabs w) : Calls Tryd.prog 33 #[.string sN, .int .i64 64] w fun e w' => e = .returned (.tuple #[.float .f64 4654311885213007872, .int .i64 5, .nilIface]) ∧ w = w' := by
  go_enter Tryd.func33, Tryd.ntmps33
  go_wp2_with ((with_reducible refine (atof64_n _ hT).mono ?_); rintro e w' ⟨rfl, rfl⟩)
  go_ret3
  exact ⟨rfl, rfl⟩
theorem inner_n (w : World) (hT : Tabs w) : Calls Tryd.prog 31 #[.string sN, .int .i64 64] w fun e w' => e = .returned (.tuple #[.float .f64 4654311885213007872, .nilIface]) ∧ w = w' := by
  have sN_z := sN_size
  have sN_b0 := sN_0
  have sN_b1 := sN_1
  have sN_b2 := sN_2
  have sN_b3 := sN_3
  have sN_b4 := sN_4
  have sN_e : sN.toList.isEmpty = false := by rw [sN_list]; rfl
  have sN_n : ¬ sN.toList = [] := by rw [sN_list]; exact List.cons_ne_nil _ _
  go_enter Tryd.func31, Tryd.ntmps31
  go_wp2_with ((with_reducible refine (prefix_n _ hT).mono ?_); rintro e w' ⟨rfl, rfl⟩)
  go_ret2
  exact ⟨rfl, rfl⟩
theorem parseFloat_n (w : World) (hT : Tabs w) : Calls Tryd.prog 27 #[.string sN, .int .i64 64] w fun e w' => e = .returned (.tuple #[.float .f64 4654311885213007872, .nilIface]) ∧ w = w' := by
  have sN_z := sN_size
  have sN_b0 := sN_0
  have sN_b1 := sN_1
  have sN_b2 := sN_2
  have sN_b3 := sN_3
  have sN_b4 := sN_4
  have sN_e : sN.toList.isEmpty = false := by rw [sN_list]; rfl
  have sN_n : ¬ sN.toList = [] := by rw [sN_list]; exact List.cons_ne_nil _ _
  go_enter Tryd.func27, Tryd.ntmps27
  go_wp2_with ((with_reducible refine (inner_n _ hT).mono ?_); rintro e w' ⟨rfl, rfl⟩)
  go_ret2
  exact ⟨rfl, rfl⟩
theorem parse_n (w : World) (hT : Tabs w) : Calls Tryd.prog 18 #[.string sN] w fun e w' => e = .returned (.tuple #[.float .f64 4654311885213007872, .bool true]) ∧ w = w' := by
  have sN_z := sN_size
  have sN_b0 := sN_0
  have sN_b1 := sN_1
  have sN_b2 := sN_2
  have sN_b3 := sN_3
  have sN_b4 := sN_4
  have sN_e : sN.toList.isEmpty = false := by rw [sN_list]; rfl
  have sN_n : ¬ sN.toList = [] := by rw [sN_list]; exact List.cons_ne_nil _ _
  have q1 : (sN.toList == [73, 110, 102]) = false := by decide +kernel
  have q2 : (sN.toList == [78, 97, 78]) = false := by decide +kernel
  go_enter Tryd.func18, Tryd.ntmps18
  go_wp2_with (first | ((with_reducible refine (number_n _).mono ?_); rintro e w' ⟨rfl, rfl⟩) | ((with_reducible refine (parseFloat_n _ hT).mono ?_); rintro e w' ⟨rfl, rfl⟩))
  go_ret2
  exact ⟨rfl, rfl⟩
end Go.Proofs.YtdmmmdnfofoefaaDoor.Lx
