/-
  The lexer at two texts, place by place.
-/
import Derived.Test.YtdmmmdnfofoefaaDoorLxP
import Derived.Test.YtdmmmdnfofoefaaDoorLaps
import Derived.Test.YtdmmmdnfofoefaaDoorShelf
import Derived.Test.YtdmmmdnfofoefaaDoorBaA
namespace Go.Proofs.YtdmmmdnfofoefaaDoor.Lx
open Go Go.RowKit Go.Proofs.YtdmmmdnfofoefaaDoor.QT
set_option maxHeartbeats 4000000
set_option maxRecDepth 100000

def sL : ByteArray := ⟨#[114, 97, 116, 101, 40, 97, 91, 53, 109, 93, 41, 32, 62, 61, 32, 49, 46, 53, 101, 51, 32, 35, 32, 120]⟩
theorem sL_size : sL.size = 24 := rfl
theorem sL_list : sL.toList = [114, 97, 116, 101, 40, 97, 91, 53, 109, 93, 41, 32, 62, 61, 32, 49, 46, 53, 101, 51, 32, 35, 32, 120] := by decide +kernel
theorem sL_0 (h : 0 < sL.size) : (sL[0]'h).toNat = 114 := rfl
theorem sL_1 (h : 1 < sL.size) : (sL[1]'h).toNat = 97 := rfl
theorem sL_2 (h : 2 < sL.size) : (sL[2]'h).toNat = 116 := rfl
theorem sL_3 (h : 3 < sL.size) : (sL[3]'h).toNat = 101 := rfl
theorem sL_4 (h : 4 < sL.size) : (sL[4]'h).toNat = 40 := rfl
theorem sL_5 (h : 5 < sL.size) : (sL[5]'h).toNat = 97 := rfl
theorem sL_6 (h : 6 < sL.size) : (sL[6]'h).toNat = 91 := rfl
theorem sL_7 (h : 7 < sL.size) : (sL[7]'h).toNat = 53 := rfl
theorem sL_8 (h : 8 < sL.size) : (sL[8]'h).toNat = 109 := rfl
theorem sL_9 (h : 9 < sL.size) : (sL[9]'h).toNat = 93 := rfl
theorem sL_10 (h : 10 < sL.size) : (sL[10]'h).toNat = 41 := rfl
theorem sL_11 (h : 11 < sL.size) : (sL[11]'h).toNat = 32 := rfl
theorem sL_12 (h : 12 < sL.size) : (sL[12]'h).toNat = 62 := rfl
theorem sL_13 (h : 13 < sL.size) : (sL[13]'h).toNat = 61 := rfl
theorem sL_14 (h : 14 < sL.size) : (sL[14]'h).toNat = 32 := rfl
theorem sL_15 (h : 15 < sL.size) : (sL[15]'h).toNat = 49 := rfl
theorem sL_16 (h : 16 < sL.size) : (sL[16]'h).toNat = 46 := rfl
theorem sL_17 (h : 17 < sL.size) : (sL[17]'h).toNat = 53 := rfl
theorem sL_18 (h : 18 < sL.size) : (sL[18]'h).toNat = 101 := rfl
theorem sL_19 (h : 19 < sL.size) : (sL[19]'h).toNat = 51 := rfl
theorem sL_20 (h : 20 < sL.size) : (sL[20]'h).toNat = 32 := rfl
theorem sL_21 (h : 21 < sL.size) : (sL[21]'h).toNat = 35 := rfl
theorem sL_22 (h : 22 < sL.size) : (sL[22]'h).toNat = 32 := rfl
theorem sL_23 (h : 23 < sL.size) : (sL[23]'h).toNat = 120 := rfl
def sM : ByteArray := ⟨#[97, 32, 36]⟩
theorem sM_size : sM.size = 3 := rfl
theorem sM_list : sM.toList = [97, 32, 36] := by decide +kernel
theorem sM_0 (h : 0 < sM.size) : (sM[0]'h).toNat = 97 := rfl
theorem sM_1 (h : 1 < sM.size) : (sM[1]'h).toNat = 32 := rfl
theorem sM_2 (h : 2 < sM.size) : (sM[2]'h).toNat = 36 := rfl
def s5m : ByteArray := ⟨#[53, 109]⟩
theorem s5m_size : s5m.size = 2 := rfl
theorem s5m_list : s5m.toList = [53, 109] := by decide +kernel
theorem s5m_0 (h : 0 < s5m.size) : (s5m[0]'h).toNat = 53 := rfl
theorem s5m_1 (h : 1 < s5m.size) : (s5m[1]'h).toNat = 109 := rfl
def sm : ByteArray := ⟨#[109]⟩
theorem sm_size : sm.size = 1 := rfl
theorem sm_list : sm.toList = [109] := by decide +kernel
theorem sm_0 (h : 0 < sm.size) : (sm[0]'h).toNat = 109 := rfl
theorem ixb (s : ByteArray) (c r : Int) (h : (Lib.indexByte s.data.toList c.toNat.toUInt8 : Int) = r) (w : World) : Calls Tryd.prog 16 #[.string s, .int .u8 c] w fun e w' => e = .returned (.int .i64 r) ∧ w = w' :=
  (Tryd.strings_IndexByte s c w).mono fun e w' ⟨he, hw⟩ => ⟨by rw [he, h], hw.symm⟩
theorem s5m_ext : s5m.extract 1 2 = sm := by decide +kernel
theorem sm_ext : sm.extract 1 1 = sE := by decide +kernel
theorem unit_m (w : World) : Calls Tryd.prog 22 #[.string sm] w fun e w' => e = .returned (.tuple #[.int .i64 60000, .int .i64 1]) ∧ w = w' := by
  have sm_z := sm_size
  have sm_b0 := sm_0
  have sm_e : sm.toList.isEmpty = false := by rw [sm_list]; rfl
  have sm_n : ¬ sm.toList = [] := by rw [sm_list]; exact List.cons_ne_nil _ _
  go_enter Tryd.func22, Tryd.ntmps22
  go_wp2
  go_ret2
  exact ⟨rfl, rfl⟩
theorem unit_d (w : World) : Calls Tryd.prog 22 #[.string sD] w fun e w' => e = .returned (.tuple #[.int .i64 0, .int .i64 0]) ∧ w = w' := by
  have sD_z := sD_size
  have sD_b0 := sD_0
  have sD_b1 := sD_1
  have sD_b2 := sD_2
  have sD_b3 := sD_3
  have sD_e : sD.toList.isEmpty = false := by rw [sD_list]; rfl
  have sD_n : ¬ sD.toList = [] := by rw [sD_list]; exact List.cons_ne_nil _ _
  go_enter Tryd.func22, Tryd.ntmps22
  go_wp2
  go_ret2
  exact ⟨rfl, rfl⟩
theorem duration_5m (w : World) : Calls Tryd.prog 17 #[.string s5m] w fun e w' => e = .returned (.tuple #[.int .i64 300000, .int .i64 0]) ∧ w = w' := by
  have s5m_z := s5m_size
  have s5m_b0 := s5m_0
  have s5m_b1 := s5m_1
  have s5m_e : s5m.toList.isEmpty = false := by rw [s5m_list]; rfl
  have s5m_n : ¬ s5m.toList = [] := by rw [s5m_list]; exact List.cons_ne_nil _ _
  have sm_z := sm_size
  have sm_b0 := sm_0
  have sm_e : sm.toList.isEmpty = false := by rw [sm_list]; rfl
  have sm_n : ¬ sm.toList = [] := by rw [sm_list]; exact List.cons_ne_nil _ _
  have sE_z := sE_size
  have sE_e : sE.toList.isEmpty = true := by rw [sE_list]; rfl
  have sE_n : sE.toList = [] := sE_list
  have h1 := s5m_ext
  have h2 := sm_ext
  have x1 : min (5 : Int) 2251799813685248 = 5 := rfl
  have x2 : min (300000 : Int) 2251799813685248 = 300000 := rfl
  go_enter Tryd.func17, Tryd.ntmps17
  go_wp2_with fail
  refine wp_scope_laps 2 ?_
  rw [laps_succ]
  go_wp2_with fail
  go_step3
  go_wp2_with fail
  go_step3
  go_wp2_with fail
  go_step3
  try rw [thenGoto]
  refine lap_goto rfl ?_
  rw [laps_succ]
  go_wp2_with ((with_reducible refine (unit_m _).mono ?_); rintro e w' ⟨rfl, rfl⟩)
  rw [lap_ret]
  go_ret2
  exact ⟨rfl, rfl⟩
theorem duration_n (w : World) : Calls Tryd.prog 17 #[.string sN] w fun e w' => e = .returned (.tuple #[.int .i64 0, .int .i64 2]) ∧ w = w' := by
  have sN_z := sN_size
  have sN_b0 := sN_0
  have sN_b1 := sN_1
  have sN_b2 := sN_2
  have sN_b3 := sN_3
  have sN_b4 := sN_4
  have sN_e : sN.toList.isEmpty = false := by rw [sN_list]; rfl
  have sN_n : ¬ sN.toList = [] := by rw [sN_list]; exact List.cons_ne_nil _ _
  have sD_z := sD_size
  have sD_b0 := sD_0
  have sD_b1 := sD_1
  have sD_b2 := sD_2
  have sD_b3 := sD_3
  have sD_e : sD.toList.isEmpty = false := by rw [sD_list]; rfl
  have sD_n : ¬ sD.toList = [] := by rw [sD_list]; exact List.cons_ne_nil _ _
  have h1 := sND
  have x1 : min (1 : Int) 2251799813685248 = 1 := rfl
  go_enter Tryd.func17, Tryd.ntmps17
  go_wp2_with fail
  refine wp_scope_laps 2 ?_
  rw [laps_succ]
  go_wp2_with fail
  go_step3
  go_wp2_with fail
  go_step3
  go_wp2_with fail
  go_step3
  try rw [thenGoto]
  refine lap_goto rfl ?_
  rw [laps_succ]
  go_wp2_with ((with_reducible refine (unit_d _).mono ?_); rintro e w' ⟨rfl, rfl⟩)
  rw [lap_ret]
  go_ret2
  exact ⟨rfl, rfl⟩
theorem pass_sL_0 (w : World) : Calls Tryd.prog 8 #[.string sL, .int .i64 0] w fun e w' => e = .returned (.int .i64 0) ∧ w = w' := by
  have z := sL_size
  have b0 := sL_0
  go_enter Tryd.func8, Tryd.ntmps8
  go_wp2_with fail
  refine wp_scope_laps 1 ?_
  rw [laps_succ]
  go_wp2_with fail
  go_step3
  go_wp2_with (first | (go_at_call 16; refine (ixb _ _ (-1) (by decide +kernel) _).mono ?_; rintro e w' ⟨rfl, rfl⟩) | (go_at_call 16; refine (ixb _ _ 0 (by decide +kernel) _).mono ?_; rintro e w' ⟨rfl, rfl⟩) | fail)
  rw [lap_ret]
  go_ret
  exact ⟨rfl, rfl⟩
theorem pass_sL_4 (w : World) : Calls Tryd.prog 8 #[.string sL, .int .i64 4] w fun e w' => e = .returned (.int .i64 4) ∧ w = w' := by
  have z := sL_size
  have b4 := sL_4
  go_enter Tryd.func8, Tryd.ntmps8
  go_wp2_with fail
  refine wp_scope_laps 1 ?_
  rw [laps_succ]
  go_wp2_with fail
  go_step3
  go_wp2_with (first | (go_at_call 16; refine (ixb _ _ (-1) (by decide +kernel) _).mono ?_; rintro e w' ⟨rfl, rfl⟩) | (go_at_call 16; refine (ixb _ _ 0 (by decide +kernel) _).mono ?_; rintro e w' ⟨rfl, rfl⟩) | fail)
  rw [lap_ret]
  go_ret
  exact ⟨rfl, rfl⟩
theorem pass_sL_5 (w : World) : Calls Tryd.prog 8 #[.string sL, .int .i64 5] w fun e w' => e = .returned (.int .i64 5) ∧ w = w' := by
  have z := sL_size
  have b5 := sL_5
  go_enter Tryd.func8, Tryd.ntmps8
  go_wp2_with fail
  refine wp_scope_laps 1 ?_
  rw [laps_succ]
  go_wp2_with fail
  go_step3
  go_wp2_with (first | (go_at_call 16; refine (ixb _ _ (-1) (by decide +kernel) _).mono ?_; rintro e w' ⟨rfl, rfl⟩) | (go_at_call 16; refine (ixb _ _ 0 (by decide +kernel) _).mono ?_; rintro e w' ⟨rfl, rfl⟩) | fail)
  rw [lap_ret]
  go_ret
  exact ⟨rfl, rfl⟩
theorem pass_sL_6 (w : World) : Calls Tryd.prog 8 #[.string sL, .int .i64 6] w fun e w' => e = .returned (.int .i64 6) ∧ w = w' := by
  have z := sL_size
  have b6 := sL_6
  go_enter Tryd.func8, Tryd.ntmps8
  go_wp2_with fail
  refine wp_scope_laps 1 ?_
  rw [laps_succ]
  go_wp2_with fail
  go_step3
  go_wp2_with (first | (go_at_call 16; refine (ixb _ _ (-1) (by decide +kernel) _).mono ?_; rintro e w' ⟨rfl, rfl⟩) | (go_at_call 16; refine (ixb _ _ 0 (by decide +kernel) _).mono ?_; rintro e w' ⟨rfl, rfl⟩) | fail)
  rw [lap_ret]
  go_ret
  exact ⟨rfl, rfl⟩
theorem pass_sL_7 (w : World) : Calls Tryd.prog 8 #[.string sL, .int .i64 7] w fun e w' => e = .returned (.int .i64 7) ∧ w = w' := by
  have z := sL_size
  have b7 := sL_7
  go_enter Tryd.func8, Tryd.ntmps8
  go_wp2_with fail
  refine wp_scope_laps 1 ?_
  rw [laps_succ]
  go_wp2_with fail
  go_step3
  go_wp2_with (first | (go_at_call 16; refine (ixb _ _ (-1) (by decide +kernel) _).mono ?_; rintro e w' ⟨rfl, rfl⟩) | (go_at_call 16; refine (ixb _ _ 0 (by decide +kernel) _).mono ?_; rintro e w' ⟨rfl, rfl⟩) | fail)
  rw [lap_ret]
  go_ret
  exact ⟨rfl, rfl⟩
theorem pass_sL_9 (w : World) : Calls Tryd.prog 8 #[.string sL, .int .i64 9] w fun e w' => e = .returned (.int .i64 9) ∧ w = w' := by
  have z := sL_size
  have b9 := sL_9
  go_enter Tryd.func8, Tryd.ntmps8
  go_wp2_with fail
  refine wp_scope_laps 1 ?_
  rw [laps_succ]
  go_wp2_with fail
  go_step3
  go_wp2_with (first | (go_at_call 16; refine (ixb _ _ (-1) (by decide +kernel) _).mono ?_; rintro e w' ⟨rfl, rfl⟩) | (go_at_call 16; refine (ixb _ _ 0 (by decide +kernel) _).mono ?_; rintro e w' ⟨rfl, rfl⟩) | fail)
  rw [lap_ret]
  go_ret
  exact ⟨rfl, rfl⟩
theorem pass_sL_10 (w : World) : Calls Tryd.prog 8 #[.string sL, .int .i64 10] w fun e w' => e = .returned (.int .i64 10) ∧ w = w' := by
  have z := sL_size
  have b10 := sL_10
  go_enter Tryd.func8, Tryd.ntmps8
  go_wp2_with fail
  refine wp_scope_laps 1 ?_
  rw [laps_succ]
  go_wp2_with fail
  go_step3
  go_wp2_with (first | (go_at_call 16; refine (ixb _ _ (-1) (by decide +kernel) _).mono ?_; rintro e w' ⟨rfl, rfl⟩) | (go_at_call 16; refine (ixb _ _ 0 (by decide +kernel) _).mono ?_; rintro e w' ⟨rfl, rfl⟩) | fail)
  rw [lap_ret]
  go_ret
  exact ⟨rfl, rfl⟩
theorem pass_sL_11 (w : World) : Calls Tryd.prog 8 #[.string sL, .int .i64 11] w fun e w' => e = .returned (.int .i64 12) ∧ w = w' := by
  have z := sL_size
  have b11 := sL_11
  have b12 := sL_12
  go_enter Tryd.func8, Tryd.ntmps8
  go_wp2_with fail
  refine wp_scope_laps 2 ?_
  rw [laps_succ]
  go_wp2_with fail
  go_step3
  go_wp2_with (first | (go_at_call 16; refine (ixb _ _ (-1) (by decide +kernel) _).mono ?_; rintro e w' ⟨rfl, rfl⟩) | (go_at_call 16; refine (ixb _ _ 0 (by decide +kernel) _).mono ?_; rintro e w' ⟨rfl, rfl⟩) | fail)
  go_step3
  refine lap_goto rfl ?_
  rw [laps_succ]
  go_wp2_with (first | (go_at_call 16; refine (ixb _ _ (-1) (by decide +kernel) _).mono ?_; rintro e w' ⟨rfl, rfl⟩) | (go_at_call 16; refine (ixb _ _ 0 (by decide +kernel) _).mono ?_; rintro e w' ⟨rfl, rfl⟩) | fail)
  rw [lap_ret]
  go_ret
  exact ⟨rfl, rfl⟩
theorem pass_sL_14 (w : World) : Calls Tryd.prog 8 #[.string sL, .int .i64 14] w fun e w' => e = .returned (.int .i64 15) ∧ w = w' := by
  have z := sL_size
  have b14 := sL_14
  have b15 := sL_15
  go_enter Tryd.func8, Tryd.ntmps8
  go_wp2_with fail
  refine wp_scope_laps 2 ?_
  rw [laps_succ]
  go_wp2_with fail
  go_step3
  go_wp2_with (first | (go_at_call 16; refine (ixb _ _ (-1) (by decide +kernel) _).mono ?_; rintro e w' ⟨rfl, rfl⟩) | (go_at_call 16; refine (ixb _ _ 0 (by decide +kernel) _).mono ?_; rintro e w' ⟨rfl, rfl⟩) | fail)
  go_step3
  refine lap_goto rfl ?_
  rw [laps_succ]
  go_wp2_with (first | (go_at_call 16; refine (ixb _ _ (-1) (by decide +kernel) _).mono ?_; rintro e w' ⟨rfl, rfl⟩) | (go_at_call 16; refine (ixb _ _ 0 (by decide +kernel) _).mono ?_; rintro e w' ⟨rfl, rfl⟩) | fail)
  rw [lap_ret]
  go_ret
  exact ⟨rfl, rfl⟩
theorem pass_sL_20 (w : World) : Calls Tryd.prog 8 #[.string sL, .int .i64 20] w fun e w' => e = .returned (.int .i64 24) ∧ w = w' := by
  have z := sL_size
  have b20 := sL_20
  have b21 := sL_21
  have b22 := sL_22
  have b23 := sL_23
  go_enter Tryd.func8, Tryd.ntmps8
  go_wp2_with fail
  refine wp_scope_laps 5 ?_
  rw [laps_succ]
  go_wp2_with fail
  go_step3
  go_wp2_with (first | (go_at_call 16; refine (ixb _ _ (-1) (by decide +kernel) _).mono ?_; rintro e w' ⟨rfl, rfl⟩) | (go_at_call 16; refine (ixb _ _ 0 (by decide +kernel) _).mono ?_; rintro e w' ⟨rfl, rfl⟩) | fail)
  go_step3
  refine lap_goto rfl ?_
  rw [laps_succ]
  go_wp2_with (first | (go_at_call 16; refine (ixb _ _ (-1) (by decide +kernel) _).mono ?_; rintro e w' ⟨rfl, rfl⟩) | (go_at_call 16; refine (ixb _ _ 0 (by decide +kernel) _).mono ?_; rintro e w' ⟨rfl, rfl⟩) | fail)
  go_step3
  refine lap_goto rfl ?_
  rw [laps_succ]
  go_wp2_with (first | (go_at_call 16; refine (ixb _ _ (-1) (by decide +kernel) _).mono ?_; rintro e w' ⟨rfl, rfl⟩) | (go_at_call 16; refine (ixb _ _ 0 (by decide +kernel) _).mono ?_; rintro e w' ⟨rfl, rfl⟩) | fail)
  go_step3
  refine lap_goto rfl ?_
  rw [laps_succ]
  go_wp2_with (first | (go_at_call 16; refine (ixb _ _ (-1) (by decide +kernel) _).mono ?_; rintro e w' ⟨rfl, rfl⟩) | (go_at_call 16; refine (ixb _ _ 0 (by decide +kernel) _).mono ?_; rintro e w' ⟨rfl, rfl⟩) | fail)
  go_step3
  refine lap_goto rfl ?_
  rw [laps_succ]
  go_wp2_with (first | (go_at_call 16; refine (ixb _ _ (-1) (by decide +kernel) _).mono ?_; rintro e w' ⟨rfl, rfl⟩) | (go_at_call 16; refine (ixb _ _ 0 (by decide +kernel) _).mono ?_; rintro e w' ⟨rfl, rfl⟩) | fail)
  rw [lap_ret]
  go_ret
  exact ⟨rfl, rfl⟩
theorem pass_sM_0 (w : World) : Calls Tryd.prog 8 #[.string sM, .int .i64 0] w fun e w' => e = .returned (.int .i64 0) ∧ w = w' := by
  have z := sM_size
  have b0 := sM_0
  go_enter Tryd.func8, Tryd.ntmps8
  go_wp2_with fail
  refine wp_scope_laps 1 ?_
  rw [laps_succ]
  go_wp2_with fail
  go_step3
  go_wp2_with (first | (go_at_call 16; refine (ixb _ _ (-1) (by decide +kernel) _).mono ?_; rintro e w' ⟨rfl, rfl⟩) | (go_at_call 16; refine (ixb _ _ 0 (by decide +kernel) _).mono ?_; rintro e w' ⟨rfl, rfl⟩) | fail)
  rw [lap_ret]
  go_ret
  exact ⟨rfl, rfl⟩
theorem pass_sM_1 (w : World) : Calls Tryd.prog 8 #[.string sM, .int .i64 1] w fun e w' => e = .returned (.int .i64 2) ∧ w = w' := by
  have z := sM_size
  have b1 := sM_1
  have b2 := sM_2
  go_enter Tryd.func8, Tryd.ntmps8
  go_wp2_with fail
  refine wp_scope_laps 2 ?_
  rw [laps_succ]
  go_wp2_with fail
  go_step3
  go_wp2_with (first | (go_at_call 16; refine (ixb _ _ (-1) (by decide +kernel) _).mono ?_; rintro e w' ⟨rfl, rfl⟩) | (go_at_call 16; refine (ixb _ _ 0 (by decide +kernel) _).mono ?_; rintro e w' ⟨rfl, rfl⟩) | fail)
  go_step3
  refine lap_goto rfl ?_
  rw [laps_succ]
  go_wp2_with (first | (go_at_call 16; refine (ixb _ _ (-1) (by decide +kernel) _).mono ?_; rintro e w' ⟨rfl, rfl⟩) | (go_at_call 16; refine (ixb _ _ 0 (by decide +kernel) _).mono ?_; rintro e w' ⟨rfl, rfl⟩) | fail)
  rw [lap_ret]
  go_ret
  exact ⟨rfl, rfl⟩
theorem word_sL_0 (w : World) : Calls Tryd.prog 10 #[.string sL, .int .i64 0] w fun e w' => e = .returned (.int .i64 4) ∧ w = w' := by
  have z := sL_size
  have b0 := sL_0
  have b1 := sL_1
  have b2 := sL_2
  have b3 := sL_3
  have b4 := sL_4
  go_enter Tryd.func10, Tryd.ntmps10
  go_wp2
  refine wp_loop_rounds 5 ?_
  rw [rounds_succ]
  go_wp2
  rw [rounds_succ]
  go_wp2
  rw [rounds_succ]
  go_wp2
  rw [rounds_succ]
  go_wp2
  rw [rounds_succ]
  go_wp2
  go_ret
  exact ⟨rfl, rfl⟩
theorem word_sL_5 (w : World) : Calls Tryd.prog 10 #[.string sL, .int .i64 5] w fun e w' => e = .returned (.int .i64 6) ∧ w = w' := by
  have z := sL_size
  have b5 := sL_5
  have b6 := sL_6
  go_enter Tryd.func10, Tryd.ntmps10
  go_wp2
  refine wp_loop_rounds 2 ?_
  rw [rounds_succ]
  go_wp2
  rw [rounds_succ]
  go_wp2
  go_ret
  exact ⟨rfl, rfl⟩
theorem word_sM_0 (w : World) : Calls Tryd.prog 10 #[.string sM, .int .i64 0] w fun e w' => e = .returned (.int .i64 1) ∧ w = w' := by
  have z := sM_size
  have b0 := sM_0
  have b1 := sM_1
  go_enter Tryd.func10, Tryd.ntmps10
  go_wp2
  refine wp_loop_rounds 2 ?_
  rw [rounds_succ]
  go_wp2
  rw [rounds_succ]
  go_wp2
  go_ret
  exact ⟨rfl, rfl⟩
theorem stretch_sL_7 (w : World) : Calls Tryd.prog 12 #[.string sL, .int .i64 7] w fun e w' => e = .returned (.int .i64 9) ∧ w = w' := by
  have z := sL_size
  have b7 := sL_7
  have b8 := sL_8
  have b9 := sL_9
  go_enter Tryd.func12, Tryd.ntmps12
  go_wp2
  refine wp_loop_rounds 3 ?_
  rw [rounds_succ]
  go_wp2
  rw [rounds_succ]
  go_wp2
  rw [rounds_succ]
  go_wp2
  go_ret
  exact ⟨rfl, rfl⟩
theorem stretch_sL_15 (w : World) : Calls Tryd.prog 12 #[.string sL, .int .i64 15] w fun e w' => e = .returned (.int .i64 20) ∧ w = w' := by
  have z := sL_size
  have b15 := sL_15
  have b16 := sL_16
  have b17 := sL_17
  have b18 := sL_18
  have b19 := sL_19
  have b20 := sL_20
  go_enter Tryd.func12, Tryd.ntmps12
  go_wp2
  refine wp_loop_rounds 6 ?_
  rw [rounds_succ]
  go_wp2
  rw [rounds_succ]
  go_wp2
  rw [rounds_succ]
  go_wp2
  rw [rounds_succ]
  go_wp2
  rw [rounds_succ]
  go_wp2
  rw [rounds_succ]
  go_wp2
  go_ret
  exact ⟨rfl, rfl⟩
theorem mark_sL_4 (w : World) : Calls Tryd.prog 15 #[.string sL, .int .i64 4] w fun e w' => e = .returned (.int .i64 1) ∧ w = w' := by
  have z := sL_size
  have b4 := sL_4
  have b5 := sL_5
  have t0 : ((sL.extract 4 6).toList == [61, 61]) = false := by decide +kernel
  have t1 : ((sL.extract 4 6).toList == [33, 61]) = false := by decide +kernel
  have t2 : ((sL.extract 4 6).toList == [62, 61]) = false := by decide +kernel
  have t3 : ((sL.extract 4 6).toList == [60, 61]) = false := by decide +kernel
  have t4 : ((sL.extract 4 6).toList == [61, 126]) = false := by decide +kernel
  have t5 : ((sL.extract 4 6).toList == [33, 126]) = false := by decide +kernel
  go_enter Tryd.func15, Tryd.ntmps15
  go_wp2_with (first | (go_at_call 16; refine (ixb _ _ (-1) (by decide +kernel) _).mono ?_; rintro e w' ⟨rfl, rfl⟩) | (go_at_call 16; refine (ixb _ _ 7 (by decide +kernel) _).mono ?_; rintro e w' ⟨rfl, rfl⟩) | fail)
  go_ret
  exact ⟨rfl, rfl⟩
theorem mark_sL_6 (w : World) : Calls Tryd.prog 15 #[.string sL, .int .i64 6] w fun e w' => e = .returned (.int .i64 1) ∧ w = w' := by
  have z := sL_size
  have b6 := sL_6
  have b7 := sL_7
  have t0 : ((sL.extract 6 8).toList == [61, 61]) = false := by decide +kernel
  have t1 : ((sL.extract 6 8).toList == [33, 61]) = false := by decide +kernel
  have t2 : ((sL.extract 6 8).toList == [62, 61]) = false := by decide +kernel
  have t3 : ((sL.extract 6 8).toList == [60, 61]) = false := by decide +kernel
  have t4 : ((sL.extract 6 8).toList == [61, 126]) = false := by decide +kernel
  have t5 : ((sL.extract 6 8).toList == [33, 126]) = false := by decide +kernel
  go_enter Tryd.func15, Tryd.ntmps15
  go_wp2_with (first | (go_at_call 16; refine (ixb _ _ (-1) (by decide +kernel) _).mono ?_; rintro e w' ⟨rfl, rfl⟩) | (go_at_call 16; refine (ixb _ _ 11 (by decide +kernel) _).mono ?_; rintro e w' ⟨rfl, rfl⟩) | fail)
  go_ret
  exact ⟨rfl, rfl⟩
theorem mark_sL_9 (w : World) : Calls Tryd.prog 15 #[.string sL, .int .i64 9] w fun e w' => e = .returned (.int .i64 1) ∧ w = w' := by
  have z := sL_size
  have b9 := sL_9
  have b10 := sL_10
  have t0 : ((sL.extract 9 11).toList == [61, 61]) = false := by decide +kernel
  have t1 : ((sL.extract 9 11).toList == [33, 61]) = false := by decide +kernel
  have t2 : ((sL.extract 9 11).toList == [62, 61]) = false := by decide +kernel
  have t3 : ((sL.extract 9 11).toList == [60, 61]) = false := by decide +kernel
  have t4 : ((sL.extract 9 11).toList == [61, 126]) = false := by decide +kernel
  have t5 : ((sL.extract 9 11).toList == [33, 126]) = false := by decide +kernel
  go_enter Tryd.func15, Tryd.ntmps15
  go_wp2_with (first | (go_at_call 16; refine (ixb _ _ (-1) (by decide +kernel) _).mono ?_; rintro e w' ⟨rfl, rfl⟩) | (go_at_call 16; refine (ixb _ _ 12 (by decide +kernel) _).mono ?_; rintro e w' ⟨rfl, rfl⟩) | fail)
  go_ret
  exact ⟨rfl, rfl⟩
theorem mark_sL_10 (w : World) : Calls Tryd.prog 15 #[.string sL, .int .i64 10] w fun e w' => e = .returned (.int .i64 1) ∧ w = w' := by
  have z := sL_size
  have b10 := sL_10
  have b11 := sL_11
  have t0 : ((sL.extract 10 12).toList == [61, 61]) = false := by decide +kernel
  have t1 : ((sL.extract 10 12).toList == [33, 61]) = false := by decide +kernel
  have t2 : ((sL.extract 10 12).toList == [62, 61]) = false := by decide +kernel
  have t3 : ((sL.extract 10 12).toList == [60, 61]) = false := by decide +kernel
  have t4 : ((sL.extract 10 12).toList == [61, 126]) = false := by decide +kernel
  have t5 : ((sL.extract 10 12).toList == [33, 126]) = false := by decide +kernel
  go_enter Tryd.func15, Tryd.ntmps15
  go_wp2_with (first | (go_at_call 16; refine (ixb _ _ (-1) (by decide +kernel) _).mono ?_; rintro e w' ⟨rfl, rfl⟩) | (go_at_call 16; refine (ixb _ _ 8 (by decide +kernel) _).mono ?_; rintro e w' ⟨rfl, rfl⟩) | fail)
  go_ret
  exact ⟨rfl, rfl⟩
theorem mark_sL_12 (w : World) : Calls Tryd.prog 15 #[.string sL, .int .i64 12] w fun e w' => e = .returned (.int .i64 2) ∧ w = w' := by
  have z := sL_size
  have b12 := sL_12
  have b13 := sL_13
  have t0 : ((sL.extract 12 14).toList == [61, 61]) = false := by decide +kernel
  have t1 : ((sL.extract 12 14).toList == [33, 61]) = false := by decide +kernel
  have t2 : ((sL.extract 12 14).toList == [62, 61]) = true := by decide +kernel
  go_enter Tryd.func15, Tryd.ntmps15
  go_wp2_with (first | (go_at_call 16; refine (ixb _ _ (-1) (by decide +kernel) _).mono ?_; rintro e w' ⟨rfl, rfl⟩) | (go_at_call 16; refine (ixb _ _ 4 (by decide +kernel) _).mono ?_; rintro e w' ⟨rfl, rfl⟩) | fail)
  go_ret
  exact ⟨rfl, rfl⟩
theorem mark_sM_2 (w : World) : Calls Tryd.prog 15 #[.string sM, .int .i64 2] w fun e w' => e = .returned (.int .i64 0) ∧ w = w' := by
  have z := sM_size
  have b2 := sM_2
  go_enter Tryd.func15, Tryd.ntmps15
  go_wp2_with (first | (go_at_call 16; refine (ixb _ _ (-1) (by decide +kernel) _).mono ?_; rintro e w' ⟨rfl, rfl⟩) | (go_at_call 16; refine (ixb _ _ 0 (by decide +kernel) _).mono ?_; rintro e w' ⟨rfl, rfl⟩) | fail)
  go_ret
  exact ⟨rfl, rfl⟩
end Go.Proofs.YtdmmmdnfofoefaaDoor.Lx
