/-
  Two texts of queries, and the number 1 in one of them: its reader.
-/
import Derived.Test.YtjddnchenhnemaaGreatDoorLeD
import Derived.LoopN
import Derived.WalkLawsBesides
namespace Go.Proofs.YtjddnchenhnemaaGreatDoor.Ps
open Go Go.RowKit Go.Proofs.YtjddnchenhnemaaGreatDoor.QT Go.Proofs.YtjddnchenhnemaaGreatDoor.Rg Go.Proofs.YtjddnchenhnemaaGreatDoor.Ma Go.Proofs.YtjddnchenhnemaaGreatDoor.Ir Go.Proofs.YtjddnchenhnemaaGreatDoor.Le
set_option maxHeartbeats 4000000
set_option maxRecDepth 100000

def sA : ByteArray := ⟨#[114, 97, 116, 101, 40, 109, 91, 53, 109, 93, 41]⟩
theorem sA_size : sA.size = 11 := rfl
theorem sA_list : sA.toList = [114, 97, 116, 101, 40, 109, 91, 53, 109, 93, 41] := by decide +kernel
theorem sA_0 (h : 0 < sA.size) : (sA[0]'h).toNat = 114 := rfl
theorem sA_1 (h : 1 < sA.size) : (sA[1]'h).toNat = 97 := rfl
theorem sA_2 (h : 2 < sA.size) : (sA[2]'h).toNat = 116 := rfl
theorem sA_3 (h : 3 < sA.size) : (sA[3]'h).toNat = 101 := rfl
theorem sA_4 (h : 4 < sA.size) : (sA[4]'h).toNat = 40 := rfl
theorem sA_5 (h : 5 < sA.size) : (sA[5]'h).toNat = 109 := rfl
theorem sA_6 (h : 6 < sA.size) : (sA[6]'h).toNat = 91 := rfl
theorem sA_7 (h : 7 < sA.size) : (sA[7]'h).toNat = 53 := rfl
theorem sA_8 (h : 8 < sA.size) : (sA[8]'h).toNat = 109 := rfl
theorem sA_9 (h : 9 < sA.size) : (sA[9]'h).toNat = 93 := rfl
theorem sA_10 (h : 10 < sA.size) : (sA[10]'h).toNat = 41 := rfl
def sB : ByteArray := ⟨#[49, 32, 43, 32, 114, 97, 116, 101, 40, 109, 41]⟩
theorem sB_size : sB.size = 11 := rfl
theorem sB_list : sB.toList = [49, 32, 43, 32, 114, 97, 116, 101, 40, 109, 41] := by decide +kernel
theorem sB_0 (h : 0 < sB.size) : (sB[0]'h).toNat = 49 := rfl
theorem sB_1 (h : 1 < sB.size) : (sB[1]'h).toNat = 32 := rfl
theorem sB_2 (h : 2 < sB.size) : (sB[2]'h).toNat = 43 := rfl
theorem sB_3 (h : 3 < sB.size) : (sB[3]'h).toNat = 32 := rfl
theorem sB_4 (h : 4 < sB.size) : (sB[4]'h).toNat = 114 := rfl
theorem sB_5 (h : 5 < sB.size) : (sB[5]'h).toNat = 97 := rfl
theorem sB_6 (h : 6 < sB.size) : (sB[6]'h).toNat = 116 := rfl
theorem sB_7 (h : 7 < sB.size) : (sB[7]'h).toNat = 101 := rfl
theorem sB_8 (h : 8 < sB.size) : (sB[8]'h).toNat = 40 := rfl
theorem sB_9 (h : 9 < sB.size) : (sB[9]'h).toNat = 109 := rfl
theorem sB_10 (h : 10 < sB.size) : (sB[10]'h).toNat = 41 := rfl
def s5m : ByteArray := ⟨#[53, 109]⟩
theorem s5m_size : s5m.size = 2 := rfl
theorem s5m_list : s5m.toList = [53, 109] := by decide +kernel
theorem s5m_0 (h : 0 < s5m.size) : (s5m[0]'h).toNat = 53 := rfl
theorem s5m_1 (h : 1 < s5m.size) : (s5m[1]'h).toNat = 109 := rfl
def sm : ByteArray := ⟨#[109]⟩
theorem sm_size : sm.size = 1 := rfl
theorem sm_list : sm.toList = [109] := by decide +kernel
theorem sm_0 (h : 0 < sm.size) : (sm[0]'h).toNat = 109 := rfl
def s1 : ByteArray := ⟨#[49]⟩
theorem s1_size : s1.size = 1 := rfl
theorem s1_list : s1.toList = [49] := by decide +kernel
theorem s1_0 (h : 0 < s1.size) : (s1[0]'h).toNat = 49 := rfl
def sE : ByteArray := ⟨#[]⟩
theorem sE_size : sE.size = 0 := rfl
theorem sE_list : sE.toList = [] := by decide +kernel
theorem s1E : s1.extract 1 1 = sE := by decide +kernel
theorem s5m_ext : s5m.extract 1 2 = sm := by decide +kernel
theorem sm_ext : sm.extract 1 1 = sE := by decide +kernel
/-- What the number's reader asks of the package's variables. -/
structure Tabs (w : World) : Prop where
  mant : w.cell? ⟨6, 0, none⟩ = some (.int .u64 52)
  opt : w.cell? ⟨5, 0, none⟩ = some (.bool true)
theorem cell_lt {w : World} {a : Addr} {v : Value} (h : w.cell? a = some v) : a.block < w.heap.size := World.block_lt_of_cell? w a h
theorem Tabs.below (w w' : World) (h : Tabs w) (hb : Below w.heap.size w w') : Tabs w' :=
  ⟨(hb.cell (p := ⟨_, _, none⟩) (cell_lt h.mant)).trans h.mant, (hb.cell (p := ⟨_, _, none⟩) (cell_lt h.opt)).trans h.opt⟩
theorem digits_1 (w : World) : Calls Tryz.prog 116 #[.string s1] w fun e w' => e = .returned (.string sE) ∧ w = w' := by
  have s1_z := s1_size
  have s1_b0 := s1_0
  have s1_e : s1.toList.isEmpty = false := by rw [s1_list]; rfl
  have s1_n : ¬ s1.toList = [] := by rw [s1_list]; exact List.cons_ne_nil _ _
  have sE_z := sE_size
  have sE_e : sE.toList.isEmpty = true := by rw [sE_list]; rfl
  have sE_n : sE.toList = [] := sE_list
  have h1 := s1E
  go_enter Tryz.func116, Tryz.ntmps116
  go_wp2
  refine wp_loop_rounds 2 ?_
  rw [rounds_succ]
  go_wp2
  rw [rounds_succ]
  go_wp2
  go_ret
  exact ⟨rfl, rfl⟩
theorem number_1 (w : World) : Calls Tryz.prog 103 #[.string s1] w fun e w' => e = .returned (.bool true) ∧ w = w' := by
  have s1_z := s1_size
  have s1_b0 := s1_0
  have s1_e : s1.toList.isEmpty = false := by rw [s1_list]; rfl
  have s1_n : ¬ s1.toList = [] := by rw [s1_list]; exact List.cons_ne_nil _ _
  have sE_z := sE_size
  have sE_e : sE.toList.isEmpty = true := by rw [sE_list]; rfl
  have sE_n : sE.toList = [] := sE_list
  have h1 := s1E
  go_enter Tryz.func103, Tryz.ntmps103
  go_wp2_with ((with_reducible refine (digits_1 _).mono ?_); rintro e w' ⟨rfl, rfl⟩)
  go_ret
  exact ⟨rfl, rfl⟩
theorem special_1 (w : World) : Calls Tryz.prog 142 #[.string s1] w fun e w' => e = .returned (.tuple #[.float .f64 0, .int .i64 0, .bool false]) ∧ w = w' := by
  have s1_z := s1_size
  have s1_b0 := s1_0
  have s1_e : s1.toList.isEmpty = false := by rw [s1_list]; rfl
  have s1_n : ¬ s1.toList = [] := by rw [s1_list]; exact List.cons_ne_nil _ _
  go_enter Tryz.func142, Tryz.ntmps142
  go_wp2
  go_ret3
  exact ⟨rfl, rfl⟩
theorem readFloat_1 (w : World) : Calls Tryz.prog 143 #[.string s1] w fun e w' => e = .returned (.tuple #[.int .u64 1, .int .i64 0, .bool false, .bool false, .bool false, .int .i64 1, .bool true]) ∧ w = w' := by
  have s1_z := s1_size
  have s1_b0 := s1_0
  have s1_e : s1.toList.isEmpty = false := by rw [s1_list]; rfl
  have s1_n : ¬ s1.toList = [] := by rw [s1_list]; exact List.cons_ne_nil _ _
  go_enter Tryz.func143, Tryz.ntmps143
  go_wp2
  go_step3
  go_wp2
  go_step3
  go_wp2
  refine wp_loop_rounds 2 ?_
  rw [rounds_succ]
  go_wp2
  rw [rounds_succ]
  go_wp2
  rw [Exit.noGoto_ret]
  exact bodyPost_ret (v := .tuple #[.int .u64 1, .int .i64 0, .bool false, .bool false, .bool false, .int .i64 1, .bool true]) (by simp [results, Tryz.results143, go_sem]) rfl ⟨rfl, rfl⟩
theorem exact_1 (w : World) (hT : Tabs w) : Calls Tryz.prog 153 #[.int .u64 1, .int .i64 0, .bool false] w fun e w' => e = .returned (.tuple #[.float .f64 4607182418800017408, .bool true]) ∧ w = w' := by
  obtain ⟨hm, ho⟩ := hT
  have hc : floatOfInt .f64 1 = 4607182418800017408 := by decide +kernel
  go_enter Tryz.func153, Tryz.ntmps153
  go_wp2
  go_ret2
  exact ⟨rfl, rfl⟩
theorem bool2_no (w : World) : Calls Tryz.prog 151 #[.bool false] w fun e w' => e = .returned (.int .u64 0) ∧ w = w' := by
  go_enter Tryz.func151, Tryz.ntmps151
  go_wp2
  go_ret
  exact ⟨rfl, rfl⟩
theorem atof64_1 (w : World) (hT : Tabs w) : Calls Tryz.prog 135 #[.string s1] w fun e w' => e = .returned (.tuple #[.float .f64 4607182418800017408, .int .i64 1, .nilIface]) ∧ w = w' := by
  have ho := hT.opt
  go_enter Tryz.func135, Tryz.ntmps135
  go_wp2_with (first | ((with_reducible refine (special_1 _).mono ?_); rintro e w' ⟨rfl, rfl⟩) | ((with_reducible refine (readFloat_1 _).mono ?_); rintro e w' ⟨rfl, rfl⟩) | ((with_reducible refine (bool2_no _).mono ?_); rintro e w' ⟨rfl, rfl⟩) | ((with_reducible refine (exact_1 _ hT).mono ?_); rintro e w' ⟨rfl, rfl⟩))
  go_ret3
  exact ⟨rfl, rfl⟩
theorem prefix_1 (w : World) (hT : Tabs w) : Calls Tryz.prog 121 #[.string s1, .int .i64 64] w fun e w' => e = .returned (.tuple #[.float .f64 4607182418800017408, .int .i64 1, .nilIface]) ∧ w = w' := by
  go_enter Tryz.func121, Tryz.ntmps121
  go_wp2_with ((with_reducible refine (atof64_1 _ hT).mono ?_); rintro e w' ⟨rfl, rfl⟩)
  go_ret3
  exact ⟨rfl, rfl⟩
theorem inner_1 (w : World) (hT : Tabs w) : Calls Tryz.prog 117 #[.string s1, .int .i64 64] w fun e w' => e = .returned (.tuple #[.float .f64 4607182418800017408, .nilIface]) ∧ w = w' := by
  have s1_z := s1_size
  have s1_b0 := s1_0
  have s1_e : s1.toList.isEmpty = false := by rw [s1_list]; rfl
  have s1_n : ¬ s1.toList = [] := by rw [s1_list]; exact List.cons_ne_nil _ _
  go_enter Tryz.func117, Tryz.ntmps117
  go_wp2_with ((with_reducible refine (prefix_1 _ hT).mono ?_); rintro e w' ⟨rfl, rfl⟩)
  go_ret2
  exact ⟨rfl, rfl⟩
theorem parseFloat_1 (w : World) (hT : Tabs w) : Calls Tryz.prog 104 #[.string s1, .int .i64 64] w fun e w' => e = .returned (.tuple #[.float .f64 4607182418800017408, .nilIface]) ∧ w = w' := by
  have s1_z := s1_size
  have s1_b0 := s1_0
  have s1_e : s1.toList.isEmpty = false := by rw [s1_list]; rfl
  have s1_n : ¬ s1.toList = [] := by rw [s1_list]; exact List.cons_ne_nil _ _
  go_enter Tryz.func104, Tryz.ntmps104
  go_wp2_with ((with_reducible refine (inner_1 _ hT).mono ?_); rintro e w' ⟨rfl, rfl⟩)
  go_ret2
  exact ⟨rfl, rfl⟩
theorem parse_1 (w : World) (hT : Tabs w) : Calls Tryz.prog 81 #[.string s1] w fun e w' => e = .returned (.tuple #[.float .f64 4607182418800017408, .bool true]) ∧ w = w' := by
  have s1_z := s1_size
  have s1_b0 := s1_0
  have s1_e : s1.toList.isEmpty = false := by rw [s1_list]; rfl
  have s1_n : ¬ s1.toList = [] := by rw [s1_list]; exact List.cons_ne_nil _ _
  have q1 : (s1.toList == [73, 110, 102]) = false := by decide +kernel
  have q2 : (s1.toList == [78, 97, 78]) = false := by decide +kernel
  go_enter Tryz.func81, Tryz.ntmps81
  go_wp2_with (first | ((with_reducible refine (number_1 _).mono ?_); rintro e w' ⟨rfl, rfl⟩) | ((with_reducible refine (parseFloat_1 _ hT).mono ?_); rintro e w' ⟨rfl, rfl⟩))
  go_ret2
  exact ⟨rfl, rfl⟩
theorem unit_m (w : World) : Calls Tryz.prog 101 #[.string sm] w fun e w' => e = .returned (.tuple #[.int .i64 60000, .int .i64 1]) ∧ w = w' := by
  have sm_z := sm_size
  have sm_b0 := sm_0
  have sm_e : sm.toList.isEmpty = false := by rw [sm_list]; rfl
  have sm_n : ¬ sm.toList = [] := by rw [sm_list]; exact List.cons_ne_nil _ _
  go_enter Tryz.func101, Tryz.ntmps101
  go_wp2
  go_ret2
  exact ⟨rfl, rfl⟩
theorem unit_0 (w : World) : Calls Tryz.prog 101 #[.string sE] w fun e w' => e = .returned (.tuple #[.int .i64 0, .int .i64 0]) ∧ w = w' := by
  have sE_z := sE_size
  have sE_e : sE.toList.isEmpty = true := by rw [sE_list]; rfl
  have sE_n : sE.toList = [] := sE_list
  go_enter Tryz.func101, Tryz.ntmps101
  go_wp2
  go_ret2
  exact ⟨rfl, rfl⟩
theorem unit_e (w : World) : Calls Tryz.prog 101 #[.string ByteArray.empty] w fun e w' => e = .returned (.tuple #[.int .i64 0, .int .i64 0]) ∧ w = w' := unit_0 w
theorem duration_5m (w : World) : Calls Tryz.prog 80 #[.string s5m] w fun e w' => e = .returned (.tuple #[.int .i64 300000, .int .i64 0]) ∧ w = w' := by
  have s5m_z := s5m_size
  have s5m_b0 := s5m_0
  have s5m_b1 := s5m_1
  have s5m_e : s5m.toList.isEmpty = false := by rw [s5m_list]; rfl
  have s5m_n : ¬ s5m.toList = [] := by rw [s5m_list]; exact List.cons_ne_nil _ _
  have sm_z := sm_size
  have sm_b0 := sm_0
  have sm_e : sm.toList.isEmpty = false := by rw [sm_list]; rfl
  have sm_n : ¬ sm.toList = [] := by rw [sm_list]; exact List.cons_ne_nil _ _
  have sE_z := sE_size
  have sE_e : sE.toList.isEmpty = true := by rw [sE_list]; rfl
  have sE_n : sE.toList = [] := sE_list
  have h1 := s5m_ext
  have h2 := sm_ext
  have x1 : min (5 : Int) 2251799813685248 = 5 := rfl
  have x2 : min (300000 : Int) 2251799813685248 = 300000 := rfl
  go_enter Tryz.func80, Tryz.ntmps80
  go_wp2_with fail
  refine wp_scope_laps 2 ?_
  rw [laps_succ]
  go_wp2_with fail
  go_step3
  go_wp2_with fail
  go_step3
  go_wp2_with fail
  go_step3
  try rw [thenGoto]
  refine lap_goto rfl ?_
  rw [laps_succ]
  go_wp2_with ((with_reducible refine (unit_m _).mono ?_); rintro e w' ⟨rfl, rfl⟩)
  rw [lap_ret]
  go_ret2
  exact ⟨rfl, rfl⟩
theorem duration_1 (w : World) : Calls Tryz.prog 80 #[.string s1] w fun e w' => e = .returned (.tuple #[.int .i64 0, .int .i64 2]) ∧ w = w' := by
  have s1_z := s1_size
  have s1_b0 := s1_0
  have s1_e : s1.toList.isEmpty = false := by rw [s1_list]; rfl
  have s1_n : ¬ s1.toList = [] := by rw [s1_list]; exact List.cons_ne_nil _ _
  have sE_z := sE_size
  have sE_e : sE.toList.isEmpty = true := by rw [sE_list]; rfl
  have sE_n : sE.toList = [] := sE_list
  have h1 := s1E
  have x1 : min (1 : Int) 2251799813685248 = 1 := rfl
  go_enter Tryz.func80, Tryz.ntmps80
  go_wp2_with fail
  refine wp_scope_laps 2 ?_
  rw [laps_succ]
  go_wp2_with fail
  go_step3
  go_wp2_with fail
  go_step3
  go_wp2_with fail
  go_step3
  try rw [thenGoto]
  refine lap_goto rfl ?_
  rw [laps_succ]
  go_wp2_with (first | ((with_reducible refine (unit_0 _).mono ?_); rintro e w' ⟨rfl, rfl⟩) | ((with_reducible refine (unit_e _).mono ?_); rintro e w' ⟨rfl, rfl⟩))
  rw [lap_ret]
  go_ret2
  exact ⟨rfl, rfl⟩
theorem stretch_A (w : World) : Calls Tryz.prog 63 #[.string sA, .int .i64 7] w fun e w' => e = .returned (.int .i64 9) ∧ w = w' := by
  have z := sA_size
  have b7 := sA_7
  have b8 := sA_8
  have b9 := sA_9
  go_enter Tryz.func63, Tryz.ntmps63
  go_wp2
  refine wp_loop_rounds 3 ?_
  rw [rounds_succ]
  go_wp2
  rw [rounds_succ]
  go_wp2
  rw [rounds_succ]
  go_wp2
  go_ret
  exact ⟨rfl, rfl⟩
theorem stretch_B (w : World) : Calls Tryz.prog 63 #[.string sB, .int .i64 0] w fun e w' => e = .returned (.int .i64 1) ∧ w = w' := by
  have z := sB_size
  have b0 := sB_0
  have b1 := sB_1
  go_enter Tryz.func63, Tryz.ntmps63
  go_wp2
  refine wp_loop_rounds 2 ?_
  rw [rounds_succ]
  go_wp2
  rw [rounds_succ]
  go_wp2
  go_ret
  exact ⟨rfl, rfl⟩
end Go.Proofs.YtjddnchenhnemaaGreatDoor.Ps
