/-
  The reader of queries: the operator that stands next; an operator without words of its own.
-/
import Derived.Test.YtjddnchenhnemaaGreatDoorPsL
namespace Go.Proofs.YtjddnchenhnemaaGreatDoor.Ps
open Go Go.RowKit Go.Proofs.YtjddnchenhnemaaGreatDoor.QT Go.Proofs.YtjddnchenhnemaaGreatDoor.Rg Go.Proofs.YtjddnchenhnemaaGreatDoor.Ma Go.Proofs.YtjddnchenhnemaaGreatDoor.Ir Go.Proofs.YtjddnchenhnemaaGreatDoor.Pm Go.Proofs.YtjddnchenhnemaaGreatDoor.Le
set_option maxHeartbeats 8000000
set_option maxRecDepth 100000
theorem op_strange {E : Env} {W : World} {p d : Nat} (hP : PS E W p d) (level : Int) (h1 : (E.tk p).kind ≠ 1) (h2 : (E.tk p).kind ≠ 5) :
    Calls Tryz.prog 68 #[.pointer (some ⟨E.g, 0, none⟩), .int .i64 level] W (RetB (.int .i64 0) W) := by
  have hst := run_store_float
  have HN := Lib.hid (next_calls hP)
  have HP := Lib.hid hP
  clear hP
  obtain ⟨t, ht⟩ : ∃ t, E.tk p = t := ⟨_, rfl⟩
  rw [ht] at HN h1
  have HT := Lib.hid ht
  clear ht
  rw [HT.out] at h2
  have t1 : (t.kind != 1) = true := by simpa using h1
  have t2 : (t.kind != 5) = true := by simpa using h2
  clear h1 h2
  go_enter Tryz.func68, Tryz.ntmps68
  go_wp2_with fail
  (with_reducible refine HN.out.mono ?_)
  rintro e W1 ⟨rfl, hb1⟩
  have hb2 := hb1.alloc hb1.size (.cells (ta t) 86)
  have HB2 := Lib.hid hb2
  clear hb1 hb2
  go_wp2_with fail
  go_ret
  exact ⟨rfl, HB2.out⟩
theorem op_none {E : Env} {W : World} {p d : Nat} (hP : PS E W p d) (level : Int) (h1 : (E.tk p).kind = 1 ∨ (E.tk p).kind = 5) (hx : ixS joinL (E.tk p).text 0 < 1) :
    Calls Tryz.prog 68 #[.pointer (some ⟨E.g, 0, none⟩), .int .i64 level] W (RetB (.int .i64 0) W) := by
  have hst := run_store_float
  have HN := Lib.hid (next_calls hP)
  have HP := Lib.hid hP
  clear hP
  obtain ⟨t, ht⟩ : ∃ t, E.tk p = t := ⟨_, rfl⟩
  rw [ht] at HN h1
  have HT := Lib.hid ht
  clear ht
  rw [HT.out] at hx
  obtain ⟨b, h1k⟩ : ∃ b, (t.kind == 1) = b := ⟨_, rfl⟩
  have hJ := joinNamed_calls t.text _ rfl
  rw [if_pos hx, show decide (1 ≤ ixS joinL t.text 0) = false from decide_eq_false (by omega)] at hJ
  have HJ := Lib.hid hJ
  clear hJ hx
  cases b
  · have t1 : (t.kind != 1) = true := by simpa using h1k
    have t2 : (t.kind != 5) = false := by
      rcases h1 with h | h
      · rw [h] at h1k; cases h1k
      · simp [h]
    clear h1 h1k
    go_enter Tryz.func68, Tryz.ntmps68
    go_wp2_with fail
    (with_reducible refine HN.out.mono ?_)
    rintro e W1 ⟨rfl, hb1⟩
    have hb2 := hb1.alloc hb1.size (.cells (ta t) 86)
    have HB2 := Lib.hid hb2
    clear hb1 hb2
    go_wp2_with fail
    (with_reducible refine (HJ.out _).mono ?_)
    rintro e W3 ⟨rfl, hb3⟩
    have HB3 := Lib.hid (HB2.out.trans (hb3.mono HB2.out.size))
    clear hb3
    go_wp2_with fail
    go_ret
    exact ⟨rfl, HB3.out⟩
  · have t1 : (t.kind != 1) = false := by
      have := beq_iff_eq.1 h1k
      simp [this]
    clear h1 h1k
    go_enter Tryz.func68, Tryz.ntmps68
    go_wp2_with fail
    (with_reducible refine HN.out.mono ?_)
    rintro e W1 ⟨rfl, hb1⟩
    have hb2 := hb1.alloc hb1.size (.cells (ta t) 86)
    have HB2 := Lib.hid hb2
    clear hb1 hb2
    go_wp2_with fail
    (with_reducible refine (HJ.out _).mono ?_)
    rintro e W3 ⟨rfl, hb3⟩
    have HB3 := Lib.hid (HB2.out.trans (hb3.mono HB2.out.size))
    clear hb3
    go_wp2_with fail
    go_ret
    exact ⟨rfl, HB3.out⟩
theorem op_low {E : Env} {W : World} {p d : Nat} (hP : PS E W p d) (level : Int) (h1 : (E.tk p).kind = 1 ∨ (E.tk p).kind = 5) (x : Nat) (hx : ixS joinL (E.tk p).text 0 = (x : Int)) (hx1 : 1 ≤ x) (hx14 : x ≤ 14) (hl : levelJ x < level) :
    Calls Tryz.prog 68 #[.pointer (some ⟨E.g, 0, none⟩), .int .i64 level] W (RetB (.int .i64 0) W) := by
  have hst := run_store_float
  have HN := Lib.hid (next_calls hP)
  have HP := Lib.hid hP
  clear hP
  obtain ⟨t, ht⟩ : ∃ t, E.tk p = t := ⟨_, rfl⟩
  rw [ht] at HN h1
  have HT := Lib.hid ht
  clear ht
  rw [HT.out] at hx
  obtain ⟨b, h1k⟩ : ∃ b, (t.kind == 1) = b := ⟨_, rfl⟩
  have hJ := joinNamed_calls t.text _ hx
  rw [if_neg (by omega), show decide (1 ≤ (x : Int)) = true from decide_eq_true (by omega)] at hJ
  have HJ := Lib.hid hJ
  clear hJ hx
  cases b
  · have t1 : (t.kind != 1) = true := by simpa using h1k
    have t2 : (t.kind != 5) = false := by
      rcases h1 with h | h
      · rw [h] at h1k; cases h1k
      · simp [h]
    clear h1 h1k
    go_enter Tryz.func68, Tryz.ntmps68
    go_wp2_with fail
    (with_reducible refine HN.out.mono ?_)
    rintro e W1 ⟨rfl, hb1⟩
    have hb2 := hb1.alloc hb1.size (.cells (ta t) 86)
    have HB2 := Lib.hid hb2
    clear hb1 hb2
    go_wp2_with fail
    (with_reducible refine (HJ.out _).mono ?_)
    rintro e W3 ⟨rfl, hb3⟩
    have HB3 := Lib.hid (HB2.out.trans (hb3.mono HB2.out.size))
    clear hb3
    go_wp2_with fail
    (with_reducible refine (level_calls x hx14 _).mono ?_)
    rintro e W4 ⟨rfl, rfl⟩
    go_wp2_with fail
    go_ret
    exact ⟨rfl, HB3.out⟩
  · have t1 : (t.kind != 1) = false := by
      have := beq_iff_eq.1 h1k
      simp [this]
    clear h1 h1k
    go_enter Tryz.func68, Tryz.ntmps68
    go_wp2_with fail
    (with_reducible refine HN.out.mono ?_)
    rintro e W1 ⟨rfl, hb1⟩
    have hb2 := hb1.alloc hb1.size (.cells (ta t) 86)
    have HB2 := Lib.hid hb2
    clear hb1 hb2
    go_wp2_with fail
    (with_reducible refine (HJ.out _).mono ?_)
    rintro e W3 ⟨rfl, hb3⟩
    have HB3 := Lib.hid (HB2.out.trans (hb3.mono HB2.out.size))
    clear hb3
    go_wp2_with fail
    (with_reducible refine (level_calls x hx14 _).mono ?_)
    rintro e W4 ⟨rfl, rfl⟩
    go_wp2_with fail
    go_ret
    exact ⟨rfl, HB3.out⟩
theorem op_yes {E : Env} {W : World} {p d : Nat} (hP : PS E W p d) (level : Int) (h1 : (E.tk p).kind = 1 ∨ (E.tk p).kind = 5) (x : Nat) (hx : ixS joinL (E.tk p).text 0 = (x : Int)) (hx1 : 1 ≤ x) (hx13 : x ≤ 13) (hl : level ≤ levelJ x) :
    Calls Tryz.prog 68 #[.pointer (some ⟨E.g, 0, none⟩), .int .i64 level] W (RetB (.int .i64 (x : Int)) W) := by
  have hx14 : x ≤ 14 := by omega
  have t14 : ((x : Int) == 14) = false := by rw [beq_eq_false_iff_ne]; omega
  have hst := run_store_float
  have HN := Lib.hid (next_calls hP)
  have HP := Lib.hid hP
  clear hP
  obtain ⟨t, ht⟩ : ∃ t, E.tk p = t := ⟨_, rfl⟩
  rw [ht] at HN h1
  have HT := Lib.hid ht
  clear ht
  rw [HT.out] at hx
  obtain ⟨b, h1k⟩ : ∃ b, (t.kind == 1) = b := ⟨_, rfl⟩
  have hJ := joinNamed_calls t.text _ hx
  rw [if_neg (by omega), show decide (1 ≤ (x : Int)) = true from decide_eq_true (by omega)] at hJ
  have HJ := Lib.hid hJ
  clear hJ hx
  cases b
  · have t1 : (t.kind != 1) = true := by simpa using h1k
    have t2 : (t.kind != 5) = false := by
      rcases h1 with h | h
      · rw [h] at h1k; cases h1k
      · simp [h]
    clear h1 h1k
    go_enter Tryz.func68, Tryz.ntmps68
    go_wp2_with fail
    (with_reducible refine HN.out.mono ?_)
    rintro e W1 ⟨rfl, hb1⟩
    have hb2 := hb1.alloc hb1.size (.cells (ta t) 86)
    have HB2 := Lib.hid hb2
    clear hb1 hb2
    go_wp2_with fail
    (with_reducible refine (HJ.out _).mono ?_)
    rintro e W3 ⟨rfl, hb3⟩
    have HB3 := Lib.hid (HB2.out.trans (hb3.mono HB2.out.size))
    clear hb3
    go_wp2_with fail
    (with_reducible refine (level_calls x hx14 _).mono ?_)
    rintro e W4 ⟨rfl, rfl⟩
    go_wp2_with fail
    go_ret
    exact ⟨rfl, HB3.out⟩
  · have t1 : (t.kind != 1) = false := by
      have := beq_iff_eq.1 h1k
      simp [this]
    clear h1 h1k
    go_enter Tryz.func68, Tryz.ntmps68
    go_wp2_with fail
    (with_reducible refine HN.out.mono ?_)
    rintro e W1 ⟨rfl, hb1⟩
    have hb2 := hb1.alloc hb1.size (.cells (ta t) 86)
    have HB2 := Lib.hid hb2
    clear hb1 hb2
    go_wp2_with fail
    (with_reducible refine (HJ.out _).mono ?_)
    rintro e W3 ⟨rfl, hb3⟩
    have HB3 := Lib.hid (HB2.out.trans (hb3.mono HB2.out.size))
    clear hb3
    go_wp2_with fail
    (with_reducible refine (level_calls x hx14 _).mono ?_)
    rintro e W4 ⟨rfl, rfl⟩
    go_wp2_with fail
    go_ret
    exact ⟨rfl, HB3.out⟩
end Go.Proofs.YtjddnchenhnemaaGreatDoor.Ps
