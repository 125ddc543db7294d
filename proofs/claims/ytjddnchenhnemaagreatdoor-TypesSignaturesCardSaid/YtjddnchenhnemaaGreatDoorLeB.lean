/-
  The lexer: words and marks.
-/
import Derived.Test.YtjddnchenhnemaaGreatDoorLeA
namespace Go.Proofs.YtjddnchenhnemaaGreatDoor.Le
open Go Go.RowKit Go.Proofs.YtjddnchenhnemaaGreatDoor.QT Go.Proofs.YtjddnchenhnemaaGreatDoor.Rg Go.Proofs.YtjddnchenhnemaaGreatDoor.Ma Go.Proofs.YtjddnchenhnemaaGreatDoor.Ir
set_option maxHeartbeats 4000000
set_option maxRecDepth 100000

theorem word_calls (s : ByteArray) (i j : Nat) (hs : s.size ≤ 4096) (hij : i ≤ j) (hj : j ≤ s.size) (hall : ∀ k, i ≤ k → k < j → wdB (byteAt s k) = true) (hend : j < s.size → wdB (byteAt s j) = false) (W : World) :
    Calls Tryz.prog 61 #[.string s, .int .i64 (i : Int)] W (RetI j W) := by
  have HA := Lib.hid hall; clear hall
  have HE := Lib.hid hend; clear hend
  go_enter Tryz.func61, Tryz.ntmps61
  go_wp2_with fail
  go_loop [5] (fun n => ∃ k : Nat, i ≤ k ∧ k ≤ j ∧ n = .int .i64 (k : Int)) (fun n => j - (intOf n).toNat)
  case atStart => exact ⟨i, Nat.le_refl _, hij, rfl⟩
  case round =>
    obtain ⟨k, h1, h2, rfl⟩ := hrel
    by_cases hkj : k < j
    · have hb := HA.out k h1 hkj
      obtain ⟨c, hc⟩ : ∃ c, By s k c := ⟨_, By.of (by omega)⟩
      rw [hc.2.2] at hb
      have b := hc.get
      have h255 := hc.2.1
      have hks := hc.1
      obtain ⟨x, hx⟩ : ∃ x, letterB c = x := ⟨_, rfl⟩
      obtain ⟨y, hy⟩ : ∃ y, digitB c = y := ⟨_, rfl⟩
      have LC := letter_calls c h255
      have DC := digit_calls c h255
      rw [hx] at LC
      rw [hy] at DC
      have LL := Lib.hid LC; clear LC
      have DD := Lib.hid DC; clear DC
      rw [wdB, wordB, hx, hy] at hb
      clear hx hy
      cases x <;> cases y
      all_goals
        (try have t58 : ((c : Int) == 58) = true := by (rw [beq_iff_eq]; simp at hb; omega))
        clear hb
        go_wp2_with (first | (go_at_call 60; refine (LL.out _).mono ?_; rintro e w' ⟨rfl, rfl⟩) | (go_at_call 62; refine (DD.out _).mono ?_; rintro e w' ⟨rfl, rfl⟩))
        go_round
        case rel => exact ⟨k + 1, by omega, by omega, by go_num⟩
        case measure => (simp [intOf] <;> omega)
    · obtain rfl : k = j := by omega
      by_cases hks : k < s.size
      · have hb := HE.out hks
        obtain ⟨c, hc⟩ : ∃ c, By s k c := ⟨_, By.of (by omega)⟩
        rw [hc.2.2] at hb
        have b := hc.get
        have h255 := hc.2.1
        rw [wdB, wordB] at hb
        simp only [Bool.or_eq_false_iff, decide_eq_false_iff_not] at hb
        obtain ⟨⟨hx, hy⟩, h58⟩ := hb
        have LC := letter_calls c h255
        have DC := digit_calls c h255
        rw [hx] at LC
        rw [hy] at DC
        have LL := Lib.hid LC; clear LC
        have DD := Lib.hid DC; clear DC
        clear hx hy
        have t58 : ((c : Int) == 58) = false := by rw [beq_eq_false_iff_ne]; omega
        go_wp2_with (first | (go_at_call 60; refine (LL.out _).mono ?_; rintro e w' ⟨rfl, rfl⟩) | (go_at_call 62; refine (DD.out _).mono ?_; rintro e w' ⟨rfl, rfl⟩))
        go_ret
        exact ⟨rfl, rfl⟩
      · go_wp2_with fail
        go_ret
        exact ⟨rfl, rfl⟩
end Go.Proofs.YtjddnchenhnemaaGreatDoor.Le
