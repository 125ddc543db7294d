/-
  Matchers: which may be (Check), in package match.
-/
import Derived.Test.YtnbgigdloehbjaaGreatDoorMbP
import Derived.Test.YtnbgigdloehbjaaGreatDoorRgYc
import Derived.Deep.Fields
import Derived.Deep.RegionHeld3
namespace Go.Proofs.YtnbgigdloehbjaaGreatDoor.Ma
open Go Go.RowKit Go.Proofs.YtnbgigdloehbjaaGreatDoor.Rg
def CheckPost (W : World) (l : List Mr) (e : Ending) (W' : World) : Prop := e = .returned (.int .i64 (errM l)) ∧ Below W.heap.size W W'
set_option maxRecDepth 100000 in
set_option maxHeartbeats 8000000 in
theorem check_calls (v : Value) (l : List Mr) (W : World) (hR : RowM W v l) (hl : l.length ≤ 1000) (hsm : ∀ m ∈ l, m.name.size ≤ 300 ∧ m.value.size ≤ 300) : Calls Tryz.prog 65 #[v] W (CheckPost W l) := by
  obtain ⟨ao, cap, rfl, hc⟩ := hR.val
  have HR := Lib.hid hR; clear hR hc
  have HSm := Lib.hid hsm; clear hsm
  by_cases h32 : 32 < l.length
  · have hfin : errM l = 1 := by rw [errM, if_pos h32]
    have HF := Lib.hid hfin; clear hfin
    go_enter Tryz.func65, Tryz.ntmps65
    go_wp2_with fail
    go_ret
    exact ⟨by rw [HF.out]; rfl, Below.refl _ _⟩
  go_enter Tryz.func65, Tryz.ntmps65
  go_wp2_with fail
  go_loopw [13] (fun i wr => ∃ k : Nat, k ≤ l.length ∧ i = .int .i64 (k : Int) ∧ errL (l.drop k) = errL l ∧ RowM wr (.slice ao l.length cap) l ∧ Below W.heap.size W wr) (fun i _ => l.length - (intOf i).toNat)
  case atStart => exact ⟨0, Nat.zero_le _, rfl, rfl, HR.out, Below.refl _ _⟩
  case round =>
    obtain ⟨k, hk, rfl, herr, hR, hbel⟩ := hrel
    have HErr := Lib.hid herr; clear herr
    have HBel := Lib.hid hbel; clear hbel
    have hwsz := HBel.out.size
    by_cases hkl : k < l.length
    · obtain ⟨_, _, hv, hc⟩ := hR.val
      simp only [Value.slice.injEq, true_and] at hv
      obtain ⟨rfl, rfl⟩ := hv
      obtain ⟨b, o, rfl, hm⟩ := hc (by omega)
      obtain ⟨m, hmk⟩ : ∃ m, l[k]? = some m := ⟨_, List.getElem?_eq_getElem hkl⟩
      obtain ⟨c0, c1, c2⟩ := hm k m hmk
      obtain ⟨hs1, hs2⟩ := HSm.out m (List.mem_of_getElem? hmk)
      have hst := errL_drop hmk
      clear hc hm
      have HRr := Lib.hid hR; clear hR
      have HMk := Lib.hid hmk; clear hmk
      by_cases hk1 : m.kind < 1
      · have hbad : badM m = true := by simp [badM, hk1]
        have hfin : errM l = 1 := by rw [errM, if_neg (by omega), ← HErr.out, hst, if_neg (by rw [err1_bad hbad]; decide), err1_bad hbad]
        have HF := Lib.hid hfin; clear hfin hst hbad
        go_wp2_with fail
        go_ret
        exact ⟨by rw [HF.out]; rfl, HBel.out.alloc HBel.out.size _⟩
      by_cases hk4 : 4 < m.kind
      · have hbad : badM m = true := by simp [badM, hk4]
        have hfin : errM l = 1 := by rw [errM, if_neg (by omega), ← HErr.out, hst, if_neg (by rw [err1_bad hbad]; decide), err1_bad hbad]
        have HF := Lib.hid hfin; clear hfin hst hbad
        go_wp2_with fail
        go_ret
        exact ⟨by rw [HF.out]; rfl, HBel.out.alloc HBel.out.size _⟩
      cases hnm : nameB m.name with
      | false =>
        have hbad : badM m = true := by simp [badM, hnm]
        have hfin : errM l = 1 := by rw [errM, if_neg (by omega), ← HErr.out, hst, if_neg (by rw [err1_bad hbad]; decide), err1_bad hbad]
        have HF := Lib.hid hfin; clear hfin hst hbad
        have HNm := Lib.hid hnm; clear hnm
        go_wp2_with fail
        (with_reducible refine (name_calls m.name (by unfold maxLen; omega) false HNm.out _).mono ?_)
        rintro e W1 ⟨rfl, rfl⟩
        go_wp2_with fail
        go_ret
        exact ⟨by rw [HF.out]; rfl, HBel.out.alloc HBel.out.size _⟩
      | true =>
        by_cases hv2 : 256 < m.value.size
        · have hbad : badM m = true := by simp [badM, hv2]
          have hfin : errM l = 1 := by rw [errM, if_neg (by omega), ← HErr.out, hst, if_neg (by rw [err1_bad hbad]; decide), err1_bad hbad]
          have HF := Lib.hid hfin; clear hfin hst hbad
          have HNm := Lib.hid hnm; clear hnm
          go_wp2_with fail
          (with_reducible refine (name_calls m.name (by unfold maxLen; omega) true HNm.out _).mono ?_)
          rintro e W1 ⟨rfl, rfl⟩
          go_wp2_with fail
          go_ret
          exact ⟨by rw [HF.out]; rfl, HBel.out.alloc HBel.out.size _⟩
        · have hbad : badM m = false := by simp [badM, hnm]; omega
          have HNm := Lib.hid hnm; clear hnm
          have hRa := HRr.out.below ((Below.refl _ _).alloc (Nat.le_refl _) (.cells #[.int .i64 m.kind, .string m.name, .string m.value] 48))
          have HRa := Lib.hid hRa; clear hRa
          by_cases hlk : m.kind = 3 ∨ m.kind = 4
          · have hlike : m.like = true := by simp [Mr.like, hlk]
            have he1 := err1_like hbad hlike
            rw [he1] at hst
            have hkd : (m.kind == 3) = true ∨ ((m.kind == 3) = false ∧ (m.kind == 4) = true) := by
              rcases hlk with h | h
              · left; rw [h]; rfl
              · right; rw [h]; exact ⟨rfl, rfl⟩
            clear hlk he1 hlike hbad
            have hvm : m.value.size ≤ maxLen := by unfold maxLen; omega
            by_cases h0 : errOf m.value = 0
            · rw [if_pos h0] at hst
              have hst' := hst.symm.trans HErr.out
              have HSt := Lib.hid hst'; clear hst' hst
              have H0 := Lib.hid h0; clear h0
              have HVm := Lib.hid hvm; clear hvm
              rcases hkd with t3 | ⟨t3, t4⟩
              all_goals
                go_wp2_with fail
                (with_reducible refine (name_calls m.name (by unfold maxLen; omega) true HNm.out _).mono ?_)
                rintro e W1 ⟨rfl, rfl⟩
                go_wp2_with fail
                (with_reducible refine (comp_good H0.out _ HVm.out).mono ?_)
                rintro e W2 ⟨p, rfl, hmd, hb2⟩
                have HRb := Lib.hid (HRa.out.below hb2)
                have HBb := Lib.hid (after (HBel.out.alloc HBel.out.size _) (Nat.le_refl _) hb2); clear hb2 hmd
                go_wp2_with fail
                go_roundw
                case rel => exact ⟨k + 1, by omega, by go_num, HSt.out, HRb.out, HBb.out⟩
                case measure => (simp [intOf] <;> omega)
            · rw [if_neg h0] at hst
              have hfin : errM l = errOf m.value := by rw [errM, if_neg (by omega), ← HErr.out, hst]
              have HF := Lib.hid hfin; clear hfin hst
              have hne : ((errOf m.value : Int) != 0) = true := by rw [bne_iff_ne]; omega
              have H0 := Lib.hid h0; clear h0
              have HVm := Lib.hid hvm; clear hvm
              rcases hkd with t3 | ⟨t3, t4⟩
              all_goals
                go_wp2_with fail
                (with_reducible refine (name_calls m.name (by unfold maxLen; omega) true HNm.out _).mono ?_)
                rintro e W1 ⟨rfl, rfl⟩
                go_wp2_with fail
                (with_reducible refine (comp_bad (s := m.value) rfl rfl H0.out _ HVm.out).mono ?_)
                rintro e W2 ⟨rfl, hb2⟩
                have HBb := Lib.hid (after (HBel.out.alloc HBel.out.size _) (Nat.le_refl _) hb2); clear hb2
                go_wp2_with fail
                go_ret
                exact ⟨by rw [HF.out]; rfl, HBb.out⟩
          · have hlike : m.like = false := by simp [Mr.like]; omega
            have he1 := err1_plain hbad hlike
            rw [if_pos he1] at hst
            have hst' := hst.symm.trans HErr.out
            have HSt := Lib.hid hst'; clear hst' hst he1 hlike hbad
            have t3 : (m.kind == 3) = false := by rw [beq_eq_false_iff_ne]; omega
            have t4 : (m.kind == 4) = false := by rw [beq_eq_false_iff_ne]; omega
            clear hlk
            go_wp2_with fail
            (with_reducible refine (name_calls m.name (by unfold maxLen; omega) true HNm.out _).mono ?_)
            rintro e W1 ⟨rfl, rfl⟩
            go_wp2_with fail
            go_roundw
            case rel => exact ⟨k + 1, by omega, by go_num, HSt.out, HRa.out, HBel.out.alloc HBel.out.size _⟩
            case measure => (simp [intOf] <;> omega)
    · have hfin : errM l = 0 := by rw [errM, if_neg (by omega), ← HErr.out, List.drop_of_length_le (by omega)]; rfl
      have HF := Lib.hid hfin; clear hfin
      have HRr := Lib.hid hR; clear hR
      go_wp2_with fail
      go_ret
      exact ⟨by rw [HF.out]; rfl, HBel.out⟩
end Go.Proofs.YtnbgigdloehbjaaGreatDoor.Ma
