/-
  Matchers: rows of them in memory; which may be (Check).
  Matchers: which may be, by the document (Check).
  Matchers: their texts.
  Matchers: their texts, by the document; matchers of unlike texts are unlike.
-/
import Derived.Test.YtokcffkffcfolaaMbA
import Derived.Test.YtokcffkffcfolaaRgY
import Derived.Deep.Fields
import Derived.Test.YtokcffkffcfolaaRhG
import Derived.Deep.RegionHeld3
namespace Go.Proofs.Ytokcffkffcfolaa.Ma
open Go Go.RowKit Go.Proofs.Ytokcffkffcfolaa.Rg

structure Mr where
  kind : Int
  name : ByteArray
  value : ByteArray
/-- A row of matchers. -/
structure RowM (W : World) (v : Value) (l : List Mr) : Prop where
  val : ∃ ao cap, v = .slice ao l.length cap ∧ (0 < l.length → ∃ b o, ao = some ⟨b, o, none⟩ ∧ ∀ (i : Nat) (m : Mr), l[i]? = some m →
    W.cell? ⟨b, o + i * 3, none⟩ = some (.int .i64 m.kind) ∧ W.cell? ⟨b, o + i * 3 + 1, none⟩ = some (.string m.name) ∧ W.cell? ⟨b, o + i * 3 + 2, none⟩ = some (.string m.value))
theorem RowM.below {W W1 : World} {v : Value} {l : List Mr} (h : RowM W v l) (hb : Below W.heap.size W W1) : RowM W1 v l := by
  obtain ⟨ao, cap, hv, hc⟩ := h.val
  refine ⟨ao, cap, hv, fun h0 => ?_⟩
  obtain ⟨b, o, ha, hm⟩ := hc h0
  refine ⟨b, o, ha, fun i m hi => ?_⟩
  obtain ⟨h1, h2, h3⟩ := hm i m hi
  exact ⟨by rw [hb.cell (World.block_lt_of_cell? W _ h1)]; exact h1, by rw [hb.cell (World.block_lt_of_cell? W _ h2)]; exact h2, by rw [hb.cell (World.block_lt_of_cell? W _ h3)]; exact h3⟩
def Mr.small (m : Mr) : Bool := decide (m.name.size ≤ 300) && decide (m.value.size ≤ 300)
def fewB (l : List Mr) : Bool := (l.take 41).all Mr.small && decide (l.length ≤ 40)
def badM (m : Mr) : Bool := decide (m.kind < 1) || decide (4 < m.kind) || !nameB m.name || decide (256 < m.value.size)
def Mr.like (m : Mr) : Bool := decide (m.kind = 3) || decide (m.kind = 4)
def err1 (m : Mr) : Nat := if badM m then 1 else if m.like then errOf m.value else 0
def errL : List Mr → Nat
  | [] => 0
  | m :: l => if err1 m = 0 then errL l else err1 m
def errM (l : List Mr) : Nat := if 32 < l.length then 1 else errL l

set_option maxRecDepth 100000 in
set_option maxHeartbeats 4000000 in
theorem few_calls (v : Value) (l : List Mr) (W : World) (hR : RowM W v l) (hl : l.length ≤ maxLen) (x : Bool) (hx : fewB l = x) : Calls Try.prog 22 #[v] W fun e W' => e = .returned (.bool x) ∧ W = W' := by
  unfold maxLen at hl
  obtain ⟨ao, cap, rfl, hc⟩ := hR.val
  have HC := Lib.hid hc; clear hc hR
  have HX := Lib.hid hx; clear hx
  go_enter Try.func22, Try.ntmps22
  go_wp2_with fail
  go_loopw [3] (fun i wr => ∃ k : Nat, k ≤ l.length ∧ k ≤ 41 ∧ i = .int .i64 (k : Int) ∧ (l.take k).all Mr.small = true ∧ wr = W) (fun i _ => 41 - (intOf i).toNat)
  case atStart => exact ⟨0, Nat.zero_le _, by omega, rfl, rfl, rfl⟩
  case round =>
    obtain ⟨k, hk, hk41, rfl, hall, rfl⟩ := hrel
    have HAll := Lib.hid hall; clear hall
    by_cases hkl : k < l.length
    · by_cases hk40 : k ≤ 40
      · obtain ⟨b, o, rfl, hm⟩ := HC.out (by omega)
        obtain ⟨m, hmk⟩ : ∃ m, l[k]? = some m := ⟨_, List.getElem?_eq_getElem hkl⟩
        obtain ⟨c0, c1, c2⟩ := hm k m hmk
        clear hm c0
        have htk : (l.take (k + 1)).all Mr.small = m.small := by
          rw [List.take_add_one, hmk, List.all_append, HAll.out]; simp
        by_cases h1 : m.name.size ≤ 300
        · by_cases h2 : m.value.size ≤ 300
          · have hall' : (l.take (k + 1)).all Mr.small = true := by rw [htk]; simp [Mr.small, h1, h2]
            have HA := Lib.hid hall'; clear hall' htk
            have HMk := Lib.hid hmk; clear hmk
            go_wp2_with fail
            go_roundw
            case rel => exact ⟨k + 1, by omega, by omega, by go_num, HA.out, trivial⟩
            case measure => (simp [intOf] <;> omega)
          · have hfin : x = false := by
              rw [← HX.out, fewB, Bool.and_eq_false_iff]
              left
              rw [List.all_eq_false]
              exact ⟨m, List.mem_of_getElem? (i := k) (by rw [List.getElem?_take_of_lt (by omega)]; exact hmk), by simp [Mr.small, h2]⟩
            have HF := Lib.hid hfin; clear hfin htk
            have HMk := Lib.hid hmk; clear hmk
            go_wp2_with fail
            go_ret
            exact ⟨by rw [HF.out]; rfl, rfl⟩
        · have hfin : x = false := by
            rw [← HX.out, fewB, Bool.and_eq_false_iff]
            left
            rw [List.all_eq_false]
            exact ⟨m, List.mem_of_getElem? (i := k) (by rw [List.getElem?_take_of_lt (by omega)]; exact hmk), by simp [Mr.small, h1]⟩
          have HF := Lib.hid hfin; clear hfin htk
          have HMk := Lib.hid hmk; clear hmk
          go_wp2_with fail
          go_ret
          exact ⟨by rw [HF.out]; rfl, rfl⟩
      · have hk41' : k = 41 := by omega
        subst hk41'
        have hfin : x = decide ((l.length : Int) ≤ 40) := by rw [← HX.out, fewB, HAll.out, Bool.true_and, decide_eq_decide]; omega
        have HF := Lib.hid hfin; clear hfin
        go_wp2_with fail
        go_ret
        exact ⟨by rw [HF.out]; rfl, rfl⟩
    · have hfin : x = decide ((l.length : Int) ≤ 40) := by
        have h1 : l.take 41 = l.take k := by rw [List.take_of_length_le (by omega), List.take_of_length_le (by omega)]
        rw [← HX.out, fewB, h1, HAll.out, Bool.true_and, decide_eq_decide]; omega
      have HF := Lib.hid hfin; clear hfin
      go_wp2_with fail
      go_ret
      exact ⟨by rw [HF.out]; rfl, rfl⟩

def CheckPost (W : World) (l : List Mr) (e : Ending) (W' : World) : Prop := e = .returned (.int .i64 (errM l)) ∧ Below W.heap.size W W'
theorem errL_drop {l : List Mr} {k : Nat} {m : Mr} (h : l[k]? = some m) : errL (l.drop k) = if err1 m = 0 then errL (l.drop (k + 1)) else err1 m := by
  obtain ⟨hlt, rfl⟩ := List.getElem?_eq_some_iff.1 h
  rw [List.drop_eq_getElem_cons hlt, errL]
theorem err1_bad {m : Mr} (h : badM m = true) : err1 m = 1 := by rw [err1, if_pos h]
theorem err1_plain {m : Mr} (h : badM m = false) (hl : m.like = false) : err1 m = 0 := by rw [err1, h, hl]; rfl
theorem err1_like {m : Mr} (h : badM m = false) (hl : m.like = true) : err1 m = errOf m.value := by rw [err1, h, hl]; rfl
set_option maxRecDepth 100000 in
set_option maxHeartbeats 8000000 in
theorem check_calls (v : Value) (l : List Mr) (W : World) (hR : RowM W v l) (hl : l.length ≤ 1000) (hsm : ∀ m ∈ l, m.name.size ≤ 300 ∧ m.value.size ≤ 300) : Calls Try.prog 40 #[v] W (CheckPost W l) := by
  obtain ⟨ao, cap, rfl, hc⟩ := hR.val
  have HR := Lib.hid hR; clear hR hc
  have HSm := Lib.hid hsm; clear hsm
  by_cases h32 : 32 < l.length
  · have hfin : errM l = 1 := by rw [errM, if_pos h32]
    have HF := Lib.hid hfin; clear hfin
    go_enter Try.func40, Try.ntmps40
    go_wp2_with fail
    go_ret
    exact ⟨by rw [HF.out]; rfl, Below.refl _ _⟩
  go_enter Try.func40, Try.ntmps40
  go_wp2_with fail
  go_loopw [13] (fun i wr => ∃ k : Nat, k ≤ l.length ∧ i = .int .i64 (k : Int) ∧ errL (l.drop k) = errL l ∧ RowM wr (.slice ao l.length cap) l ∧ Below W.heap.size W wr) (fun i _ => l.length - (intOf i).toNat)
  case atStart => exact ⟨0, Nat.zero_le _, rfl, rfl, HR.out, Below.refl _ _⟩
  case round =>
    obtain ⟨k, hk, rfl, herr, hR, hbel⟩ := hrel
    have HErr := Lib.hid herr; clear herr
    have HBel := Lib.hid hbel; clear hbel
    have hwsz := HBel.out.size
    by_cases hkl : k < l.length
    · obtain ⟨_, _, hv, hc⟩ := hR.val
      simp only [Value.slice.injEq, true_and] at hv
      obtain ⟨rfl, rfl⟩ := hv
      obtain ⟨b, o, rfl, hm⟩ := hc (by omega)
      obtain ⟨m, hmk⟩ : ∃ m, l[k]? = some m := ⟨_, List.getElem?_eq_getElem hkl⟩
      obtain ⟨c0, c1, c2⟩ := hm k m hmk
      obtain ⟨hs1, hs2⟩ := HSm.out m (List.mem_of_getElem? hmk)
      have hst := errL_drop hmk
      clear hc hm
      have HRr := Lib.hid hR; clear hR
      have HMk := Lib.hid hmk; clear hmk
      by_cases hk1 : m.kind < 1
      · have hbad : badM m = true := by simp [badM, hk1]
        have hfin : errM l = 1 := by rw [errM, if_neg (by omega), ← HErr.out, hst, if_neg (by rw [err1_bad hbad]; decide), err1_bad hbad]
        have HF := Lib.hid hfin; clear hfin hst hbad
        go_wp2_with fail
        go_ret
        exact ⟨by rw [HF.out]; rfl, HBel.out.alloc HBel.out.size _⟩
      by_cases hk4 : 4 < m.kind
      · have hbad : badM m = true := by simp [badM, hk4]
        have hfin : errM l = 1 := by rw [errM, if_neg (by omega), ← HErr.out, hst, if_neg (by rw [err1_bad hbad]; decide), err1_bad hbad]
        have HF := Lib.hid hfin; clear hfin hst hbad
        go_wp2_with fail
        go_ret
        exact ⟨by rw [HF.out]; rfl, HBel.out.alloc HBel.out.size _⟩
      cases hnm : nameB m.name with
      | false =>
        have hbad : badM m = true := by simp [badM, hnm]
        have hfin : errM l = 1 := by rw [errM, if_neg (by omega), ← HErr.out, hst, if_neg (by rw [err1_bad hbad]; decide), err1_bad hbad]
        have HF := Lib.hid hfin; clear hfin hst hbad
        have HNm := Lib.hid hnm; clear hnm
        go_wp2_with fail
        (with_reducible refine (name_calls m.name (by unfold maxLen; omega) false HNm.out _).mono ?_)
        rintro e W1 ⟨rfl, rfl⟩
        go_wp2_with fail
        go_ret
        exact ⟨by rw [HF.out]; rfl, HBel.out.alloc HBel.out.size _⟩
      | true =>
        by_cases hv2 : 256 < m.value.size
        · have hbad : badM m = true := by simp [badM, hv2]
          have hfin : errM l = 1 := by rw [errM, if_neg (by omega), ← HErr.out, hst, if_neg (by rw [err1_bad hbad]; decide), err1_bad hbad]
          have HF := Lib.hid hfin; clear hfin hst hbad
          have HNm := Lib.hid hnm; clear hnm
          go_wp2_with fail
          (with_reducible refine (name_calls m.name (by unfold maxLen; omega) true HNm.out _).mono ?_)
          rintro e W1 ⟨rfl, rfl⟩
          go_wp2_with fail
          go_ret
          exact ⟨by rw [HF.out]; rfl, HBel.out.alloc HBel.out.size _⟩
        · have hbad : badM m = false := by simp [badM, hnm]; omega
          have HNm := Lib.hid hnm; clear hnm
          have hRa := HRr.out.below ((Below.refl _ _).alloc (Nat.le_refl _) (.cells #[.int .i64 m.kind, .string m.name, .string m.value] 48))
          have HRa := Lib.hid hRa; clear hRa
          by_cases hlk : m.kind = 3 ∨ m.kind = 4
          · have hlike : m.like = true := by simp [Mr.like, hlk]
            have he1 := err1_like hbad hlike
            rw [he1] at hst
            have hkd : (m.kind == 3) = true ∨ ((m.kind == 3) = false ∧ (m.kind == 4) = true) := by
              rcases hlk with h | h
              · left; rw [h]; rfl
              · right; rw [h]; exact ⟨rfl, rfl⟩
            clear hlk he1 hlike hbad
            have hvm : m.value.size ≤ maxLen := by unfold maxLen; omega
            by_cases h0 : errOf m.value = 0
            · rw [if_pos h0] at hst
              have hst' := hst.symm.trans HErr.out
              have HSt := Lib.hid hst'; clear hst' hst
              have H0 := Lib.hid h0; clear h0
              have HVm := Lib.hid hvm; clear hvm
              rcases hkd with t3 | ⟨t3, t4⟩
              all_goals
                go_wp2_with fail
                (with_reducible refine (name_calls m.name (by unfold maxLen; omega) true HNm.out _).mono ?_)
                rintro e W1 ⟨rfl, rfl⟩
                go_wp2_with fail
                (with_reducible refine (comp_good H0.out _ HVm.out).mono ?_)
                rintro e W2 ⟨p, rfl, hmd, hb2⟩
                have HRb := Lib.hid (HRa.out.below hb2)
                have HBb := Lib.hid (after (HBel.out.alloc HBel.out.size _) (Nat.le_refl _) hb2); clear hb2 hmd
                go_wp2_with fail
                go_roundw
                case rel => exact ⟨k + 1, by omega, by go_num, HSt.out, HRb.out, HBb.out⟩
                case measure => (simp [intOf] <;> omega)
            · rw [if_neg h0] at hst
              have hfin : errM l = errOf m.value := by rw [errM, if_neg (by omega), ← HErr.out, hst]
              have HF := Lib.hid hfin; clear hfin hst
              have hne : ((errOf m.value : Int) != 0) = true := by rw [bne_iff_ne]; omega
              have H0 := Lib.hid h0; clear h0
              have HVm := Lib.hid hvm; clear hvm
              rcases hkd with t3 | ⟨t3, t4⟩
              all_goals
                go_wp2_with fail
                (with_reducible refine (name_calls m.name (by unfold maxLen; omega) true HNm.out _).mono ?_)
                rintro e W1 ⟨rfl, rfl⟩
                go_wp2_with fail
                (with_reducible refine (comp_bad (s := m.value) rfl rfl H0.out _ HVm.out).mono ?_)
                rintro e W2 ⟨rfl, hb2⟩
                have HBb := Lib.hid (after (HBel.out.alloc HBel.out.size _) (Nat.le_refl _) hb2); clear hb2
                go_wp2_with fail
                go_ret
                exact ⟨by rw [HF.out]; rfl, HBb.out⟩
          · have hlike : m.like = false := by simp [Mr.like]; omega
            have he1 := err1_plain hbad hlike
            rw [if_pos he1] at hst
            have hst' := hst.symm.trans HErr.out
            have HSt := Lib.hid hst'; clear hst' hst he1 hlike hbad
            have t3 : (m.kind == 3) = false := by rw [beq_eq_false_iff_ne]; omega
            have t4 : (m.kind == 4) = false := by rw [beq_eq_false_iff_ne]; omega
            clear hlk
            go_wp2_with fail
            (with_reducible refine (name_calls m.name (by unfold maxLen; omega) true HNm.out _).mono ?_)
            rintro e W1 ⟨rfl, rfl⟩
            go_wp2_with fail
            go_roundw
            case rel => exact ⟨k + 1, by omega, by go_num, HSt.out, HRa.out, HBel.out.alloc HBel.out.size _⟩
            case measure => (simp [intOf] <;> omega)
    · have hfin : errM l = 0 := by rw [errM, if_neg (by omega), ← HErr.out, List.drop_of_length_le (by omega)]; rfl
      have HF := Lib.hid hfin; clear hfin
      have HRr := Lib.hid hR; clear hR
      go_wp2_with fail
      go_ret
      exact ⟨by rw [HF.out]; rfl, HBel.out⟩
end Go.Proofs.Ytokcffkffcfolaa.Ma
namespace Go.Proofs.Ytokcffkffcfolaa.Ma
open Go Go.RowKit Go.Proofs.Ytokcffkffcfolaa.Rg

set_option maxRecDepth 100000 in
set_option maxHeartbeats 8000000 in
theorem rcheck_calls (v : Value) (l : List Mr) (W : World) (hR : RowM W v l) (hl : l.length ≤ 1000) (hsm : ∀ m ∈ l, m.name.size ≤ 300 ∧ m.value.size ≤ 300) : Calls Try.prog 25 #[v] W (CheckPost W l) := by
  obtain ⟨ao, cap, rfl, hc⟩ := hR.val
  have HR := Lib.hid hR; clear hR hc
  have HSm := Lib.hid hsm; clear hsm
  by_cases h32 : 32 < l.length
  · have hfin : errM l = 1 := by rw [errM, if_pos h32]
    have HF := Lib.hid hfin; clear hfin
    go_enter Try.func25, Try.ntmps25
    go_wp2_with fail
    go_ret
    exact ⟨by rw [HF.out]; rfl, Below.refl _ _⟩
  go_enter Try.func25, Try.ntmps25
  go_wp2_with fail
  go_loopw [3] (fun i wr => ∃ k : Nat, k ≤ l.length ∧ i = .int .i64 (k : Int) ∧ errL (l.drop k) = errL l ∧ RowM wr (.slice ao l.length cap) l ∧ Below W.heap.size W wr) (fun i _ => l.length - (intOf i).toNat)
  case atStart => exact ⟨0, Nat.zero_le _, rfl, rfl, HR.out, Below.refl _ _⟩
  case round =>
    obtain ⟨k, hk, rfl, herr, hR, hbel⟩ := hrel
    have HErr := Lib.hid herr; clear herr
    have HBel := Lib.hid hbel; clear hbel
    have hwsz := HBel.out.size
    by_cases hkl : k < l.length
    · obtain ⟨_, _, hv, hc⟩ := hR.val
      simp only [Value.slice.injEq, true_and] at hv
      obtain ⟨rfl, rfl⟩ := hv
      obtain ⟨b, o, rfl, hm⟩ := hc (by omega)
      obtain ⟨m, hmk⟩ : ∃ m, l[k]? = some m := ⟨_, List.getElem?_eq_getElem hkl⟩
      obtain ⟨c0, c1, c2⟩ := hm k m hmk
      obtain ⟨hs1, hs2⟩ := HSm.out m (List.mem_of_getElem? hmk)
      have hst := errL_drop hmk
      clear hc hm
      have HRr := Lib.hid hR; clear hR
      have HMk := Lib.hid hmk; clear hmk
      by_cases hk1 : m.kind < 1
      · have hbad : badM m = true := by simp [badM, hk1]
        have hfin : errM l = 1 := by rw [errM, if_neg (by omega), ← HErr.out, hst, if_neg (by rw [err1_bad hbad]; decide), err1_bad hbad]
        have HF := Lib.hid hfin; clear hfin hst hbad
        go_wp2_with fail
        go_ret
        exact ⟨by rw [HF.out]; rfl, HBel.out.alloc HBel.out.size _⟩
      by_cases hk4 : 4 < m.kind
      · have hbad : badM m = true := by simp [badM, hk4]
        have hfin : errM l = 1 := by rw [errM, if_neg (by omega), ← HErr.out, hst, if_neg (by rw [err1_bad hbad]; decide), err1_bad hbad]
        have HF := Lib.hid hfin; clear hfin hst hbad
        go_wp2_with fail
        go_ret
        exact ⟨by rw [HF.out]; rfl, HBel.out.alloc HBel.out.size _⟩
      cases hnm : nameB m.name with
      | false =>
        have hbad : badM m = true := by simp [badM, hnm]
        have hfin : errM l = 1 := by rw [errM, if_neg (by omega), ← HErr.out, hst, if_neg (by rw [err1_bad hbad]; decide), err1_bad hbad]
        have HF := Lib.hid hfin; clear hfin hst hbad
        have HNm := Lib.hid hnm; clear hnm
        go_wp2_with fail
        (with_reducible refine (rname_calls m.name (by unfold maxLen; omega) false HNm.out _).mono ?_)
        rintro e W1 ⟨rfl, rfl⟩
        go_wp2_with fail
        go_ret
        exact ⟨by rw [HF.out]; rfl, HBel.out.alloc HBel.out.size _⟩
      | true =>
        by_cases hv2 : 256 < m.value.size
        · have hbad : badM m = true := by simp [badM, hv2]
          have hfin : errM l = 1 := by rw [errM, if_neg (by omega), ← HErr.out, hst, if_neg (by rw [err1_bad hbad]; decide), err1_bad hbad]
          have HF := Lib.hid hfin; clear hfin hst hbad
          have HNm := Lib.hid hnm; clear hnm
          go_wp2_with fail
          (with_reducible refine (rname_calls m.name (by unfold maxLen; omega) true HNm.out _).mono ?_)
          rintro e W1 ⟨rfl, rfl⟩
          go_wp2_with fail
          go_ret
          exact ⟨by rw [HF.out]; rfl, HBel.out.alloc HBel.out.size _⟩
        · have hbad : badM m = false := by simp [badM, hnm]; omega
          have HNm := Lib.hid hnm; clear hnm
          have hRa := HRr.out.below ((Below.refl _ _).alloc (Nat.le_refl _) (.cells #[.int .i64 m.kind, .string m.name, .string m.value] 48))
          have HRa := Lib.hid hRa; clear hRa
          by_cases hlk : 3 ≤ m.kind
          · have hlike : m.like = true := by simp [Mr.like]; omega
            have he1 := err1_like hbad hlike
            rw [he1] at hst
            clear he1 hlike hbad
            have hv16 : m.value.size ≤ 16384 := by omega
            by_cases h0 : errOf m.value = 0
            · rw [if_pos h0] at hst
              have hst' := hst.symm.trans HErr.out
              have HSt := Lib.hid hst'; clear hst' hst
              have H0 := Lib.hid h0; clear h0
              have HV := Lib.hid hv16; clear hv16
              go_wp2_with fail
              (with_reducible refine (rname_calls m.name (by unfold maxLen; omega) true HNm.out _).mono ?_)
              rintro e W1 ⟨rfl, rfl⟩
              go_wp2_with fail
              (with_reducible refine (Rh.rcompile_calls m.value HV.out _).mono ?_)
              rintro q W3 ⟨cs, rfl, hnv, hb2⟩
              have HRb := Lib.hid ((HRa.out.below hb2).below ((Below.refl _ _).alloc (Nat.le_refl _) (.cells cs.toArray 38)))
              have hbb := after (HBel.out.alloc HBel.out.size _) (Nat.le_refl _) hb2
              have HBb := Lib.hid (hbb.alloc hbb.size (.cells cs.toArray 38)); clear hb2 hbb
              have hz := Rh.zeroNode
              have hlen := hnv.len
              have hst := Rh.storeNode_new W3 W3.heap.size rfl (Rh.ncl_length 0 Rh.nilS Rh.none256) hnv.len hnv.one
              rw [H0.out]
              clear hnv
              go_wp2_with fail
              clear hz hst
              go_roundw
              case rel => exact ⟨k + 1, by omega, by go_num, HSt.out, HRb.out, HBb.out⟩
              case measure => (simp [intOf] <;> omega)
            · rw [if_neg h0] at hst
              have hfin : errM l = errOf m.value := by rw [errM, if_neg (by omega), ← HErr.out, hst]
              have HF := Lib.hid hfin; clear hfin hst
              have hne : ((errOf m.value : Int) != 0) = true := by rw [bne_iff_ne]; omega
              have H0 := Lib.hid h0; clear h0
              have HV := Lib.hid hv16; clear hv16
              go_wp2_with fail
              (with_reducible refine (rname_calls m.name (by unfold maxLen; omega) true HNm.out _).mono ?_)
              rintro e W1 ⟨rfl, rfl⟩
              go_wp2_with fail
              (with_reducible refine (Rh.rcompile_calls m.value HV.out _).mono ?_)
              rintro q W3 ⟨cs, rfl, hnv, hb2⟩
              have hbb := after (HBel.out.alloc HBel.out.size _) (Nat.le_refl _) hb2
              have HBb := Lib.hid (hbb.alloc hbb.size (.cells cs.toArray 38)); clear hb2 hbb
              have hz := Rh.zeroNode
              have hlen := hnv.len
              have hst := Rh.storeNode_new W3 W3.heap.size rfl (Rh.ncl_length 0 Rh.nilS Rh.none256) hnv.len hnv.one
              clear hnv
              go_wp2_with fail
              go_ret
              exact ⟨by rw [HF.out]; rfl, HBb.out⟩
          · have hlike : m.like = false := by simp [Mr.like]; omega
            have he1 := err1_plain hbad hlike
            rw [if_pos he1] at hst
            have hst' := hst.symm.trans HErr.out
            have HSt := Lib.hid hst'; clear hst' hst he1 hlike hbad
            go_wp2_with fail
            (with_reducible refine (rname_calls m.name (by unfold maxLen; omega) true HNm.out _).mono ?_)
            rintro e W1 ⟨rfl, rfl⟩
            go_wp2_with fail
            go_roundw
            case rel => exact ⟨k + 1, by omega, by go_num, HSt.out, HRa.out, HBel.out.alloc HBel.out.size _⟩
            case measure => (simp [intOf] <;> omega)
    · have hfin : errM l = 0 := by rw [errM, if_neg (by omega), ← HErr.out, List.drop_of_length_le (by omega)]; rfl
      have HF := Lib.hid hfin; clear hfin
      have HRr := Lib.hid hR; clear hR
      go_wp2_with fail
      go_ret
      exact ⟨by rw [HF.out]; rfl, HBel.out⟩
end Go.Proofs.Ytokcffkffcfolaa.Ma
namespace Go.Proofs.Ytokcffkffcfolaa.Ma
open Go Go.RowKit Go.Proofs.Ytokcffkffcfolaa.Rg

def opOf (k : Int) : ByteArray := if k = 1 then ⟨#[61]⟩ else if k = 2 then ⟨#[33, 61]⟩ else if k = 3 then ⟨#[61, 126]⟩ else ⟨#[33, 126]⟩
def textM (m : Mr) : ByteArray := if 1 ≤ m.kind ∧ m.kind ≤ 4 then m.name ++ opOf m.kind ++ quoteS m.value else ⟨#[]⟩
def Mr.agg (m : Mr) : Value := .agg #[.int .i64 m.kind, .string m.name, .string m.value]
def opsCells : Array Value := #[.string ⟨#[61]⟩, .string ⟨#[33, 61]⟩, .string ⟨#[61, 126]⟩, .string ⟨#[33, 126]⟩]
theorem kept_new {w w1 : World} {cs : Array Value} {t : TypeId} {B : Nat} (hb : Below B ((w.alloc (.cells cs t)).drew) w1) (hB : w.heap.size < B) (i : Nat) : w1.cell? ⟨w.heap.size, i, none⟩ = cs[i]? := by
  have h1 : ((w.alloc (.cells cs t)).drew).cell? ⟨w.heap.size, i, none⟩ = cs[i]? := blk_cell (blk_new w (.cells cs t)) i
  rw [hb.cell hB, h1]
theorem box_keep {w w1 : World} {g : Nat} {v0 v1 v2 : Value} (h : w.cell? ⟨g, 0, none⟩ = some v0 ∧ w.cell? ⟨g, 1, none⟩ = some v1 ∧ w.cell? ⟨g, 2, none⟩ = some v2) (hb : Below w.heap.size w w1) :
    w1.cell? ⟨g, 0, none⟩ = some v0 ∧ w1.cell? ⟨g, 1, none⟩ = some v1 ∧ w1.cell? ⟨g, 2, none⟩ = some v2 := by
  have hl := World.block_lt_of_cell? w _ h.1
  exact ⟨(hb.cell (p := ⟨g, 0, none⟩) hl).trans h.1, (hb.cell (p := ⟨g, 1, none⟩) hl).trans h.2.1, (hb.cell (p := ⟨g, 2, none⟩) hl).trans h.2.2⟩
theorem quoteS_size (s : ByteArray) : (quoteS s).size ≤ 4 * s.size + 2 := by
  have h := quoteL_length s.data.toList
  have h2 : s.data.toList.length = s.size := Array.length_toList
  show (34 :: quoteL s.data.toList ++ [34]).toArray.size ≤ _
  simp
  omega
def TextPost (W : World) (m : Mr) (e : Ending) (W' : World) : Prop := e = .returned (.string (textM m)) ∧ Below W.heap.size W W'
set_option maxRecDepth 100000 in
set_option maxHeartbeats 4000000 in
theorem text_calls (m : Mr) (hs : m.name.size ≤ 300 ∧ m.value.size ≤ 300) (W : World) : Calls Try.prog 23 #[.agg #[.int .i64 m.kind, .string m.name, .string m.value]] W (TextPost W m) := by
  obtain ⟨hs1, hs2⟩ := hs
  have hbel := (Below.refl W.heap.size W).alloc (Nat.le_refl _) (.cells #[.int .i64 m.kind, .string m.name, .string m.value] 48)
  have HBel := Lib.hid hbel; clear hbel
  by_cases hk1 : m.kind < 1
  · have hf : textM m = ⟨#[]⟩ := by rw [textM, if_neg (by omega)]
    have HF := Lib.hid hf; clear hf
    go_enter Try.func23, Try.ntmps23
    go_wp2_with fail
    go_ret
    exact ⟨by rw [HF.out]; rfl, HBel.out⟩
  by_cases hk4 : 4 < m.kind
  · have hf : textM m = ⟨#[]⟩ := by rw [textM, if_neg (by omega)]
    have HF := Lib.hid hf; clear hf
    go_enter Try.func23, Try.ntmps23
    go_wp2_with fail
    go_ret
    exact ⟨by rw [HF.out]; rfl, HBel.out⟩
  have hf : textM m = m.name ++ opOf m.kind ++ quoteS m.value := by rw [textM, if_pos (by omega)]
  have HF := Lib.hid hf; clear hf
  have hk : m.kind = 1 ∨ m.kind = 2 ∨ m.kind = 3 ∨ m.kind = 4 := by omega
  clear hk1 hk4
  have hqs := quoteS_size m.value
  obtain ⟨k, nm, vl⟩ := m
  dsimp only at *
  rcases hk with rfl | rfl | rfl | rfl
  · have hw : IntKind.i64.wrap 0 = 0 := by decide
    have hq1 : ¬ 9223372036854775807 < nm.size + 1 := by omega
    have hq2 : ¬ 9223372036854775807 < nm.size + 1 + (quoteS vl).size := by omega
    have hfin : nm ++ opOf 1 ++ quoteS vl = nm ++ ⟨#[61]⟩ ++ quoteS vl := rfl
    rw [hfin] at HF
    clear hfin
    go_enter Try.func23, Try.ntmps23
    go_wp2_with fail
    refine wp_region_held_drew (S := fun w' => w'.cell? ⟨W.heap.size, 0, none⟩ = some (.int .i64 1) ∧ w'.cell? ⟨W.heap.size, 1, none⟩ = some (.string nm) ∧ w'.cell? ⟨W.heap.size, 2, none⟩ = some (.string vl)) (by kernel_rfl) ⟨blk_cell (blk_new W _) 0, blk_cell (blk_new W _) 1, blk_cell (blk_new W _) 2⟩ (fun hS => ?_)
    refine wpAnyH_take (i := 0) (v := .pointer (some ⟨W.heap.size, 1, none⟩)) rfl (by kernel_rfl) (by kernel_rfl) (by kernel_rfl) (fun _ _ _ h => h) (Or.inl ⟨by rfl, fun w hSw => by obtain ⟨hw0, hw1, hw2⟩ := hSw; clear hS; go_simp⟩) hS ?_
    simp only [Act.put, List.getElem_toArray, List.getElem_cons_zero, List.setIfInBounds_toArray, List.set_cons_zero, List.set_cons_succ]
    refine wpAnyH_take (i := 1) (v := .string nm) rfl (by kernel_rfl) (by kernel_rfl) (by kernel_rfl) (fun _ _ _ h => h) (Or.inl ⟨by rfl, fun w hSw => by obtain ⟨hw0, hw1, hw2⟩ := hSw; clear hS; go_simp⟩) hS ?_
    simp only [Act.put, List.getElem_toArray, List.getElem_cons_zero, List.getElem_cons_succ, List.setIfInBounds_toArray, List.set_cons_zero, List.set_cons_succ]
    refine wpAnyH_take (i := 3) (v := .pointer (some ⟨W.heap.size, 0, none⟩)) rfl (by kernel_rfl) (by kernel_rfl) (by kernel_rfl) (fun _ _ _ h => h) (Or.inl ⟨by rfl, fun w hSw => by obtain ⟨hw0, hw1, hw2⟩ := hSw; clear hS; go_simp⟩) hS ?_
    simp only [Act.put, List.getElem_toArray, List.getElem_cons_zero, List.getElem_cons_succ, List.setIfInBounds_toArray, List.set_cons_zero, List.set_cons_succ]
    refine wpAnyH_take (i := 4) (v := .int .i64 1) rfl (by kernel_rfl) (by kernel_rfl) (by kernel_rfl) (fun _ _ _ h => h) (Or.inl ⟨by rfl, fun w hSw => by obtain ⟨hw0, hw1, hw2⟩ := hSw; clear hS; go_simp⟩) hS ?_
    simp only [Act.put, List.getElem_toArray, List.getElem_cons_zero, List.getElem_cons_succ, List.setIfInBounds_toArray, List.set_cons_zero, List.set_cons_succ]
    refine wpAnyH_take (i := 5) (v := .int .i64 0) rfl (by kernel_rfl) (by kernel_rfl) (by kernel_rfl) (fun _ _ _ h => h) (Or.inl ⟨by rfl, fun w hSw => by obtain ⟨hw0, hw1, hw2⟩ := hSw; clear hS; go_simp⟩) hS ?_
    simp only [Act.put, List.getElem_toArray, List.getElem_cons_zero, List.getElem_cons_succ, List.setIfInBounds_toArray, List.set_cons_zero, List.set_cons_succ]
    refine wpAnyH_take (i := 9) (v := .pointer (some ⟨W.heap.size, 2, none⟩)) rfl (by kernel_rfl) (by kernel_rfl) (by kernel_rfl) (fun _ _ _ h => h) (Or.inl ⟨by rfl, fun w hSw => by obtain ⟨hw0, hw1, hw2⟩ := hSw; clear hS; go_simp⟩) hS ?_
    simp only [Act.put, List.getElem_toArray, List.getElem_cons_zero, List.getElem_cons_succ, List.setIfInBounds_toArray, List.set_cons_zero, List.set_cons_succ]
    refine wpAnyH_take (i := 10) (v := .string vl) rfl (by kernel_rfl) (by kernel_rfl) (by kernel_rfl) (fun _ _ _ h => h) (Or.inl ⟨by rfl, fun w hSw => by obtain ⟨hw0, hw1, hw2⟩ := hSw; clear hS; go_simp⟩) hS ?_
    simp only [Act.put, List.getElem_toArray, List.getElem_cons_zero, List.getElem_cons_succ, List.setIfInBounds_toArray, List.set_cons_zero, List.set_cons_succ]
    refine wpAnyH_ready (rs := [2, 11]) (by kernel_rfl) (by simp) (AllReadyH.cons rfl (fun K hK => ?_) (AllReadyH.cons rfl (fun K hK => ?_) AllReadyH.nil))
    · rw [if_pos (by rfl)]
      go_simp
      refine hK _ _ (box_keep hS ((Below.refl _ _).alloc (Nat.le_refl _) _)) (fun hS => ?_)
      try simp only [Act.put, List.getElem_toArray, List.getElem_cons_zero, List.getElem_cons_succ, List.setIfInBounds_toArray, List.set_cons_zero, List.set_cons_succ]
      refine wpAnyH_take (i := 6) (v := .pointer (some ⟨W.heap.size + 1, 0, none⟩)) rfl (by kernel_rfl) (by kernel_rfl) (by kernel_rfl) (fun _ _ _ h => h) (Or.inl ⟨by rfl, fun w hSw => by obtain ⟨hw0, hw1, hw2⟩ := hSw; clear hS; go_simp⟩) hS ?_
      simp only [Act.put, List.getElem_toArray, List.getElem_cons_zero, List.getElem_cons_succ, List.setIfInBounds_toArray, List.set_cons_zero, List.set_cons_succ]
      refine wpAnyH_ready (rs := [7, 11]) (by kernel_rfl) (by simp) (AllReadyH.cons rfl (fun K hK => ?_) (AllReadyH.cons rfl (fun K hK => ?_) AllReadyH.nil))
      · rw [if_pos (by rfl)]
        go_simp
        refine hK _ _ hS (fun hS => ?_)
        try simp only [Act.put, List.getElem_toArray, List.getElem_cons_zero, List.getElem_cons_succ, List.setIfInBounds_toArray, List.set_cons_zero, List.set_cons_succ]
        refine wpAnyH_take (i := 8) (v := .string (nm ++ ⟨#[61]⟩)) rfl (by kernel_rfl) (by kernel_rfl) (by kernel_rfl) (fun _ _ _ h => h) (Or.inl ⟨by rfl, fun w hSw => by obtain ⟨hw0, hw1, hw2⟩ := hSw; clear hS; go_simp⟩) hS ?_
        simp only [Act.put, List.getElem_toArray, List.getElem_cons_zero, List.getElem_cons_succ, List.setIfInBounds_toArray, List.set_cons_zero, List.set_cons_succ]
        refine wpAnyH_ready (rs := [11]) (by kernel_rfl) (by simp) (AllReadyH.cons rfl (fun K hK => ?_) AllReadyH.nil)
        rw [if_pos (by rfl)]
        go_simp
        go_at_call 41
        refine (quote_calls vl (by omega) _).mono ?_
        rintro e w1 ⟨rfl, hb1⟩
        refine hK _ _ (box_keep hS hb1) (fun hS => ?_)
        clear hK K
        try simp only [Act.put, List.getElem_toArray, List.getElem_cons_zero, List.getElem_cons_succ, List.setIfInBounds_toArray, List.set_cons_zero, List.set_cons_succ]
        refine wpAnyH_take (i := 12) (v := .string (nm ++ ⟨#[61]⟩ ++ quoteS vl)) rfl (by kernel_rfl) (by kernel_rfl) (by kernel_rfl) (fun _ _ _ h => h) (Or.inl ⟨by rfl, fun w hSw => by obtain ⟨hw0, hw1, hw2⟩ := hSw; clear hS; go_simp⟩) hS ?_
        simp only [Act.put, List.getElem_toArray, List.getElem_cons_zero, List.getElem_cons_succ, List.setIfInBounds_toArray, List.set_cons_zero, List.set_cons_succ]
        refine wpAnyH_take (i := 13) (v := .string (nm ++ ⟨#[61]⟩ ++ quoteS vl)) rfl (by kernel_rfl) (by kernel_rfl) (by kernel_rfl) (fun _ _ _ h => h) (Or.inl ⟨by rfl, fun w hSw => by obtain ⟨hw0, hw1, hw2⟩ := hSw; clear hS; go_simp⟩) hS ?_
        simp only [Act.put, List.getElem_toArray, List.getElem_cons_zero, List.getElem_cons_succ, List.setIfInBounds_toArray, List.set_cons_zero, List.set_cons_succ]
        refine wpAnyH_done (by kernel_rfl) ?_ _
        clear hS
        go_wp2_with fail
        go_ret
        refine ⟨by rw [HF.out]; rfl, ?_⟩
        first
          | exact after ((HBel.out.alloc HBel.out.size _).drew) (Nat.le_refl _) hb1
          | exact (after HBel.out.drew (Nat.le_refl _) hb1).alloc (after HBel.out.drew (Nat.le_refl _) hb1).size _
      · rw [if_pos (by rfl)]
        go_simp
        go_at_call 41
        refine (quote_calls vl (by omega) _).mono ?_
        rintro e w1 ⟨rfl, hb1⟩
        refine hK _ _ (box_keep hS hb1) (fun hS => ?_)
        clear hK K
        try simp only [Act.put, List.getElem_toArray, List.getElem_cons_zero, List.getElem_cons_succ, List.setIfInBounds_toArray, List.set_cons_zero, List.set_cons_succ]
        have hx : w1.cell? ⟨W.heap.size + 1, 0, none⟩ = some (.string ⟨#[61]⟩) := (by have := kept_new hb1 (by simp) 0; simpa using this)
        refine wpAnyH_ready (rs := [7]) (by kernel_rfl) (by simp) (AllReadyH.cons rfl (fun K hK => ?_) AllReadyH.nil)
        rw [if_pos (by rfl)]
        go_simp
        refine hK _ _ hS (fun hS => ?_)
        try simp only [Act.put, List.getElem_toArray, List.getElem_cons_zero, List.getElem_cons_succ, List.setIfInBounds_toArray, List.set_cons_zero, List.set_cons_succ]
        refine wpAnyH_take (i := 8) (v := .string (nm ++ ⟨#[61]⟩)) rfl (by kernel_rfl) (by kernel_rfl) (by kernel_rfl) (fun _ _ _ h => h) (Or.inl ⟨by rfl, fun w hSw => by obtain ⟨hw0, hw1, hw2⟩ := hSw; clear hS; go_simp⟩) hS ?_
        simp only [Act.put, List.getElem_toArray, List.getElem_cons_zero, List.getElem_cons_succ, List.setIfInBounds_toArray, List.set_cons_zero, List.set_cons_succ]
        refine wpAnyH_take (i := 12) (v := .string (nm ++ ⟨#[61]⟩ ++ quoteS vl)) rfl (by kernel_rfl) (by kernel_rfl) (by kernel_rfl) (fun _ _ _ h => h) (Or.inl ⟨by rfl, fun w hSw => by obtain ⟨hw0, hw1, hw2⟩ := hSw; clear hS; go_simp⟩) hS ?_
        simp only [Act.put, List.getElem_toArray, List.getElem_cons_zero, List.getElem_cons_succ, List.setIfInBounds_toArray, List.set_cons_zero, List.set_cons_succ]
        refine wpAnyH_take (i := 13) (v := .string (nm ++ ⟨#[61]⟩ ++ quoteS vl)) rfl (by kernel_rfl) (by kernel_rfl) (by kernel_rfl) (fun _ _ _ h => h) (Or.inl ⟨by rfl, fun w hSw => by obtain ⟨hw0, hw1, hw2⟩ := hSw; clear hS; go_simp⟩) hS ?_
        simp only [Act.put, List.getElem_toArray, List.getElem_cons_zero, List.getElem_cons_succ, List.setIfInBounds_toArray, List.set_cons_zero, List.set_cons_succ]
        refine wpAnyH_done (by kernel_rfl) ?_ _
        clear hS
        go_wp2_with fail
        go_ret
        refine ⟨by rw [HF.out]; rfl, ?_⟩
        first
          | exact after ((HBel.out.alloc HBel.out.size _).drew) (Nat.le_refl _) hb1
          | exact (after HBel.out.drew (Nat.le_refl _) hb1).alloc (after HBel.out.drew (Nat.le_refl _) hb1).size _
    · rw [if_pos (by rfl)]
      go_simp
      go_at_call 41
      refine (quote_calls vl (by omega) _).mono ?_
      rintro e w1 ⟨rfl, hb1⟩
      refine hK _ _ (box_keep hS hb1) (fun hS => ?_)
      clear hK K
      try simp only [Act.put, List.getElem_toArray, List.getElem_cons_zero, List.getElem_cons_succ, List.setIfInBounds_toArray, List.set_cons_zero, List.set_cons_succ]
      refine wpAnyH_ready (rs := [2]) (by kernel_rfl) (by simp) (AllReadyH.cons rfl (fun K hK => ?_) AllReadyH.nil)
      rw [if_pos (by rfl)]
      go_simp
      refine hK _ _ (box_keep hS ((Below.refl _ _).alloc (Nat.le_refl _) _)) (fun hS => ?_)
      try simp only [Act.put, List.getElem_toArray, List.getElem_cons_zero, List.getElem_cons_succ, List.setIfInBounds_toArray, List.set_cons_zero, List.set_cons_succ]
      refine wpAnyH_take (i := 6) (v := .pointer (some ⟨w1.heap.size, 0, none⟩)) rfl (by kernel_rfl) (by kernel_rfl) (by kernel_rfl) (fun _ _ _ h => h) (Or.inl ⟨by rfl, fun w hSw => by obtain ⟨hw0, hw1, hw2⟩ := hSw; clear hS; go_simp⟩) hS ?_
      simp only [Act.put, List.getElem_toArray, List.getElem_cons_zero, List.getElem_cons_succ, List.setIfInBounds_toArray, List.set_cons_zero, List.set_cons_succ]
      refine wpAnyH_ready (rs := [7]) (by kernel_rfl) (by simp) (AllReadyH.cons rfl (fun K hK => ?_) AllReadyH.nil)
      rw [if_pos (by rfl)]
      go_simp
      refine hK _ _ hS (fun hS => ?_)
      try simp only [Act.put, List.getElem_toArray, List.getElem_cons_zero, List.getElem_cons_succ, List.setIfInBounds_toArray, List.set_cons_zero, List.set_cons_succ]
      refine wpAnyH_take (i := 8) (v := .string (nm ++ ⟨#[61]⟩)) rfl (by kernel_rfl) (by kernel_rfl) (by kernel_rfl) (fun _ _ _ h => h) (Or.inl ⟨by rfl, fun w hSw => by obtain ⟨hw0, hw1, hw2⟩ := hSw; clear hS; go_simp⟩) hS ?_
      simp only [Act.put, List.getElem_toArray, List.getElem_cons_zero, List.getElem_cons_succ, List.setIfInBounds_toArray, List.set_cons_zero, List.set_cons_succ]
      refine wpAnyH_take (i := 12) (v := .string (nm ++ ⟨#[61]⟩ ++ quoteS vl)) rfl (by kernel_rfl) (by kernel_rfl) (by kernel_rfl) (fun _ _ _ h => h) (Or.inl ⟨by rfl, fun w hSw => by obtain ⟨hw0, hw1, hw2⟩ := hSw; clear hS; go_simp⟩) hS ?_
      simp only [Act.put, List.getElem_toArray, List.getElem_cons_zero, List.getElem_cons_succ, List.setIfInBounds_toArray, List.set_cons_zero, List.set_cons_succ]
      refine wpAnyH_take (i := 13) (v := .string (nm ++ ⟨#[61]⟩ ++ quoteS vl)) rfl (by kernel_rfl) (by kernel_rfl) (by kernel_rfl) (fun _ _ _ h => h) (Or.inl ⟨by rfl, fun w hSw => by obtain ⟨hw0, hw1, hw2⟩ := hSw; clear hS; go_simp⟩) hS ?_
      simp only [Act.put, List.getElem_toArray, List.getElem_cons_zero, List.getElem_cons_succ, List.setIfInBounds_toArray, List.set_cons_zero, List.set_cons_succ]
      refine wpAnyH_done (by kernel_rfl) ?_ _
      clear hS
      go_wp2_with fail
      go_ret
      refine ⟨by rw [HF.out]; rfl, ?_⟩
      first
        | exact after ((HBel.out.alloc HBel.out.size _).drew) (Nat.le_refl _) hb1
        | exact (after HBel.out.drew (Nat.le_refl _) hb1).alloc (after HBel.out.drew (Nat.le_refl _) hb1).size _
  · have hw : IntKind.i64.wrap 1 = 1 := by decide
    have hq1 : ¬ 9223372036854775807 < nm.size + 2 := by omega
    have hq2 : ¬ 9223372036854775807 < nm.size + 2 + (quoteS vl).size := by omega
    have hfin : nm ++ opOf 2 ++ quoteS vl = nm ++ ⟨#[33, 61]⟩ ++ quoteS vl := rfl
    rw [hfin] at HF
    clear hfin
    go_enter Try.func23, Try.ntmps23
    go_wp2_with fail
    refine wp_region_held_drew (S := fun w' => w'.cell? ⟨W.heap.size, 0, none⟩ = some (.int .i64 2) ∧ w'.cell? ⟨W.heap.size, 1, none⟩ = some (.string nm) ∧ w'.cell? ⟨W.heap.size, 2, none⟩ = some (.string vl)) (by kernel_rfl) ⟨blk_cell (blk_new W _) 0, blk_cell (blk_new W _) 1, blk_cell (blk_new W _) 2⟩ (fun hS => ?_)
    refine wpAnyH_take (i := 0) (v := .pointer (some ⟨W.heap.size, 1, none⟩)) rfl (by kernel_rfl) (by kernel_rfl) (by kernel_rfl) (fun _ _ _ h => h) (Or.inl ⟨by rfl, fun w hSw => by obtain ⟨hw0, hw1, hw2⟩ := hSw; clear hS; go_simp⟩) hS ?_
    simp only [Act.put, List.getElem_toArray, List.getElem_cons_zero, List.setIfInBounds_toArray, List.set_cons_zero, List.set_cons_succ]
    refine wpAnyH_take (i := 1) (v := .string nm) rfl (by kernel_rfl) (by kernel_rfl) (by kernel_rfl) (fun _ _ _ h => h) (Or.inl ⟨by rfl, fun w hSw => by obtain ⟨hw0, hw1, hw2⟩ := hSw; clear hS; go_simp⟩) hS ?_
    simp only [Act.put, List.getElem_toArray, List.getElem_cons_zero, List.getElem_cons_succ, List.setIfInBounds_toArray, List.set_cons_zero, List.set_cons_succ]
    refine wpAnyH_take (i := 3) (v := .pointer (some ⟨W.heap.size, 0, none⟩)) rfl (by kernel_rfl) (by kernel_rfl) (by kernel_rfl) (fun _ _ _ h => h) (Or.inl ⟨by rfl, fun w hSw => by obtain ⟨hw0, hw1, hw2⟩ := hSw; clear hS; go_simp⟩) hS ?_
    simp only [Act.put, List.getElem_toArray, List.getElem_cons_zero, List.getElem_cons_succ, List.setIfInBounds_toArray, List.set_cons_zero, List.set_cons_succ]
    refine wpAnyH_take (i := 4) (v := .int .i64 2) rfl (by kernel_rfl) (by kernel_rfl) (by kernel_rfl) (fun _ _ _ h => h) (Or.inl ⟨by rfl, fun w hSw => by obtain ⟨hw0, hw1, hw2⟩ := hSw; clear hS; go_simp⟩) hS ?_
    simp only [Act.put, List.getElem_toArray, List.getElem_cons_zero, List.getElem_cons_succ, List.setIfInBounds_toArray, List.set_cons_zero, List.set_cons_succ]
    refine wpAnyH_take (i := 5) (v := .int .i64 1) rfl (by kernel_rfl) (by kernel_rfl) (by kernel_rfl) (fun _ _ _ h => h) (Or.inl ⟨by rfl, fun w hSw => by obtain ⟨hw0, hw1, hw2⟩ := hSw; clear hS; go_simp⟩) hS ?_
    simp only [Act.put, List.getElem_toArray, List.getElem_cons_zero, List.getElem_cons_succ, List.setIfInBounds_toArray, List.set_cons_zero, List.set_cons_succ]
    refine wpAnyH_take (i := 9) (v := .pointer (some ⟨W.heap.size, 2, none⟩)) rfl (by kernel_rfl) (by kernel_rfl) (by kernel_rfl) (fun _ _ _ h => h) (Or.inl ⟨by rfl, fun w hSw => by obtain ⟨hw0, hw1, hw2⟩ := hSw; clear hS; go_simp⟩) hS ?_
    simp only [Act.put, List.getElem_toArray, List.getElem_cons_zero, List.getElem_cons_succ, List.setIfInBounds_toArray, List.set_cons_zero, List.set_cons_succ]
    refine wpAnyH_take (i := 10) (v := .string vl) rfl (by kernel_rfl) (by kernel_rfl) (by kernel_rfl) (fun _ _ _ h => h) (Or.inl ⟨by rfl, fun w hSw => by obtain ⟨hw0, hw1, hw2⟩ := hSw; clear hS; go_simp⟩) hS ?_
    simp only [Act.put, List.getElem_toArray, List.getElem_cons_zero, List.getElem_cons_succ, List.setIfInBounds_toArray, List.set_cons_zero, List.set_cons_succ]
    refine wpAnyH_ready (rs := [2, 11]) (by kernel_rfl) (by simp) (AllReadyH.cons rfl (fun K hK => ?_) (AllReadyH.cons rfl (fun K hK => ?_) AllReadyH.nil))
    · rw [if_pos (by rfl)]
      go_simp
      refine hK _ _ (box_keep hS ((Below.refl _ _).alloc (Nat.le_refl _) _)) (fun hS => ?_)
      try simp only [Act.put, List.getElem_toArray, List.getElem_cons_zero, List.getElem_cons_succ, List.setIfInBounds_toArray, List.set_cons_zero, List.set_cons_succ]
      refine wpAnyH_take (i := 6) (v := .pointer (some ⟨W.heap.size + 1, 1, none⟩)) rfl (by kernel_rfl) (by kernel_rfl) (by kernel_rfl) (fun _ _ _ h => h) (Or.inl ⟨by rfl, fun w hSw => by obtain ⟨hw0, hw1, hw2⟩ := hSw; clear hS; go_simp⟩) hS ?_
      simp only [Act.put, List.getElem_toArray, List.getElem_cons_zero, List.getElem_cons_succ, List.setIfInBounds_toArray, List.set_cons_zero, List.set_cons_succ]
      refine wpAnyH_ready (rs := [7, 11]) (by kernel_rfl) (by simp) (AllReadyH.cons rfl (fun K hK => ?_) (AllReadyH.cons rfl (fun K hK => ?_) AllReadyH.nil))
      · rw [if_pos (by rfl)]
        go_simp
        refine hK _ _ hS (fun hS => ?_)
        try simp only [Act.put, List.getElem_toArray, List.getElem_cons_zero, List.getElem_cons_succ, List.setIfInBounds_toArray, List.set_cons_zero, List.set_cons_succ]
        refine wpAnyH_take (i := 8) (v := .string (nm ++ ⟨#[33, 61]⟩)) rfl (by kernel_rfl) (by kernel_rfl) (by kernel_rfl) (fun _ _ _ h => h) (Or.inl ⟨by rfl, fun w hSw => by obtain ⟨hw0, hw1, hw2⟩ := hSw; clear hS; go_simp⟩) hS ?_
        simp only [Act.put, List.getElem_toArray, List.getElem_cons_zero, List.getElem_cons_succ, List.setIfInBounds_toArray, List.set_cons_zero, List.set_cons_succ]
        refine wpAnyH_ready (rs := [11]) (by kernel_rfl) (by simp) (AllReadyH.cons rfl (fun K hK => ?_) AllReadyH.nil)
        rw [if_pos (by rfl)]
        go_simp
        go_at_call 41
        refine (quote_calls vl (by omega) _).mono ?_
        rintro e w1 ⟨rfl, hb1⟩
        refine hK _ _ (box_keep hS hb1) (fun hS => ?_)
        clear hK K
        try simp only [Act.put, List.getElem_toArray, List.getElem_cons_zero, List.getElem_cons_succ, List.setIfInBounds_toArray, List.set_cons_zero, List.set_cons_succ]
        refine wpAnyH_take (i := 12) (v := .string (nm ++ ⟨#[33, 61]⟩ ++ quoteS vl)) rfl (by kernel_rfl) (by kernel_rfl) (by kernel_rfl) (fun _ _ _ h => h) (Or.inl ⟨by rfl, fun w hSw => by obtain ⟨hw0, hw1, hw2⟩ := hSw; clear hS; go_simp⟩) hS ?_
        simp only [Act.put, List.getElem_toArray, List.getElem_cons_zero, List.getElem_cons_succ, List.setIfInBounds_toArray, List.set_cons_zero, List.set_cons_succ]
        refine wpAnyH_take (i := 13) (v := .string (nm ++ ⟨#[33, 61]⟩ ++ quoteS vl)) rfl (by kernel_rfl) (by kernel_rfl) (by kernel_rfl) (fun _ _ _ h => h) (Or.inl ⟨by rfl, fun w hSw => by obtain ⟨hw0, hw1, hw2⟩ := hSw; clear hS; go_simp⟩) hS ?_
        simp only [Act.put, List.getElem_toArray, List.getElem_cons_zero, List.getElem_cons_succ, List.setIfInBounds_toArray, List.set_cons_zero, List.set_cons_succ]
        refine wpAnyH_done (by kernel_rfl) ?_ _
        clear hS
        go_wp2_with fail
        go_ret
        refine ⟨by rw [HF.out]; rfl, ?_⟩
        first
          | exact after ((HBel.out.alloc HBel.out.size _).drew) (Nat.le_refl _) hb1
          | exact (after HBel.out.drew (Nat.le_refl _) hb1).alloc (after HBel.out.drew (Nat.le_refl _) hb1).size _
      · rw [if_pos (by rfl)]
        go_simp
        go_at_call 41
        refine (quote_calls vl (by omega) _).mono ?_
        rintro e w1 ⟨rfl, hb1⟩
        refine hK _ _ (box_keep hS hb1) (fun hS => ?_)
        clear hK K
        try simp only [Act.put, List.getElem_toArray, List.getElem_cons_zero, List.getElem_cons_succ, List.setIfInBounds_toArray, List.set_cons_zero, List.set_cons_succ]
        have hx : w1.cell? ⟨W.heap.size + 1, 1, none⟩ = some (.string ⟨#[33, 61]⟩) := (by have := kept_new hb1 (by simp) 1; simpa using this)
        refine wpAnyH_ready (rs := [7]) (by kernel_rfl) (by simp) (AllReadyH.cons rfl (fun K hK => ?_) AllReadyH.nil)
        rw [if_pos (by rfl)]
        go_simp
        refine hK _ _ hS (fun hS => ?_)
        try simp only [Act.put, List.getElem_toArray, List.getElem_cons_zero, List.getElem_cons_succ, List.setIfInBounds_toArray, List.set_cons_zero, List.set_cons_succ]
        refine wpAnyH_take (i := 8) (v := .string (nm ++ ⟨#[33, 61]⟩)) rfl (by kernel_rfl) (by kernel_rfl) (by kernel_rfl) (fun _ _ _ h => h) (Or.inl ⟨by rfl, fun w hSw => by obtain ⟨hw0, hw1, hw2⟩ := hSw; clear hS; go_simp⟩) hS ?_
        simp only [Act.put, List.getElem_toArray, List.getElem_cons_zero, List.getElem_cons_succ, List.setIfInBounds_toArray, List.set_cons_zero, List.set_cons_succ]
        refine wpAnyH_take (i := 12) (v := .string (nm ++ ⟨#[33, 61]⟩ ++ quoteS vl)) rfl (by kernel_rfl) (by kernel_rfl) (by kernel_rfl) (fun _ _ _ h => h) (Or.inl ⟨by rfl, fun w hSw => by obtain ⟨hw0, hw1, hw2⟩ := hSw; clear hS; go_simp⟩) hS ?_
        simp only [Act.put, List.getElem_toArray, List.getElem_cons_zero, List.getElem_cons_succ, List.setIfInBounds_toArray, List.set_cons_zero, List.set_cons_succ]
        refine wpAnyH_take (i := 13) (v := .string (nm ++ ⟨#[33, 61]⟩ ++ quoteS vl)) rfl (by kernel_rfl) (by kernel_rfl) (by kernel_rfl) (fun _ _ _ h => h) (Or.inl ⟨by rfl, fun w hSw => by obtain ⟨hw0, hw1, hw2⟩ := hSw; clear hS; go_simp⟩) hS ?_
        simp only [Act.put, List.getElem_toArray, List.getElem_cons_zero, List.getElem_cons_succ, List.setIfInBounds_toArray, List.set_cons_zero, List.set_cons_succ]
        refine wpAnyH_done (by kernel_rfl) ?_ _
        clear hS
        go_wp2_with fail
        go_ret
        refine ⟨by rw [HF.out]; rfl, ?_⟩
        first
          | exact after ((HBel.out.alloc HBel.out.size _).drew) (Nat.le_refl _) hb1
          | exact (after HBel.out.drew (Nat.le_refl _) hb1).alloc (after HBel.out.drew (Nat.le_refl _) hb1).size _
    · rw [if_pos (by rfl)]
      go_simp
      go_at_call 41
      refine (quote_calls vl (by omega) _).mono ?_
      rintro e w1 ⟨rfl, hb1⟩
      refine hK _ _ (box_keep hS hb1) (fun hS => ?_)
      clear hK K
      try simp only [Act.put, List.getElem_toArray, List.getElem_cons_zero, List.getElem_cons_succ, List.setIfInBounds_toArray, List.set_cons_zero, List.set_cons_succ]
      refine wpAnyH_ready (rs := [2]) (by kernel_rfl) (by simp) (AllReadyH.cons rfl (fun K hK => ?_) AllReadyH.nil)
      rw [if_pos (by rfl)]
      go_simp
      refine hK _ _ (box_keep hS ((Below.refl _ _).alloc (Nat.le_refl _) _)) (fun hS => ?_)
      try simp only [Act.put, List.getElem_toArray, List.getElem_cons_zero, List.getElem_cons_succ, List.setIfInBounds_toArray, List.set_cons_zero, List.set_cons_succ]
      refine wpAnyH_take (i := 6) (v := .pointer (some ⟨w1.heap.size, 1, none⟩)) rfl (by kernel_rfl) (by kernel_rfl) (by kernel_rfl) (fun _ _ _ h => h) (Or.inl ⟨by rfl, fun w hSw => by obtain ⟨hw0, hw1, hw2⟩ := hSw; clear hS; go_simp⟩) hS ?_
      simp only [Act.put, List.getElem_toArray, List.getElem_cons_zero, List.getElem_cons_succ, List.setIfInBounds_toArray, List.set_cons_zero, List.set_cons_succ]
      refine wpAnyH_ready (rs := [7]) (by kernel_rfl) (by simp) (AllReadyH.cons rfl (fun K hK => ?_) AllReadyH.nil)
      rw [if_pos (by rfl)]
      go_simp
      refine hK _ _ hS (fun hS => ?_)
      try simp only [Act.put, List.getElem_toArray, List.getElem_cons_zero, List.getElem_cons_succ, List.setIfInBounds_toArray, List.set_cons_zero, List.set_cons_succ]
      refine wpAnyH_take (i := 8) (v := .string (nm ++ ⟨#[33, 61]⟩)) rfl (by kernel_rfl) (by kernel_rfl) (by kernel_rfl) (fun _ _ _ h => h) (Or.inl ⟨by rfl, fun w hSw => by obtain ⟨hw0, hw1, hw2⟩ := hSw; clear hS; go_simp⟩) hS ?_
      simp only [Act.put, List.getElem_toArray, List.getElem_cons_zero, List.getElem_cons_succ, List.setIfInBounds_toArray, List.set_cons_zero, List.set_cons_succ]
      refine wpAnyH_take (i := 12) (v := .string (nm ++ ⟨#[33, 61]⟩ ++ quoteS vl)) rfl (by kernel_rfl) (by kernel_rfl) (by kernel_rfl) (fun _ _ _ h => h) (Or.inl ⟨by rfl, fun w hSw => by obtain ⟨hw0, hw1, hw2⟩ := hSw; clear hS; go_simp⟩) hS ?_
      simp only [Act.put, List.getElem_toArray, List.getElem_cons_zero, List.getElem_cons_succ, List.setIfInBounds_toArray, List.set_cons_zero, List.set_cons_succ]
      refine wpAnyH_take (i := 13) (v := .string (nm ++ ⟨#[33, 61]⟩ ++ quoteS vl)) rfl (by kernel_rfl) (by kernel_rfl) (by kernel_rfl) (fun _ _ _ h => h) (Or.inl ⟨by rfl, fun w hSw => by obtain ⟨hw0, hw1, hw2⟩ := hSw; clear hS; go_simp⟩) hS ?_
      simp only [Act.put, List.getElem_toArray, List.getElem_cons_zero, List.getElem_cons_succ, List.setIfInBounds_toArray, List.set_cons_zero, List.set_cons_succ]
      refine wpAnyH_done (by kernel_rfl) ?_ _
      clear hS
      go_wp2_with fail
      go_ret
      refine ⟨by rw [HF.out]; rfl, ?_⟩
      first
        | exact after ((HBel.out.alloc HBel.out.size _).drew) (Nat.le_refl _) hb1
        | exact (after HBel.out.drew (Nat.le_refl _) hb1).alloc (after HBel.out.drew (Nat.le_refl _) hb1).size _
  · have hw : IntKind.i64.wrap 2 = 2 := by decide
    have hq1 : ¬ 9223372036854775807 < nm.size + 2 := by omega
    have hq2 : ¬ 9223372036854775807 < nm.size + 2 + (quoteS vl).size := by omega
    have hfin : nm ++ opOf 3 ++ quoteS vl = nm ++ ⟨#[61, 126]⟩ ++ quoteS vl := rfl
    rw [hfin] at HF
    clear hfin
    go_enter Try.func23, Try.ntmps23
    go_wp2_with fail
    refine wp_region_held_drew (S := fun w' => w'.cell? ⟨W.heap.size, 0, none⟩ = some (.int .i64 3) ∧ w'.cell? ⟨W.heap.size, 1, none⟩ = some (.string nm) ∧ w'.cell? ⟨W.heap.size, 2, none⟩ = some (.string vl)) (by kernel_rfl) ⟨blk_cell (blk_new W _) 0, blk_cell (blk_new W _) 1, blk_cell (blk_new W _) 2⟩ (fun hS => ?_)
    refine wpAnyH_take (i := 0) (v := .pointer (some ⟨W.heap.size, 1, none⟩)) rfl (by kernel_rfl) (by kernel_rfl) (by kernel_rfl) (fun _ _ _ h => h) (Or.inl ⟨by rfl, fun w hSw => by obtain ⟨hw0, hw1, hw2⟩ := hSw; clear hS; go_simp⟩) hS ?_
    simp only [Act.put, List.getElem_toArray, List.getElem_cons_zero, List.setIfInBounds_toArray, List.set_cons_zero, List.set_cons_succ]
    refine wpAnyH_take (i := 1) (v := .string nm) rfl (by kernel_rfl) (by kernel_rfl) (by kernel_rfl) (fun _ _ _ h => h) (Or.inl ⟨by rfl, fun w hSw => by obtain ⟨hw0, hw1, hw2⟩ := hSw; clear hS; go_simp⟩) hS ?_
    simp only [Act.put, List.getElem_toArray, List.getElem_cons_zero, List.getElem_cons_succ, List.setIfInBounds_toArray, List.set_cons_zero, List.set_cons_succ]
    refine wpAnyH_take (i := 3) (v := .pointer (some ⟨W.heap.size, 0, none⟩)) rfl (by kernel_rfl) (by kernel_rfl) (by kernel_rfl) (fun _ _ _ h => h) (Or.inl ⟨by rfl, fun w hSw => by obtain ⟨hw0, hw1, hw2⟩ := hSw; clear hS; go_simp⟩) hS ?_
    simp only [Act.put, List.getElem_toArray, List.getElem_cons_zero, List.getElem_cons_succ, List.setIfInBounds_toArray, List.set_cons_zero, List.set_cons_succ]
    refine wpAnyH_take (i := 4) (v := .int .i64 3) rfl (by kernel_rfl) (by kernel_rfl) (by kernel_rfl) (fun _ _ _ h => h) (Or.inl ⟨by rfl, fun w hSw => by obtain ⟨hw0, hw1, hw2⟩ := hSw; clear hS; go_simp⟩) hS ?_
    simp only [Act.put, List.getElem_toArray, List.getElem_cons_zero, List.getElem_cons_succ, List.setIfInBounds_toArray, List.set_cons_zero, List.set_cons_succ]
    refine wpAnyH_take (i := 5) (v := .int .i64 2) rfl (by kernel_rfl) (by kernel_rfl) (by kernel_rfl) (fun _ _ _ h => h) (Or.inl ⟨by rfl, fun w hSw => by obtain ⟨hw0, hw1, hw2⟩ := hSw; clear hS; go_simp⟩) hS ?_
    simp only [Act.put, List.getElem_toArray, List.getElem_cons_zero, List.getElem_cons_succ, List.setIfInBounds_toArray, List.set_cons_zero, List.set_cons_succ]
    refine wpAnyH_take (i := 9) (v := .pointer (some ⟨W.heap.size, 2, none⟩)) rfl (by kernel_rfl) (by kernel_rfl) (by kernel_rfl) (fun _ _ _ h => h) (Or.inl ⟨by rfl, fun w hSw => by obtain ⟨hw0, hw1, hw2⟩ := hSw; clear hS; go_simp⟩) hS ?_
    simp only [Act.put, List.getElem_toArray, List.getElem_cons_zero, List.getElem_cons_succ, List.setIfInBounds_toArray, List.set_cons_zero, List.set_cons_succ]
    refine wpAnyH_take (i := 10) (v := .string vl) rfl (by kernel_rfl) (by kernel_rfl) (by kernel_rfl) (fun _ _ _ h => h) (Or.inl ⟨by rfl, fun w hSw => by obtain ⟨hw0, hw1, hw2⟩ := hSw; clear hS; go_simp⟩) hS ?_
    simp only [Act.put, List.getElem_toArray, List.getElem_cons_zero, List.getElem_cons_succ, List.setIfInBounds_toArray, List.set_cons_zero, List.set_cons_succ]
    refine wpAnyH_ready (rs := [2, 11]) (by kernel_rfl) (by simp) (AllReadyH.cons rfl (fun K hK => ?_) (AllReadyH.cons rfl (fun K hK => ?_) AllReadyH.nil))
    · rw [if_pos (by rfl)]
      go_simp
      refine hK _ _ (box_keep hS ((Below.refl _ _).alloc (Nat.le_refl _) _)) (fun hS => ?_)
      try simp only [Act.put, List.getElem_toArray, List.getElem_cons_zero, List.getElem_cons_succ, List.setIfInBounds_toArray, List.set_cons_zero, List.set_cons_succ]
      refine wpAnyH_take (i := 6) (v := .pointer (some ⟨W.heap.size + 1, 2, none⟩)) rfl (by kernel_rfl) (by kernel_rfl) (by kernel_rfl) (fun _ _ _ h => h) (Or.inl ⟨by rfl, fun w hSw => by obtain ⟨hw0, hw1, hw2⟩ := hSw; clear hS; go_simp⟩) hS ?_
      simp only [Act.put, List.getElem_toArray, List.getElem_cons_zero, List.getElem_cons_succ, List.setIfInBounds_toArray, List.set_cons_zero, List.set_cons_succ]
      refine wpAnyH_ready (rs := [7, 11]) (by kernel_rfl) (by simp) (AllReadyH.cons rfl (fun K hK => ?_) (AllReadyH.cons rfl (fun K hK => ?_) AllReadyH.nil))
      · rw [if_pos (by rfl)]
        go_simp
        refine hK _ _ hS (fun hS => ?_)
        try simp only [Act.put, List.getElem_toArray, List.getElem_cons_zero, List.getElem_cons_succ, List.setIfInBounds_toArray, List.set_cons_zero, List.set_cons_succ]
        refine wpAnyH_take (i := 8) (v := .string (nm ++ ⟨#[61, 126]⟩)) rfl (by kernel_rfl) (by kernel_rfl) (by kernel_rfl) (fun _ _ _ h => h) (Or.inl ⟨by rfl, fun w hSw => by obtain ⟨hw0, hw1, hw2⟩ := hSw; clear hS; go_simp⟩) hS ?_
        simp only [Act.put, List.getElem_toArray, List.getElem_cons_zero, List.getElem_cons_succ, List.setIfInBounds_toArray, List.set_cons_zero, List.set_cons_succ]
        refine wpAnyH_ready (rs := [11]) (by kernel_rfl) (by simp) (AllReadyH.cons rfl (fun K hK => ?_) AllReadyH.nil)
        rw [if_pos (by rfl)]
        go_simp
        go_at_call 41
        refine (quote_calls vl (by omega) _).mono ?_
        rintro e w1 ⟨rfl, hb1⟩
        refine hK _ _ (box_keep hS hb1) (fun hS => ?_)
        clear hK K
        try simp only [Act.put, List.getElem_toArray, List.getElem_cons_zero, List.getElem_cons_succ, List.setIfInBounds_toArray, List.set_cons_zero, List.set_cons_succ]
        refine wpAnyH_take (i := 12) (v := .string (nm ++ ⟨#[61, 126]⟩ ++ quoteS vl)) rfl (by kernel_rfl) (by kernel_rfl) (by kernel_rfl) (fun _ _ _ h => h) (Or.inl ⟨by rfl, fun w hSw => by obtain ⟨hw0, hw1, hw2⟩ := hSw; clear hS; go_simp⟩) hS ?_
        simp only [Act.put, List.getElem_toArray, List.getElem_cons_zero, List.getElem_cons_succ, List.setIfInBounds_toArray, List.set_cons_zero, List.set_cons_succ]
        refine wpAnyH_take (i := 13) (v := .string (nm ++ ⟨#[61, 126]⟩ ++ quoteS vl)) rfl (by kernel_rfl) (by kernel_rfl) (by kernel_rfl) (fun _ _ _ h => h) (Or.inl ⟨by rfl, fun w hSw => by obtain ⟨hw0, hw1, hw2⟩ := hSw; clear hS; go_simp⟩) hS ?_
        simp only [Act.put, List.getElem_toArray, List.getElem_cons_zero, List.getElem_cons_succ, List.setIfInBounds_toArray, List.set_cons_zero, List.set_cons_succ]
        refine wpAnyH_done (by kernel_rfl) ?_ _
        clear hS
        go_wp2_with fail
        go_ret
        refine ⟨by rw [HF.out]; rfl, ?_⟩
        first
          | exact after ((HBel.out.alloc HBel.out.size _).drew) (Nat.le_refl _) hb1
          | exact (after HBel.out.drew (Nat.le_refl _) hb1).alloc (after HBel.out.drew (Nat.le_refl _) hb1).size _
      · rw [if_pos (by rfl)]
        go_simp
        go_at_call 41
        refine (quote_calls vl (by omega) _).mono ?_
        rintro e w1 ⟨rfl, hb1⟩
        refine hK _ _ (box_keep hS hb1) (fun hS => ?_)
        clear hK K
        try simp only [Act.put, List.getElem_toArray, List.getElem_cons_zero, List.getElem_cons_succ, List.setIfInBounds_toArray, List.set_cons_zero, List.set_cons_succ]
        have hx : w1.cell? ⟨W.heap.size + 1, 2, none⟩ = some (.string ⟨#[61, 126]⟩) := (by have := kept_new hb1 (by simp) 2; simpa using this)
        refine wpAnyH_ready (rs := [7]) (by kernel_rfl) (by simp) (AllReadyH.cons rfl (fun K hK => ?_) AllReadyH.nil)
        rw [if_pos (by rfl)]
        go_simp
        refine hK _ _ hS (fun hS => ?_)
        try simp only [Act.put, List.getElem_toArray, List.getElem_cons_zero, List.getElem_cons_succ, List.setIfInBounds_toArray, List.set_cons_zero, List.set_cons_succ]
        refine wpAnyH_take (i := 8) (v := .string (nm ++ ⟨#[61, 126]⟩)) rfl (by kernel_rfl) (by kernel_rfl) (by kernel_rfl) (fun _ _ _ h => h) (Or.inl ⟨by rfl, fun w hSw => by obtain ⟨hw0, hw1, hw2⟩ := hSw; clear hS; go_simp⟩) hS ?_
        simp only [Act.put, List.getElem_toArray, List.getElem_cons_zero, List.getElem_cons_succ, List.setIfInBounds_toArray, List.set_cons_zero, List.set_cons_succ]
        refine wpAnyH_take (i := 12) (v := .string (nm ++ ⟨#[61, 126]⟩ ++ quoteS vl)) rfl (by kernel_rfl) (by kernel_rfl) (by kernel_rfl) (fun _ _ _ h => h) (Or.inl ⟨by rfl, fun w hSw => by obtain ⟨hw0, hw1, hw2⟩ := hSw; clear hS; go_simp⟩) hS ?_
        simp only [Act.put, List.getElem_toArray, List.getElem_cons_zero, List.getElem_cons_succ, List.setIfInBounds_toArray, List.set_cons_zero, List.set_cons_succ]
        refine wpAnyH_take (i := 13) (v := .string (nm ++ ⟨#[61, 126]⟩ ++ quoteS vl)) rfl (by kernel_rfl) (by kernel_rfl) (by kernel_rfl) (fun _ _ _ h => h) (Or.inl ⟨by rfl, fun w hSw => by obtain ⟨hw0, hw1, hw2⟩ := hSw; clear hS; go_simp⟩) hS ?_
        simp only [Act.put, List.getElem_toArray, List.getElem_cons_zero, List.getElem_cons_succ, List.setIfInBounds_toArray, List.set_cons_zero, List.set_cons_succ]
        refine wpAnyH_done (by kernel_rfl) ?_ _
        clear hS
        go_wp2_with fail
        go_ret
        refine ⟨by rw [HF.out]; rfl, ?_⟩
        first
          | exact after ((HBel.out.alloc HBel.out.size _).drew) (Nat.le_refl _) hb1
          | exact (after HBel.out.drew (Nat.le_refl _) hb1).alloc (after HBel.out.drew (Nat.le_refl _) hb1).size _
    · rw [if_pos (by rfl)]
      go_simp
      go_at_call 41
      refine (quote_calls vl (by omega) _).mono ?_
      rintro e w1 ⟨rfl, hb1⟩
      refine hK _ _ (box_keep hS hb1) (fun hS => ?_)
      clear hK K
      try simp only [Act.put, List.getElem_toArray, List.getElem_cons_zero, List.getElem_cons_succ, List.setIfInBounds_toArray, List.set_cons_zero, List.set_cons_succ]
      refine wpAnyH_ready (rs := [2]) (by kernel_rfl) (by simp) (AllReadyH.cons rfl (fun K hK => ?_) AllReadyH.nil)
      rw [if_pos (by rfl)]
      go_simp
      refine hK _ _ (box_keep hS ((Below.refl _ _).alloc (Nat.le_refl _) _)) (fun hS => ?_)
      try simp only [Act.put, List.getElem_toArray, List.getElem_cons_zero, List.getElem_cons_succ, List.setIfInBounds_toArray, List.set_cons_zero, List.set_cons_succ]
      refine wpAnyH_take (i := 6) (v := .pointer (some ⟨w1.heap.size, 2, none⟩)) rfl (by kernel_rfl) (by kernel_rfl) (by kernel_rfl) (fun _ _ _ h => h) (Or.inl ⟨by rfl, fun w hSw => by obtain ⟨hw0, hw1, hw2⟩ := hSw; clear hS; go_simp⟩) hS ?_
      simp only [Act.put, List.getElem_toArray, List.getElem_cons_zero, List.getElem_cons_succ, List.setIfInBounds_toArray, List.set_cons_zero, List.set_cons_succ]
      refine wpAnyH_ready (rs := [7]) (by kernel_rfl) (by simp) (AllReadyH.cons rfl (fun K hK => ?_) AllReadyH.nil)
      rw [if_pos (by rfl)]
      go_simp
      refine hK _ _ hS (fun hS => ?_)
      try simp only [Act.put, List.getElem_toArray, List.getElem_cons_zero, List.getElem_cons_succ, List.setIfInBounds_toArray, List.set_cons_zero, List.set_cons_succ]
      refine wpAnyH_take (i := 8) (v := .string (nm ++ ⟨#[61, 126]⟩)) rfl (by kernel_rfl) (by kernel_rfl) (by kernel_rfl) (fun _ _ _ h => h) (Or.inl ⟨by rfl, fun w hSw => by obtain ⟨hw0, hw1, hw2⟩ := hSw; clear hS; go_simp⟩) hS ?_
      simp only [Act.put, List.getElem_toArray, List.getElem_cons_zero, List.getElem_cons_succ, List.setIfInBounds_toArray, List.set_cons_zero, List.set_cons_succ]
      refine wpAnyH_take (i := 12) (v := .string (nm ++ ⟨#[61, 126]⟩ ++ quoteS vl)) rfl (by kernel_rfl) (by kernel_rfl) (by kernel_rfl) (fun _ _ _ h => h) (Or.inl ⟨by rfl, fun w hSw => by obtain ⟨hw0, hw1, hw2⟩ := hSw; clear hS; go_simp⟩) hS ?_
      simp only [Act.put, List.getElem_toArray, List.getElem_cons_zero, List.getElem_cons_succ, List.setIfInBounds_toArray, List.set_cons_zero, List.set_cons_succ]
      refine wpAnyH_take (i := 13) (v := .string (nm ++ ⟨#[61, 126]⟩ ++ quoteS vl)) rfl (by kernel_rfl) (by kernel_rfl) (by kernel_rfl) (fun _ _ _ h => h) (Or.inl ⟨by rfl, fun w hSw => by obtain ⟨hw0, hw1, hw2⟩ := hSw; clear hS; go_simp⟩) hS ?_
      simp only [Act.put, List.getElem_toArray, List.getElem_cons_zero, List.getElem_cons_succ, List.setIfInBounds_toArray, List.set_cons_zero, List.set_cons_succ]
      refine wpAnyH_done (by kernel_rfl) ?_ _
      clear hS
      go_wp2_with fail
      go_ret
      refine ⟨by rw [HF.out]; rfl, ?_⟩
      first
        | exact after ((HBel.out.alloc HBel.out.size _).drew) (Nat.le_refl _) hb1
        | exact (after HBel.out.drew (Nat.le_refl _) hb1).alloc (after HBel.out.drew (Nat.le_refl _) hb1).size _
  · have hw : IntKind.i64.wrap 3 = 3 := by decide
    have hq1 : ¬ 9223372036854775807 < nm.size + 2 := by omega
    have hq2 : ¬ 9223372036854775807 < nm.size + 2 + (quoteS vl).size := by omega
    have hfin : nm ++ opOf 4 ++ quoteS vl = nm ++ ⟨#[33, 126]⟩ ++ quoteS vl := rfl
    rw [hfin] at HF
    clear hfin
    go_enter Try.func23, Try.ntmps23
    go_wp2_with fail
    refine wp_region_held_drew (S := fun w' => w'.cell? ⟨W.heap.size, 0, none⟩ = some (.int .i64 4) ∧ w'.cell? ⟨W.heap.size, 1, none⟩ = some (.string nm) ∧ w'.cell? ⟨W.heap.size, 2, none⟩ = some (.string vl)) (by kernel_rfl) ⟨blk_cell (blk_new W _) 0, blk_cell (blk_new W _) 1, blk_cell (blk_new W _) 2⟩ (fun hS => ?_)
    refine wpAnyH_take (i := 0) (v := .pointer (some ⟨W.heap.size, 1, none⟩)) rfl (by kernel_rfl) (by kernel_rfl) (by kernel_rfl) (fun _ _ _ h => h) (Or.inl ⟨by rfl, fun w hSw => by obtain ⟨hw0, hw1, hw2⟩ := hSw; clear hS; go_simp⟩) hS ?_
    simp only [Act.put, List.getElem_toArray, List.getElem_cons_zero, List.setIfInBounds_toArray, List.set_cons_zero, List.set_cons_succ]
    refine wpAnyH_take (i := 1) (v := .string nm) rfl (by kernel_rfl) (by kernel_rfl) (by kernel_rfl) (fun _ _ _ h => h) (Or.inl ⟨by rfl, fun w hSw => by obtain ⟨hw0, hw1, hw2⟩ := hSw; clear hS; go_simp⟩) hS ?_
    simp only [Act.put, List.getElem_toArray, List.getElem_cons_zero, List.getElem_cons_succ, List.setIfInBounds_toArray, List.set_cons_zero, List.set_cons_succ]
    refine wpAnyH_take (i := 3) (v := .pointer (some ⟨W.heap.size, 0, none⟩)) rfl (by kernel_rfl) (by kernel_rfl) (by kernel_rfl) (fun _ _ _ h => h) (Or.inl ⟨by rfl, fun w hSw => by obtain ⟨hw0, hw1, hw2⟩ := hSw; clear hS; go_simp⟩) hS ?_
    simp only [Act.put, List.getElem_toArray, List.getElem_cons_zero, List.getElem_cons_succ, List.setIfInBounds_toArray, List.set_cons_zero, List.set_cons_succ]
    refine wpAnyH_take (i := 4) (v := .int .i64 4) rfl (by kernel_rfl) (by kernel_rfl) (by kernel_rfl) (fun _ _ _ h => h) (Or.inl ⟨by rfl, fun w hSw => by obtain ⟨hw0, hw1, hw2⟩ := hSw; clear hS; go_simp⟩) hS ?_
    simp only [Act.put, List.getElem_toArray, List.getElem_cons_zero, List.getElem_cons_succ, List.setIfInBounds_toArray, List.set_cons_zero, List.set_cons_succ]
    refine wpAnyH_take (i := 5) (v := .int .i64 3) rfl (by kernel_rfl) (by kernel_rfl) (by kernel_rfl) (fun _ _ _ h => h) (Or.inl ⟨by rfl, fun w hSw => by obtain ⟨hw0, hw1, hw2⟩ := hSw; clear hS; go_simp⟩) hS ?_
    simp only [Act.put, List.getElem_toArray, List.getElem_cons_zero, List.getElem_cons_succ, List.setIfInBounds_toArray, List.set_cons_zero, List.set_cons_succ]
    refine wpAnyH_take (i := 9) (v := .pointer (some ⟨W.heap.size, 2, none⟩)) rfl (by kernel_rfl) (by kernel_rfl) (by kernel_rfl) (fun _ _ _ h => h) (Or.inl ⟨by rfl, fun w hSw => by obtain ⟨hw0, hw1, hw2⟩ := hSw; clear hS; go_simp⟩) hS ?_
    simp only [Act.put, List.getElem_toArray, List.getElem_cons_zero, List.getElem_cons_succ, List.setIfInBounds_toArray, List.set_cons_zero, List.set_cons_succ]
    refine wpAnyH_take (i := 10) (v := .string vl) rfl (by kernel_rfl) (by kernel_rfl) (by kernel_rfl) (fun _ _ _ h => h) (Or.inl ⟨by rfl, fun w hSw => by obtain ⟨hw0, hw1, hw2⟩ := hSw; clear hS; go_simp⟩) hS ?_
    simp only [Act.put, List.getElem_toArray, List.getElem_cons_zero, List.getElem_cons_succ, List.setIfInBounds_toArray, List.set_cons_zero, List.set_cons_succ]
    refine wpAnyH_ready (rs := [2, 11]) (by kernel_rfl) (by simp) (AllReadyH.cons rfl (fun K hK => ?_) (AllReadyH.cons rfl (fun K hK => ?_) AllReadyH.nil))
    · rw [if_pos (by rfl)]
      go_simp
      refine hK _ _ (box_keep hS ((Below.refl _ _).alloc (Nat.le_refl _) _)) (fun hS => ?_)
      try simp only [Act.put, List.getElem_toArray, List.getElem_cons_zero, List.getElem_cons_succ, List.setIfInBounds_toArray, List.set_cons_zero, List.set_cons_succ]
      refine wpAnyH_take (i := 6) (v := .pointer (some ⟨W.heap.size + 1, 3, none⟩)) rfl (by kernel_rfl) (by kernel_rfl) (by kernel_rfl) (fun _ _ _ h => h) (Or.inl ⟨by rfl, fun w hSw => by obtain ⟨hw0, hw1, hw2⟩ := hSw; clear hS; go_simp⟩) hS ?_
      simp only [Act.put, List.getElem_toArray, List.getElem_cons_zero, List.getElem_cons_succ, List.setIfInBounds_toArray, List.set_cons_zero, List.set_cons_succ]
      refine wpAnyH_ready (rs := [7, 11]) (by kernel_rfl) (by simp) (AllReadyH.cons rfl (fun K hK => ?_) (AllReadyH.cons rfl (fun K hK => ?_) AllReadyH.nil))
      · rw [if_pos (by rfl)]
        go_simp
        refine hK _ _ hS (fun hS => ?_)
        try simp only [Act.put, List.getElem_toArray, List.getElem_cons_zero, List.getElem_cons_succ, List.setIfInBounds_toArray, List.set_cons_zero, List.set_cons_succ]
        refine wpAnyH_take (i := 8) (v := .string (nm ++ ⟨#[33, 126]⟩)) rfl (by kernel_rfl) (by kernel_rfl) (by kernel_rfl) (fun _ _ _ h => h) (Or.inl ⟨by rfl, fun w hSw => by obtain ⟨hw0, hw1, hw2⟩ := hSw; clear hS; go_simp⟩) hS ?_
        simp only [Act.put, List.getElem_toArray, List.getElem_cons_zero, List.getElem_cons_succ, List.setIfInBounds_toArray, List.set_cons_zero, List.set_cons_succ]
        refine wpAnyH_ready (rs := [11]) (by kernel_rfl) (by simp) (AllReadyH.cons rfl (fun K hK => ?_) AllReadyH.nil)
        rw [if_pos (by rfl)]
        go_simp
        go_at_call 41
        refine (quote_calls vl (by omega) _).mono ?_
        rintro e w1 ⟨rfl, hb1⟩
        refine hK _ _ (box_keep hS hb1) (fun hS => ?_)
        clear hK K
        try simp only [Act.put, List.getElem_toArray, List.getElem_cons_zero, List.getElem_cons_succ, List.setIfInBounds_toArray, List.set_cons_zero, List.set_cons_succ]
        refine wpAnyH_take (i := 12) (v := .string (nm ++ ⟨#[33, 126]⟩ ++ quoteS vl)) rfl (by kernel_rfl) (by kernel_rfl) (by kernel_rfl) (fun _ _ _ h => h) (Or.inl ⟨by rfl, fun w hSw => by obtain ⟨hw0, hw1, hw2⟩ := hSw; clear hS; go_simp⟩) hS ?_
        simp only [Act.put, List.getElem_toArray, List.getElem_cons_zero, List.getElem_cons_succ, List.setIfInBounds_toArray, List.set_cons_zero, List.set_cons_succ]
        refine wpAnyH_take (i := 13) (v := .string (nm ++ ⟨#[33, 126]⟩ ++ quoteS vl)) rfl (by kernel_rfl) (by kernel_rfl) (by kernel_rfl) (fun _ _ _ h => h) (Or.inl ⟨by rfl, fun w hSw => by obtain ⟨hw0, hw1, hw2⟩ := hSw; clear hS; go_simp⟩) hS ?_
        simp only [Act.put, List.getElem_toArray, List.getElem_cons_zero, List.getElem_cons_succ, List.setIfInBounds_toArray, List.set_cons_zero, List.set_cons_succ]
        refine wpAnyH_done (by kernel_rfl) ?_ _
        clear hS
        go_wp2_with fail
        go_ret
        refine ⟨by rw [HF.out]; rfl, ?_⟩
        first
          | exact after ((HBel.out.alloc HBel.out.size _).drew) (Nat.le_refl _) hb1
          | exact (after HBel.out.drew (Nat.le_refl _) hb1).alloc (after HBel.out.drew (Nat.le_refl _) hb1).size _
      · rw [if_pos (by rfl)]
        go_simp
        go_at_call 41
        refine (quote_calls vl (by omega) _).mono ?_
        rintro e w1 ⟨rfl, hb1⟩
        refine hK _ _ (box_keep hS hb1) (fun hS => ?_)
        clear hK K
        try simp only [Act.put, List.getElem_toArray, List.getElem_cons_zero, List.getElem_cons_succ, List.setIfInBounds_toArray, List.set_cons_zero, List.set_cons_succ]
        have hx : w1.cell? ⟨W.heap.size + 1, 3, none⟩ = some (.string ⟨#[33, 126]⟩) := (by have := kept_new hb1 (by simp) 3; simpa using this)
        refine wpAnyH_ready (rs := [7]) (by kernel_rfl) (by simp) (AllReadyH.cons rfl (fun K hK => ?_) AllReadyH.nil)
        rw [if_pos (by rfl)]
        go_simp
        refine hK _ _ hS (fun hS => ?_)
        try simp only [Act.put, List.getElem_toArray, List.getElem_cons_zero, List.getElem_cons_succ, List.setIfInBounds_toArray, List.set_cons_zero, List.set_cons_succ]
        refine wpAnyH_take (i := 8) (v := .string (nm ++ ⟨#[33, 126]⟩)) rfl (by kernel_rfl) (by kernel_rfl) (by kernel_rfl) (fun _ _ _ h => h) (Or.inl ⟨by rfl, fun w hSw => by obtain ⟨hw0, hw1, hw2⟩ := hSw; clear hS; go_simp⟩) hS ?_
        simp only [Act.put, List.getElem_toArray, List.getElem_cons_zero, List.getElem_cons_succ, List.setIfInBounds_toArray, List.set_cons_zero, List.set_cons_succ]
        refine wpAnyH_take (i := 12) (v := .string (nm ++ ⟨#[33, 126]⟩ ++ quoteS vl)) rfl (by kernel_rfl) (by kernel_rfl) (by kernel_rfl) (fun _ _ _ h => h) (Or.inl ⟨by rfl, fun w hSw => by obtain ⟨hw0, hw1, hw2⟩ := hSw; clear hS; go_simp⟩) hS ?_
        simp only [Act.put, List.getElem_toArray, List.getElem_cons_zero, List.getElem_cons_succ, List.setIfInBounds_toArray, List.set_cons_zero, List.set_cons_succ]
        refine wpAnyH_take (i := 13) (v := .string (nm ++ ⟨#[33, 126]⟩ ++ quoteS vl)) rfl (by kernel_rfl) (by kernel_rfl) (by kernel_rfl) (fun _ _ _ h => h) (Or.inl ⟨by rfl, fun w hSw => by obtain ⟨hw0, hw1, hw2⟩ := hSw; clear hS; go_simp⟩) hS ?_
        simp only [Act.put, List.getElem_toArray, List.getElem_cons_zero, List.getElem_cons_succ, List.setIfInBounds_toArray, List.set_cons_zero, List.set_cons_succ]
        refine wpAnyH_done (by kernel_rfl) ?_ _
        clear hS
        go_wp2_with fail
        go_ret
        refine ⟨by rw [HF.out]; rfl, ?_⟩
        first
          | exact after ((HBel.out.alloc HBel.out.size _).drew) (Nat.le_refl _) hb1
          | exact (after HBel.out.drew (Nat.le_refl _) hb1).alloc (after HBel.out.drew (Nat.le_refl _) hb1).size _
    · rw [if_pos (by rfl)]
      go_simp
      go_at_call 41
      refine (quote_calls vl (by omega) _).mono ?_
      rintro e w1 ⟨rfl, hb1⟩
      refine hK _ _ (box_keep hS hb1) (fun hS => ?_)
      clear hK K
      try simp only [Act.put, List.getElem_toArray, List.getElem_cons_zero, List.getElem_cons_succ, List.setIfInBounds_toArray, List.set_cons_zero, List.set_cons_succ]
      refine wpAnyH_ready (rs := [2]) (by kernel_rfl) (by simp) (AllReadyH.cons rfl (fun K hK => ?_) AllReadyH.nil)
      rw [if_pos (by rfl)]
      go_simp
      refine hK _ _ (box_keep hS ((Below.refl _ _).alloc (Nat.le_refl _) _)) (fun hS => ?_)
      try simp only [Act.put, List.getElem_toArray, List.getElem_cons_zero, List.getElem_cons_succ, List.setIfInBounds_toArray, List.set_cons_zero, List.set_cons_succ]
      refine wpAnyH_take (i := 6) (v := .pointer (some ⟨w1.heap.size, 3, none⟩)) rfl (by kernel_rfl) (by kernel_rfl) (by kernel_rfl) (fun _ _ _ h => h) (Or.inl ⟨by rfl, fun w hSw => by obtain ⟨hw0, hw1, hw2⟩ := hSw; clear hS; go_simp⟩) hS ?_
      simp only [Act.put, List.getElem_toArray, List.getElem_cons_zero, List.getElem_cons_succ, List.setIfInBounds_toArray, List.set_cons_zero, List.set_cons_succ]
      refine wpAnyH_ready (rs := [7]) (by kernel_rfl) (by simp) (AllReadyH.cons rfl (fun K hK => ?_) AllReadyH.nil)
      rw [if_pos (by rfl)]
      go_simp
      refine hK _ _ hS (fun hS => ?_)
      try simp only [Act.put, List.getElem_toArray, List.getElem_cons_zero, List.getElem_cons_succ, List.setIfInBounds_toArray, List.set_cons_zero, List.set_cons_succ]
      refine wpAnyH_take (i := 8) (v := .string (nm ++ ⟨#[33, 126]⟩)) rfl (by kernel_rfl) (by kernel_rfl) (by kernel_rfl) (fun _ _ _ h => h) (Or.inl ⟨by rfl, fun w hSw => by obtain ⟨hw0, hw1, hw2⟩ := hSw; clear hS; go_simp⟩) hS ?_
      simp only [Act.put, List.getElem_toArray, List.getElem_cons_zero, List.getElem_cons_succ, List.setIfInBounds_toArray, List.set_cons_zero, List.set_cons_succ]
      refine wpAnyH_take (i := 12) (v := .string (nm ++ ⟨#[33, 126]⟩ ++ quoteS vl)) rfl (by kernel_rfl) (by kernel_rfl) (by kernel_rfl) (fun _ _ _ h => h) (Or.inl ⟨by rfl, fun w hSw => by obtain ⟨hw0, hw1, hw2⟩ := hSw; clear hS; go_simp⟩) hS ?_
      simp only [Act.put, List.getElem_toArray, List.getElem_cons_zero, List.getElem_cons_succ, List.setIfInBounds_toArray, List.set_cons_zero, List.set_cons_succ]
      refine wpAnyH_take (i := 13) (v := .string (nm ++ ⟨#[33, 126]⟩ ++ quoteS vl)) rfl (by kernel_rfl) (by kernel_rfl) (by kernel_rfl) (fun _ _ _ h => h) (Or.inl ⟨by rfl, fun w hSw => by obtain ⟨hw0, hw1, hw2⟩ := hSw; clear hS; go_simp⟩) hS ?_
      simp only [Act.put, List.getElem_toArray, List.getElem_cons_zero, List.getElem_cons_succ, List.setIfInBounds_toArray, List.set_cons_zero, List.set_cons_succ]
      refine wpAnyH_done (by kernel_rfl) ?_ _
      clear hS
      go_wp2_with fail
      go_ret
      refine ⟨by rw [HF.out]; rfl, ?_⟩
      first
        | exact after ((HBel.out.alloc HBel.out.size _).drew) (Nat.le_refl _) hb1
        | exact (after HBel.out.drew (Nat.le_refl _) hb1).alloc (after HBel.out.drew (Nat.le_refl _) hb1).size _
end Go.Proofs.Ytokcffkffcfolaa.Ma
namespace Go.Proofs.Ytokcffkffcfolaa.Ma
open Go Go.RowKit Go.Proofs.Ytokcffkffcfolaa.Rg

theorem box_keep4 {w w1 : World} {g g2 i : Nat} {v0 v1 v2 v3 : Value} (h : w.cell? ⟨g, 0, none⟩ = some v0 ∧ w.cell? ⟨g, 1, none⟩ = some v1 ∧ w.cell? ⟨g, 2, none⟩ = some v2 ∧ w.cell? ⟨g2, i, none⟩ = some v3) (hb : Below w.heap.size w w1) :
    w1.cell? ⟨g, 0, none⟩ = some v0 ∧ w1.cell? ⟨g, 1, none⟩ = some v1 ∧ w1.cell? ⟨g, 2, none⟩ = some v2 ∧ w1.cell? ⟨g2, i, none⟩ = some v3 := by
  have hl := World.block_lt_of_cell? w _ h.1
  have hl2 := World.block_lt_of_cell? w _ h.2.2.2
  exact ⟨(hb.cell (p := ⟨g, 0, none⟩) hl).trans h.1, (hb.cell (p := ⟨g, 1, none⟩) hl).trans h.2.1, (hb.cell (p := ⟨g, 2, none⟩) hl).trans h.2.2.1, (hb.cell (p := ⟨g2, i, none⟩) hl2).trans h.2.2.2⟩
set_option maxRecDepth 100000 in
set_option maxHeartbeats 4000000 in
theorem rtext_calls (m : Mr) (hs : m.name.size ≤ 300 ∧ m.value.size ≤ 300) (W : World) : Calls Try.prog 24 #[.agg #[.int .i64 m.kind, .string m.name, .string m.value]] W (TextPost W m) := by
  obtain ⟨hs1, hs2⟩ := hs
  have hbel := (Below.refl W.heap.size W).alloc (Nat.le_refl _) (.cells #[.int .i64 m.kind, .string m.name, .string m.value] 48)
  have HBel := Lib.hid hbel; clear hbel
  by_cases hk1 : m.kind < 1
  · have hf : textM m = ⟨#[]⟩ := by rw [textM, if_neg (by omega)]
    have HF := Lib.hid hf; clear hf
    go_enter Try.func24, Try.ntmps24
    go_wp2_with fail
    go_ret
    exact ⟨by rw [HF.out]; rfl, HBel.out⟩
  by_cases hk4 : 4 < m.kind
  · have hf : textM m = ⟨#[]⟩ := by rw [textM, if_neg (by omega)]
    have HF := Lib.hid hf; clear hf
    go_enter Try.func24, Try.ntmps24
    go_wp2_with fail
    go_ret
    exact ⟨by rw [HF.out]; rfl, HBel.out⟩
  have hf : textM m = m.name ++ opOf m.kind ++ quoteS m.value := by rw [textM, if_pos (by omega)]
  have HF := Lib.hid hf; clear hf
  have hk : m.kind = 1 ∨ m.kind = 2 ∨ m.kind = 3 ∨ m.kind = 4 := by omega
  clear hk1 hk4
  have hqs := quoteS_size m.value
  obtain ⟨k, nm, vl⟩ := m
  dsimp only at *
  rcases hk with rfl | rfl | rfl | rfl
  · have hw : IntKind.i64.wrap 0 = 0 := by decide
    have hq1 : ¬ 9223372036854775807 < nm.size + 1 := by omega
    have hq2 : ¬ 9223372036854775807 < nm.size + 1 + (quoteS vl).size := by omega
    have hfin : nm ++ opOf 1 ++ quoteS vl = nm ++ ⟨#[61]⟩ ++ quoteS vl := rfl
    rw [hfin] at HF
    clear hfin
    go_enter Try.func24, Try.ntmps24
    go_wp2_with fail
    go_region_held3 (fun w' => w'.cell? ⟨W.heap.size, 0, none⟩ = some (.int .i64 1) ∧ w'.cell? ⟨W.heap.size, 1, none⟩ = some (.string nm) ∧ w'.cell? ⟨W.heap.size, 2, none⟩ = some (.string vl) ∧ w'.cell? ⟨W.heap.size + 1, 0, none⟩ = some (.string ⟨#[61]⟩)) (first | go_keep | (go_split_ands; exact box_keep4 ⟨by assumption, by assumption, by assumption, by assumption⟩ hb1))
      (first | (go_at_call 42; refine (rquote_calls vl (by omega) _).mono ?_; rintro e w1 ⟨rfl, hb1⟩))
    all_goals
      go_wp2_with fail
      go_ret
      refine ⟨by rw [HF.out]; rfl, ?_⟩
      exact after ((HBel.out.alloc HBel.out.size _).drew) (Nat.le_refl _) hb1
  · have hw : IntKind.i64.wrap 1 = 1 := by decide
    have hq1 : ¬ 9223372036854775807 < nm.size + 2 := by omega
    have hq2 : ¬ 9223372036854775807 < nm.size + 2 + (quoteS vl).size := by omega
    have hfin : nm ++ opOf 2 ++ quoteS vl = nm ++ ⟨#[33, 61]⟩ ++ quoteS vl := rfl
    rw [hfin] at HF
    clear hfin
    go_enter Try.func24, Try.ntmps24
    go_wp2_with fail
    go_region_held3 (fun w' => w'.cell? ⟨W.heap.size, 0, none⟩ = some (.int .i64 2) ∧ w'.cell? ⟨W.heap.size, 1, none⟩ = some (.string nm) ∧ w'.cell? ⟨W.heap.size, 2, none⟩ = some (.string vl) ∧ w'.cell? ⟨W.heap.size + 1, 1, none⟩ = some (.string ⟨#[33, 61]⟩)) (first | go_keep | (go_split_ands; exact box_keep4 ⟨by assumption, by assumption, by assumption, by assumption⟩ hb1))
      (first | (go_at_call 42; refine (rquote_calls vl (by omega) _).mono ?_; rintro e w1 ⟨rfl, hb1⟩))
    all_goals
      go_wp2_with fail
      go_ret
      refine ⟨by rw [HF.out]; rfl, ?_⟩
      exact after ((HBel.out.alloc HBel.out.size _).drew) (Nat.le_refl _) hb1
  · have hw : IntKind.i64.wrap 2 = 2 := by decide
    have hq1 : ¬ 9223372036854775807 < nm.size + 2 := by omega
    have hq2 : ¬ 9223372036854775807 < nm.size + 2 + (quoteS vl).size := by omega
    have hfin : nm ++ opOf 3 ++ quoteS vl = nm ++ ⟨#[61, 126]⟩ ++ quoteS vl := rfl
    rw [hfin] at HF
    clear hfin
    go_enter Try.func24, Try.ntmps24
    go_wp2_with fail
    go_region_held3 (fun w' => w'.cell? ⟨W.heap.size, 0, none⟩ = some (.int .i64 3) ∧ w'.cell? ⟨W.heap.size, 1, none⟩ = some (.string nm) ∧ w'.cell? ⟨W.heap.size, 2, none⟩ = some (.string vl) ∧ w'.cell? ⟨W.heap.size + 1, 2, none⟩ = some (.string ⟨#[61, 126]⟩)) (first | go_keep | (go_split_ands; exact box_keep4 ⟨by assumption, by assumption, by assumption, by assumption⟩ hb1))
      (first | (go_at_call 42; refine (rquote_calls vl (by omega) _).mono ?_; rintro e w1 ⟨rfl, hb1⟩))
    all_goals
      go_wp2_with fail
      go_ret
      refine ⟨by rw [HF.out]; rfl, ?_⟩
      exact after ((HBel.out.alloc HBel.out.size _).drew) (Nat.le_refl _) hb1
  · have hw : IntKind.i64.wrap 3 = 3 := by decide
    have hq1 : ¬ 9223372036854775807 < nm.size + 2 := by omega
    have hq2 : ¬ 9223372036854775807 < nm.size + 2 + (quoteS vl).size := by omega
    have hfin : nm ++ opOf 4 ++ quoteS vl = nm ++ ⟨#[33, 126]⟩ ++ quoteS vl := rfl
    rw [hfin] at HF
    clear hfin
    go_enter Try.func24, Try.ntmps24
    go_wp2_with fail
    go_region_held3 (fun w' => w'.cell? ⟨W.heap.size, 0, none⟩ = some (.int .i64 4) ∧ w'.cell? ⟨W.heap.size, 1, none⟩ = some (.string nm) ∧ w'.cell? ⟨W.heap.size, 2, none⟩ = some (.string vl) ∧ w'.cell? ⟨W.heap.size + 1, 3, none⟩ = some (.string ⟨#[33, 126]⟩)) (first | go_keep | (go_split_ands; exact box_keep4 ⟨by assumption, by assumption, by assumption, by assumption⟩ hb1))
      (first | (go_at_call 42; refine (rquote_calls vl (by omega) _).mono ?_; rintro e w1 ⟨rfl, hb1⟩))
    all_goals
      go_wp2_with fail
      go_ret
      refine ⟨by rw [HF.out]; rfl, ?_⟩
      exact after ((HBel.out.alloc HBel.out.size _).drew) (Nat.le_refl _) hb1
end Go.Proofs.Ytokcffkffcfolaa.Ma
