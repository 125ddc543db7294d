/-
  The reader's methods escaped and item.
-/
import Derived.Test.YtnbgigdloehbjaaGreatDoorRgC
namespace Go.Proofs.YtnbgigdloehbjaaGreatDoor.Rg
open Go Go.RowKit
variable {B : Nat} {W : World} {g : Nat} {r : Rd} {v : Value}

theorem byteAt_lt (s : ByteArray) (i : Nat) : byteAt s i < 256 := by
  unfold byteAt
  split
  · exact UInt8.toNat_lt _
  · omega
theorem cur_lt (r : Rd) : r.cur < 256 := byteAt_lt _ _
theorem nextV_lt (r : Rd) : r.nextV < 256 := by
  unfold Rd.nextV
  split
  · exact cur_lt r
  · omega
theorem indexByte_has (l : List UInt8) (n : Nat) (hn : n < 256) (h : (l.map UInt8.toNat).contains n = true) : 0 ≤ Lib.indexByte l (Nat.toUInt8 n) := by
  have hge := Lib.indexByte_ge l (Nat.toUInt8 n)
  induction l with
  | nil => simp at h
  | cons b l ih =>
    unfold Lib.indexByte
    by_cases e : (b == Nat.toUInt8 n) = true
    · rw [if_pos e]; omega
    · rw [if_neg e]
      have hb : b.toNat ≠ n := by
        intro hb
        apply e
        rw [beq_iff_eq]
        apply UInt8.toNat_inj.1
        rw [hb]
        simp [Nat.toUInt8]; omega
      have h' : (l.map UInt8.toNat).contains n = true := by
        simp only [List.map_cons, List.contains_cons, Bool.or_eq_true, beq_iff_eq] at h
        rcases h with h | h
        · exact absurd h.symm hb
        · exact h
      have := ih h' (Lib.indexByte_ge _ _)
      split <;> rename_i h2
      · rw [beq_iff_eq] at h2; omega
      · omega
theorem indexByte_hasnt (l : List UInt8) (n : Nat) (hn : n < 256) (h : (l.map UInt8.toNat).contains n = false) : Lib.indexByte l (Nat.toUInt8 n) < 0 := by
  induction l with
  | nil => simp [Lib.indexByte]
  | cons b l ih =>
    simp only [List.map_cons, List.contains_cons, Bool.or_eq_false_iff, beq_eq_false_iff_ne] at h
    have e : ¬ (b == Nat.toUInt8 n) = true := by
      rw [beq_iff_eq]
      rintro rfl
      apply h.1
      simp [Nat.toUInt8]; omega
    have hi := ih h.2
    have hge := Lib.indexByte_ge l (Nat.toUInt8 n)
    have h3 : Lib.indexByte l (Nat.toUInt8 n) = -1 := by omega
    unfold Lib.indexByte
    rw [if_neg e, if_pos (by rw [h3]; rfl)]
    omega

theorem escaped_calls (wh : ByteArray) (wl : List Nat) (hwl : wh.data.toList.map UInt8.toNat = wl) (hI : Is B W g r v) (hat : r.at_ < r.s.size) :
    Calls Tryz.prog 160 #[.pointer (some ⟨g, 0, none⟩), .string wh] W fun q W' => q = .returned (.int .i64 (r.escV wl)) ∧ Is B W' g (r.escR wl) v ∧ Fr B W W' := by
  have c1 := hI.c1
  have f1 := hI.fz 1
  have hsz := hI.sz
  have hI1 := hI.setAt (r.at_ + 1)
  have hF1 := hI.frSet (Fr.refl B W) 1 (.int .i64 (r.at_ + 1 : Nat))
  by_cases h : r.escB wl = true
  · obtain ⟨ha, hb⟩ : r.adv.has = true ∧ wl.contains r.adv.cur = true := by simpa [Rd.escB] using h
    have hV : r.escV wl = r.adv.cur := if_pos h
    have hR : r.escR wl = r.adv.adv := if_pos h
    have hn : r.adv.nextV = r.adv.cur := if_pos ha
    have hix : 0 ≤ Lib.indexByte wh.data.toList (Nat.toUInt8 r.adv.cur) := indexByte_has _ _ (cur_lt _) (by rw [hwl]; exact hb)
    have hd : decide (Lib.indexByte wh.data.toList (Nat.toUInt8 r.adv.cur) < 0) = false := by simpa using hix
    clear hix
    have HI := Lib.hid hI1; clear hI1
    have HF := Lib.hid hF1; clear hF1
    have H := Lib.hid h; clear h
    have HV := Lib.hid hV; clear hV
    have HR := Lib.hid hR; clear hR
    have HN := Lib.hid hn; clear hn
    have HA := Lib.hid ha; clear ha
    clear hI hb
    have HW := Lib.hid hwl; clear hwl
    go_enter Tryz.func160, Tryz.ntmps160
    go_wp2_with fail
    refine (next_calls (r := r.adv) HI.out).mono ?_
    rintro q W1 ⟨rfl, hI2, hF2⟩
    have c1' := hI2.c1
    have f1' := hI2.fz 1
    rw [HN.out, HA.out]
    have hcu := cur_lt r.adv
    have hlt : r.adv.at_ < r.s.size := by
      have : r.adv.err = 0 ∧ r.adv.at_ < r.adv.s.size := by simpa [Rd.has] using HA.out
      exact this.2
    go_wp2_with fail
    refine (Tryz.strings_IndexByte _ _ _).mono ?_
    rintro q2 W2 ⟨rfl, rfl⟩
    have HI2 := Lib.hid hI2; clear hI2
    have HF2 := Lib.hid hF2; clear hF2
    go_wp2
    go_ret
    refine ⟨?_, ?_, ?_⟩
    · rw [HV.out]; rfl
    · rw [HR.out]; exact HI2.out.setAt (r.at_ + 1 + 1)
    · exact HI2.out.frSet (HF.out.trans HF2.out) _ _
  · have h' : r.escB wl = false := by simpa using h
    have hV : r.escV wl = 0 := if_neg h
    have hR : r.escR wl = r.adv.fail 2 r.adv.at_ := if_neg h
    have HI := Lib.hid hI1; clear hI1
    have HF := Lib.hid hF1; clear hF1
    have HV := Lib.hid hV; clear hV
    have HR := Lib.hid hR; clear hR
    clear hI
    by_cases ha : r.adv.has = true
    · have hb : wl.contains r.adv.cur = false := by simpa [Rd.escB, ha] using h'
      have hn : r.adv.nextV = r.adv.cur := if_pos ha
      have hix : Lib.indexByte wh.data.toList (Nat.toUInt8 r.adv.cur) < 0 := indexByte_hasnt _ _ (cur_lt _) (by rw [hwl]; exact hb)
      have HN := Lib.hid hn; clear hn
      have HA := Lib.hid ha; clear ha
      clear hb h h'
      have HW := Lib.hid hwl; clear hwl
      go_enter Tryz.func160, Tryz.ntmps160
      go_wp2_with fail
      refine (next_calls (r := r.adv) HI.out).mono ?_
      rintro q W1 ⟨rfl, hI2, hF2⟩
      have c1' := hI2.c1
      rw [HN.out, HA.out]
      go_wp2_with fail
      refine (Tryz.strings_IndexByte _ _ _).mono ?_
      rintro q2 W2 ⟨rfl, rfl⟩
      have HI2 := Lib.hid hI2; clear hI2
      have HF2 := Lib.hid hF2; clear hF2
      go_wp2_with fail
      refine (fail_calls 2 r.adv.at_ HI2.out).mono ?_
      rintro q W3 ⟨rfl, hI3, hF3⟩
      go_wp2
      go_ret
      refine ⟨?_, ?_, ?_⟩
      · rw [HV.out]; rfl
      · rw [HR.out]; exact hI3
      · exact (HF.out.trans HF2.out).trans hF3
    · have ha' : r.adv.has = false := by simpa using ha
      have HA := Lib.hid ha'; clear ha'
      clear h h' ha
      have HW := Lib.hid hwl; clear hwl
      go_enter Tryz.func160, Tryz.ntmps160
      go_wp2_with fail
      refine (next_calls (r := r.adv) HI.out).mono ?_
      rintro q W1 ⟨rfl, hI2, hF2⟩
      have c1' := hI2.c1
      rw [HA.out]
      have HI2 := Lib.hid hI2; clear hI2
      have HF2 := Lib.hid hF2; clear hF2
      go_wp2_with fail
      refine (fail_calls 2 r.adv.at_ HI2.out).mono ?_
      rintro q W3 ⟨rfl, hI3, hF3⟩
      go_wp2
      go_ret
      refine ⟨?_, ?_, ?_⟩
      · rw [HV.out]; rfl
      · rw [HR.out]; exact hI3
      · exact (HF.out.trans HF2.out).trans hF3

theorem item_calls (hI : Is B W g r v) :
    Calls Tryz.prog 162 #[.pointer (some ⟨g, 0, none⟩)] W fun q W' => q = .returned (.int .i64 r.itemV) ∧ Is B W' g r.itemR v ∧ Fr B W W' := by
  by_cases ha : r.has = true
  · have hn : r.nextV = r.cur := if_pos ha
    have hlt : r.at_ < r.s.size := by
      have : r.err = 0 ∧ r.at_ < r.s.size := by simpa [Rd.has] using ha
      exact this.2
    by_cases h1 : r.cur = 92
    · have hV : r.itemV = r.escV Rd.inside := by rw [Rd.itemV, if_pos ha, if_pos h1]
      have hR : r.itemR = r.escR Rd.inside := by rw [Rd.itemR, if_pos ha, if_pos h1]
      have HV := Lib.hid hV; clear hV
      have HR := Lib.hid hR; clear hR
      have HN := Lib.hid hn; clear hn
      have HA := Lib.hid ha; clear ha
      have H1 := Lib.hid h1; clear h1
      have HI := Lib.hid hI; clear hI
      go_enter Tryz.func162, Tryz.ntmps162
      go_wp2_with fail
      refine (next_calls HI.out).mono ?_
      rintro q W1 ⟨rfl, hI1, hF1⟩
      rw [HN.out, HA.out, H1.out]
      have HI1 := Lib.hid hI1; clear hI1
      have HF1 := Lib.hid hF1; clear hF1
      go_wp2_with fail
      refine (escaped_calls _ Rd.inside rfl HI1.out hlt).mono ?_
      rintro q2 W2 ⟨rfl, hI2, hF2⟩
      have HI2 := Lib.hid hI2; clear hI2
      have HF2 := Lib.hid hF2; clear hF2
      go_wp2
      go_ret
      refine ⟨?_, ?_, ?_⟩
      · rw [HV.out]; rfl
      · rw [HR.out]; exact HI2.out
      · exact HF1.out.trans HF2.out
    · have hsz := hI.sz
      have b1 : ((r.cur : Int) == 92) = false := by rw [beq_eq_false_iff_ne]; omega
      by_cases h2 : r.cur = 93 ∨ r.cur = 45 ∨ r.cur = 94
      · have hV : r.itemV = 0 := by rw [Rd.itemV, if_pos ha, if_neg h1, if_pos h2]
        have hR : r.itemR = r.fail 2 r.at_ := by rw [Rd.itemR, if_pos ha, if_neg h1, if_pos h2]
        have HV := Lib.hid hV; clear hV
        have HR := Lib.hid hR; clear hR
        have HN := Lib.hid hn; clear hn
        have HA := Lib.hid ha; clear ha
        have HI := Lib.hid hI; clear hI
        clear h1
        rcases h2 with h2 | h2 | h2
        all_goals
          have H2 := Lib.hid h2; clear h2 b1
          go_enter Tryz.func162, Tryz.ntmps162
          go_wp2_with fail
          refine (next_calls HI.out).mono ?_
          rintro q W1 ⟨rfl, hI1, hF1⟩
          have c1 := hI1.c1
          rw [HN.out, HA.out, H2.out]
          have HI1 := Lib.hid hI1; clear hI1
          have HF1 := Lib.hid hF1; clear hF1
          go_wp2_with fail
          refine (fail_calls 2 r.at_ HI1.out).mono ?_
          rintro q2 W2 ⟨rfl, hI2, hF2⟩
          have HI2 := Lib.hid hI2; clear hI2
          have HF2 := Lib.hid hF2; clear hF2
          go_wp2
          go_ret
          refine ⟨?_, ?_, ?_⟩
          · rw [HV.out]; rfl
          · rw [HR.out]; exact HI2.out
          · exact HF1.out.trans HF2.out
      · have hV : r.itemV = r.cur := by rw [Rd.itemV, if_pos ha, if_neg h1, if_neg h2]
        have hR : r.itemR = r.adv := by rw [Rd.itemR, if_pos ha, if_neg h1, if_neg h2]
        have b2 : ((r.cur : Int) == 93) = false := by rw [beq_eq_false_iff_ne]; omega
        have b3 : ((r.cur : Int) == 45) = false := by rw [beq_eq_false_iff_ne]; omega
        have hcu := cur_lt r
        have b4 : ((r.cur : Int) == 94) = false := by rw [beq_eq_false_iff_ne]; omega
        have HV := Lib.hid hV; clear hV
        have HR := Lib.hid hR; clear hR
        have HN := Lib.hid hn; clear hn
        have HA := Lib.hid ha; clear ha
        have HI := Lib.hid hI; clear hI
        clear h1 h2
        go_enter Tryz.func162, Tryz.ntmps162
        go_wp2_with fail
        refine (next_calls HI.out).mono ?_
        rintro q W1 ⟨rfl, hI1, hF1⟩
        have c1 := hI1.c1
        have f1 := hI1.fz 1
        rw [HN.out, HA.out]
        have HI1 := Lib.hid hI1; clear hI1
        have HF1 := Lib.hid hF1; clear hF1
        go_wp2
        go_ret
        refine ⟨?_, ?_, ?_⟩
        · rw [HV.out]; rfl
        · rw [HR.out]; exact HI1.out.setAt (r.at_ + 1)
        · exact HI1.out.frSet HF1.out _ _
  · have ha' : r.has = false := by simpa using ha
    have hV : r.itemV = 0 := by rw [Rd.itemV, if_neg ha]
    have hR : r.itemR = r.fail 2 r.at_ := by rw [Rd.itemR, if_neg ha]
    have HV := Lib.hid hV; clear hV
    have HR := Lib.hid hR; clear hR
    have HA := Lib.hid ha'; clear ha'
    have HI := Lib.hid hI; clear hI
    clear ha
    go_enter Tryz.func162, Tryz.ntmps162
    go_wp2_with fail
    refine (next_calls HI.out).mono ?_
    rintro q W1 ⟨rfl, hI1, hF1⟩
    have c1 := hI1.c1
    rw [HA.out]
    have HI1 := Lib.hid hI1; clear hI1
    have HF1 := Lib.hid hF1; clear hF1
    go_wp2_with fail
    refine (fail_calls 2 r.at_ HI1.out).mono ?_
    rintro q2 W2 ⟨rfl, hI2, hF2⟩
    have HI2 := Lib.hid hI2; clear hI2
    have HF2 := Lib.hid hF2; clear hF2
    go_wp2
    go_ret
    refine ⟨?_, ?_, ?_⟩
    · rw [HV.out]; rfl
    · rw [HR.out]; exact HI2.out
    · exact HF1.out.trans HF2.out
end Go.Proofs.YtnbgigdloehbjaaGreatDoor.Rg
