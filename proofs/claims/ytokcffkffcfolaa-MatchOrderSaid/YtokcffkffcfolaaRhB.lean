/-
  The document's reader: special, escaped, item.
-/
import Derived.Test.YtokcffkffcfolaaRhA
namespace Go.Proofs.Ytokcffkffcfolaa.Rh
open Go Go.RowKit Go.Proofs.Ytokcffkffcfolaa.Rg
variable {W : World} {g : Nat} {r : Rd}

def specBytes : ByteArray := { data := #[92, 46, 91, 93, 40, 41, 124, 42, 43, 63] }
theorem special_calls (c : Nat) (x : Bool) (hx : special.contains c = x) : Calls Try.prog 39 #[.int .u8 c] W fun q W' => q = .returned (.bool x) ∧ W' = W := by
  have hx' : (specBytes.data.toList.map UInt8.toNat).contains c = x := hx
  have HX := Lib.hid hx'; clear hx hx'
  go_enter Try.func39, Try.ntmps39
  go_wp2_with fail
  refine (among_calls c specBytes (by decide) x HX.out).mono ?_
  rintro q W1 ⟨rfl, rfl⟩
  go_wp2
  go_ret
  exact ⟨rfl, rfl⟩

theorem quiet_among {W : World} {n : Nat} (c : Int) (d : Nat) (hc : c = d) (wh : ByteArray) (hz : wh.size ≤ 4096) (x : Bool) (hx : (wh.data.toList.map UInt8.toNat).contains d = x) :
    Calls Try.prog 53 #[.int .u8 c, .string wh] (W.drewN n) fun q W' => q = .returned (.bool x) ∧ ∃ m, W' = W.drewN m := by
  subst hc
  exact Calls.quiet_of_same (among_calls d wh hz x hx)

theorem rescaped_calls (wh : ByteArray) (wl : List Nat) (hwl : wh.data.toList.map UInt8.toNat = wl) (hwz : wh.size ≤ 4096) (hI : Ro W g r) (he : r.err = 0) (hat : r.at_ < r.s.size) (hsz : r.s.size ≤ 4096) :
    Calls Try.prog 69 #[.pointer (some ⟨g, 0, none⟩), .string wh] W fun q W' => q = .returned (.int .u8 (r.escV wl)) ∧ Ro W' g (r.escR wl) ∧ Only g W W' := by
  have c0 := RB.c0 hI
  have c1 := RB.c1 hI
  have f1 := RB.fz hI 1
  have hI1 : Ro (W.setCell ⟨g, 1, none⟩ (.int .i64 (r.at_ + 1 : Nat))) g r.adv := RB.set1 hI (r.at_ + 1 : Nat)
  have hO1 := (Only.refl g W).cell (p := ⟨g, 1, none⟩) (.inl rfl) (.int .i64 (r.at_ + 1 : Nat))
  have he1 : r.adv.err = 0 := he
  by_cases ha : r.at_ + 1 < r.s.size
  · have hhas : r.adv.has = true := (Rd.has_iff _).2 ⟨he, ha⟩
    have hcur : ((r.s[r.at_ + 1]'ha).toNat : Int) = (r.adv.cur : Int) := by rw [Rd.cur, byteAt, dif_pos (show r.adv.at_ < r.adv.s.size from ha)]; rfl
    have hcu := cur_lt r.adv
    have hd : decide ((r.s.size : Int) ≤ (r.at_ : Int) + 1) = false := by simp; omega
    have hz0 : (0 : Int) ≤ (r.at_ : Int) + 1 := by omega
    have hzt : ((r.at_ : Int) + 1).toNat = r.at_ + 1 := by omega
    have hzl : (r.at_ : Int) + 1 < (r.s.size : Int) := by omega
    obtain ⟨x, hx⟩ : ∃ x, (wh.data.toList.map UInt8.toNat).contains r.adv.cur = x := ⟨_, rfl⟩
    have hxw : wl.contains r.adv.cur = x := by rw [← hwl]; exact hx
    have HX := Lib.hid hx; clear hx
    have HXw := Lib.hid hxw; clear hxw
    have HI1 := Lib.hid hI1; clear hI1
    have HO1 := Lib.hid hO1; clear hO1
    have HH := Lib.hid hhas; clear hhas
    have HE := Lib.hid he1; clear he1 he
    have HC := Lib.hid hcur; clear hcur
    clear hI hwl
    cases x
    · have hB : r.escB wl = false := by rw [Rd.escB, HH.out, HXw.out]; rfl
      have HB := Lib.hid hB; clear hB
      go_enter Try.func69, Try.ntmps69
      go_wp2_with fail
      go_quiet ((go_at_call 53; refine quiet_among _ _ HC.out wh hwz _ HX.out))
      go_wp2_with fail
      refine (rfail_calls 2 r.adv.at_ (HI1.out.drewN _) HE.out).mono ?_
      rintro q W2 ⟨rfl, hI2, hO2⟩
      go_wp2
      go_ret
      refine ⟨?_, ?_, (HO1.out.drewN _).trans hO2⟩
      · rw [Rd.escV, HB.out]; rfl
      · rw [Rd.escR, HB.out]; exact hI2
    · have hB : r.escB wl = true := by rw [Rd.escB, HH.out, HXw.out]; rfl
      have HB := Lib.hid hB; clear hB
      go_enter Try.func69, Try.ntmps69
      go_wp2_with fail
      go_quiet ((go_at_call 53; refine quiet_among _ _ HC.out wh hwz _ HX.out))
      go_wp2_with fail
      go_quiet (fail)
      go_wp2
      go_ret
      refine ⟨?_, ?_, ?_⟩
      · rw [Rd.escV, HB.out, if_pos rfl, ← HC.out]; rfl
      · rw [Rd.escR, HB.out]; exact RB.set1 (RB.drewN HI1.out _) (r.at_ + 1 + 1 : Nat)
      · exact (HO1.out.drewN _).cell (p := ⟨g, 1, none⟩) (.inl rfl) _
  · have hhas : r.adv.has = false := by
      rw [Bool.eq_false_iff]
      exact fun h => ha ((Rd.has_iff _).1 h).2
    have hd : decide ((r.s.size : Int) ≤ (r.at_ : Int) + 1) = true := by simp; omega
    have hB : r.escB wl = false := by rw [Rd.escB, hhas]; rfl
    have HB := Lib.hid hB; clear hB
    have HI1 := Lib.hid hI1; clear hI1
    have HO1 := Lib.hid hO1; clear hO1
    have HE := Lib.hid he1; clear he1 he
    clear hI hwl hhas ha
    go_enter Try.func69, Try.ntmps69
    go_wp2_with fail
    go_quiet (fail)
    go_wp2_with fail
    refine (rfail_calls 2 r.adv.at_ (HI1.out.drewN _) HE.out).mono ?_
    rintro q W2 ⟨rfl, hI2, hO2⟩
    go_wp2
    go_ret
    refine ⟨?_, ?_, (HO1.out.drewN _).trans hO2⟩
    · rw [Rd.escV, HB.out]; rfl
    · rw [Rd.escR, HB.out]; exact hI2

theorem ritem_calls (hI : Ro W g r) (he : r.err = 0) (hsz : r.s.size ≤ 4096) (htop : r.at_ ≤ r.s.size) :
    Calls Try.prog 72 #[.pointer (some ⟨g, 0, none⟩)] W fun q W' => q = .returned (.int .u8 r.itemV) ∧ Ro W' g r.itemR ∧ Only g W W' := by
  have c0 := RB.c0 hI
  have c1 := RB.c1 hI
  have f1 := RB.fz hI 1
  have HI := Lib.hid hI; clear hI
  by_cases hlt : r.at_ < r.s.size
  · have ha : r.has = true := (Rd.has_iff _).2 ⟨he, hlt⟩
    have hd : decide (r.s.size ≤ r.at_) = false := by simp; omega
    have hcur : ((r.s[r.at_]'hlt).toNat : Int) = (r.cur : Int) := by rw [Rd.cur, byteAt, dif_pos hlt]
    have hcu := cur_lt r
    have HE := Lib.hid he; clear he
    by_cases h1 : r.cur = 92
    · have hV : r.itemV = r.escV Rd.inside := by rw [Rd.itemV, if_pos ha, if_pos h1]
      have hR : r.itemR = r.escR Rd.inside := by rw [Rd.itemR, if_pos ha, if_pos h1]
      have HV := Lib.hid hV; clear hV
      have HR := Lib.hid hR; clear hR
      rw [h1] at hcur
      clear h1 hcu
      go_enter Try.func72, Try.ntmps72
      go_wp2_with fail
      go_quiet (fail)
      go_wp2_with fail
      go_quiet (fail)
      go_wp2_with fail
      refine (rescaped_calls _ Rd.inside rfl (by decide) (RB.drewN HI.out _) HE.out hlt hsz).mono ?_
      rintro q W2 ⟨rfl, hI2, hO2⟩
      go_wp2
      go_ret
      refine ⟨?_, ?_, ((Only.refl g W).drewN _).trans hO2⟩
      · rw [HV.out]; rfl
      · rw [HR.out]; exact hI2
    · have b1 : (((r.s[r.at_]'hlt).toNat : Int) == 92) = false := by rw [hcur, beq_eq_false_iff_ne]; omega
      by_cases h2 : r.cur = 93 ∨ r.cur = 45 ∨ r.cur = 94
      · have hV : r.itemV = 0 := by rw [Rd.itemV, if_pos ha, if_neg h1, if_pos h2]
        have hR : r.itemR = r.fail 2 r.at_ := by rw [Rd.itemR, if_pos ha, if_neg h1, if_pos h2]
        have HV := Lib.hid hV; clear hV
        have HR := Lib.hid hR; clear hR
        clear h1 b1
        rcases h2 with h2 | h2 | h2
        all_goals
          rw [h2] at hcur
          clear h2 hcu
          go_enter Try.func72, Try.ntmps72
          go_wp2_with fail
          go_quiet (fail)
          go_wp2_with fail
          go_quiet (fail)
          go_wp2_with fail
          refine (rfail_calls 2 r.at_ (RB.drewN HI.out _) HE.out).mono ?_
          rintro q W2 ⟨rfl, hI2, hO2⟩
          go_wp2
          go_ret
          refine ⟨?_, ?_, ((Only.refl g W).drewN _).trans hO2⟩
          · rw [HV.out]; rfl
          · rw [HR.out]; exact hI2
      · have hV : r.itemV = r.cur := by rw [Rd.itemV, if_pos ha, if_neg h1, if_neg h2]
        have hR : r.itemR = r.adv := by rw [Rd.itemR, if_pos ha, if_neg h1, if_neg h2]
        have b2 : (((r.s[r.at_]'hlt).toNat : Int) == 93) = false := by rw [hcur, beq_eq_false_iff_ne]; omega
        have b3 : (((r.s[r.at_]'hlt).toNat : Int) == 45) = false := by rw [hcur, beq_eq_false_iff_ne]; omega
        have b4 : (((r.s[r.at_]'hlt).toNat : Int) == 94) = false := by rw [hcur, beq_eq_false_iff_ne]; omega
        have HV := Lib.hid hV; clear hV
        have HR := Lib.hid hR; clear hR
        have HC := Lib.hid hcur; clear hcur
        clear h1 h2
        go_enter Try.func72, Try.ntmps72
        go_wp2_with fail
        go_quiet (fail)
        go_wp2_with fail
        go_quiet (fail)
        go_wp2_with fail
        go_ret
        refine ⟨?_, ?_, ?_⟩
        · rw [HV.out, ← HC.out]; rfl
        · rw [HR.out]; exact RB.set1 (RB.drewN HI.out _) (r.at_ + 1 : Nat)
        · exact ((Only.refl g W).drewN _).cell (p := ⟨g, 1, none⟩) (.inl rfl) _
  · have ha : r.has = false := by
      rw [Bool.eq_false_iff]
      exact fun h => hlt ((Rd.has_iff _).1 h).2
    have hd : decide (r.s.size ≤ r.at_) = true := by simp; omega
    have hV : r.itemV = 0 := by rw [Rd.itemV, if_neg (by rw [ha]; simp)]
    have hR : r.itemR = r.fail 2 r.at_ := by rw [Rd.itemR, if_neg (by rw [ha]; simp)]
    have HV := Lib.hid hV; clear hV
    have HR := Lib.hid hR; clear hR
    have HE := Lib.hid he; clear he
    clear ha hlt
    go_enter Try.func72, Try.ntmps72
    go_wp2_with fail
    go_quiet (fail)
    go_wp2_with fail
    refine (rfail_calls 2 r.at_ (RB.drewN HI.out _) HE.out).mono ?_
    rintro q W2 ⟨rfl, hI2, hO2⟩
    go_wp2
    go_ret
    refine ⟨?_, ?_, ((Only.refl g W).drewN _).trans hO2⟩
    · rw [HV.out]; rfl
    · rw [HR.out]; exact hI2
end Go.Proofs.Ytokcffkffcfolaa.Rh
