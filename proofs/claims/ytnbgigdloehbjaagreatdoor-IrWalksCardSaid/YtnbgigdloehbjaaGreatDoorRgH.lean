/-
  The reader's method shift.
-/
import Derived.Test.YtnbgigdloehbjaaGreatDoorRgG
namespace Go.Proofs.YtnbgigdloehbjaaGreatDoor.Rg
open Go Go.RowKit
variable {B : Nat} {W : World} {g : Nat} {r : Rd} {v : Value}

set_option maxRecDepth 100000 in
set_option maxHeartbeats 1600000 in
theorem shift_calls (p : Nat) (hI : Is B W g r v) (hB : B ≤ W.heap.size) (hn : r.l.length ≤ 20000) (hp : p ≤ r.l.length) (hab : ∀ x ∈ r.l, x.a ≤ 100000 ∧ x.b ≤ 100000) :
    Calls Tryz.prog 126 #[.pointer (some ⟨g, 0, none⟩), .int .i64 p] W fun q W' => q = .returned (.tuple #[]) ∧ (∃ v', Is B W' g (r.shift p) v') ∧ Fr B W W' := by
  go_enter Tryz.func126, Tryz.ntmps126
  go_wp2_with fail
  refine (put_calls zI hI hB hn).mono ?_
  rintro q W1 ⟨rfl, ⟨v1, hI1⟩, hF1⟩
  have hl1 : (r.put zI).l.length = r.l.length + 1 := by simp [Rd.put]
  obtain ⟨gg, cap, rfl, hgg, hne⟩ := hI1.form (by omega)
  rw [hl1] at hI1
  have c3 := hI1.c3
  clear hI
  obtain ⟨cur, hcur, hcs, hcap, hcm, htk⟩ := hI1.row
  have HI1 := Lib.hid hI1; clear hI1
  have HF1 := Lib.hid hF1; clear hF1
  rcases Nat.lt_or_ge p r.l.length with hlt | hge
  · unfold maxLen at hcm
    have HT := Lib.hid htk; clear htk
    have HS := Lib.hid hcs; clear hcs
    have HC := Lib.hid hcur; clear hcur
    rw [hl1] at hcap
    have HL := Lib.hid hl1; clear hl1
    go_wp2_with fail
    refine QT.wp_region_qtail 13 (by kernel_rfl) (by kernel_rfl) (by kernel_rfl) ?_
    simp only [List.take_succ_cons, List.take_zero, List.drop_succ_cons, List.drop_zero]
    repeat (go_big_quiet_step (fail))
    refine wpQuiet_nil ?_
    have hcs2 : (flat (((r.put zI).l.drop p).take ((r.put zI).l.length - (p + 1)))).length = (r.l.length - p) * 7 := by rw [flat_length]; simp [HL.out]; omega
    have hI2 := HI1.out.drew
    rw [← HL.out] at hI2
    have hI3 := hI2.copy (p := p) (by rw [HL.out]; omega) HC.out HS.out (by rw [HL.out]; exact hcap) hcm HT.out
    have hF3 : Fr B W _ := HF1.out.drew.grown (grown_setRow W1.drew gg (cur.toList.take ((p + 1) * 7) ++ (flat (((r.put zI).l.drop p).take ((r.put zI).l.length - (p + 1)))) ++ cur.toList.drop ((p + 1) * 7 + (flat (((r.put zI).l.drop p).take ((r.put zI).l.length - (p + 1)))).length)).toArray) hB (fun k hk => by cases hk; exact ⟨hgg, cur, (0, 0), HC.out⟩)
    refine QT.wpList_copy_rows rfl (.tmp 14) (.tmp 20) 137 137 rfl 145 7 (r.l.length - p) Tryz.underlying137 infoSize gg ((p + 1) * 7) _ _ ⟨gg, p * 7, none⟩ _ _ rfl rfl cur 145 HC.out (flat (((r.put zI).l.drop p).take ((r.put zI).l.length - (p + 1)))) ?_ hcs2 ?_ ?_ (flat_oneCell _) ?_
    · simp only [Nat.min_def]; split <;> omega
    · intro j u hu
      have hj : j < (r.l.length - p) * 7 := by rw [← hcs2]; exact (List.getElem?_eq_some_iff.1 hu).1
      rw [← flat_take, ← flat_drop, List.getElem?_take, if_pos (by rw [HL.out]; omega), List.getElem?_drop] at hu
      have hadd : (⟨gg, p * 7, none⟩ : Addr).add j = ⟨gg, p * 7 + j, none⟩ := by unfold Addr.add; split <;> simp_all
      rw [hadd]
      exact (hI2.own.cellAt (p * 7 + j) (by rw [HL.out]; omega)).trans hu
    · rw [hcs2, HS.out]; omega
    · rintro w' rfl
      rw [HL.out] at hI3
      have hL3 : copied (r.put zI).l p = shiftTo r.l p 0 := shiftTo_zero r.l p hp
      rw [hL3] at hI3
      obtain ⟨W2, hW2⟩ : ∃ W2, W2 = W1.drew.setRow gg (cur.toList.take ((p + 1) * 7) ++ (flat (((r.put zI).l.drop p).take ((r.put zI).l.length - (p + 1)))) ++ cur.toList.drop ((p + 1) * 7 + (flat (((r.put zI).l.drop p).take ((r.put zI).l.length - (p + 1)))).length)).toArray := ⟨_, rfl⟩
      rw [HL.out] at hW2 hF3 ⊢
      rw [← hW2] at hI3 hF3 ⊢
      clear hW2 hI2 hcs2 hL3
      have HI3 := Lib.hid hI3; clear hI3
      have HF3 := Lib.hid hF3; clear hF3
      go_wp2_with fail
      go_loopw [4] (fun i wr => ∃ k : Nat, k ≤ r.l.length - p ∧ i = .int .i64 ((p + 1 + k : Nat) : Int) ∧ Is B wr g { r with l := shiftTo r.l p k } (.slice (some ⟨gg, 0, none⟩) (r.l.length + 1) (cap)) ∧ Fr B W wr) (fun i _ => r.l.length + 1 - (intOf i).toNat)
      case atStart => exact ⟨0, Nat.zero_le _, rfl, HI3.out, HF3.out⟩
      case round =>
        obtain ⟨k, hk, rfl, hI4, hF4⟩ := hrel
        have c3 := hI4.c3
        by_cases hkn : p + k < r.l.length
        · have hx := shiftTo_get r.l p k hkn
          have hm := hab _ (List.getElem_mem hkn)
          have hs := shiftTo_succ r.l p k hkn
          obtain ⟨x, hxe⟩ : ∃ x, x = r.l[p + k] := ⟨_, rfl⟩
          rw [← hxe] at hx hm hs
          have hil : p + 1 + k < (shiftTo r.l p k).length := by rw [shiftTo_length _ _ _ hp]; omega
          have hgx : (shiftTo r.l p k)[p + 1 + k] = x := by simpa [List.getElem?_eq_getElem hil] using hx
          have ck := hI4.inst (by rw [shiftTo_length _ _ _ hp]) (p + 1 + k) 0 hil (by omega)
          have ca := hI4.inst (by rw [shiftTo_length _ _ _ hp]) (p + 1 + k) 5 hil (by omega)
          have cb := hI4.inst (by rw [shiftTo_length _ _ _ hp]) (p + 1 + k) 6 hil (by omega)
          simp only [hgx, Inst.cells, List.getElem?_cons_zero, List.getElem?_cons_succ, Nat.add_zero] at ck ca cb
          have f5 := hI4.instFz (by rw [shiftTo_length _ _ _ hp]) ((p + 1 + k) * 7 + 5)
          have f6 := hI4.instFz (by rw [shiftTo_length _ _ _ hp]) ((p + 1 + k) * 7 + 6)
          have hw := hI4.bump2 (by rw [shiftTo_length _ _ _ hp]) (p + 1 + k) hil x hx (x.a + 1) (x.b + 1)
          have hfw := (hI4.bump2 (by rw [shiftTo_length _ _ _ hp]) (p + 1 + k) hil x hx (x.a + 1) (x.b + 1))
          have hne' : gg ≠ g := hne
          have HI4 := Lib.hid hI4; clear hI4
          have HF4 := Lib.hid hF4; clear hF4
          have HW := Lib.hid hw; clear hw hfw
          have HX := Lib.hid hx; clear hx
          have HS := Lib.hid hs; clear hs
          have HXE := Lib.hid hxe; clear hxe
          clear hgx
          have hma := hm.1
          have hmb := hm.2
          clear hm
          by_cases h1 : x.kind = 1
          · have H1 := Lib.hid h1; clear h1
            rw [H1.out] at ck
            go_wp2
            go_roundw
            case rel =>
              have e : shiftTo r.l p (k + 1) = (shiftTo r.l p k).set (p + 1 + k) { x with a := x.a + 1, b := x.b + 1 } := by
                rw [← HS.out, Rd.bump, if_pos (by first | exact .inl H1.out | exact .inr H2.out)]
              exact ⟨k + 1, by omega, by go_num, by rw [e]; exact HW.out, HI4.out.frInst2 HF4.out _ _ _ _⟩
            case measure => (simp [intOf] <;> omega)
          · by_cases h2 : x.kind = 2
            · have H2 := Lib.hid h2; clear h2
              rw [H2.out] at ck
              clear h1
              go_wp2
              go_roundw
              case rel =>
                have e : shiftTo r.l p (k + 1) = (shiftTo r.l p k).set (p + 1 + k) { x with a := x.a + 1, b := x.b + 1 } := by
                  rw [← HS.out, Rd.bump, if_pos (by first | exact .inl H1.out | exact .inr H2.out)]
                exact ⟨k + 1, by omega, by go_num, by rw [e]; exact HW.out, HI4.out.frInst2 HF4.out _ _ _ _⟩
              case measure => (simp [intOf] <;> omega)
            · have b1 : ((x.kind : Int) == 1) = false := by rw [beq_eq_false_iff_ne]; omega
              have b2 : ((x.kind : Int) == 2) = false := by rw [beq_eq_false_iff_ne]; omega
              have hbx : Rd.bump x = x := if_neg (by omega)
              have HBX := Lib.hid hbx; clear hbx
              clear h1 h2
              go_wp2
              go_roundw
              case rel =>
                have e : shiftTo r.l p (k + 1) = shiftTo r.l p k := by
                  rw [← HS.out, HBX.out]
                  have hil' : p + 1 + k < (shiftTo r.l p k).length := hil
                  have hxx : (shiftTo r.l p k)[p + 1 + k] = x := by simpa [List.getElem?_eq_getElem hil'] using HX.out
                  rw [← hxx]; exact List.set_getElem_self hil'
                exact ⟨k + 1, by omega, by go_num, by rw [e]; exact HI4.out, HF4.out⟩
              case measure => (simp [intOf] <;> omega)
        · have hke : k = r.l.length - p := by omega
          have hfin : shiftTo r.l p k = (r.shift p).l := by rw [hke]; exact shiftTo_all r.l p
          have HFin := Lib.hid hfin; clear hfin
          have HI4 := Lib.hid hI4; clear hI4
          have HF4 := Lib.hid hF4; clear hF4
          clear hke
          go_wp2
          go_end0
          refine ⟨rfl, ⟨.slice (some ⟨gg, 0, none⟩) (r.l.length + 1) (cap), ?_⟩, HF4.out⟩
          have := HI4.out
          rw [HFin.out] at this
          exact this
  · have hpe : p = r.l.length := by omega
    have hL3 : (r.put zI).l = shiftTo r.l p 0 := by
      subst hpe
      simp [shiftTo, Rd.put, List.getD]
    have hI3 := HI1.out.drew
    have hF3 := HF1.out.drew
    have hI3' : Is B W1.drew g { r.put zI with l := shiftTo r.l p 0 } (.slice (some ⟨gg, 0, none⟩) (r.l.length + 1) cap) := by rw [← hL3]; exact hI3
    clear hI3 hcs htk hcur hL3
    rw [hl1] at hcap
    clear hl1
    unfold maxLen at hcm
    have hcp : p + 1 ≤ cap := by omega
    rcases Nat.eq_or_lt_of_le hcp with rfl | hcp'
    · have hI3 := hI3'
      clear hI3'
      have HI3 := Lib.hid hI3; clear hI3
      have HF3 := Lib.hid hF3; clear hF3
      clear hpe
      go_wp2_with fail
      refine QT.wp_region_qtail 13 (by kernel_rfl) (by kernel_rfl) (by kernel_rfl) ?_
      simp only [List.take_succ_cons, List.take_zero, List.drop_succ_cons, List.drop_zero]
      repeat (go_big_quiet_step (fail))
      refine wpQuiet_nil ?_
      refine QT.wpList_copy_zero rfl (.tmp 14) (.tmp 20) 137 137 rfl 145 7 Tryz.underlying137 infoSize _ _ _ _ _ _ rfl rfl (by simp only [Nat.min_def]; split <;> omega) ?_
      have hI3 := HI3.out
      have hF3 := HF3.out
      clear HI3 HF3
      have HI3 := Lib.hid hI3; clear hI3
      have HF3 := Lib.hid hF3; clear hF3
      go_wp2_with fail
      go_loopw [4] (fun i wr => ∃ k : Nat, k ≤ r.l.length - p ∧ i = .int .i64 ((p + 1 + k : Nat) : Int) ∧ Is B wr g { r with l := shiftTo r.l p k } (.slice (some ⟨gg, 0, none⟩) (r.l.length + 1) (p + 1)) ∧ Fr B W wr) (fun i _ => r.l.length + 1 - (intOf i).toNat)
      case atStart => exact ⟨0, Nat.zero_le _, rfl, HI3.out, HF3.out⟩
      case round =>
        obtain ⟨k, hk, rfl, hI4, hF4⟩ := hrel
        have c3 := hI4.c3
        by_cases hkn : p + k < r.l.length
        · exfalso; omega
        · have hke : k = r.l.length - p := by omega
          have hfin : shiftTo r.l p k = (r.shift p).l := by rw [hke]; exact shiftTo_all r.l p
          have HFin := Lib.hid hfin; clear hfin
          have HI4 := Lib.hid hI4; clear hI4
          have HF4 := Lib.hid hF4; clear hF4
          clear hke
          go_wp2
          go_end0
          refine ⟨rfl, ⟨.slice (some ⟨gg, 0, none⟩) (r.l.length + 1) (p + 1), ?_⟩, HF4.out⟩
          have := HI4.out
          rw [HFin.out] at this
          exact this
    · have hI3 := hI3'
      clear hI3'
      have HI3 := Lib.hid hI3; clear hI3
      have HF3 := Lib.hid hF3; clear hF3
      clear hpe
      go_wp2_with fail
      refine QT.wp_region_qtail 13 (by kernel_rfl) (by kernel_rfl) (by kernel_rfl) ?_
      simp only [List.take_succ_cons, List.take_zero, List.drop_succ_cons, List.drop_zero]
      repeat (go_big_quiet_step (fail))
      refine wpQuiet_nil ?_
      refine QT.wpList_copy_zero rfl (.tmp 14) (.tmp 20) 137 137 rfl 145 7 Tryz.underlying137 infoSize _ _ _ _ _ _ rfl rfl (by simp only [Nat.min_def]; split <;> omega) ?_
      have hI3 := HI3.out
      have hF3 := HF3.out
      clear HI3 HF3
      have HI3 := Lib.hid hI3; clear hI3
      have HF3 := Lib.hid hF3; clear hF3
      go_wp2_with fail
      go_loopw [4] (fun i wr => ∃ k : Nat, k ≤ r.l.length - p ∧ i = .int .i64 ((p + 1 + k : Nat) : Int) ∧ Is B wr g { r with l := shiftTo r.l p k } (.slice (some ⟨gg, 0, none⟩) (r.l.length + 1) (cap)) ∧ Fr B W wr) (fun i _ => r.l.length + 1 - (intOf i).toNat)
      case atStart => exact ⟨0, Nat.zero_le _, rfl, HI3.out, HF3.out⟩
      case round =>
        obtain ⟨k, hk, rfl, hI4, hF4⟩ := hrel
        have c3 := hI4.c3
        by_cases hkn : p + k < r.l.length
        · exfalso; omega
        · have hke : k = r.l.length - p := by omega
          have hfin : shiftTo r.l p k = (r.shift p).l := by rw [hke]; exact shiftTo_all r.l p
          have HFin := Lib.hid hfin; clear hfin
          have HI4 := Lib.hid hI4; clear hI4
          have HF4 := Lib.hid hF4; clear hF4
          clear hke
          go_wp2
          go_end0
          refine ⟨rfl, ⟨.slice (some ⟨gg, 0, none⟩) (r.l.length + 1) (cap), ?_⟩, HF4.out⟩
          have := HI4.out
          rw [HFin.out] at this
          exact this
end Go.Proofs.YtnbgigdloehbjaaGreatDoor.Rg
