/-
  The reader's method class.
-/
import Derived.Test.YtnbgigdloehbjaaGreatDoorRgE
import Derived.Test.YtnbgigdloehbjaaGreatDoorRgP
import Derived.Test.YtnbgigdloehbjaaGreatDoorScope
import Derived.WalkMore
import Derived.Laws.Rows
import Derived.Laws.BitsAllLaws
namespace Go.Proofs.YtnbgigdloehbjaaGreatDoor.Rg
open Go Go.RowKit
variable {B : Nat} {W : World} {g : Nat} {r : Rd} {v : Value}

theorem IsBs.fr {W W1 : World} {b : Nat} {S : Bs} (h : IsBs W b S) (hF : Fr B W W1) : IsBs W1 b S := ⟨hF.blk h.1 (by decide) (by decide), h.2⟩

/-- The words below i turned. -/
def negTo (S : Bs) : Nat → Bs
  | 0 => S
  | i + 1 => (negTo S i).setWord i (18446744073709551615 - S.word i)

theorem u64_not (x : Nat) (hx : x < 18446744073709551616) : bits BinOp.xor IntKind.u64 (if IntKind.u64.signed = true then -1 else IntKind.u64.max) (x : Int) = ((18446744073709551615 - x : Nat) : Int) := by
  show IntKind.u64.wrap ((BitVec.ofInt 64 (18446744073709551615 : Int) ^^^ BitVec.ofInt 64 (x : Int)).toNat : Int) = _
  have h1 : BitVec.ofInt 64 (18446744073709551615 : Int) = BitVec.allOnes 64 := by decide
  rw [h1, BitVec.allOnes_xor, BitVec.toNat_not, ofInt_u64 x hx, IntKind.wrap_u64]
  omega
theorem negTo_word (S : Bs) (k j : Nat) (hk : k ≤ j) (hj : j < 4) : (negTo S k).word j = S.word j := by
  induction k with
  | zero => rfl
  | succ k ih =>
    rw [negTo, ← ih (by omega)]
    match k, j, hk, hj with
    | 0, 1, _, _ => rfl
    | 0, 2, _, _ => rfl
    | 0, 3, _, _ => rfl
    | 1, 2, _, _ => rfl
    | 1, 3, _, _ => rfl
    | 2, 3, _, _ => rfl
    | k + 3, j, hk, hj => omega
theorem negTo_four (S : Bs) : negTo S 4 = S.neg := rfl
theorem IsBs.neg {W : World} {g k : Nat} {S : Bs} (h : IsBs W g (negTo S k)) (hk : k < 4) :
    IsBs (W.setCell ⟨g, k, none⟩ (.int .u64 (18446744073709551615 - (negTo S k).word k : Nat))) g (negTo S (k + 1)) := by
  rw [negTo_word S k k (Nat.le_refl _) hk]
  exact ⟨(blk_set h.1 _ _).trans (by rw [Bs.cells_set _ _ _ hk]; rfl), Bs.ok_setWord h.2 _ (by omega)⟩

theorem putN_ok {S : Bs} (h : S.ok) (lo n : Nat) : (S.putN lo n).ok := by
  induction n with
  | zero => exact h
  | succ n ih => exact Bs.ok_put ih _
theorem itemsS_ok (n : Nat) : ∀ (r : Rd) (S : Bs), S.ok → (Rd.itemsS n r S).ok := by
  induction n with
  | zero => intro r S h; exact h
  | succ n ih =>
    intro r S h
    unfold Rd.itemsS
    split
    · exact ih _ _ (putN_ok h _ _)
    · exact putN_ok h _ _
theorem zero_ok : Bs.zero.ok := ⟨by decide, by decide, by decide, by decide⟩
/-- What is put at the end. -/
theorem class_end {W1 : World} {b : Nat} {S : Bs} (h : IsBs W1 b S) : W1.heap[b]? = some (.cells #[.int .u64 S.w0, .int .u64 S.w1, .int .u64 S.w2, .int .u64 S.w3] 143 (0, 0)) := h.1


/-- A frame of class, of which four slots are known. -/
def ClassFr (a : Act) (s0 s2 s3 : Value) : Prop := ∃ u : Nat → Value, a = { tmps := #[s0, undef, s2, s3, u 4, u 5, u 6, u 7, u 8, u 9, u 10, u 11, u 12, u 13, u 14, u 15, u 16, u 17, u 18, u 19, u 20, u 21, u 22, u 23, u 24, u 25, u 26, u 27, u 28, u 29, u 30, u 31, u 32, u 33, u 34, u 35, u 36, u 37, u 38, u 39, u 40, u 41, u 42, u 43, u 44, u 45, u 46, u 47, u 48, u 49, u 50, u 51, u 52, u 53, u 54, u 55, u 56, u 57, u 58, u 59, u 60, u 61, u 62, u 63, u 64, u 65, u 66, u 67], defers := [] }
theorem ClassFr.mk (s0 s2 s3 x4 x5 x6 x7 x8 x9 x10 x11 x12 x13 x14 x15 x16 x17 x18 x19 x20 x21 x22 x23 x24 x25 x26 x27 x28 x29 x30 x31 x32 x33 x34 x35 x36 x37 x38 x39 x40 x41 x42 x43 x44 x45 x46 x47 x48 x49 x50 x51 x52 x53 x54 x55 x56 x57 x58 x59 x60 x61 x62 x63 x64 x65 x66 x67 : Value) : ClassFr { tmps := #[s0, undef, s2, s3, x4, x5, x6, x7, x8, x9, x10, x11, x12, x13, x14, x15, x16, x17, x18, x19, x20, x21, x22, x23, x24, x25, x26, x27, x28, x29, x30, x31, x32, x33, x34, x35, x36, x37, x38, x39, x40, x41, x42, x43, x44, x45, x46, x47, x48, x49, x50, x51, x52, x53, x54, x55, x56, x57, x58, x59, x60, x61, x62, x63, x64, x65, x66, x67], defers := [] } s0 s2 s3 :=
  ⟨fun i => #[s0, undef, s2, s3, x4, x5, x6, x7, x8, x9, x10, x11, x12, x13, x14, x15, x16, x17, x18, x19, x20, x21, x22, x23, x24, x25, x26, x27, x28, x29, x30, x31, x32, x33, x34, x35, x36, x37, x38, x39, x40, x41, x42, x43, x44, x45, x46, x47, x48, x49, x50, x51, x52, x53, x54, x55, x56, x57, x58, x59, x60, x61, x62, x63, x64, x65, x66, x67].getD i undef, rfl⟩

set_option maxRecDepth 100000 in
set_option maxHeartbeats 4000000 in
theorem class_calls (hI : Is B W g r v) (hB : B ≤ W.heap.size) (hat : r.has = true) (hn : r.l.length ≤ 20000) :
    Calls Tryz.prog 157 #[.pointer (some ⟨g, 0, none⟩)] W fun q W' => q = .returned (.tuple #[]) ∧ (∃ v', Is B W' g r.class_ v') ∧ Fr B W W' := by
  go_enter Tryz.func157, Tryz.ntmps157
  refine QT.wp_scope_loop 0 (fun n a' w' => ClassFr a' (.pointer (some ⟨g, 0, none⟩)) (.pointer (some ⟨W.heap.size, 0, none⟩)) (.bool r.classN) ∧ ∃ (r1 : Rd) (S1 : Bs),
    Is B w' g r1 v ∧ IsBs w' W.heap.size S1 ∧ Fr B W w' ∧ Ext r.adv r1 ∧ r1.at_ ≤ r1.s.size ∧ r1.fuel ≤ n ∧ r1.itemsR n = r.classI.itemsR r.classI.fuel ∧ Rd.itemsS n r1 S1 = Rd.itemsS r.classI.fuel r.classI .zero) rfl ?_ ?_
  · intro hpass
    have HP := Lib.hid hpass; clear hpass
    have c1 := hI.c1
    have f1 : ∀ o, (W.alloc o).frozen? ⟨g, 1, none⟩ = false := fun o => (hI.alloc o).fz 1
    have hltg := hI.lt
    have hsz := hI.sz
    have hlt := ((Rd.has_iff r).1 hat).2
    have HI := Lib.hid hI; clear hI
    go_wp2_with fail
    refine (is_calls (r := r.adv) 94 ((HI.out.setAt (r.at_ + 1)).alloc _)).mono ?_
    rintro q W1 ⟨rfl, hI1, hF1⟩
    have HI1 := Lib.hid hI1; clear hI1
    have HF1 := Lib.hid hF1; clear hF1
    go_wp2_with fail
    go_step3
    rename_i Qv K hK
    refine hK _ _ (HP.out r.classI.fuel _ _ ⟨ClassFr.mk _ _ _ _ _ _ _ _ _ _ _ _ _ _ _ _ _ _ _ _ _ _ _ _ _ _ _ _ _ _ _ _ _ _ _ _ _ _ _ _ _ _ _ _ _ _ _ _ _ _ _ _ _ _ _ _ _ _ _ _ _ _ _ _ _ _ _, r.classI, Bs.zero, HI1.out, ?_, ?_, ?_, ?_, Nat.le_refl _, rfl, rfl⟩)
    · refine IsBs.fr (W := ((W.setCell ⟨g, 1, none⟩ (.int .i64 (r.at_ + 1))).alloc (.cells #[.int .u64 0, .int .u64 0, .int .u64 0, .int .u64 0] 143))) ⟨?_, ⟨by decide, by decide, by decide, by decide⟩⟩ HF1.out
      have := blk_new (W.setCell ⟨g, 1, none⟩ (.int .i64 (r.at_ + 1))) (.cells #[.int .u64 0, .int .u64 0, .int .u64 0, .int .u64 0] 143)
      have e : (W.setCell ⟨g, 1, none⟩ (.int .i64 (r.at_ + 1))).heap.size = W.heap.size := by simp [World.setCell]
      rw [e] at this
      exact this
    · exact ((HI.out.frSet (Fr.refl B W) 1 _).alloc hB _).trans HF1.out
    · exact Rd.isR_ext _ _
    · have h1 := (Rd.isR_ext r.adv 94).top hlt
      have h2 := (Rd.isR_ext r.adv 94).s
      show (r.adv.isR 94).at_ ≤ (r.adv.isR 94).s.size
      rw [h2]; exact h1
  · rintro n a' w' ⟨⟨u, rfl⟩, r1, S1, hI1, hS1, hF1, hE1, htop, hfu, hR, hSs⟩
    obtain ⟨m, rfl⟩ : ∃ m, n = m + 1 := ⟨n - 1, by have := r1.fuel_pos htop; omega⟩
    simp only [Rd.itemsR, Rd.itemsS] at hR hSs
    have hlo := r1.itemV_lt
    have hhi := r1.rangeHi_lt
    have hsz := hI1.sz
    have HR := Lib.hid hR; clear hR
    have HSs := Lib.hid hSs; clear hSs
    have HS1 := Lib.hid hS1; clear hS1
    have HF1 := Lib.hid hF1; clear hF1
    have HE1 := Lib.hid hE1; clear hE1
    clear hI
    by_cases h45 : r1.itemR.isB 45 = true
    · have hh : r1.rangeHi = (r1.itemR.isR 45).itemV := if_pos h45
      have hg : r1.rangeR = if (r1.itemR.isR 45).itemV < r1.itemV then (r1.itemR.isR 45).itemR.fail 2 (r1.itemR.isR 45).at_ else (r1.itemR.isR 45).itemR := if_pos h45
      have H45 := Lib.hid h45; clear h45
      have HH := Lib.hid hh; clear hh
      by_cases hlt : (r1.itemR.isR 45).itemV < r1.itemV
      · rw [if_pos hlt] at hg
        have HG := Lib.hid hg; clear hg
        go_wp2_with fail
        refine (item_calls hI1).mono ?_
        rintro q W1 ⟨rfl, hI2, hF2⟩
        have HF2 := Lib.hid hF2; clear hF2
        go_wp2_with fail
        refine (is_calls 45 hI2).mono ?_
        rintro q W2 ⟨rfl, hI3, hF3⟩
        have HF3 := Lib.hid hF3; clear hF3
        clear hI2
        rw [H45.out]
        have c1 := hI3.c1
        go_wp2_with fail
        refine (item_calls hI3).mono ?_
        rintro q W3 ⟨rfl, hI4, hF4⟩
        have HF4 := Lib.hid hF4; clear hF4
        clear hI3 c1
        go_wp2_with fail
        refine (fail_calls 2 (r1.itemR.isR 45).at_ hI4).mono ?_
        rintro q W4 ⟨rfl, hI5, hF5⟩
        have HF5 := Lib.hid hF5; clear hF5
        clear hI4
        rw [← HG.out] at hI5
        have hF6 : Fr B W W4 := HF1.out.trans ((HF2.out.trans HF3.out).trans (HF4.out.trans HF5.out))
        have hS6 : IsBs W4 W.heap.size S1 := HS1.out.fr ((HF2.out.trans HF3.out).trans (HF4.out.trans HF5.out))
        have HF6 := Lib.hid hF6; clear hF6
        have HS6 := Lib.hid hS6; clear hS6
        have HI6 := Lib.hid hI5; clear hI5
        have hHI : (r1.itemR.isR 45).itemV < 256 := Rd.itemV_lt _
        go_wp2_with fail
        go_loopw [7] (fun c wr => ∃ k : Nat, k ≤ (r1.itemR.isR 45).itemV + 1 - r1.itemV ∧ c = .int .i64 ((r1.itemV + k : Nat) : Int) ∧ Is B wr g r1.rangeR v ∧ IsBs wr W.heap.size (S1.putN (r1.itemV) k) ∧ Fr B W wr) (fun c _ => (r1.itemR.isR 45).itemV + 1 - (intOf c).toNat)
        case atStart => exact ⟨0, Nat.zero_le _, rfl, HI6.out, HS6.out, HF6.out⟩
        case round =>
          obtain ⟨k, hk, rfl, hI7, hS7, hF7⟩ := hrel
          by_cases hle : r1.itemV + k ≤ (r1.itemR.isR 45).itemV
          · have HI7 := Lib.hid hI7; clear hI7
            have HF7 := Lib.hid hF7; clear hF7
            have hlk : r1.itemV + k < 256 := by omega
            go_wp2_with fail
            all_goals
              refine (setput_calls W.heap.size (r1.itemV + k) hlk hS7).mono ?_
              rintro q W8 ⟨rfl, hS8, rfl⟩
              have hI8 := ((HI7.out.far (p := ⟨W.heap.size, (r1.itemV + k) / 64, none⟩) hS7.1 (by decide) (by decide) (.int .u64 (((S1.putN (r1.itemV) k).word ((r1.itemV + k) / 64) ||| 2 ^ ((r1.itemV + k) % 64) : Nat) : Int))).drew)
              have hF8 := (HF7.out.far hB (p := ⟨W.heap.size, (r1.itemV + k) / 64, none⟩) (Nat.le_refl _) (.int .u64 (((S1.putN (r1.itemV) k).word ((r1.itemV + k) / 64) ||| 2 ^ ((r1.itemV + k) % 64) : Nat) : Int))).drew
              have HI8 := Lib.hid hI8; clear hI8
              have HF8 := Lib.hid hF8; clear hF8
              have HS8 := Lib.hid hS8; clear hS8 hS7
              go_wp2
              go_roundw
              case rel => exact ⟨k + 1, by omega, by go_num, HI8.out, HS8.out, HF8.out⟩
              case measure => (simp [intOf] <;> omega)
          · have hgt : (r1.itemR.isR 45).itemV < r1.itemV + k := by omega
            have hke : k = (r1.itemR.isR 45).itemV + 1 - r1.itemV := by omega
            have hS9 : IsBs wr W.heap.size (S1.putRange r1.rangeLo r1.rangeHi) := by
              rw [HH.out]
              show IsBs wr W.heap.size (S1.putN r1.itemV ((r1.itemR.isR 45).itemV + 1 - r1.itemV))
              rw [← hke]; exact hS7
            clear hke hle hS7
            have c4 := hI7.c4
            have HI7 := Lib.hid hI7; clear hI7
            have HF7 := Lib.hid hF7; clear hF7
            have HS9 := Lib.hid hS9; clear hS9
            by_cases he : r1.rangeR.err = 0
            · rw [he] at c4
              have HE := Lib.hid he; clear he
              go_wp2_with fail
              refine (is_calls 93 HI7.out).mono ?_
              rintro q W9 ⟨rfl, hI9, hF9⟩
              have hS10 := HS9.out.fr hF9
              have hF10 := HF7.out.trans hF9
              clear hF9
              by_cases h93 : r1.rangeR.isB 93 = true
              · have hr : r1.rangeR.isR 93 = r.classI.itemsR r.classI.fuel := by rw [← HR.out, if_neg (by rw [h93]; simp)]
                have hs : S1.putRange r1.rangeLo r1.rangeHi = Rd.itemsS r.classI.fuel r.classI .zero := by rw [← HSs.out, if_neg (by rw [h93]; simp)]
                rw [h93]
                rw [hr] at hI9
                rw [hs] at hS10
                have HRx := Lib.hid hr; clear hr
                have HSx := Lib.hid hs; clear hs
                have HI11 := Lib.hid hI9; clear hI9
                have HS11 := Lib.hid hS10; clear hS10
                have HF11 := Lib.hid hF10; clear hF10
                by_cases hcn : r.classN = true
                · have HCN := Lib.hid hcn; clear hcn
                  rw [HCN.out]
                  go_wp2_with fail
                  go_loopw [53] (fun i wq => ∃ k : Nat, k ≤ 4 ∧ i = .int .i64 (k : Int) ∧ Is B wq g (r.classI.itemsR r.classI.fuel) v ∧ IsBs wq W.heap.size (negTo (Rd.itemsS r.classI.fuel r.classI .zero) k) ∧ Fr B W wq) (fun i _ => 4 - (intOf i).toNat)
                  case atStart => exact ⟨0, Nat.zero_le _, rfl, HI11.out, HS11.out, HF11.out⟩
                  case round =>
                    obtain ⟨k, hk, rfl, hI12, hS12, hF12⟩ := hrel
                    by_cases hk4 : k < 4
                    · have cw : wr.cell? ⟨W.heap.size, k, none⟩ = some (.int .u64 ((negTo (Rd.itemsS r.classI.fuel r.classI .zero) k).word k)) := (blk_cell hS12.1 _).trans (Bs.cells_get _ _ hk4)
                      have fw : wr.frozen? ⟨W.heap.size, k, none⟩ = false := blk_frozen hS12.1 _
                      have HI12 := Lib.hid hI12; clear hI12
                      have HF12 := Lib.hid hF12; clear hF12
                      have HS12 := Lib.hid hS12; clear hS12
                      have HW := Lib.hid (HS12.out.2); 
                      go_wp2
                      rw [u64_not _ (Bs.word_lt HW.out k)]
                      go_roundw
                      case rel => exact ⟨k + 1, by omega, by go_num, HI12.out.far (p := ⟨W.heap.size, k, none⟩) HS12.out.1 (by decide) (by decide) _, HS12.out.neg hk4, HF12.out.far hB (p := ⟨W.heap.size, k, none⟩) (Nat.le_refl _) _⟩
                      case measure => (simp [intOf] <;> omega)
                    · have hk4' : k = 4 := by omega
                      subst hk4'
                      rw [negTo_four] at hS12
                      have hb := class_end hS12
                      have cb0 := blk_cell hb 0
                      have cb1 := blk_cell hb 1
                      have cb2 := blk_cell hb 2
                      have cb3 := blk_cell hb 3
                      simp only [List.getElem?_toArray, List.getElem?_cons_zero, List.getElem?_cons_succ] at cb0 cb1 cb2 cb3
                      clear hb
                      have hlen : (r.classI.itemsR r.classI.fuel).l.length ≤ 20000 := by
                        have h1 := (Rd.itemsR_ext r.classI r.classI.fuel).l
                        have h2 := (Rd.isR_ext r.adv 94).l
                        have h3 : r.classI.l = r.l := h2
                        rw [h1, h3]; exact hn
                      have hBw := Nat.le_trans hB (hF12).below.size
                      have HI13 := Lib.hid hI12; clear hI12
                      have HF13 := Lib.hid hF12; clear hF12
                      clear hS12
                      go_wp2_with fail
                      refine (put_calls ⟨0, (Rd.itemsS r.classI.fuel r.classI .zero).neg, 0, 0⟩ HI13.out hBw hlen).mono ?_
                      rintro q W14 ⟨rfl, hI14, hF14⟩
                      have HI14 := Lib.hid hI14; clear hI14
                      have HF14 := Lib.hid hF14; clear hF14
                      go_wp2
                      simp only [Exit.jump]
                      go_end0
                      refine ⟨rfl, ?_, HF13.out.trans HF14.out⟩
                      have hcl : r.class_ = (r.classI.itemsR r.classI.fuel).put ⟨0, (Rd.itemsS r.classI.fuel r.classI .zero).neg, 0, 0⟩ := by rw [Rd.class_, Rd.classS, if_pos HCN.out]
                      rw [hcl]; exact HI14.out
                · have hcn' : r.classN = false := by simpa using hcn
                  clear hcn
                  have HCN := Lib.hid hcn'; clear hcn'
                  rw [HCN.out]
                  go_wp2_with fail
                  go_loopw [53] (fun i wq => ∃ k : Nat, k ≤ 4 ∧ i = .int .i64 (k : Int) ∧ Is B wq g (r.classI.itemsR r.classI.fuel) v ∧ IsBs wq W.heap.size (Rd.itemsS r.classI.fuel r.classI .zero) ∧ Fr B W wq) (fun i _ => 4 - (intOf i).toNat)
                  case atStart => exact ⟨0, Nat.zero_le _, rfl, HI11.out, HS11.out, HF11.out⟩
                  case round =>
                    obtain ⟨k, hk, rfl, hI12, hS12, hF12⟩ := hrel
                    by_cases hk4 : k < 4
                    · have HI12 := Lib.hid hI12; clear hI12
                      have HF12 := Lib.hid hF12; clear hF12
                      have HS12 := Lib.hid hS12; clear hS12
                      go_wp2
                      go_roundw
                      case rel => exact ⟨k + 1, by omega, by go_num, HI12.out, HS12.out, HF12.out⟩
                      case measure => (simp [intOf] <;> omega)
                    · have hb := class_end hS12
                      have cb0 := blk_cell hb 0
                      have cb1 := blk_cell hb 1
                      have cb2 := blk_cell hb 2
                      have cb3 := blk_cell hb 3
                      simp only [List.getElem?_toArray, List.getElem?_cons_zero, List.getElem?_cons_succ] at cb0 cb1 cb2 cb3
                      clear hb
                      have hlen : (r.classI.itemsR r.classI.fuel).l.length ≤ 20000 := by
                        have h1 := (Rd.itemsR_ext r.classI r.classI.fuel).l
                        have h2 := (Rd.isR_ext r.adv 94).l
                        have h3 : r.classI.l = r.l := h2
                        rw [h1, h3]; exact hn
                      have hBw := Nat.le_trans hB (hF12).below.size
                      have HI13 := Lib.hid hI12; clear hI12
                      have HF13 := Lib.hid hF12; clear hF12
                      clear hS12
                      go_wp2_with fail
                      refine (put_calls ⟨0, Rd.itemsS r.classI.fuel r.classI .zero, 0, 0⟩ HI13.out hBw hlen).mono ?_
                      rintro q W14 ⟨rfl, hI14, hF14⟩
                      have HI14 := Lib.hid hI14; clear hI14
                      have HF14 := Lib.hid hF14; clear hF14
                      go_wp2
                      simp only [Exit.jump]
                      go_end0
                      refine ⟨rfl, ?_, HF13.out.trans HF14.out⟩
                      have hcl : r.class_ = (r.classI.itemsR r.classI.fuel).put ⟨0, Rd.itemsS r.classI.fuel r.classI .zero, 0, 0⟩ := by rw [Rd.class_, Rd.classS, if_neg (by rw [HCN.out]; simp)]
                      rw [hcl]; exact HI14.out
              · have h93' : r1.rangeR.isB 93 = false := by simpa using h93
                rw [h93']
                have hi : r1.rangeR.isR 93 = r1.rangeR := if_neg h93
                rw [hi] at hI9
                have HI9 := Lib.hid hI9; clear hI9
                have HS10 := Lib.hid hS10; clear hS10
                have HF10 := Lib.hid hF10; clear hF10
                clear h93 hi
                have H93 := Lib.hid h93'; clear h93'
                go_wp2_with fail
                go_step3
                have hx := r1.rangeR_ext
                have hgo := r1.rangeR_go HE.out
                have ht := hx.top htop
                refine ⟨rfl, m, Nat.lt_succ_self m, ClassFr.mk _ _ _ _ _ _ _ _ _ _ _ _ _ _ _ _ _ _ _ _ _ _ _ _ _ _ _ _ _ _ _ _ _ _ _ _ _ _ _ _ _ _ _ _ _ _ _ _ _ _ _ _ _ _ _ _ _ _ _ _ _ _ _ _ _ _ _, r1.rangeR, S1.putRange r1.rangeLo r1.rangeHi, HI9.out, HS10.out, HF10.out, HE1.out.trans hx, by rw [hx.s]; exact ht, ?_, ?_, ?_⟩
                · unfold Rd.fuel at *; rw [hx.s]; omega
                · rw [← HR.out, if_pos ⟨HE.out, H93.out⟩]
                · rw [← HSs.out, if_pos ⟨HE.out, H93.out⟩]
            · have hb : ((r1.rangeR.err : Int) == 0) = false := by rw [beq_eq_false_iff_ne]; omega
              have hr : r1.rangeR = r.classI.itemsR r.classI.fuel := by
                rw [← HR.out, if_neg (fun h => he h.1), Rd.isR, if_neg (by simp [Rd.isB, Rd.has, he])]
              have hs : S1.putRange r1.rangeLo r1.rangeHi = Rd.itemsS r.classI.fuel r.classI .zero := by rw [← HSs.out, if_neg (fun h => he h.1)]
              have HE := Lib.hid he; clear he
              have hI9 := HI7.out
              have hS10 := HS9.out
              have hF10 := HF7.out
              rw [hr] at hI9
              rw [hs] at hS10
              have HRx := Lib.hid hr; clear hr
              have HSx := Lib.hid hs; clear hs
              have HI11 := Lib.hid hI9; clear hI9
              have HS11 := Lib.hid hS10; clear hS10
              have HF11 := Lib.hid hF10; clear hF10
              by_cases hcn : r.classN = true
              · have HCN := Lib.hid hcn; clear hcn
                rw [HCN.out]
                go_wp2_with fail
                go_loopw [53] (fun i wq => ∃ k : Nat, k ≤ 4 ∧ i = .int .i64 (k : Int) ∧ Is B wq g (r.classI.itemsR r.classI.fuel) v ∧ IsBs wq W.heap.size (negTo (Rd.itemsS r.classI.fuel r.classI .zero) k) ∧ Fr B W wq) (fun i _ => 4 - (intOf i).toNat)
                case atStart => exact ⟨0, Nat.zero_le _, rfl, HI11.out, HS11.out, HF11.out⟩
                case round =>
                  obtain ⟨k, hk, rfl, hI12, hS12, hF12⟩ := hrel
                  by_cases hk4 : k < 4
                  · have cw : wr.cell? ⟨W.heap.size, k, none⟩ = some (.int .u64 ((negTo (Rd.itemsS r.classI.fuel r.classI .zero) k).word k)) := (blk_cell hS12.1 _).trans (Bs.cells_get _ _ hk4)
                    have fw : wr.frozen? ⟨W.heap.size, k, none⟩ = false := blk_frozen hS12.1 _
                    have HI12 := Lib.hid hI12; clear hI12
                    have HF12 := Lib.hid hF12; clear hF12
                    have HS12 := Lib.hid hS12; clear hS12
                    have HW := Lib.hid (HS12.out.2); 
                    go_wp2
                    rw [u64_not _ (Bs.word_lt HW.out k)]
                    go_roundw
                    case rel => exact ⟨k + 1, by omega, by go_num, HI12.out.far (p := ⟨W.heap.size, k, none⟩) HS12.out.1 (by decide) (by decide) _, HS12.out.neg hk4, HF12.out.far hB (p := ⟨W.heap.size, k, none⟩) (Nat.le_refl _) _⟩
                    case measure => (simp [intOf] <;> omega)
                  · have hk4' : k = 4 := by omega
                    subst hk4'
                    rw [negTo_four] at hS12
                    have hb := class_end hS12
                    have cb0 := blk_cell hb 0
                    have cb1 := blk_cell hb 1
                    have cb2 := blk_cell hb 2
                    have cb3 := blk_cell hb 3
                    simp only [List.getElem?_toArray, List.getElem?_cons_zero, List.getElem?_cons_succ] at cb0 cb1 cb2 cb3
                    clear hb
                    have hlen : (r.classI.itemsR r.classI.fuel).l.length ≤ 20000 := by
                      have h1 := (Rd.itemsR_ext r.classI r.classI.fuel).l
                      have h2 := (Rd.isR_ext r.adv 94).l
                      have h3 : r.classI.l = r.l := h2
                      rw [h1, h3]; exact hn
                    have hBw := Nat.le_trans hB (hF12).below.size
                    have HI13 := Lib.hid hI12; clear hI12
                    have HF13 := Lib.hid hF12; clear hF12
                    clear hS12
                    go_wp2_with fail
                    refine (put_calls ⟨0, (Rd.itemsS r.classI.fuel r.classI .zero).neg, 0, 0⟩ HI13.out hBw hlen).mono ?_
                    rintro q W14 ⟨rfl, hI14, hF14⟩
                    have HI14 := Lib.hid hI14; clear hI14
                    have HF14 := Lib.hid hF14; clear hF14
                    go_wp2
                    simp only [Exit.jump]
                    go_end0
                    refine ⟨rfl, ?_, HF13.out.trans HF14.out⟩
                    have hcl : r.class_ = (r.classI.itemsR r.classI.fuel).put ⟨0, (Rd.itemsS r.classI.fuel r.classI .zero).neg, 0, 0⟩ := by rw [Rd.class_, Rd.classS, if_pos HCN.out]
                    rw [hcl]; exact HI14.out
              · have hcn' : r.classN = false := by simpa using hcn
                clear hcn
                have HCN := Lib.hid hcn'; clear hcn'
                rw [HCN.out]
                go_wp2_with fail
                go_loopw [53] (fun i wq => ∃ k : Nat, k ≤ 4 ∧ i = .int .i64 (k : Int) ∧ Is B wq g (r.classI.itemsR r.classI.fuel) v ∧ IsBs wq W.heap.size (Rd.itemsS r.classI.fuel r.classI .zero) ∧ Fr B W wq) (fun i _ => 4 - (intOf i).toNat)
                case atStart => exact ⟨0, Nat.zero_le _, rfl, HI11.out, HS11.out, HF11.out⟩
                case round =>
                  obtain ⟨k, hk, rfl, hI12, hS12, hF12⟩ := hrel
                  by_cases hk4 : k < 4
                  · have HI12 := Lib.hid hI12; clear hI12
                    have HF12 := Lib.hid hF12; clear hF12
                    have HS12 := Lib.hid hS12; clear hS12
                    go_wp2
                    go_roundw
                    case rel => exact ⟨k + 1, by omega, by go_num, HI12.out, HS12.out, HF12.out⟩
                    case measure => (simp [intOf] <;> omega)
                  · have hb := class_end hS12
                    have cb0 := blk_cell hb 0
                    have cb1 := blk_cell hb 1
                    have cb2 := blk_cell hb 2
                    have cb3 := blk_cell hb 3
                    simp only [List.getElem?_toArray, List.getElem?_cons_zero, List.getElem?_cons_succ] at cb0 cb1 cb2 cb3
                    clear hb
                    have hlen : (r.classI.itemsR r.classI.fuel).l.length ≤ 20000 := by
                      have h1 := (Rd.itemsR_ext r.classI r.classI.fuel).l
                      have h2 := (Rd.isR_ext r.adv 94).l
                      have h3 : r.classI.l = r.l := h2
                      rw [h1, h3]; exact hn
                    have hBw := Nat.le_trans hB (hF12).below.size
                    have HI13 := Lib.hid hI12; clear hI12
                    have HF13 := Lib.hid hF12; clear hF12
                    clear hS12
                    go_wp2_with fail
                    refine (put_calls ⟨0, Rd.itemsS r.classI.fuel r.classI .zero, 0, 0⟩ HI13.out hBw hlen).mono ?_
                    rintro q W14 ⟨rfl, hI14, hF14⟩
                    have HI14 := Lib.hid hI14; clear hI14
                    have HF14 := Lib.hid hF14; clear hF14
                    go_wp2
                    simp only [Exit.jump]
                    go_end0
                    refine ⟨rfl, ?_, HF13.out.trans HF14.out⟩
                    have hcl : r.class_ = (r.classI.itemsR r.classI.fuel).put ⟨0, Rd.itemsS r.classI.fuel r.classI .zero, 0, 0⟩ := by rw [Rd.class_, Rd.classS, if_neg (by rw [HCN.out]; simp)]
                    rw [hcl]; exact HI14.out
      · rw [if_neg hlt] at hg
        have HG := Lib.hid hg; clear hg
        go_wp2_with fail
        refine (item_calls hI1).mono ?_
        rintro q W1 ⟨rfl, hI2, hF2⟩
        have HF2 := Lib.hid hF2; clear hF2
        go_wp2_with fail
        refine (is_calls 45 hI2).mono ?_
        rintro q W2 ⟨rfl, hI3, hF3⟩
        have HF3 := Lib.hid hF3; clear hF3
        clear hI2
        rw [H45.out]
        have c1 := hI3.c1
        go_wp2_with fail
        refine (item_calls hI3).mono ?_
        rintro q W4 ⟨rfl, hI4, hF4⟩
        have HF4 := Lib.hid hF4; clear hF4
        clear hI3 c1
        rw [← HG.out] at hI4
        have hF6 : Fr B W W4 := HF1.out.trans ((HF2.out.trans HF3.out).trans HF4.out)
        have hS6 : IsBs W4 W.heap.size S1 := HS1.out.fr ((HF2.out.trans HF3.out).trans HF4.out)
        have HF6 := Lib.hid hF6; clear hF6
        have HS6 := Lib.hid hS6; clear hS6
        have HI6 := Lib.hid hI4; clear hI4
        have hHI : (r1.itemR.isR 45).itemV < 256 := Rd.itemV_lt _
        go_wp2_with fail
        go_loopw [7] (fun c wr => ∃ k : Nat, k ≤ (r1.itemR.isR 45).itemV + 1 - r1.itemV ∧ c = .int .i64 ((r1.itemV + k : Nat) : Int) ∧ Is B wr g r1.rangeR v ∧ IsBs wr W.heap.size (S1.putN (r1.itemV) k) ∧ Fr B W wr) (fun c _ => (r1.itemR.isR 45).itemV + 1 - (intOf c).toNat)
        case atStart => exact ⟨0, Nat.zero_le _, rfl, HI6.out, HS6.out, HF6.out⟩
        case round =>
          obtain ⟨k, hk, rfl, hI7, hS7, hF7⟩ := hrel
          by_cases hle : r1.itemV + k ≤ (r1.itemR.isR 45).itemV
          · have HI7 := Lib.hid hI7; clear hI7
            have HF7 := Lib.hid hF7; clear hF7
            have hlk : r1.itemV + k < 256 := by omega
            go_wp2_with fail
            all_goals
              refine (setput_calls W.heap.size (r1.itemV + k) hlk hS7).mono ?_
              rintro q W8 ⟨rfl, hS8, rfl⟩
              have hI8 := ((HI7.out.far (p := ⟨W.heap.size, (r1.itemV + k) / 64, none⟩) hS7.1 (by decide) (by decide) (.int .u64 (((S1.putN (r1.itemV) k).word ((r1.itemV + k) / 64) ||| 2 ^ ((r1.itemV + k) % 64) : Nat) : Int))).drew)
              have hF8 := (HF7.out.far hB (p := ⟨W.heap.size, (r1.itemV + k) / 64, none⟩) (Nat.le_refl _) (.int .u64 (((S1.putN (r1.itemV) k).word ((r1.itemV + k) / 64) ||| 2 ^ ((r1.itemV + k) % 64) : Nat) : Int))).drew
              have HI8 := Lib.hid hI8; clear hI8
              have HF8 := Lib.hid hF8; clear hF8
              have HS8 := Lib.hid hS8; clear hS8 hS7
              go_wp2
              go_roundw
              case rel => exact ⟨k + 1, by omega, by go_num, HI8.out, HS8.out, HF8.out⟩
              case measure => (simp [intOf] <;> omega)
          · have hgt : (r1.itemR.isR 45).itemV < r1.itemV + k := by omega
            have hke : k = (r1.itemR.isR 45).itemV + 1 - r1.itemV := by omega
            have hS9 : IsBs wr W.heap.size (S1.putRange r1.rangeLo r1.rangeHi) := by
              rw [HH.out]
              show IsBs wr W.heap.size (S1.putN r1.itemV ((r1.itemR.isR 45).itemV + 1 - r1.itemV))
              rw [← hke]; exact hS7
            clear hke hle hS7
            have c4 := hI7.c4
            have HI7 := Lib.hid hI7; clear hI7
            have HF7 := Lib.hid hF7; clear hF7
            have HS9 := Lib.hid hS9; clear hS9
            by_cases he : r1.rangeR.err = 0
            · rw [he] at c4
              have HE := Lib.hid he; clear he
              go_wp2_with fail
              refine (is_calls 93 HI7.out).mono ?_
              rintro q W9 ⟨rfl, hI9, hF9⟩
              have hS10 := HS9.out.fr hF9
              have hF10 := HF7.out.trans hF9
              clear hF9
              by_cases h93 : r1.rangeR.isB 93 = true
              · have hr : r1.rangeR.isR 93 = r.classI.itemsR r.classI.fuel := by rw [← HR.out, if_neg (by rw [h93]; simp)]
                have hs : S1.putRange r1.rangeLo r1.rangeHi = Rd.itemsS r.classI.fuel r.classI .zero := by rw [← HSs.out, if_neg (by rw [h93]; simp)]
                rw [h93]
                rw [hr] at hI9
                rw [hs] at hS10
                have HRx := Lib.hid hr; clear hr
                have HSx := Lib.hid hs; clear hs
                have HI11 := Lib.hid hI9; clear hI9
                have HS11 := Lib.hid hS10; clear hS10
                have HF11 := Lib.hid hF10; clear hF10
                by_cases hcn : r.classN = true
                · have HCN := Lib.hid hcn; clear hcn
                  rw [HCN.out]
                  go_wp2_with fail
                  go_loopw [53] (fun i wq => ∃ k : Nat, k ≤ 4 ∧ i = .int .i64 (k : Int) ∧ Is B wq g (r.classI.itemsR r.classI.fuel) v ∧ IsBs wq W.heap.size (negTo (Rd.itemsS r.classI.fuel r.classI .zero) k) ∧ Fr B W wq) (fun i _ => 4 - (intOf i).toNat)
                  case atStart => exact ⟨0, Nat.zero_le _, rfl, HI11.out, HS11.out, HF11.out⟩
                  case round =>
                    obtain ⟨k, hk, rfl, hI12, hS12, hF12⟩ := hrel
                    by_cases hk4 : k < 4
                    · have cw : wr.cell? ⟨W.heap.size, k, none⟩ = some (.int .u64 ((negTo (Rd.itemsS r.classI.fuel r.classI .zero) k).word k)) := (blk_cell hS12.1 _).trans (Bs.cells_get _ _ hk4)
                      have fw : wr.frozen? ⟨W.heap.size, k, none⟩ = false := blk_frozen hS12.1 _
                      have HI12 := Lib.hid hI12; clear hI12
                      have HF12 := Lib.hid hF12; clear hF12
                      have HS12 := Lib.hid hS12; clear hS12
                      have HW := Lib.hid (HS12.out.2); 
                      go_wp2
                      rw [u64_not _ (Bs.word_lt HW.out k)]
                      go_roundw
                      case rel => exact ⟨k + 1, by omega, by go_num, HI12.out.far (p := ⟨W.heap.size, k, none⟩) HS12.out.1 (by decide) (by decide) _, HS12.out.neg hk4, HF12.out.far hB (p := ⟨W.heap.size, k, none⟩) (Nat.le_refl _) _⟩
                      case measure => (simp [intOf] <;> omega)
                    · have hk4' : k = 4 := by omega
                      subst hk4'
                      rw [negTo_four] at hS12
                      have hb := class_end hS12
                      have cb0 := blk_cell hb 0
                      have cb1 := blk_cell hb 1
                      have cb2 := blk_cell hb 2
                      have cb3 := blk_cell hb 3
                      simp only [List.getElem?_toArray, List.getElem?_cons_zero, List.getElem?_cons_succ] at cb0 cb1 cb2 cb3
                      clear hb
                      have hlen : (r.classI.itemsR r.classI.fuel).l.length ≤ 20000 := by
                        have h1 := (Rd.itemsR_ext r.classI r.classI.fuel).l
                        have h2 := (Rd.isR_ext r.adv 94).l
                        have h3 : r.classI.l = r.l := h2
                        rw [h1, h3]; exact hn
                      have hBw := Nat.le_trans hB (hF12).below.size
                      have HI13 := Lib.hid hI12; clear hI12
                      have HF13 := Lib.hid hF12; clear hF12
                      clear hS12
                      go_wp2_with fail
                      refine (put_calls ⟨0, (Rd.itemsS r.classI.fuel r.classI .zero).neg, 0, 0⟩ HI13.out hBw hlen).mono ?_
                      rintro q W14 ⟨rfl, hI14, hF14⟩
                      have HI14 := Lib.hid hI14; clear hI14
                      have HF14 := Lib.hid hF14; clear hF14
                      go_wp2
                      simp only [Exit.jump]
                      go_end0
                      refine ⟨rfl, ?_, HF13.out.trans HF14.out⟩
                      have hcl : r.class_ = (r.classI.itemsR r.classI.fuel).put ⟨0, (Rd.itemsS r.classI.fuel r.classI .zero).neg, 0, 0⟩ := by rw [Rd.class_, Rd.classS, if_pos HCN.out]
                      rw [hcl]; exact HI14.out
                · have hcn' : r.classN = false := by simpa using hcn
                  clear hcn
                  have HCN := Lib.hid hcn'; clear hcn'
                  rw [HCN.out]
                  go_wp2_with fail
                  go_loopw [53] (fun i wq => ∃ k : Nat, k ≤ 4 ∧ i = .int .i64 (k : Int) ∧ Is B wq g (r.classI.itemsR r.classI.fuel) v ∧ IsBs wq W.heap.size (Rd.itemsS r.classI.fuel r.classI .zero) ∧ Fr B W wq) (fun i _ => 4 - (intOf i).toNat)
                  case atStart => exact ⟨0, Nat.zero_le _, rfl, HI11.out, HS11.out, HF11.out⟩
                  case round =>
                    obtain ⟨k, hk, rfl, hI12, hS12, hF12⟩ := hrel
                    by_cases hk4 : k < 4
                    · have HI12 := Lib.hid hI12; clear hI12
                      have HF12 := Lib.hid hF12; clear hF12
                      have HS12 := Lib.hid hS12; clear hS12
                      go_wp2
                      go_roundw
                      case rel => exact ⟨k + 1, by omega, by go_num, HI12.out, HS12.out, HF12.out⟩
                      case measure => (simp [intOf] <;> omega)
                    · have hb := class_end hS12
                      have cb0 := blk_cell hb 0
                      have cb1 := blk_cell hb 1
                      have cb2 := blk_cell hb 2
                      have cb3 := blk_cell hb 3
                      simp only [List.getElem?_toArray, List.getElem?_cons_zero, List.getElem?_cons_succ] at cb0 cb1 cb2 cb3
                      clear hb
                      have hlen : (r.classI.itemsR r.classI.fuel).l.length ≤ 20000 := by
                        have h1 := (Rd.itemsR_ext r.classI r.classI.fuel).l
                        have h2 := (Rd.isR_ext r.adv 94).l
                        have h3 : r.classI.l = r.l := h2
                        rw [h1, h3]; exact hn
                      have hBw := Nat.le_trans hB (hF12).below.size
                      have HI13 := Lib.hid hI12; clear hI12
                      have HF13 := Lib.hid hF12; clear hF12
                      clear hS12
                      go_wp2_with fail
                      refine (put_calls ⟨0, Rd.itemsS r.classI.fuel r.classI .zero, 0, 0⟩ HI13.out hBw hlen).mono ?_
                      rintro q W14 ⟨rfl, hI14, hF14⟩
                      have HI14 := Lib.hid hI14; clear hI14
                      have HF14 := Lib.hid hF14; clear hF14
                      go_wp2
                      simp only [Exit.jump]
                      go_end0
                      refine ⟨rfl, ?_, HF13.out.trans HF14.out⟩
                      have hcl : r.class_ = (r.classI.itemsR r.classI.fuel).put ⟨0, Rd.itemsS r.classI.fuel r.classI .zero, 0, 0⟩ := by rw [Rd.class_, Rd.classS, if_neg (by rw [HCN.out]; simp)]
                      rw [hcl]; exact HI14.out
              · have h93' : r1.rangeR.isB 93 = false := by simpa using h93
                rw [h93']
                have hi : r1.rangeR.isR 93 = r1.rangeR := if_neg h93
                rw [hi] at hI9
                have HI9 := Lib.hid hI9; clear hI9
                have HS10 := Lib.hid hS10; clear hS10
                have HF10 := Lib.hid hF10; clear hF10
                clear h93 hi
                have H93 := Lib.hid h93'; clear h93'
                go_wp2_with fail
                go_step3
                have hx := r1.rangeR_ext
                have hgo := r1.rangeR_go HE.out
                have ht := hx.top htop
                refine ⟨rfl, m, Nat.lt_succ_self m, ClassFr.mk _ _ _ _ _ _ _ _ _ _ _ _ _ _ _ _ _ _ _ _ _ _ _ _ _ _ _ _ _ _ _ _ _ _ _ _ _ _ _ _ _ _ _ _ _ _ _ _ _ _ _ _ _ _ _ _ _ _ _ _ _ _ _ _ _ _ _, r1.rangeR, S1.putRange r1.rangeLo r1.rangeHi, HI9.out, HS10.out, HF10.out, HE1.out.trans hx, by rw [hx.s]; exact ht, ?_, ?_, ?_⟩
                · unfold Rd.fuel at *; rw [hx.s]; omega
                · rw [← HR.out, if_pos ⟨HE.out, H93.out⟩]
                · rw [← HSs.out, if_pos ⟨HE.out, H93.out⟩]
            · have hb : ((r1.rangeR.err : Int) == 0) = false := by rw [beq_eq_false_iff_ne]; omega
              have hr : r1.rangeR = r.classI.itemsR r.classI.fuel := by
                rw [← HR.out, if_neg (fun h => he h.1), Rd.isR, if_neg (by simp [Rd.isB, Rd.has, he])]
              have hs : S1.putRange r1.rangeLo r1.rangeHi = Rd.itemsS r.classI.fuel r.classI .zero := by rw [← HSs.out, if_neg (fun h => he h.1)]
              have HE := Lib.hid he; clear he
              have hI9 := HI7.out
              have hS10 := HS9.out
              have hF10 := HF7.out
              rw [hr] at hI9
              rw [hs] at hS10
              have HRx := Lib.hid hr; clear hr
              have HSx := Lib.hid hs; clear hs
              have HI11 := Lib.hid hI9; clear hI9
              have HS11 := Lib.hid hS10; clear hS10
              have HF11 := Lib.hid hF10; clear hF10
              by_cases hcn : r.classN = true
              · have HCN := Lib.hid hcn; clear hcn
                rw [HCN.out]
                go_wp2_with fail
                go_loopw [53] (fun i wq => ∃ k : Nat, k ≤ 4 ∧ i = .int .i64 (k : Int) ∧ Is B wq g (r.classI.itemsR r.classI.fuel) v ∧ IsBs wq W.heap.size (negTo (Rd.itemsS r.classI.fuel r.classI .zero) k) ∧ Fr B W wq) (fun i _ => 4 - (intOf i).toNat)
                case atStart => exact ⟨0, Nat.zero_le _, rfl, HI11.out, HS11.out, HF11.out⟩
                case round =>
                  obtain ⟨k, hk, rfl, hI12, hS12, hF12⟩ := hrel
                  by_cases hk4 : k < 4
                  · have cw : wr.cell? ⟨W.heap.size, k, none⟩ = some (.int .u64 ((negTo (Rd.itemsS r.classI.fuel r.classI .zero) k).word k)) := (blk_cell hS12.1 _).trans (Bs.cells_get _ _ hk4)
                    have fw : wr.frozen? ⟨W.heap.size, k, none⟩ = false := blk_frozen hS12.1 _
                    have HI12 := Lib.hid hI12; clear hI12
                    have HF12 := Lib.hid hF12; clear hF12
                    have HS12 := Lib.hid hS12; clear hS12
                    have HW := Lib.hid (HS12.out.2); 
                    go_wp2
                    rw [u64_not _ (Bs.word_lt HW.out k)]
                    go_roundw
                    case rel => exact ⟨k + 1, by omega, by go_num, HI12.out.far (p := ⟨W.heap.size, k, none⟩) HS12.out.1 (by decide) (by decide) _, HS12.out.neg hk4, HF12.out.far hB (p := ⟨W.heap.size, k, none⟩) (Nat.le_refl _) _⟩
                    case measure => (simp [intOf] <;> omega)
                  · have hk4' : k = 4 := by omega
                    subst hk4'
                    rw [negTo_four] at hS12
                    have hb := class_end hS12
                    have cb0 := blk_cell hb 0
                    have cb1 := blk_cell hb 1
                    have cb2 := blk_cell hb 2
                    have cb3 := blk_cell hb 3
                    simp only [List.getElem?_toArray, List.getElem?_cons_zero, List.getElem?_cons_succ] at cb0 cb1 cb2 cb3
                    clear hb
                    have hlen : (r.classI.itemsR r.classI.fuel).l.length ≤ 20000 := by
                      have h1 := (Rd.itemsR_ext r.classI r.classI.fuel).l
                      have h2 := (Rd.isR_ext r.adv 94).l
                      have h3 : r.classI.l = r.l := h2
                      rw [h1, h3]; exact hn
                    have hBw := Nat.le_trans hB (hF12).below.size
                    have HI13 := Lib.hid hI12; clear hI12
                    have HF13 := Lib.hid hF12; clear hF12
                    clear hS12
                    go_wp2_with fail
                    refine (put_calls ⟨0, (Rd.itemsS r.classI.fuel r.classI .zero).neg, 0, 0⟩ HI13.out hBw hlen).mono ?_
                    rintro q W14 ⟨rfl, hI14, hF14⟩
                    have HI14 := Lib.hid hI14; clear hI14
                    have HF14 := Lib.hid hF14; clear hF14
                    go_wp2
                    simp only [Exit.jump]
                    go_end0
                    refine ⟨rfl, ?_, HF13.out.trans HF14.out⟩
                    have hcl : r.class_ = (r.classI.itemsR r.classI.fuel).put ⟨0, (Rd.itemsS r.classI.fuel r.classI .zero).neg, 0, 0⟩ := by rw [Rd.class_, Rd.classS, if_pos HCN.out]
                    rw [hcl]; exact HI14.out
              · have hcn' : r.classN = false := by simpa using hcn
                clear hcn
                have HCN := Lib.hid hcn'; clear hcn'
                rw [HCN.out]
                go_wp2_with fail
                go_loopw [53] (fun i wq => ∃ k : Nat, k ≤ 4 ∧ i = .int .i64 (k : Int) ∧ Is B wq g (r.classI.itemsR r.classI.fuel) v ∧ IsBs wq W.heap.size (Rd.itemsS r.classI.fuel r.classI .zero) ∧ Fr B W wq) (fun i _ => 4 - (intOf i).toNat)
                case atStart => exact ⟨0, Nat.zero_le _, rfl, HI11.out, HS11.out, HF11.out⟩
                case round =>
                  obtain ⟨k, hk, rfl, hI12, hS12, hF12⟩ := hrel
                  by_cases hk4 : k < 4
                  · have HI12 := Lib.hid hI12; clear hI12
                    have HF12 := Lib.hid hF12; clear hF12
                    have HS12 := Lib.hid hS12; clear hS12
                    go_wp2
                    go_roundw
                    case rel => exact ⟨k + 1, by omega, by go_num, HI12.out, HS12.out, HF12.out⟩
                    case measure => (simp [intOf] <;> omega)
                  · have hb := class_end hS12
                    have cb0 := blk_cell hb 0
                    have cb1 := blk_cell hb 1
                    have cb2 := blk_cell hb 2
                    have cb3 := blk_cell hb 3
                    simp only [List.getElem?_toArray, List.getElem?_cons_zero, List.getElem?_cons_succ] at cb0 cb1 cb2 cb3
                    clear hb
                    have hlen : (r.classI.itemsR r.classI.fuel).l.length ≤ 20000 := by
                      have h1 := (Rd.itemsR_ext r.classI r.classI.fuel).l
                      have h2 := (Rd.isR_ext r.adv 94).l
                      have h3 : r.classI.l = r.l := h2
                      rw [h1, h3]; exact hn
                    have hBw := Nat.le_trans hB (hF12).below.size
                    have HI13 := Lib.hid hI12; clear hI12
                    have HF13 := Lib.hid hF12; clear hF12
                    clear hS12
                    go_wp2_with fail
                    refine (put_calls ⟨0, Rd.itemsS r.classI.fuel r.classI .zero, 0, 0⟩ HI13.out hBw hlen).mono ?_
                    rintro q W14 ⟨rfl, hI14, hF14⟩
                    have HI14 := Lib.hid hI14; clear hI14
                    have HF14 := Lib.hid hF14; clear hF14
                    go_wp2
                    simp only [Exit.jump]
                    go_end0
                    refine ⟨rfl, ?_, HF13.out.trans HF14.out⟩
                    have hcl : r.class_ = (r.classI.itemsR r.classI.fuel).put ⟨0, Rd.itemsS r.classI.fuel r.classI .zero, 0, 0⟩ := by rw [Rd.class_, Rd.classS, if_neg (by rw [HCN.out]; simp)]
                    rw [hcl]; exact HI14.out
    · have h45' : r1.itemR.isB 45 = false := by simpa using h45
      have hh : r1.rangeHi = r1.itemV := if_neg h45
      have hg : r1.rangeR = r1.itemR.isR 45 := if_neg h45
      have H45 := Lib.hid h45'; clear h45' h45
      have HH := Lib.hid hh; clear hh
      have HG := Lib.hid hg; clear hg
      go_wp2_with fail
      refine (item_calls hI1).mono ?_
      rintro q W1 ⟨rfl, hI2, hF2⟩
      have HF2 := Lib.hid hF2; clear hF2
      go_wp2_with fail
      refine (is_calls 45 hI2).mono ?_
      rintro q W4 ⟨rfl, hI3, hF3⟩
      have HF3 := Lib.hid hF3; clear hF3
      clear hI2
      rw [H45.out]
      rw [← HG.out] at hI3
      have hF6 : Fr B W W4 := HF1.out.trans (HF2.out.trans HF3.out)
      have hS6 : IsBs W4 W.heap.size S1 := HS1.out.fr (HF2.out.trans HF3.out)
      have HF6 := Lib.hid hF6; clear hF6
      have HS6 := Lib.hid hS6; clear hS6
      have HI6 := Lib.hid hI3; clear hI3
      have hHI : r1.itemV < 256 := Rd.itemV_lt _
      go_wp2_with fail
      go_loopw [7] (fun c wr => ∃ k : Nat, k ≤ r1.itemV + 1 - r1.itemV ∧ c = .int .i64 ((r1.itemV + k : Nat) : Int) ∧ Is B wr g r1.rangeR v ∧ IsBs wr W.heap.size (S1.putN (r1.itemV) k) ∧ Fr B W wr) (fun c _ => r1.itemV + 1 - (intOf c).toNat)
      case atStart => exact ⟨0, Nat.zero_le _, rfl, HI6.out, HS6.out, HF6.out⟩
      case round =>
        obtain ⟨k, hk, rfl, hI7, hS7, hF7⟩ := hrel
        by_cases hle : r1.itemV + k ≤ r1.itemV
        · have HI7 := Lib.hid hI7; clear hI7
          have HF7 := Lib.hid hF7; clear hF7
          have hlk : r1.itemV + k < 256 := by omega
          go_wp2_with fail
          all_goals
            refine (setput_calls W.heap.size (r1.itemV + k) hlk hS7).mono ?_
            rintro q W8 ⟨rfl, hS8, rfl⟩
            have hI8 := ((HI7.out.far (p := ⟨W.heap.size, (r1.itemV + k) / 64, none⟩) hS7.1 (by decide) (by decide) (.int .u64 (((S1.putN (r1.itemV) k).word ((r1.itemV + k) / 64) ||| 2 ^ ((r1.itemV + k) % 64) : Nat) : Int))).drew)
            have hF8 := (HF7.out.far hB (p := ⟨W.heap.size, (r1.itemV + k) / 64, none⟩) (Nat.le_refl _) (.int .u64 (((S1.putN (r1.itemV) k).word ((r1.itemV + k) / 64) ||| 2 ^ ((r1.itemV + k) % 64) : Nat) : Int))).drew
            have HI8 := Lib.hid hI8; clear hI8
            have HF8 := Lib.hid hF8; clear hF8
            have HS8 := Lib.hid hS8; clear hS8 hS7
            go_wp2
            go_roundw
            case rel => exact ⟨k + 1, by omega, by go_num, HI8.out, HS8.out, HF8.out⟩
            case measure => (simp [intOf] <;> omega)
        · have hgt : r1.itemV < r1.itemV + k := by omega
          have hke : k = r1.itemV + 1 - r1.itemV := by omega
          have hS9 : IsBs wr W.heap.size (S1.putRange r1.rangeLo r1.rangeHi) := by
            rw [HH.out]
            show IsBs wr W.heap.size (S1.putN r1.itemV (r1.itemV + 1 - r1.itemV))
            rw [← hke]; exact hS7
          clear hke hle hS7
          have c4 := hI7.c4
          have HI7 := Lib.hid hI7; clear hI7
          have HF7 := Lib.hid hF7; clear hF7
          have HS9 := Lib.hid hS9; clear hS9
          by_cases he : r1.rangeR.err = 0
          · rw [he] at c4
            have HE := Lib.hid he; clear he
            go_wp2_with fail
            refine (is_calls 93 HI7.out).mono ?_
            rintro q W9 ⟨rfl, hI9, hF9⟩
            have hS10 := HS9.out.fr hF9
            have hF10 := HF7.out.trans hF9
            clear hF9
            by_cases h93 : r1.rangeR.isB 93 = true
            · have hr : r1.rangeR.isR 93 = r.classI.itemsR r.classI.fuel := by rw [← HR.out, if_neg (by rw [h93]; simp)]
              have hs : S1.putRange r1.rangeLo r1.rangeHi = Rd.itemsS r.classI.fuel r.classI .zero := by rw [← HSs.out, if_neg (by rw [h93]; simp)]
              rw [h93]
              rw [hr] at hI9
              rw [hs] at hS10
              have HRx := Lib.hid hr; clear hr
              have HSx := Lib.hid hs; clear hs
              have HI11 := Lib.hid hI9; clear hI9
              have HS11 := Lib.hid hS10; clear hS10
              have HF11 := Lib.hid hF10; clear hF10
              by_cases hcn : r.classN = true
              · have HCN := Lib.hid hcn; clear hcn
                rw [HCN.out]
                go_wp2_with fail
                go_loopw [53] (fun i wq => ∃ k : Nat, k ≤ 4 ∧ i = .int .i64 (k : Int) ∧ Is B wq g (r.classI.itemsR r.classI.fuel) v ∧ IsBs wq W.heap.size (negTo (Rd.itemsS r.classI.fuel r.classI .zero) k) ∧ Fr B W wq) (fun i _ => 4 - (intOf i).toNat)
                case atStart => exact ⟨0, Nat.zero_le _, rfl, HI11.out, HS11.out, HF11.out⟩
                case round =>
                  obtain ⟨k, hk, rfl, hI12, hS12, hF12⟩ := hrel
                  by_cases hk4 : k < 4
                  · have cw : wr.cell? ⟨W.heap.size, k, none⟩ = some (.int .u64 ((negTo (Rd.itemsS r.classI.fuel r.classI .zero) k).word k)) := (blk_cell hS12.1 _).trans (Bs.cells_get _ _ hk4)
                    have fw : wr.frozen? ⟨W.heap.size, k, none⟩ = false := blk_frozen hS12.1 _
                    have HI12 := Lib.hid hI12; clear hI12
                    have HF12 := Lib.hid hF12; clear hF12
                    have HS12 := Lib.hid hS12; clear hS12
                    have HW := Lib.hid (HS12.out.2); 
                    go_wp2
                    rw [u64_not _ (Bs.word_lt HW.out k)]
                    go_roundw
                    case rel => exact ⟨k + 1, by omega, by go_num, HI12.out.far (p := ⟨W.heap.size, k, none⟩) HS12.out.1 (by decide) (by decide) _, HS12.out.neg hk4, HF12.out.far hB (p := ⟨W.heap.size, k, none⟩) (Nat.le_refl _) _⟩
                    case measure => (simp [intOf] <;> omega)
                  · have hk4' : k = 4 := by omega
                    subst hk4'
                    rw [negTo_four] at hS12
                    have hb := class_end hS12
                    have cb0 := blk_cell hb 0
                    have cb1 := blk_cell hb 1
                    have cb2 := blk_cell hb 2
                    have cb3 := blk_cell hb 3
                    simp only [List.getElem?_toArray, List.getElem?_cons_zero, List.getElem?_cons_succ] at cb0 cb1 cb2 cb3
                    clear hb
                    have hlen : (r.classI.itemsR r.classI.fuel).l.length ≤ 20000 := by
                      have h1 := (Rd.itemsR_ext r.classI r.classI.fuel).l
                      have h2 := (Rd.isR_ext r.adv 94).l
                      have h3 : r.classI.l = r.l := h2
                      rw [h1, h3]; exact hn
                    have hBw := Nat.le_trans hB (hF12).below.size
                    have HI13 := Lib.hid hI12; clear hI12
                    have HF13 := Lib.hid hF12; clear hF12
                    clear hS12
                    go_wp2_with fail
                    refine (put_calls ⟨0, (Rd.itemsS r.classI.fuel r.classI .zero).neg, 0, 0⟩ HI13.out hBw hlen).mono ?_
                    rintro q W14 ⟨rfl, hI14, hF14⟩
                    have HI14 := Lib.hid hI14; clear hI14
                    have HF14 := Lib.hid hF14; clear hF14
                    go_wp2
                    simp only [Exit.jump]
                    go_end0
                    refine ⟨rfl, ?_, HF13.out.trans HF14.out⟩
                    have hcl : r.class_ = (r.classI.itemsR r.classI.fuel).put ⟨0, (Rd.itemsS r.classI.fuel r.classI .zero).neg, 0, 0⟩ := by rw [Rd.class_, Rd.classS, if_pos HCN.out]
                    rw [hcl]; exact HI14.out
              · have hcn' : r.classN = false := by simpa using hcn
                clear hcn
                have HCN := Lib.hid hcn'; clear hcn'
                rw [HCN.out]
                go_wp2_with fail
                go_loopw [53] (fun i wq => ∃ k : Nat, k ≤ 4 ∧ i = .int .i64 (k : Int) ∧ Is B wq g (r.classI.itemsR r.classI.fuel) v ∧ IsBs wq W.heap.size (Rd.itemsS r.classI.fuel r.classI .zero) ∧ Fr B W wq) (fun i _ => 4 - (intOf i).toNat)
                case atStart => exact ⟨0, Nat.zero_le _, rfl, HI11.out, HS11.out, HF11.out⟩
                case round =>
                  obtain ⟨k, hk, rfl, hI12, hS12, hF12⟩ := hrel
                  by_cases hk4 : k < 4
                  · have HI12 := Lib.hid hI12; clear hI12
                    have HF12 := Lib.hid hF12; clear hF12
                    have HS12 := Lib.hid hS12; clear hS12
                    go_wp2
                    go_roundw
                    case rel => exact ⟨k + 1, by omega, by go_num, HI12.out, HS12.out, HF12.out⟩
                    case measure => (simp [intOf] <;> omega)
                  · have hb := class_end hS12
                    have cb0 := blk_cell hb 0
                    have cb1 := blk_cell hb 1
                    have cb2 := blk_cell hb 2
                    have cb3 := blk_cell hb 3
                    simp only [List.getElem?_toArray, List.getElem?_cons_zero, List.getElem?_cons_succ] at cb0 cb1 cb2 cb3
                    clear hb
                    have hlen : (r.classI.itemsR r.classI.fuel).l.length ≤ 20000 := by
                      have h1 := (Rd.itemsR_ext r.classI r.classI.fuel).l
                      have h2 := (Rd.isR_ext r.adv 94).l
                      have h3 : r.classI.l = r.l := h2
                      rw [h1, h3]; exact hn
                    have hBw := Nat.le_trans hB (hF12).below.size
                    have HI13 := Lib.hid hI12; clear hI12
                    have HF13 := Lib.hid hF12; clear hF12
                    clear hS12
                    go_wp2_with fail
                    refine (put_calls ⟨0, Rd.itemsS r.classI.fuel r.classI .zero, 0, 0⟩ HI13.out hBw hlen).mono ?_
                    rintro q W14 ⟨rfl, hI14, hF14⟩
                    have HI14 := Lib.hid hI14; clear hI14
                    have HF14 := Lib.hid hF14; clear hF14
                    go_wp2
                    simp only [Exit.jump]
                    go_end0
                    refine ⟨rfl, ?_, HF13.out.trans HF14.out⟩
                    have hcl : r.class_ = (r.classI.itemsR r.classI.fuel).put ⟨0, Rd.itemsS r.classI.fuel r.classI .zero, 0, 0⟩ := by rw [Rd.class_, Rd.classS, if_neg (by rw [HCN.out]; simp)]
                    rw [hcl]; exact HI14.out
            · have h93' : r1.rangeR.isB 93 = false := by simpa using h93
              rw [h93']
              have hi : r1.rangeR.isR 93 = r1.rangeR := if_neg h93
              rw [hi] at hI9
              have HI9 := Lib.hid hI9; clear hI9
              have HS10 := Lib.hid hS10; clear hS10
              have HF10 := Lib.hid hF10; clear hF10
              clear h93 hi
              have H93 := Lib.hid h93'; clear h93'
              go_wp2_with fail
              go_step3
              have hx := r1.rangeR_ext
              have hgo := r1.rangeR_go HE.out
              have ht := hx.top htop
              refine ⟨rfl, m, Nat.lt_succ_self m, ClassFr.mk _ _ _ _ _ _ _ _ _ _ _ _ _ _ _ _ _ _ _ _ _ _ _ _ _ _ _ _ _ _ _ _ _ _ _ _ _ _ _ _ _ _ _ _ _ _ _ _ _ _ _ _ _ _ _ _ _ _ _ _ _ _ _ _ _ _ _, r1.rangeR, S1.putRange r1.rangeLo r1.rangeHi, HI9.out, HS10.out, HF10.out, HE1.out.trans hx, by rw [hx.s]; exact ht, ?_, ?_, ?_⟩
              · unfold Rd.fuel at *; rw [hx.s]; omega
              · rw [← HR.out, if_pos ⟨HE.out, H93.out⟩]
              · rw [← HSs.out, if_pos ⟨HE.out, H93.out⟩]
          · have hb : ((r1.rangeR.err : Int) == 0) = false := by rw [beq_eq_false_iff_ne]; omega
            have hr : r1.rangeR = r.classI.itemsR r.classI.fuel := by
              rw [← HR.out, if_neg (fun h => he h.1), Rd.isR, if_neg (by simp [Rd.isB, Rd.has, he])]
            have hs : S1.putRange r1.rangeLo r1.rangeHi = Rd.itemsS r.classI.fuel r.classI .zero := by rw [← HSs.out, if_neg (fun h => he h.1)]
            have HE := Lib.hid he; clear he
            have hI9 := HI7.out
            have hS10 := HS9.out
            have hF10 := HF7.out
            rw [hr] at hI9
            rw [hs] at hS10
            have HRx := Lib.hid hr; clear hr
            have HSx := Lib.hid hs; clear hs
            have HI11 := Lib.hid hI9; clear hI9
            have HS11 := Lib.hid hS10; clear hS10
            have HF11 := Lib.hid hF10; clear hF10
            by_cases hcn : r.classN = true
            · have HCN := Lib.hid hcn; clear hcn
              rw [HCN.out]
              go_wp2_with fail
              go_loopw [53] (fun i wq => ∃ k : Nat, k ≤ 4 ∧ i = .int .i64 (k : Int) ∧ Is B wq g (r.classI.itemsR r.classI.fuel) v ∧ IsBs wq W.heap.size (negTo (Rd.itemsS r.classI.fuel r.classI .zero) k) ∧ Fr B W wq) (fun i _ => 4 - (intOf i).toNat)
              case atStart => exact ⟨0, Nat.zero_le _, rfl, HI11.out, HS11.out, HF11.out⟩
              case round =>
                obtain ⟨k, hk, rfl, hI12, hS12, hF12⟩ := hrel
                by_cases hk4 : k < 4
                · have cw : wr.cell? ⟨W.heap.size, k, none⟩ = some (.int .u64 ((negTo (Rd.itemsS r.classI.fuel r.classI .zero) k).word k)) := (blk_cell hS12.1 _).trans (Bs.cells_get _ _ hk4)
                  have fw : wr.frozen? ⟨W.heap.size, k, none⟩ = false := blk_frozen hS12.1 _
                  have HI12 := Lib.hid hI12; clear hI12
                  have HF12 := Lib.hid hF12; clear hF12
                  have HS12 := Lib.hid hS12; clear hS12
                  have HW := Lib.hid (HS12.out.2); 
                  go_wp2
                  rw [u64_not _ (Bs.word_lt HW.out k)]
                  go_roundw
                  case rel => exact ⟨k + 1, by omega, by go_num, HI12.out.far (p := ⟨W.heap.size, k, none⟩) HS12.out.1 (by decide) (by decide) _, HS12.out.neg hk4, HF12.out.far hB (p := ⟨W.heap.size, k, none⟩) (Nat.le_refl _) _⟩
                  case measure => (simp [intOf] <;> omega)
                · have hk4' : k = 4 := by omega
                  subst hk4'
                  rw [negTo_four] at hS12
                  have hb := class_end hS12
                  have cb0 := blk_cell hb 0
                  have cb1 := blk_cell hb 1
                  have cb2 := blk_cell hb 2
                  have cb3 := blk_cell hb 3
                  simp only [List.getElem?_toArray, List.getElem?_cons_zero, List.getElem?_cons_succ] at cb0 cb1 cb2 cb3
                  clear hb
                  have hlen : (r.classI.itemsR r.classI.fuel).l.length ≤ 20000 := by
                    have h1 := (Rd.itemsR_ext r.classI r.classI.fuel).l
                    have h2 := (Rd.isR_ext r.adv 94).l
                    have h3 : r.classI.l = r.l := h2
                    rw [h1, h3]; exact hn
                  have hBw := Nat.le_trans hB (hF12).below.size
                  have HI13 := Lib.hid hI12; clear hI12
                  have HF13 := Lib.hid hF12; clear hF12
                  clear hS12
                  go_wp2_with fail
                  refine (put_calls ⟨0, (Rd.itemsS r.classI.fuel r.classI .zero).neg, 0, 0⟩ HI13.out hBw hlen).mono ?_
                  rintro q W14 ⟨rfl, hI14, hF14⟩
                  have HI14 := Lib.hid hI14; clear hI14
                  have HF14 := Lib.hid hF14; clear hF14
                  go_wp2
                  simp only [Exit.jump]
                  go_end0
                  refine ⟨rfl, ?_, HF13.out.trans HF14.out⟩
                  have hcl : r.class_ = (r.classI.itemsR r.classI.fuel).put ⟨0, (Rd.itemsS r.classI.fuel r.classI .zero).neg, 0, 0⟩ := by rw [Rd.class_, Rd.classS, if_pos HCN.out]
                  rw [hcl]; exact HI14.out
            · have hcn' : r.classN = false := by simpa using hcn
              clear hcn
              have HCN := Lib.hid hcn'; clear hcn'
              rw [HCN.out]
              go_wp2_with fail
              go_loopw [53] (fun i wq => ∃ k : Nat, k ≤ 4 ∧ i = .int .i64 (k : Int) ∧ Is B wq g (r.classI.itemsR r.classI.fuel) v ∧ IsBs wq W.heap.size (Rd.itemsS r.classI.fuel r.classI .zero) ∧ Fr B W wq) (fun i _ => 4 - (intOf i).toNat)
              case atStart => exact ⟨0, Nat.zero_le _, rfl, HI11.out, HS11.out, HF11.out⟩
              case round =>
                obtain ⟨k, hk, rfl, hI12, hS12, hF12⟩ := hrel
                by_cases hk4 : k < 4
                · have HI12 := Lib.hid hI12; clear hI12
                  have HF12 := Lib.hid hF12; clear hF12
                  have HS12 := Lib.hid hS12; clear hS12
                  go_wp2
                  go_roundw
                  case rel => exact ⟨k + 1, by omega, by go_num, HI12.out, HS12.out, HF12.out⟩
                  case measure => (simp [intOf] <;> omega)
                · have hb := class_end hS12
                  have cb0 := blk_cell hb 0
                  have cb1 := blk_cell hb 1
                  have cb2 := blk_cell hb 2
                  have cb3 := blk_cell hb 3
                  simp only [List.getElem?_toArray, List.getElem?_cons_zero, List.getElem?_cons_succ] at cb0 cb1 cb2 cb3
                  clear hb
                  have hlen : (r.classI.itemsR r.classI.fuel).l.length ≤ 20000 := by
                    have h1 := (Rd.itemsR_ext r.classI r.classI.fuel).l
                    have h2 := (Rd.isR_ext r.adv 94).l
                    have h3 : r.classI.l = r.l := h2
                    rw [h1, h3]; exact hn
                  have hBw := Nat.le_trans hB (hF12).below.size
                  have HI13 := Lib.hid hI12; clear hI12
                  have HF13 := Lib.hid hF12; clear hF12
                  clear hS12
                  go_wp2_with fail
                  refine (put_calls ⟨0, Rd.itemsS r.classI.fuel r.classI .zero, 0, 0⟩ HI13.out hBw hlen).mono ?_
                  rintro q W14 ⟨rfl, hI14, hF14⟩
                  have HI14 := Lib.hid hI14; clear hI14
                  have HF14 := Lib.hid hF14; clear hF14
                  go_wp2
                  simp only [Exit.jump]
                  go_end0
                  refine ⟨rfl, ?_, HF13.out.trans HF14.out⟩
                  have hcl : r.class_ = (r.classI.itemsR r.classI.fuel).put ⟨0, Rd.itemsS r.classI.fuel r.classI .zero, 0, 0⟩ := by rw [Rd.class_, Rd.classS, if_neg (by rw [HCN.out]; simp)]
                  rw [hcl]; exact HI14.out
end Go.Proofs.YtnbgigdloehbjaaGreatDoor.Rg
