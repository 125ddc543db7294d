/-
  TypesSignatures' walk.
-/
import Derived.Test.YtjddnchenhnemaaGreatDoorQaE
import Derived.Test.YtjddnchenhnemaaGreatDoorQaG
import Derived.Test.YtjddnchenhnemaaGreatDoorQaH
namespace Go.Proofs.YtjddnchenhnemaaGreatDoor.Ps
open Go Go.RowKit Go.Proofs.YtjddnchenhnemaaGreatDoor.QT Go.Proofs.YtjddnchenhnemaaGreatDoor.Rg Go.Proofs.YtjddnchenhnemaaGreatDoor.Ma Go.Proofs.YtjddnchenhnemaaGreatDoor.Ir Go.Proofs.YtjddnchenhnemaaGreatDoor.Pm
set_option maxHeartbeats 8000000
set_option maxRecDepth 100000
theorem sig_len (s : ByteArray) : (sigT s).1.length ≤ 3 := by
  unfold sigT
  repeat' split
  all_goals decide
theorem row_int_at {W : World} {F : Nat → Prop} {v : Value} {n : Nat} {l : List Int} {ao : Option Addr} {cap : Nat} (h : Row W F v n 1 (ints l)) (hv : v = .slice ao n cap) {k : Nat} (hk : k < l.length) :
    ∃ b o x, ao = some ⟨b, o, none⟩ ∧ l[k]? = some x ∧ W.cell? ⟨b, o + k, none⟩ = some (.int .i64 x) := by
  obtain ⟨hl, ao', cap', hv', hc⟩ := h
  rw [hv'] at hv
  simp only [Value.slice.injEq, true_and] at hv
  obtain ⟨rfl, rfl⟩ := hv
  have hn : l.length = n := by simpa [ints] using hl
  obtain ⟨b, o, -, ha, hr⟩ := hc (by omega)
  exact ⟨b, o, l[k], ha, List.getElem?_eq_getElem hk, hr k _ (by simp [ints, List.getElem?_eq_getElem hk])⟩
theorem sigs_calls (s : ByteArray) (W : World) (hT : Tabs W) : Calls Tryz.prog 3 #[.string s] W (RetB (.bool true) W) := by
  have HK := Lib.hid (known_calls W hT)
  clear hT
  go_enter Tryz.func3, Tryz.ntmps3
  go_wp2_with fail
  (with_reducible refine HK.out.mono ?_)
  rintro e W0 ⟨rfl, hb0⟩
  have HB0 := Lib.hid hb0
  clear hb0
  by_cases h1 : 1000 < s.size
  · go_wp2_with fail
    go_ret
    exact ⟨rfl, HB0.out⟩
  have hmem := mem_eq s
  have hsl := sig_len s
  have hsg := sig_calls s W0
  have hsr : ∀ w, Calls Tryz.prog 6 #[.string s] w (SigPost w s (sigT s)) := fun w => by rw [← sig_eq]; exact rsig_calls s w
  obtain ⟨r, hr⟩ : ∃ r, sigT s = r := ⟨_, rfl⟩
  rw [hr] at hmem hsl hsg
  simp only [hr] at hsr
  clear hr
  obtain ⟨lA, out, ok⟩ := r
  obtain ⟨nm, hnm⟩ : ∃ nm, (if ok then s else (⟨#[]⟩ : ByteArray)) = nm := ⟨_, rfl⟩
  have hsg' : Calls Tryz.prog 5 #[.string s] W0 (fun e W' => ∃ v, e = .returned (.tuple #[.agg #[.string nm, v, .int .i64 out], .bool ok]) ∧ Row W' Any v lA.length 1 (ints lA) ∧ Below W0.heap.size W0 W') := by rw [← hnm]; exact hsg
  have hsr' : ∀ w, Calls Tryz.prog 6 #[.string s] w (fun e W' => ∃ v, e = .returned (.tuple #[.agg #[.string nm, v, .int .i64 out], .bool ok]) ∧ Row W' Any v lA.length 1 (ints lA) ∧ Below w.heap.size w W') := by rw [← hnm]; exact hsr
  have hnn : (nm.toList == nm.toList) = true := beq_self_eq_true _
  have hnn2 : (nm.toList != nm.toList) = false := by rw [bne, hnn]; rfl
  have hsl' : lA.length ≤ 3 := hsl
  have HMem := Lib.hid hmem; have HSg := Lib.hid hsg'; have HSr := Lib.hid hsr'
  clear hmem hsl hsg hsr hnm hsg' hsr'
  go_wp2_with fail
  (with_reducible refine HSg.out.mono ?_)
  rintro e W1 ⟨v1, rfl, hR1, hb1⟩
  obtain ⟨_, ao1, cap1, rfl, _⟩ := id hR1
  obtain ⟨W2, hW2⟩ : ∃ W2, W2 = W1.alloc (.cells #[.string nm, .slice ao1 lA.length cap1, .int .i64 out] 25) := ⟨_, rfl⟩
  have hx : W1.alloc (.cells #[.string nm, .slice ao1 lA.length cap1, .int .i64 out] 25) = W2 := hW2.symm
  have hb12 : Below W1.heap.size W1 W2 := by rw [hW2]; exact (Below.refl _ _).alloc (Nat.le_refl _) _
  have hr2 : W2.heap[W1.heap.size]? = some (.cells #[.string nm, .slice ao1 lA.length cap1, .int .i64 out] 25 (0, 0)) := by rw [hW2]; exact blk_new W1 _
  have HR1 := Lib.hid (hR1.keep (by decide) (Keeps.below hb12))
  have HB2 := Lib.hid (HB0.out.trans ((hb1.trans (hb12.mono hb1.size)).mono HB0.out.size))
  have HC2 := Lib.hid hr2
  have HSr2 := Lib.hid (HSr.out W2)
  clear hR1 hb1 hW2 hb12 hr2
  go_wp2_with fail
  (with_reducible refine HSr2.out.mono ?_)
  rintro e W3 ⟨v3, rfl, hR3, hb3⟩
  clear hx
  obtain ⟨_, ao3, cap3, rfl, _⟩ := id hR3
  obtain ⟨W4, hW4⟩ : ∃ W4, W4 = W3.alloc (.cells #[.string nm, .slice ao3 lA.length cap3, .int .i64 out] 28) := ⟨_, rfl⟩
  have hx : W3.alloc (.cells #[.string nm, .slice ao3 lA.length cap3, .int .i64 out] 28) = W4 := hW4.symm
  have hb34 : Below W3.heap.size W3 W4 := by rw [hW4]; exact (Below.refl _ _).alloc (Nat.le_refl _) _
  have hr4 : W4.heap[W3.heap.size]? = some (.cells #[.string nm, .slice ao3 lA.length cap3, .int .i64 out] 28 (0, 0)) := by rw [hW4]; exact blk_new W3 _
  have hb24 := hb3.trans (hb34.mono hb3.size)
  have HR3 := Lib.hid (hR3.keep (by decide) (Keeps.below hb34))
  have HR14 := Lib.hid (HR1.out.keep (by decide) (Keeps.below hb24))
  have HB4 := Lib.hid (HB2.out.trans (hb24.mono HB2.out.size))
  have hc4 := (hb24.block _ (blk_lt HC2.out)).trans HC2.out
  have HC4 := Lib.hid hc4
  have HD4 := Lib.hid hr4
  have a0 : W4.cell? ⟨W1.heap.size, 0, none⟩ = some (.string nm) := blk_cell hc4 0
  have a1 : W4.cell? ⟨W1.heap.size, 1, none⟩ = some (.slice ao1 lA.length cap1) := blk_cell hc4 1
  have a2 : W4.cell? ⟨W1.heap.size, 2, none⟩ = some (.int .i64 out) := blk_cell hc4 2
  have d0 : W4.cell? ⟨W3.heap.size, 0, none⟩ = some (.string nm) := blk_cell hr4 0
  have d1 : W4.cell? ⟨W3.heap.size, 1, none⟩ = some (.slice ao3 lA.length cap3) := blk_cell hr4 1
  have d2 : W4.cell? ⟨W3.heap.size, 2, none⟩ = some (.int .i64 out) := blk_cell hr4 2
  have hok : (ok == ok) = true := beq_self_eq_true _
  have hok2 : (ok != ok) = false := by rw [bne, hok]; rfl
  have hoo : (out == out) = true := beq_self_eq_true _
  have hoo2 : (out != out) = false := by rw [bne, hoo]; rfl
  clear hR3 hb3 hW4 hb34 hr4 hb24 hc4
  go_wp2_with fail
  clear hx a0 a1 a2 d0 d1 d2
  go_loopw [7] (fun i wr => ∃ k : Nat, k ≤ lA.length ∧ i = .int .i64 (k : Int) ∧ Below W4.heap.size W4 wr) (fun i _ => lA.length - (intOf i).toNat)
  case atStart => exact ⟨0, Nat.zero_le _, rfl, Below.refl _ _⟩
  case round =>
    obtain ⟨k, hk, rfl, hbel⟩ := hrel
    have hcr := (hbel.block _ (blk_lt HC4.out)).trans HC4.out
    have hdr := (hbel.block _ (blk_lt HD4.out)).trans HD4.out
    have a1 : wr.cell? ⟨W1.heap.size, 1, none⟩ = some (.slice ao1 lA.length cap1) := blk_cell hcr 1
    have d1 : wr.cell? ⟨W3.heap.size, 1, none⟩ = some (.slice ao3 lA.length cap3) := blk_cell hdr 1
    have HBel := Lib.hid hbel
    clear hcr hdr
    by_cases hkl : k < lA.length
    · obtain ⟨b, o, x, ha, hx1, hcx⟩ := row_int_at (HR14.out.keep (by decide) (Keeps.below hbel)) rfl hkl
      obtain ⟨b', o', x', ha', hx2, hcx'⟩ := row_int_at (HR3.out.keep (by decide) (Keeps.below hbel)) rfl hkl
      obtain rfl : x = x' := Option.some.inj (hx1.symm.trans hx2)
      subst ha ha'
      have hxx : (x == x) = true := beq_self_eq_true _
      have hxx2 : (x != x) = false := by rw [bne, hxx]; rfl
      have h0k : (0 : Int) ≤ (k : Int) := by omega
      have hki : (k : Int) < (lA.length : Int) := by omega
      clear hx1 hx2 hbel
      go_wp2_with fail
      go_quiet (fail)
      go_wp2_with fail
      go_roundw
      case rel => exact ⟨k + 1, by omega, by go_num, Go.Proofs.YtjddnchenhnemaaGreatDoor.Ir.below_drewN HBel.out _⟩
      case measure => (simp [intOf] <;> omega)
    · have HNm := Lib.hid (names_calls wr)
      obtain rfl : k = lA.length := by omega
      clear hbel hk hkl
      go_wp2_with fail
      (with_reducible refine HNm.out.mono ?_)
      rintro e W5 ⟨v5, rfl, hR5, hb5⟩
      obtain ⟨_, ao5, cap5, rfl, _⟩ := id hR5
      have HR5 := Lib.hid hR5
      have HB5 := Lib.hid (HB4.out.trans ((HBel.out.trans (hb5.mono HBel.out.size)).mono HB4.out.size))
      have HRn := Lib.hid (rnames_calls W5)
      have hl23 : sortL.length = 23 := rfl
      rw [hl23] at *
      clear hR5 hb5 a1 d1
      go_wp2_with fail
      (with_reducible refine HRn.out.mono ?_)
      rintro e W6 ⟨v6, rfl, hR6, hb6⟩
      obtain ⟨_, ao6, cap6, rfl, _⟩ := id hR6
      have HR56 := Lib.hid (HR5.out.keep (by decide) (Keeps.below hb6))
      have HR6 := Lib.hid hR6
      have HB6 := Lib.hid (HB5.out.trans (hb6.mono HB5.out.size))
      have hm23 : sortL.length = 23 := rfl
      rw [hm23] at *
      clear hR6 hb6
      go_wp2_with fail
      go_loopw [10, 11] (fun u i wr => ∃ k : Nat, k ≤ 23 ∧ i = .int .i64 (k : Int) ∧ u = .bool ((sortL.take k).any fun t => t.toList == s.toList) ∧ Below W6.heap.size W6 wr) (fun _ i _ => 23 - (intOf i).toNat)
      case atStart => exact ⟨0, Nat.zero_le _, rfl, rfl, Below.refl _ _⟩
      case round =>
        rename World => w7
        obtain ⟨k, hk, rfl, rfl, hbel⟩ := hrel
        have HBel7 := Lib.hid hbel
        obtain ⟨y, hy⟩ : ∃ y, ((sortL.take k).any fun t => t.toList == s.toList) = y := ⟨_, rfl⟩
        rw [hy]
        by_cases hk23 : k < 23
        · obtain ⟨b, o, t, ha, ht1, hct⟩ := row_str (HR56.out.keep (by decide) (Keeps.below hbel)) rfl (k := k) (by show k < 23; exact hk23)
          obtain ⟨b', o', t', ha', ht2, hct'⟩ := row_str (HR6.out.keep (by decide) (Keeps.below hbel)) rfl (k := k) (by show k < 23; exact hk23)
          obtain rfl : t = t' := Option.some.inj (ht1.symm.trans ht2)
          subst ha ha'
          have htt : (t.toList == t.toList) = true := beq_self_eq_true _
          have htt2 : (t.toList != t.toList) = false := by rw [bne, htt]; rfl
          have h0k : (0 : Int) ≤ (k : Int) := by omega
          have hki : (k : Int) < 23 := by omega
          have hg23 : decide ((23 : Int) ≤ (k : Int)) = false := decide_eq_false (by omega)
          have hnext : ((sortL.take (k + 1)).any fun t => t.toList == s.toList) = (y || (t.toList == s.toList)) := by
            rw [List.take_add_one, ht1, List.any_append, hy]; simp
          have HNext := Lib.hid hnext
          clear ht1 ht2 hbel hnext hy
          cases y with
          | true =>
            go_wp2_with fail
            go_quiet (fail)
            go_wp2_with fail
            go_roundw
            case rel => exact ⟨k + 1, by omega, by go_num, by rw [HNext.out]; rfl, Go.Proofs.YtjddnchenhnemaaGreatDoor.Ir.below_drewN HBel7.out _⟩
            case measure => (simp [intOf] <;> omega)
          | false =>
            go_wp2_with fail
            go_quiet (fail)
            go_wp2_with fail
            go_roundw
            case rel => exact ⟨k + 1, by omega, by go_num, by rw [HNext.out]; rfl, Go.Proofs.YtjddnchenhnemaaGreatDoor.Ir.below_drewN HBel7.out _⟩
            case measure => (simp [intOf] <;> omega)
        · obtain rfl : k = 23 := by omega
          have hall : ((sortL.take 23).any fun t => t.toList == s.toList) = ok := HMem.out
          have hyo : y = ok := hy.symm.trans hall
          rw [hyo]
          have HW7 := Lib.hid (HB6.out.trans (hbel.mono HB6.out.size))
          clear hbel hall hy
          go_wp2_with fail
          go_ret
          exact ⟨by simp [hok], HW7.out⟩
end Go.Proofs.YtjddnchenhnemaaGreatDoor.Ps
