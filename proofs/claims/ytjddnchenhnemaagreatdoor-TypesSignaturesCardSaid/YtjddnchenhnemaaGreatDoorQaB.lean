/-
  Types of trees: a call of a function with one argument, a window.
-/
import Derived.Test.YtjddnchenhnemaaGreatDoorQaA
namespace Go.Proofs.YtjddnchenhnemaaGreatDoor.Ps
open Go Go.RowKit Go.Proofs.YtjddnchenhnemaaGreatDoor.QT Go.Proofs.YtjddnchenhnemaaGreatDoor.Rg Go.Proofs.YtjddnchenhnemaaGreatDoor.Ma Go.Proofs.YtjddnchenhnemaaGreatDoor.Ir Go.Proofs.YtjddnchenhnemaaGreatDoor.Pm
set_option maxHeartbeats 8000000
set_option maxRecDepth 100000
theorem call_one {nm : ByteArray} (hs : sigT nm = ([3], 2, true)) (q1 : (nm.toList == [97, 98, 115, 101, 110, 116]) = false) (q2 : (nm.toList == [108, 97, 98, 101, 108, 95, 115, 101, 116]) = false) {f fk : Xf} {lk : Xk} (hnm : f.name = nm)
    {W : World} {cs : List Value} (hH : (Xn.mk f (.snoc .nil (.mk fk lk))).Held W Any cs)
    {v : Value} {t : Int} (hv : Row W Any v 1 1 (ints [t])) (y : Int) (hy : y = fk.at_) (z : Int × Int) (hz : z = if t == 3 then (2, 0) else (0, y)) : Calls Tryz.prog 27 #[.agg cs.toArray, v] W (RetT z.1 z.2 W) := by
  have hlcs := hH.length
  have hone := hH.one
  obtain ⟨vM, vX, vI, vG, ao, cap, ls, hcs, hf, hl, hK⟩ := hH.open
  have hk3 := xbox_cell (W := W) 3 (show cs[3]? = some (.string nm) by rw [hcs, ← hnm]; rfl)
  have hbw : Below W.heap.size W (W.alloc (.cells cs.toArray 42)) := (Below.refl _ _).alloc (Nat.le_refl _) _
  have hbb := blk_new W (.cells cs.toArray 42)
  have hsz0 : (W.alloc (.cells cs.toArray 42)).heap.size = W.heap.size + 1 := by simp
  obtain ⟨b1, o1, cap1, rfl, hv1, hlt1⟩ := row_int hv
  obtain ⟨B0, hB0⟩ : ∃ B0, B0 = W.alloc (.cells cs.toArray 42) := ⟨_, rfl⟩
  have hx : W.alloc (.cells cs.toArray 42) = B0 := hB0.symm
  rw [hx] at hk3 hbw hbb hsz0
  have hsig := sig_calls nm B0
  rw [hs] at hsig
  have hsig' : Calls Tryz.prog 5 #[.string nm] B0 (fun e W' => ∃ v, e = .returned (.tuple #[.agg #[.string nm, v, .int .i64 2], .bool true]) ∧ Row W' Any v 1 1 (ints [3]) ∧ Below B0.heap.size B0 W') := hsig
  have HSig := Lib.hid hsig'
  have HH := Lib.hid hH; have HBw := Lib.hid hbw; have HBb := Lib.hid hbb; have HOne := Lib.hid hone; have HV1 := Lib.hid hv1; have HZ := Lib.hid hz
  have H16 := Lib.hid (show cs[16]? = some (.slice ao 1 cap) by rw [hcs]; rfl)
  have HL := Lib.hid hl; have HK := Lib.hid hK
  clear hsig hsig' hcs hf hl hK hH hbw hbb hone hB0 hv hv1 hs hz
  go_enter Tryz.func27, Tryz.ntmps27
  go_wp2_with fail
  clear hx
  (with_reducible refine HSig.out.mono ?_)
  rintro e W1 ⟨vs, rfl, hR1, hb1⟩
  obtain ⟨b2, o2, cap2, rfl, hc2, hlt2⟩ := row_int hR1
  obtain ⟨W2, hW2⟩ : ∃ W2, W2 = W1.alloc (.cells #[.string nm, .slice (some ⟨b2, o2, none⟩) 1 cap2, .int .i64 2] 25) := ⟨_, rfl⟩
  have hx : W1.alloc (.cells #[.string nm, .slice (some ⟨b2, o2, none⟩) 1 cap2, .int .i64 2] 25) = W2 := hW2.symm
  have hb2 : Below W1.heap.size W1 W2 := by rw [hW2]; exact (Below.refl _ _).alloc (Nat.le_refl _) _
  have hr2 : W2.heap[W1.heap.size]? = some (.cells #[.string nm, .slice (some ⟨b2, o2, none⟩) 1 cap2, .int .i64 2] 25 (0, 0)) := by rw [hW2]; exact blk_new W1 _
  have hR2 := hR1.keep (by decide) (Keeps.below hb2)
  have hbw2 : Below W.heap.size W W2 := HBw.out.trans ((hb1.trans (hb2.mono hb1.size)).mono (by omega))
  have hbb2 := ((hb1.trans (hb2.mono hb1.size)).block W.heap.size (by omega)).trans HBb.out
  have HR2 := Lib.hid hR2; have HBw2 := Lib.hid hbw2; have HBb2 := Lib.hid hbb2; have HRr2 := Lib.hid hr2
  have n1 : W2.cell? ⟨W1.heap.size, 1, none⟩ = some (.slice (some ⟨b2, o2, none⟩) 1 cap2) := blk_cell hr2 1
  clear hW2 hR1 hb1 hb2 hr2 hR2 hbw2 hbb2 hc2 hlt2
  go_wp2_with fail
  clear hx n1
  go_loopw [30] (fun i wr => ∃ k : Nat, k ≤ 1 ∧ i = .int .i64 (k : Int) ∧ (k = 1 → (t == 3) = true) ∧ Below W2.heap.size W2 wr) (fun i _ => 1 - (intOf i).toNat)
  case atStart => exact ⟨0, by decide, rfl, fun h => by omega, Below.refl _ _⟩
  case round =>
    obtain ⟨k, hk, rfl, hkt, hbel⟩ := hrel
    have hrr := (hbel.block _ (blk_lt HRr2.out)).trans HRr2.out
    have hww := HBw2.out.trans (hbel.mono HBw2.out.size)
    have m0 : wr.cell? ⟨W1.heap.size, 0, none⟩ = some (.string nm) := blk_cell hrr 0
    have m1 : wr.cell? ⟨W1.heap.size, 1, none⟩ = some (.slice (some ⟨b2, o2, none⟩) 1 cap2) := blk_cell hrr 1
    have m2 : wr.cell? ⟨W1.heap.size, 2, none⟩ = some (.int .i64 2) := blk_cell hrr 2
    have hbx := (hbel.block _ (blk_lt HBb2.out)).trans HBb2.out
    by_cases hk1 : k < 1
    · obtain rfl : k = 0 := by omega
      have mv : wr.cell? ⟨b1, o1, none⟩ = some (.int .i64 t) := (World.cell?_of_block (a := ⟨b1, o1, none⟩) (hww.block b1 hlt1)).trans HV1.out
      have hbelR := (HR2.out.keep (by decide) (Keeps.below hbel))
      have HFit := Lib.hid (fits_one q1 q2 (HH.out.below hww) hbelR 2 t)
      have HBx := Lib.hid hbx; have HBel := Lib.hid hbel; have HWw := Lib.hid hww
      clear hrr hww hbx hbelR hkt hk1 hk hbel
      go_wp2_with (with_reducible refine wpList_loadX rfl _ rfl W.heap.size 0 rfl cs (range_blk HBx.out) hlcs ?_)
      (with_reducible refine HFit.out.mono ?_)
      rintro e W4 ⟨rfl, hb4⟩
      have HW4 := Lib.hid (HWw.out.trans (hb4.mono HWw.out.size))
      have HB4 := Lib.hid (HBel.out.trans (hb4.mono HBel.out.size))
      have HX4 := Lib.hid ((hb4.block _ (blk_lt HBx.out)).trans HBx.out)
      clear hb4 m0 m1 m2 mv
      obtain ⟨x, hx3⟩ : ∃ x, (t == 3) = x := ⟨_, rfl⟩
      cases x with
      | true =>
        go_wp2_with fail
        go_roundw
        case rel => exact ⟨1, by omega, by go_num, fun _ => hx3, HB4.out⟩
        case measure => (simp [intOf] <;> omega)
      | false =>
        have hz := HZ.out
        rw [hx3, if_neg (by decide)] at hz
        subst hz
        obtain ⟨b, o, ha, n1, c, hn1, hat, hH1⟩ := xkid_at (k := 0) (HL.out.keep (Keeps.below HW4.out)) (HK.out.keep (by decide) (Keeps.below HW4.out)) (by show 0 < 0 + 1; omega)
        subst ha
        have hn2 : some (Xn.mk fk lk) = some n1 := hn1
        obtain rfl : Xn.mk fk lk = n1 := Option.some.inj hn2
        obtain ⟨_, _, h2, -, hc1, -⟩ := xkind hH1
        cases h2
        have e16 : W4.cell? ⟨W.heap.size, 16, none⟩ = some (.slice (some ⟨b, o, none⟩) 1 cap) := by rw [blk_cell HX4.out]; simpa using H16.out
        have e1 : W4.cell? ⟨b, o + 1, none⟩ = some (.int .i64 y) := by rw [hy]; exact hat 1 _ hc1
        clear hat hH1 hc1 hn1 hn2
        go_wp2_with fail
        go_quiet (fail)
        go_wp2_with fail
        refine bodyPost_ret (v := .tuple #[.int .i64 0, .int .i64 y]) (by simp [results, Tryz.results27, go_sem, *]) rfl ⟨rfl, Go.Proofs.YtjddnchenhnemaaGreatDoor.Ir.below_drewN HW4.out _⟩
    · obtain rfl : k = 1 := by omega
      have hx3 := hkt rfl
      have hz := HZ.out
      rw [hx3, if_pos rfl] at hz
      subst hz
      have HWw := Lib.hid hww
      clear hrr hww hbx hkt hk1 hk hbel
      go_wp2_with fail
      refine bodyPost_ret (v := .tuple #[.int .i64 2, .int .i64 0]) (by simp [results, Tryz.results27, go_sem, *]) rfl ⟨rfl, HWw.out⟩
end Go.Proofs.YtjddnchenhnemaaGreatDoor.Ps
