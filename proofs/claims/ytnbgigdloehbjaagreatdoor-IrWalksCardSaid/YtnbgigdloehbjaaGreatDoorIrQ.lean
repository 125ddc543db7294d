/-
  A plan's type, or what is wrong with it (ir.Check).
-/
import Derived.Test.YtnbgigdloehbjaaGreatDoorIrO
namespace Go.Proofs.YtnbgigdloehbjaaGreatDoor.Ir
open Go Go.RowKit Go.Proofs.YtnbgigdloehbjaaGreatDoor.Rg Go.Proofs.YtnbgigdloehbjaaGreatDoor.Ma
set_option maxHeartbeats 8000000
set_option maxRecDepth 100000

/-- A node is read, behind a guard. -/
theorem wpList_loadNdW {ops : Array Oper} {rest : List Oper} {op : Oper} {a : Act} {w : World} {Q : Exit → Act → World → Prop} (x : Operand) (ho : op.op = .load 31 x)
    (b o : Nat) (hx : a.eval x = .pointer (some ⟨b, o, none⟩)) (c : List Value) (hc : w.rangeAt b o c) (hl : c.length = 17) (hw : Region.wanted op (yielded ops a.tmps) = true)
    (h : wpList Tryz.prog ops Q rest (a.put op.dst (.agg c.toArray)) w) : wpList Tryz.prog ops Q (op :: rest) a w :=
  wpList_step fun K hK => by
    rw [if_pos hw]
    exact wp_load_mid 31 x ho b o hx c _ hc Tryz.underlying31 rfl (by rw [sizeNd, hl]) (hK _ _ h)
theorem subs1_calls (n : Nd) (hn : n.tot ≤ 100000) (W : World) (cs : List Value) (hH : n.Held W Any cs) : Calls Tryz.prog 16 #[.agg cs.toArray, .int .i64 1] W (RetB (.bool (decide (4096 < 1 * n.prod))) W) :=
  subs_calls 100000 n hn (Nat.le_refl _) W cs 1 (by decide) (by decide) hH
theorem Nd.check_of (n : Nd) (x y z : Bool) (hx : decide (400 < min n.tot 401) = x) (hy : decide (40 < min n.dep 41) = y) (hz : decide (4096 < 1 * n.prod) = z) : n.check = if x || y || z then (0, 6) else n.chk := by
  subst hx hy hz
  rw [Nd.check]
  congr 1
  simp only [Bool.or_eq_true, decide_eq_true_eq, eq_iff_iff]
  omega
theorem Check_calls (n : Nd) (hn : n.tot ≤ 100000) (hS : n.Sm) (W : World) (cs : List Value) (hH : n.Held W Any cs) : Calls Tryz.prog 7 #[.agg cs.toArray] W (RetC n.check W) := by
  have hl17 := hH.length
  obtain ⟨B, hB⟩ : ∃ B, B = W.alloc (.cells cs.toArray 31) := ⟨_, rfl⟩
  have hb0 : Below W.heap.size W B := by rw [hB]; exact (Below.refl _ _).alloc (Nat.le_refl _) _
  have hsB : B.heap.size = W.heap.size + 1 := by rw [hB]; simp
  have hkB : B.heap[W.heap.size]? = some (.cells cs.toArray 31 (0, 0)) := by rw [hB]; exact blk_new W _
  have HB := Lib.hid hb0; clear hb0
  have hrg : B.rangeAt W.heap.size 0 cs := range_blk hkB
  have HRg := Lib.hid hrg; clear hrg hkB
  have HH := Lib.hid (hH.below HB.out); clear hH
  have HS := Lib.hid hS; clear hS
  obtain ⟨x, hx⟩ : ∃ x, decide (400 < min n.tot 401) = x := ⟨_, rfl⟩
  obtain ⟨y, hy⟩ : ∃ y, decide (40 < min n.dep 41) = y := ⟨_, rfl⟩
  obtain ⟨z, hz⟩ : ∃ z, decide (4096 < 1 * n.prod) = z := ⟨_, rfl⟩
  have hck := n.check_of x y z hx hy hz
  have HZ := Lib.hid hz
  clear hz
  obtain ⟨p, hp⟩ : ∃ p, p = min n.tot 401 := ⟨_, rfl⟩
  obtain ⟨d, hd⟩ : ∃ d, d = min n.dep 41 := ⟨_, rfl⟩
  have HP := Lib.hid hp; have HD := Lib.hid hd
  have hp4 : p ≤ 401 := by rw [hp]; omega
  have hd4 : d ≤ 41 := by rw [hd]; omega
  rw [← hp] at hx
  rw [← hd] at hy
  have HCk := Lib.hid hck
  clear hck hp hd
  go_enter Tryz.func7, Tryz.ntmps7
  go_wp2_with (with_reducible refine wpList_loadNd rfl _ rfl W.heap.size 0 rfl cs (range_blk (blk_new W _)) hl17 ?_)
  rw [← hB]
  clear hB
  cases x
  · have q1 : ¬ (400 : Int) < (p : Int) := by have := of_decide_eq_false hx; omega
    clear hx
    cases y
    · have q2 : ¬ (40 : Int) < (d : Int) := by have := of_decide_eq_false hy; omega
      clear hy
      cases z
      · simp only [Bool.or_self, Bool.false_eq_true, if_false] at HCk
        (with_reducible refine (Size_calls n hn B cs HH.out).mono ?_)
        rintro e W1 ⟨r, rfl, hr, hb1⟩
        have hr2 := hr.trans HP.out.symm
        clear hr
        subst hr2
        have HB1 := Lib.hid hb1
        have hrg1 : W1.rangeAt W.heap.size 0 cs := range_keep HRg.out fun h => hb1.block _ h
        have HRg1 := Lib.hid hrg1; clear hb1 hrg1
        go_wp2_with (first | (with_reducible refine wpList_loadNd rfl _ rfl W.heap.size 0 rfl cs HRg1.out hl17 ?_) | (with_reducible refine wpList_loadNdW _ rfl W.heap.size 0 rfl cs HRg1.out hl17 (by simp [Region.wanted, yielded, *]) ?_))
        (with_reducible refine (Depth_calls n hn W1 cs (Nd.Held.keep (Keeps.below HB1.out) _ HH.out)).mono ?_)
        rintro e W2 ⟨r, rfl, hr, hb2⟩
        have hr2 := hr.trans HD.out.symm
        clear hr
        subst hr2
        have hrg2 : W2.rangeAt W.heap.size 0 cs := range_keep HRg1.out fun h => hb2.block _ h
        have HB2 := Lib.hid (HB1.out.trans (hb2.mono HB1.out.size))
        have HRg2 := Lib.hid hrg2; clear hb2 hrg2
        go_wp2_with (first | (with_reducible refine wpList_loadNd rfl _ rfl W.heap.size 0 rfl cs HRg2.out hl17 ?_) | (with_reducible refine wpList_loadNdW _ rfl W.heap.size 0 rfl cs HRg2.out hl17 (by simp [Region.wanted, yielded, *]) ?_))
        (with_reducible refine (subs1_calls n hn W2 cs (Nd.Held.keep (Keeps.below HB2.out) _ HH.out)).mono ?_)
        rintro e W3 ⟨rfl, hb3⟩
        rw [HZ.out]
        have hrg3 : W3.rangeAt W.heap.size 0 cs := range_keep HRg2.out fun h => hb3.block _ h
        have HB3 := Lib.hid (HB2.out.trans (hb3.mono HB2.out.size))
        have HRg3 := Lib.hid hrg3; clear hb3 hrg3
        go_wp2_with (first | (with_reducible refine wpList_loadNd rfl _ rfl W.heap.size 0 rfl cs HRg3.out hl17 ?_) | (with_reducible refine wpList_loadNdW _ rfl W.heap.size 0 rfl cs HRg3.out hl17 (by simp [Region.wanted, yielded, *]) ?_))
        (with_reducible refine (chk_calls 100000 n hn (by omega) HS.out W3 cs (Nd.Held.keep (Keeps.below HB3.out) _ HH.out)).mono ?_)
        rintro e W4 ⟨t, er, rfl, he, hb4⟩
        have HE := Lib.hid he; clear he
        have HB4 := Lib.hid (HB.out.trans ((HB3.out.trans (hb4.mono HB3.out.size)).mono (by omega))); clear hb4
        go_wp2_with fail
        go_ret2
        exact ⟨t, er, rfl, by rw [HCk.out, HE.out], HB4.out⟩
      · simp only [Bool.or_true, if_true] at HCk
        (with_reducible refine (Size_calls n hn B cs HH.out).mono ?_)
        rintro e W1 ⟨r, rfl, hr, hb1⟩
        have hr2 := hr.trans HP.out.symm
        clear hr
        subst hr2
        have HB1 := Lib.hid hb1
        have hrg1 : W1.rangeAt W.heap.size 0 cs := range_keep HRg.out fun h => hb1.block _ h
        have HRg1 := Lib.hid hrg1; clear hb1 hrg1
        go_wp2_with (first | (with_reducible refine wpList_loadNd rfl _ rfl W.heap.size 0 rfl cs HRg1.out hl17 ?_) | (with_reducible refine wpList_loadNdW _ rfl W.heap.size 0 rfl cs HRg1.out hl17 (by simp [Region.wanted, yielded, *]) ?_))
        (with_reducible refine (Depth_calls n hn W1 cs (Nd.Held.keep (Keeps.below HB1.out) _ HH.out)).mono ?_)
        rintro e W2 ⟨r, rfl, hr, hb2⟩
        have hr2 := hr.trans HD.out.symm
        clear hr
        subst hr2
        have hrg2 : W2.rangeAt W.heap.size 0 cs := range_keep HRg1.out fun h => hb2.block _ h
        have HB2 := Lib.hid (HB1.out.trans (hb2.mono HB1.out.size))
        have HRg2 := Lib.hid hrg2; clear hb2 hrg2
        go_wp2_with (first | (with_reducible refine wpList_loadNd rfl _ rfl W.heap.size 0 rfl cs HRg2.out hl17 ?_) | (with_reducible refine wpList_loadNdW _ rfl W.heap.size 0 rfl cs HRg2.out hl17 (by simp [Region.wanted, yielded, *]) ?_))
        (with_reducible refine (subs1_calls n hn W2 cs (Nd.Held.keep (Keeps.below HB2.out) _ HH.out)).mono ?_)
        rintro e W3 ⟨rfl, hb3⟩
        rw [HZ.out]
        have hrg3 : W3.rangeAt W.heap.size 0 cs := range_keep HRg2.out fun h => hb3.block _ h
        have HB3 := Lib.hid (HB2.out.trans (hb3.mono HB2.out.size))
        have HRg3 := Lib.hid hrg3; clear hb3 hrg3
        go_wp2_with fail
        go_ret2
        exact ⟨0, 6, rfl, HCk.out, HB.out.trans (HB3.out.mono (by omega))⟩
    · have q2 : (40 : Int) < (d : Int) := by have := of_decide_eq_true hy; omega
      clear hy HZ
      simp only [Bool.or_true, Bool.true_or, if_true] at HCk
      (with_reducible refine (Size_calls n hn B cs HH.out).mono ?_)
      rintro e W1 ⟨r, rfl, hr, hb1⟩
      have hr2 := hr.trans HP.out.symm
      clear hr
      subst hr2
      have HB1 := Lib.hid hb1
      have hrg1 : W1.rangeAt W.heap.size 0 cs := range_keep HRg.out fun h => hb1.block _ h
      have HRg1 := Lib.hid hrg1; clear hb1 hrg1
      go_wp2_with (first | (with_reducible refine wpList_loadNd rfl _ rfl W.heap.size 0 rfl cs HRg1.out hl17 ?_) | (with_reducible refine wpList_loadNdW _ rfl W.heap.size 0 rfl cs HRg1.out hl17 (by simp [Region.wanted, yielded, *]) ?_))
      (with_reducible refine (Depth_calls n hn W1 cs (Nd.Held.keep (Keeps.below HB1.out) _ HH.out)).mono ?_)
      rintro e W2 ⟨r, rfl, hr, hb2⟩
      have hr2 := hr.trans HD.out.symm
      clear hr
      subst hr2
      have hrg2 : W2.rangeAt W.heap.size 0 cs := range_keep HRg1.out fun h => hb2.block _ h
      have HB2 := Lib.hid (HB1.out.trans (hb2.mono HB1.out.size))
      have HRg2 := Lib.hid hrg2; clear hb2 hrg2
      go_wp2_with fail
      go_ret2
      exact ⟨0, 6, rfl, HCk.out, HB.out.trans (HB2.out.mono (by omega))⟩
  · have q1 : (400 : Int) < (p : Int) := by have := of_decide_eq_true hx; omega
    clear hx hy HZ
    simp only [Bool.true_or, if_true] at HCk
    (with_reducible refine (Size_calls n hn B cs HH.out).mono ?_)
    rintro e W1 ⟨r, rfl, hr, hb1⟩
    have hr2 := hr.trans HP.out.symm
    clear hr
    subst hr2
    have HB1 := Lib.hid hb1
    have hrg1 : W1.rangeAt W.heap.size 0 cs := range_keep HRg.out fun h => hb1.block _ h
    have HRg1 := Lib.hid hrg1; clear hb1 hrg1
    go_wp2_with fail
    go_ret2
    exact ⟨0, 6, rfl, HCk.out, HB.out.trans (HB1.out.mono (by omega))⟩
end Go.Proofs.YtnbgigdloehbjaaGreatDoor.Ir
