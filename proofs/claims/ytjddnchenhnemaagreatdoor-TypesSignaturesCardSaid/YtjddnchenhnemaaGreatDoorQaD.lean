/-
  Types of the two trees.
-/
import Derived.Test.YtjddnchenhnemaaGreatDoorQaC
namespace Go.Proofs.YtjddnchenhnemaaGreatDoor.Ps
open Go Go.RowKit Go.Proofs.YtjddnchenhnemaaGreatDoor.QT Go.Proofs.YtjddnchenhnemaaGreatDoor.Rg Go.Proofs.YtjddnchenhnemaaGreatDoor.Ma Go.Proofs.YtjddnchenhnemaaGreatDoor.Ir Go.Proofs.YtjddnchenhnemaaGreatDoor.Pm
set_option maxHeartbeats 8000000
set_option maxRecDepth 100000
theorem own_call {W : World} {cs : List Value} (hl : cs.length = 17) (h0 : cs[0]? = some (.int .i64 6)) {v : Value} {a b : Int} (hc : Calls Tryz.prog 27 #[.agg cs.toArray, v] (W.alloc (.cells cs.toArray 42)) (RetT a b (W.alloc (.cells cs.toArray 42)))) :
    Calls Tryz.prog 16 #[.agg cs.toArray, v] W (RetT a b W) := by
  have hk0 := xbox_cell (W := W) 0 h0
  have HO := Lib.hid hc
  have HB := Lib.hid (blk_new W (.cells cs.toArray 42))
  clear h0 hc
  go_enter Tryz.func16, Tryz.ntmps16
  go_wp2_with (with_reducible refine wpList_loadX rfl _ rfl W.heap.size 0 rfl cs (range_blk HB.out) hl ?_)
  (with_reducible refine HO.out.mono ?_)
  rintro e W1 ⟨rfl, hb1⟩
  have HB1 := Lib.hid (((Below.refl _ _).alloc (Nat.le_refl _) _).trans (hb1.mono (by simp)) : Below W.heap.size W W1)
  clear hb1 HO HB hk0
  go_wp2_with fail
  refine bodyPost_ret (v := .tuple #[.int .i64 _, .int .i64 _]) (by simp [results, Tryz.results16, go_sem, *]) rfl ⟨rfl, HB1.out⟩
theorem of_leafH {n : Xn} {f : Xf} {l : Xk} (hn : n = .mk f l) {t : Int} (hk : LeafT f.kind t) (W : World) (cs : List Value) (hH : n.Held W Any cs) : Calls Tryz.prog 10 #[.agg cs.toArray] W (RetO t 0 0 W) := by
  subst hn
  obtain ⟨f', l', h, h0, -, -⟩ := xkind hH
  cases h
  exact of_leaf hk W cs hH.length hH.one h0
theorem of_rate {f fk : Xf} {lk : Xk} {nm : ByteArray} (hk : f.kind = 6) (hs : sigT nm = ([3], 2, true)) (q1 : (nm.toList == [97, 98, 115, 101, 110, 116]) = false) (q2 : (nm.toList == [108, 97, 98, 101, 108, 95, 115, 101, 116]) = false) (hnm : f.name = nm)
    {t : Int} (ht : LeafT fk.kind t) (z : Int × Int) (hz : z = if t == 3 then (2, 0) else (0, fk.at_)) (W : World) (cs : List Value) (hH : (Xn.mk f (.snoc .nil (.mk fk lk))).Held W Any cs) :
    Calls Tryz.prog 10 #[.agg cs.toArray] W (RetO (ofR [(t, 0, 0)] z).1 (ofR [(t, 0, 0)] z).2.1 (ofR [(t, 0, 0)] z).2.2 W) := by
  refine of_node (.inl hk) [(t, 0, 0)] rfl (by show 0 + 1 ≤ 100; omega) ?_ z ?_ W cs hH
  · intro i n r hn hr W cs hH
    match i with
    | 0 =>
      cases hn; cases hr
      exact of_leafH rfl ht W cs hH
    | i + 1 => cases hr
  · intro _ W cs v hH hv
    have hH' := hH.below ((Below.refl _ _).alloc (Nat.le_refl _) (.cells cs.toArray 42))
    obtain ⟨f', l', h, h0, -, -⟩ := xkind hH
    cases h
    rw [hk] at h0
    exact own_call hH.length h0 (call_one hs q1 q2 hnm hH' (hv.keep (by decide) (Keeps.below ((Below.refl _ _).alloc (Nat.le_refl _) _))) fk.at_ rfl z hz)
theorem sig_rate : sigT tRate = ([3], 2, true) := by decide +kernel
theorem ofA (W : World) (cs : List Value) (hH : treeA.Held W Any cs) : Calls Tryz.prog 10 #[.agg cs.toArray] W (RetO 2 0 0 W) :=
  of_rate (nm := tRate) rfl sig_rate (by decide +kernel) (by decide +kernel) rfl (t := 3) (.inr (.inr ⟨rfl, rfl⟩)) (2, 0) rfl W cs hH
theorem ofB (W : World) (cs : List Value) (hH : treeB.Held W Any cs) : Calls Tryz.prog 10 #[.agg cs.toArray] W (RetO 0 9 3 W) := by
  refine of_node (.inr rfl) [(1, 0, 0), (0, 9, 3)] rfl (by show 0 + 1 + 1 ≤ 100; omega) ?_ (0, 0) ?_ W cs hH
  · intro i n r hn hr W cs hH
    match i with
    | 0 =>
      cases hn; cases hr
      exact of_leafH rfl (.inl ⟨rfl, rfl⟩) W cs hH
    | 1 =>
      cases hn; cases hr
      exact of_rate (nm := tRate) rfl sig_rate (by decide +kernel) (by decide +kernel) rfl (t := 2) (.inr (.inl ⟨rfl, rfl⟩)) (0, 9) rfl W cs hH
    | i + 2 => cases hr
  · intro h
    have := h (0, 9, 3) (by simp)
    exact absurd this (by decide)
end Go.Proofs.YtjddnchenhnemaaGreatDoor.Ps
