/-
  A match of nothing may be; slices of two elements of several cells.
-/
import Derived.Test.YtjddnchenhnemaaGreatDoorPsN
import Derived.Carry
import Derived.Great.BuildSlice
namespace Go.Proofs.YtjddnchenhnemaaGreatDoor.Ps
open Go Go.RowKit Go.Proofs.YtjddnchenhnemaaGreatDoor.QT Go.Proofs.YtjddnchenhnemaaGreatDoor.Rg Go.Proofs.YtjddnchenhnemaaGreatDoor.Ma Go.Proofs.YtjddnchenhnemaaGreatDoor.Ir Go.Proofs.YtjddnchenhnemaaGreatDoor.Pm Go.Proofs.YtjddnchenhnemaaGreatDoor.Le
set_option maxHeartbeats 8000000
set_option maxRecDepth 100000
theorem once_none (W : World) : Calls Tryz.prog 93 #[.slice none 0 0] W (RetB (.bool true) W) := by
  have hmm := @run_makeMap Tryz.prog
  go_enter Tryz.func93, Tryz.ntmps93
  go_wp2_with fail
  refine wp_loop_rounds 1 ?_
  rw [rounds_succ]
  go_wp2_with fail
  go_ret
  exact ⟨rfl, (Below.refl _ _).alloc (Nat.le_refl _) _⟩
theorem aggCheck_none (W : World) : Calls Tryz.prog 92 #[.agg #[.int .i64 0, .slice none 0 0]] W (RetB (.int .i64 0) W) := by
  go_enter Tryz.func92, Tryz.ntmps92
  go_wp2_with fail
  (with_reducible refine (once_none _).mono ?_)
  rintro e W1 ⟨rfl, hb⟩
  have HB := Lib.hid (after1 (Below.refl _ _) hb); clear hb
  go_wp2_with fail
  go_ret
  exact ⟨rfl, HB.out⟩
theorem joinCheck_none (W : World) : Calls Tryz.prog 71 #[.agg mz] W (RetB (.int .i64 0) W) := by
  unfold mz
  go_enter Tryz.func71, Tryz.ntmps71
  go_wp2_with fail
  (with_reducible refine (aggCheck_none _).mono ?_)
  rintro e W1 ⟨rfl, hb⟩
  have hB := hb
  have hx := (hb.block W.heap.size (by simp)).trans (blk_new W (.cells #[.int .i64 0, .slice none 0 0, .int .i64 0, .slice none 0 0] 39))
  have c0 : W1.cell? ⟨W.heap.size, 0, none⟩ = some (.int .i64 0) := blk_cell hx 0
  have c2 : W1.cell? ⟨W.heap.size, 2, none⟩ = some (.int .i64 0) := blk_cell hx 2
  have c3 : W1.cell? ⟨W.heap.size, 3, none⟩ = some (.slice none 0 0) := blk_cell hx 3
  have HB := Lib.hid (after1 (Below.refl _ _) hb)
  have HX := Lib.hid hx
  clear hb hB hx
  go_wp2_with fail
  (with_reducible refine (once_none _).mono ?_)
  rintro e W2 ⟨rfl, hb2⟩
  have d0 : W2.cell? ⟨W.heap.size, 0, none⟩ = some (.int .i64 0) := blk_cell ((hb2.block _ (blk_lt HX.out)).trans HX.out) 0
  have HB2 := Lib.hid (HB.out.trans (hb2.mono HB.out.size))
  clear hb2 c0 c2 c3
  go_wp2_with fail
  go_ret
  exact ⟨rfl, HB2.out⟩
theorem fill_two (s : Nat) (hs : 0 < s) (zero a b : Array Value) (hz : zero.size = s + s) (ha : a.size = s) (hb : b.size = s) : Instr.fill (fun i => some (i * s, s)) zero [(0, .agg a), (1, .agg b)] = some (a ++ b) := by
  obtain ⟨r, hr, h1, h2⟩ := Great.fill_dense hs [.agg a, .agg b] 0 zero (fun v hv => by
    simp only [List.mem_cons, List.not_mem_nil, or_false] at hv
    rcases hv with rfl | rfl
    · exact ha
    · exact hb) (by simp [hz]; omega)
  have e : (([Value.agg a, Value.agg b].zipIdx 0).map fun x => (x.2, x.1)) = [(0, .agg a), (1, .agg b)] := rfl
  rw [e] at hr
  rw [hr]
  congr 1
  apply Array.ext_getElem?
  intro k
  rw [h2 k]
  by_cases hk : k < s + s
  · rw [if_pos (by simp; omega)]
    by_cases hk2 : k < s
    · simp [Nat.div_eq_of_lt hk2, Nat.mod_eq_of_lt hk2, Value.cells, Array.getElem?_append, ha, hk2]
    · have e1 : k / s = 1 := by
        have : k = (k - s) + s := by omega
        rw [this, Nat.add_div_right _ hs, Nat.div_eq_of_lt (by omega)]
      have e2 : k % s = k - s := by
        have : k = (k - s) + s := by omega
        rw [this, Nat.add_mod_right, Nat.mod_eq_of_lt (by omega)]; omega
      simp [e1, e2, Value.cells, Array.getElem?_append, ha, hk2]
  · rw [if_neg (by simp; omega), Array.getElem?_eq_none (by omega), Array.getElem?_eq_none (by simp; omega)]
/-- A slice of two elements that are laid out by their cells. -/
theorem wp_slice2 {P : Program} {o : Oper} {a : Act} {w : World} {K : Act → World → Prop} {Q : Exit → Act → World → Prop} (t e : TypeId) (s : Nat) (z : Value) (x y : Operand) (ho : o.op = .buildSlice t 2 #[(0, x), (1, y)])
    (cs ds : Array Value) (hx : a.eval x = .agg cs) (hy : a.eval y = .agg ds) (hu : P.underlying t = some (.slice e)) (hi : (P.info? e).map (fun i => (i.zero, i.size)) = some (some z, s)) (hs : 0 < s) (hs2 : s ≤ 2 ^ 20) (hz2 : z.cells.size = s) (hc : cs.size = s) (hd : ds.size = s)
    (h : K (a.put o.dst (.slice (some ⟨w.heap.size, 0, none⟩) 2 2)) (w.alloc (.cells (cs ++ ds) e))) : o.wp P a w K Q := by
  cases hie : P.info? e with
  | none => simp [hie] at hi
  | some ie =>
    simp only [hie, Option.map_some, Option.some.injEq, Prod.mk.injEq] at hi
    obtain ⟨hz, hsz⟩ := hi
    refine wp_buildSlice t e 2 #[(0, x), (1, y)] ho (cs ++ ds) ie z hu hie hz (by rw [hsz]; omega) (by rw [hsz]; omega) ?_ h
    have e1 : (#[(0, x), (1, y)].map fun (i, x) => (i, a.eval x)).toList = [(0, .agg cs), (1, .agg ds)] := by simp [hx, hy]
    rw [e1, hsz]
    exact fill_two s hs _ cs ds (by simp [hz2]; omega) hc hd
end Go.Proofs.YtjddnchenhnemaaGreatDoor.Ps
