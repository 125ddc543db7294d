/-
  Slices of one element of several cells.
-/
import Derived.Test.YtjddnchenhnemaaGreatDoorBaA
import Derived.Great.BuildSlice
namespace Go.Proofs.YtjddnchenhnemaaGreatDoor.Sl
open Go Go.RowKit

theorem fill_one (s : Nat) (hs : 0 < s) (zero cs : Array Value) (hz : zero.size = s) (hc : cs.size = s) : Instr.fill (fun i => some (i * s, s)) zero [(0, .agg cs)] = some cs := by
  obtain ⟨r, hr, h1, h2⟩ := Great.fill_dense hs [.agg cs] 0 zero (fun v hv => by rw [List.mem_singleton] at hv; subst hv; exact hc) (by simp [hz])
  have e : (([Value.agg cs].zipIdx 0).map fun x => (x.2, x.1)) = [(0, .agg cs)] := rfl
  rw [e] at hr
  rw [hr]
  congr 1
  apply Array.ext_getElem?
  intro k
  rw [h2 k]
  by_cases hk : k < s
  · rw [if_pos (by simp; omega)]
    simp [Nat.div_eq_of_lt hk, Nat.mod_eq_of_lt hk, Value.cells]
  · rw [if_neg (by simp; omega), Array.getElem?_eq_none (by omega), Array.getElem?_eq_none (by omega)]

/-- A slice of one element that is laid out by its cells. -/
theorem wp_slice1 {P : Program} {o : Oper} {a : Act} {w : World} {K : Act → World → Prop} {Q : Exit → Act → World → Prop} (t e : TypeId) (s : Nat) (z : Value) (x : Operand) (ho : o.op = .buildSlice t 1 #[(0, x)])
    (cs : Array Value) (hx : a.eval x = .agg cs) (hu : P.underlying t = some (.slice e)) (hi : (P.info? e).map (fun i => (i.zero, i.size)) = some (some z, s)) (hs : 0 < s) (hs2 : s ≤ 2 ^ 24) (hc : cs.size = s)
    (h : K (a.put o.dst (.slice (some ⟨w.heap.size, 0, none⟩) 1 1)) (w.alloc (.cells cs e))) : o.wp P a w K Q := by
  cases hie : P.info? e with
  | none => simp [hie] at hi
  | some ie =>
    simp only [hie, Option.map_some, Option.some.injEq, Prod.mk.injEq] at hi
    obtain ⟨hz, hsz⟩ := hi
    refine wp_buildSlice t e 1 #[(0, x)] ho cs ie z hu hie hz (by rw [hsz]; omega) (by rw [hsz]; omega) ?_ h
    have e1 : (#[(0, x)].map fun (i, x) => (i, a.eval x)).toList = [(0, .agg cs)] := by simp [hx]
    rw [e1, hsz]
    exact fill_one s hs _ cs (by simp) hc
end Go.Proofs.YtjddnchenhnemaaGreatDoor.Sl
