/-
  What the row's listed variables hold, cell by cell, as far as it is read.
-/
import Derived.Test.YtdmmmdnfofoefaaGreatDoorFlK
import Derived.Test.YtdmmmdnfofoefaaGreatDoorRows
import Derived.OpenShut
import Derived.FnData
import Derived.ChangeArms
import Derived.ChangeSame
import Derived.Deep.Strs
import Derived.DataReads
namespace Go.Proofs.YtdmmmdnfofoefaaGreatDoor.Fl
open Go Go.RowKit Go.ChangeShapes Go.Deep
set_option maxHeartbeats 4000000
set_option maxRecDepth 100000

theorem laid_nth {P : Program} {w : World} : ∀ {l : List (String × DataW Unit)} {ps : List MemPlace} (i : Nat) {n : String} {d : DataW Unit}, DataW.LaidVars P w l ps → l[i]? = some (n, d) →
    ∃ g t cs fuel p, P.globalNamed n = some g ∧ (P.globals[g]?).map (·.type) = some t ∧ w.var? P n = some cs ∧ DataW.trod (fun _ => ()) P w 0 (fun _ => true) false fuel t cs.toList = some (d, p)
  | [], _, _, _, _, _, h => by cases h
  | (n0, d0) :: r, ps, 0, n, d, hl, h => by
    cases h
    obtain ⟨g, t, cs, fuel, p, q, h1, h2, h3, h4, _⟩ := hl
    exact ⟨g, t, cs, fuel, p, h1, h2, h3, h4⟩
  | (n0, d0) :: r, ps, i + 1, n, d, hl, h => by
    obtain ⟨g, t, cs, fuel, p, q, h1, h2, h3, h4, h5, _⟩ := hl
    exact laid_nth i h5 h
theorem trod_float {P : Program} {w : World} {base : Nat} {sp : Nat → Bool} {held : Bool} {k : FloatKind} {t : TypeId} {fuel : Nat} {cs : List Value} {x : DataW Unit × List MemPlace} (ht : P.underlying t = some (.float k)) (h : DataW.trod (fun _ => ()) P w base sp held fuel t cs = some x) : ∃ b, cs = [.float k b] ∧ x = (.lit (.float k b), []) := by
  cases fuel with
  | zero => simp [DataW.trod] at h
  | succ n =>
    unfold DataW.trod at h
    rw [ht] at h
    split at h <;> simp_all
theorem one_cell {W : World} {x : Addr} {b : Nat} {cs : List Value} {v : Value} (h : W.cells? b x 1 = some cs) (hc : cs = [v]) : W.cell? x = some v := by
  obtain ⟨_, _, h2⟩ := World.cells?_some h
  have := h2 0 (by decide)
  rw [show x.add 0 = x by simp [Addr.add], hc] at this
  exact this
section
variable {W : World} {ps : List MemPlace} {l : List (String × DataW Unit)} (hv : DataW.LaidVars Tryz.prog W l ps)
include hv
theorem laid_opt (i : Nat) (hi : l[i]? = some ("internal/strconv.optimize", .lit (.bool true))) : W.cell? ⟨1, 0, none⟩ = some (.bool true) := by
  obtain ⟨g, t, cs, fuel, p, hg, ht, hc, hr⟩ := laid_nth i hv hi
  obtain rfl := Option.some.inj ((show Tryz.prog.globalNamed "internal/strconv.optimize" = some 1 by kernel_rfl).symm.trans hg)
  obtain rfl := Option.some.inj ((show (Tryz.prog.globals[1]?).map (·.type) = some 4 by kernel_rfl).symm.trans ht)
  obtain ⟨b, e1, e2⟩ := DataW.trod_bool Tryz.underlying4 hr
  cases e2
  rw [World.var?_cell hg hc 0, ← Array.getElem?_toList, e1]; rfl
theorem laid_mant (i : Nat) (hi : l[i]? = some ("internal/strconv.float64info", .agg [.lit (.int .u64 52), .lit (.int .u64 11), .lit (.int .i64 (-1023))])) : W.cell? ⟨6, 0, none⟩ = some (.int .u64 52) := by
  obtain ⟨g, t, cs, fuel, p, hg, ht, hc, hr⟩ := laid_nth i hv hi
  obtain rfl := Option.some.inj ((show Tryz.prog.globalNamed "internal/strconv.float64info" = some 6 by kernel_rfl).symm.trans hg)
  obtain rfl := Option.some.inj ((show (Tryz.prog.globals[6]?).map (·.type) = some 118 by kernel_rfl).symm.trans ht)
  obtain ⟨y0, y1, y2, n, e, hl, h0, _, _⟩ := trod_struct3 Tryz.underlying118 hr
  obtain ⟨z, e1, e2, _⟩ := DataW.trod_int Tryz.underlying53 h0
  subst e2
  have ez : z = 52 := by
    have := (Prod.mk.inj e).1
    simp at this
    exact this.1.symm
  subst ez
  rw [World.var?_cell hg hc 0, ← Array.getElem?_toList]
  rw [show Tryz.prog.cellsOf 53 = 1 by kernel_rfl] at e1
  have h0' : ((cs.toList.drop 0).take 1)[0]? = some (.int .u64 52) := by rw [e1]; rfl
  simpa using h0'
theorem laid_ten (zs : List Nat) (i : Nat) (hi : l[i]? = some ("internal/strconv.float64pow10", .slice (zs.map fun z => .lit (.float .f64 z)) [])) :
    ∃ (a : Addr) (cap : Nat), W.cell? ⟨11, 0, none⟩ = some (.slice (some a) zs.length cap) ∧ ∀ j (h : j < zs.length), W.cell? (a.add j) = some (.float .f64 (zs[j]'h)) := by
  obtain ⟨g, t, cs, fuel, p, hg, ht, hc, hr⟩ := laid_nth i hv hi
  obtain rfl := Option.some.inj ((show Tryz.prog.globalNamed "internal/strconv.float64pow10" = some 11 by kernel_rfl).symm.trans hg)
  obtain rfl := Option.some.inj ((show (Tryz.prog.globals[11]?).map (·.type) = some 30 by kernel_rfl).symm.trans ht)
  rcases DataW.trod_slice Tryz.underlying30 hr with ⟨_, e⟩ | ⟨a, len, cap, el, rest, n, _, e1, e2, _, _, _, hlen, hel, _, _⟩
  · cases e
  have e3 : zs.map (fun z => (DataW.lit (.float .f64 z) : DataW Unit)) = el.map (·.1) := (DataW.slice.inj (Prod.mk.inj e2).1).1
  have hzl : zs.length = len := by rw [← hlen, ← List.length_map (f := fun z => (DataW.lit (.float .f64 z) : DataW Unit)), e3, List.length_map]
  refine ⟨a, cap, ?_, fun j h => ?_⟩
  · rw [World.var?_cell hg hc 0, ← Array.getElem?_toList, e1, hzl]; rfl
  · have h1 := hel j (by omega)
    rw [show Tryz.prog.cellsOf 24 = 1 by kernel_rfl, Nat.mul_one] at h1
    have h2 : j < el.length := by omega
    rw [List.getElem?_eq_getElem h2] at h1
    cases hcs : W.cells? 0 (a.add j) 1 with
    | none => rw [hcs] at h1; cases h1
    | some cs' =>
      rw [hcs] at h1
      obtain ⟨b, e5, e6⟩ := trod_float Tryz.underlying24 h1
      refine (one_cell hcs e5).trans ?_
      have e7 : (zs.map fun z => (DataW.lit (.float .f64 z) : DataW Unit))[j]? = (el.map (·.1))[j]? := by rw [e3]
      rw [List.getElem?_map, List.getElem?_map, List.getElem?_eq_getElem h, List.getElem?_eq_getElem h2, e6] at e7
      simp at e7
      rw [e7]
theorem laid_u64 (zs : List Int) (i : Nat) (hi : l[i]? = some ("internal/strconv.uint64pow10", .agg (zs.map fun z => .lit (.int .u64 z)))) (j : Nat) (h : j < zs.length) (h20 : zs.length = 20) :
    W.cell? ⟨4, j, none⟩ = some (.int .u64 (zs[j]'h)) := by
  obtain ⟨g, t, cs, fuel, p, hg, ht, hc, hr⟩ := laid_nth i hv hi
  obtain rfl := Option.some.inj ((show Tryz.prog.globalNamed "internal/strconv.uint64pow10" = some 4 by kernel_rfl).symm.trans hg)
  obtain rfl := Option.some.inj ((show (Tryz.prog.globals[4]?).map (·.type) = some 106 by kernel_rfl).symm.trans ht)
  obtain ⟨xs, m, _, ex, _, hl, hel⟩ := DataW.trod_array Tryz.underlying106 hr
  have hE := hel j (by omega)
  rw [show Tryz.prog.cellsOf 22 = 1 by kernel_rfl, Nat.mul_one, List.getElem?_eq_getElem (by omega : j < xs.length)] at hE
  obtain ⟨z, e1, e2, _⟩ := DataW.trod_int Tryz.underlying22 hE
  have e3 : (xs.map (·.1)) = zs.map fun n => (DataW.lit (.int .u64 n) : DataW Unit) := (DataW.agg.inj (Prod.mk.inj ex).1).symm
  have e4 : (xs.map (·.1))[j]? = (zs.map fun n => (DataW.lit (.int .u64 n) : DataW Unit))[j]? := by rw [e3]
  rw [List.getElem?_map, List.getElem?_map, List.getElem?_eq_getElem (by omega : j < xs.length), List.getElem?_eq_getElem h, e2] at e4
  simp at e4
  rw [World.var?_cell hg hc j, ← e4]
  have h0 : ((cs.toList.drop j).take 1)[0]? = some (.int .u64 z) := by rw [e1]; rfl
  simpa using h0
theorem laid_pow (zs : List (Nat × Nat)) (i : Nat) (hi : l[i]? = some ("internal/strconv.pow10Tab", .agg (zs.map fun x => .agg [.lit (.int .u64 x.1), .lit (.int .u64 x.2)]))) (j : Nat) (a b : Nat) (h : zs[j]? = some (a, b)) (hj : j < 696) :
    W.cell? ⟨7, j * 2, none⟩ = some (.int .u64 a) ∧ W.cell? ⟨7, j * 2 + 1, none⟩ = some (.int .u64 b) := by
  obtain ⟨g, t, cs, fuel, p, hg, ht, hc, hr⟩ := laid_nth i hv hi
  obtain rfl := Option.some.inj ((show Tryz.prog.globalNamed "internal/strconv.pow10Tab" = some 7 by kernel_rfl).symm.trans hg)
  obtain rfl := Option.some.inj ((show (Tryz.prog.globals[7]?).map (·.type) = some 138 by kernel_rfl).symm.trans ht)
  obtain ⟨xs, m, _, ex, _, hl, hel⟩ := DataW.trod_array Tryz.underlying138 hr
  have hE := hel j hj
  rw [show Tryz.prog.cellsOf 137 = 2 by kernel_rfl, List.getElem?_eq_getElem (by omega : j < xs.length)] at hE
  obtain ⟨y0, y1, n, e, hlen, h0, h1⟩ := trod_struct2 Tryz.underlying137 hE
  obtain ⟨z0, f0, g0, _⟩ := DataW.trod_int Tryz.underlying22 h0
  obtain ⟨z1, f1, g1, _⟩ := DataW.trod_int Tryz.underlying22 h1
  subst g0 g1
  have e3 : (xs.map (·.1)) = zs.map fun x => (DataW.agg [.lit (.int .u64 x.1), .lit (.int .u64 x.2)] : DataW Unit) := (DataW.agg.inj (Prod.mk.inj ex).1).symm
  have e4 : (xs.map (·.1))[j]? = (zs.map fun x => (DataW.agg [.lit (.int .u64 x.1), .lit (.int .u64 x.2)] : DataW Unit))[j]? := by rw [e3]
  rw [List.getElem?_map, List.getElem?_map, List.getElem?_eq_getElem (by omega : j < xs.length), h, e] at e4
  simp at e4
  rw [show Tryz.prog.cellsOf 22 = 1 by kernel_rfl] at f0 f1
  rw [World.var?_cell hg hc _, World.var?_cell hg hc _, ← e4.1, ← e4.2]
  have k0 : ((((cs.toList.drop (j * 2)).take 2).drop 0).take 1)[0]? = some (.int .u64 z0) := by rw [f0]; rfl
  have k1 : ((((cs.toList.drop (j * 2)).take 2).drop 1).take 1)[0]? = some (.int .u64 z1) := by rw [f1]; rfl
  refine ⟨?_, ?_⟩
  · simpa using k0
  · simpa using k1
theorem laid_big (i : Nat) (d : DataW Unit) (hi : l[i]? = some ("math/bits.deBruijn64tab", d)) : 14 ≤ W.heap.size := by
  obtain ⟨g, t, cs, fuel, p, hg, ht, hc, hr⟩ := laid_nth i hv hi
  obtain rfl := Option.some.inj ((show Tryz.prog.globalNamed "math/bits.deBruijn64tab" = some 13 by kernel_rfl).symm.trans hg)
  simp only [World.var?, hg, Option.bind_some] at hc
  split at hc
  · rename_i h
    have := (Array.getElem?_eq_some_iff.1 h).1
    omega
  · cases hc
end
end Go.Proofs.YtdmmmdnfofoefaaGreatDoor.Fl
