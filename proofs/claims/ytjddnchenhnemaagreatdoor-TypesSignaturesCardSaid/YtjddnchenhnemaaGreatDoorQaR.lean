/-
  What the row's listed variables hold, cell by cell, as far as it is read.
-/
import Derived.Test.YtjddnchenhnemaaGreatDoorQaI
import Derived.Test.YtjddnchenhnemaaGreatDoorRows
import Derived.OpenShut
import Derived.FnData
import Derived.ChangeArms
import Derived.ChangeSame
import Derived.Deep.Strs
import Derived.DataReads
namespace Go.Proofs.YtjddnchenhnemaaGreatDoor.Ps
open Go Go.RowKit Go.ChangeShapes Go.Deep
set_option maxHeartbeats 4000000
set_option maxRecDepth 100000

theorem laid_nth {P : Program} {w : World} : ∀ {l : List (String × DataW Unit)} {ps : List MemPlace} (i : Nat) {n : String} {d : DataW Unit}, DataW.LaidVars P w l ps → l[i]? = some (n, d) →
    ∃ g t cs fuel p, P.globalNamed n = some g ∧ (P.globals[g]?).map (·.type) = some t ∧ w.var? P n = some cs ∧ DataW.trod (fun _ => ()) P w 0 (fun _ => true) false fuel t cs.toList = some (d, p)
  | [], _, _, _, _, _, h => by cases h
  | (n0, d0) :: r, ps, 0, n, d, hl, h => by
    cases h
    obtain ⟨g, t, cs, fuel, p, q, h1, h2, h3, h4, _⟩ := hl
    exact ⟨g, t, cs, fuel, p, h1, h2, h3, h4⟩
  | (n0, d0) :: r, ps, i + 1, n, d, hl, h => by
    obtain ⟨g, t, cs, fuel, p, q, h1, h2, h3, h4, h5, _⟩ := hl
    exact laid_nth i h5 h
theorem trod_float {P : Program} {w : World} {base : Nat} {sp : Nat → Bool} {held : Bool} {k : FloatKind} {t : TypeId} {fuel : Nat} {cs : List Value} {x : DataW Unit × List MemPlace} (ht : P.underlying t = some (.float k)) (h : DataW.trod (fun _ => ()) P w base sp held fuel t cs = some x) : ∃ b, cs = [.float k b] ∧ x = (.lit (.float k b), []) := by
  cases fuel with
  | zero => simp [DataW.trod] at h
  | succ n =>
    unfold DataW.trod at h
    rw [ht] at h
    split at h <;> simp_all
theorem one_cellR {W : World} {x : Addr} {b : Nat} {cs : List Value} {v : Value} (h : W.cells? b x 1 = some cs) (hc : cs = [v]) : W.cell? x = some v := by
  obtain ⟨_, _, h2⟩ := World.cells?_some h
  have := h2 0 (by decide)
  rw [show x.add 0 = x by simp [Addr.add], hc] at this
  exact this
section
variable {W : World} {ps : List MemPlace} {l : List (String × DataW Unit)} (hv : DataW.LaidVars Tryz.prog W l ps)
include hv
theorem laid_opt (i : Nat) (hi : l[i]? = some ("internal/strconv.optimize", .lit (.bool true))) : W.cell? ⟨5, 0, none⟩ = some (.bool true) := by
  obtain ⟨g, t, cs, fuel, p, hg, ht, hc, hr⟩ := laid_nth i hv hi
  obtain rfl := Option.some.inj ((show Tryz.prog.globalNamed "internal/strconv.optimize" = some 5 by kernel_rfl).symm.trans hg)
  obtain rfl := Option.some.inj ((show (Tryz.prog.globals[5]?).map (·.type) = some 4 by kernel_rfl).symm.trans ht)
  obtain ⟨b, e1, e2⟩ := DataW.trod_bool Tryz.underlying4 hr
  cases e2
  rw [World.var?_cell hg hc 0, ← Array.getElem?_toList, e1]; rfl
theorem laid_mant (i : Nat) (hi : l[i]? = some ("internal/strconv.float64info", .agg [.lit (.int .u64 52), .lit (.int .u64 11), .lit (.int .i64 (-1023))])) : W.cell? ⟨6, 0, none⟩ = some (.int .u64 52) := by
  obtain ⟨g, t, cs, fuel, p, hg, ht, hc, hr⟩ := laid_nth i hv hi
  obtain rfl := Option.some.inj ((show Tryz.prog.globalNamed "internal/strconv.float64info" = some 6 by kernel_rfl).symm.trans hg)
  obtain rfl := Option.some.inj ((show (Tryz.prog.globals[6]?).map (·.type) = some 179 by kernel_rfl).symm.trans ht)
  obtain ⟨y0, y1, y2, n, e, hl, h0, _, _⟩ := trod_struct3 Tryz.underlying179 hr
  obtain ⟨z, e1, e2, _⟩ := DataW.trod_int Tryz.underlying58 h0
  subst e2
  have ez : z = 52 := by
    have := (Prod.mk.inj e).1
    simp at this
    exact this.1.symm
  subst ez
  rw [World.var?_cell hg hc 0, ← Array.getElem?_toList]
  rw [show Tryz.prog.cellsOf 58 = 1 by kernel_rfl] at e1
  have h0' : ((cs.toList.drop 0).take 1)[0]? = some (.int .u64 52) := by rw [e1]; rfl
  simpa using h0'
end
end Go.Proofs.YtjddnchenhnemaaGreatDoor.Ps
