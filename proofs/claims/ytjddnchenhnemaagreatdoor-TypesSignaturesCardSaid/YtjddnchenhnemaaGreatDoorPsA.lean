/-
  The reader of queries (package prom): where it and its tokens lie in memory; its small methods.
-/
import Derived.Test.YtjddnchenhnemaaGreatDoorLeD
import Derived.Test.YtjddnchenhnemaaGreatDoorPmA
import Derived.StillTailTactics
import Derived.Deep.RegionHeld3
import Derived.RegionTactic
import Derived.ChangeAlike
namespace Go.Proofs.YtjddnchenhnemaaGreatDoor.Ps
open Go Go.RowKit Go.Proofs.YtjddnchenhnemaaGreatDoor.QT Go.Proofs.YtjddnchenhnemaaGreatDoor.Rg Go.Proofs.YtjddnchenhnemaaGreatDoor.Ma Go.Proofs.YtjddnchenhnemaaGreatDoor.Ir Go.Proofs.YtjddnchenhnemaaGreatDoor.Pm Go.Proofs.YtjddnchenhnemaaGreatDoor.Le
set_option maxHeartbeats 4000000
set_option maxRecDepth 100000

/-- But for block g nothing that was there turns. -/
structure Only (g : Nat) (W W' : World) : Prop where
  os : W'.os = W.os
  tape : W'.tape = W.tape
  output : W'.output = W.output
  size : W.heap.size ≤ W'.heap.size
  block : ∀ k, k < W.heap.size → k ≠ g → W'.heap[k]? = W.heap[k]?
section
variable {g : Nat} {W W1 W2 : World}
theorem Only.refl (g : Nat) (W : World) : Only g W W := ⟨rfl, rfl, rfl, Nat.le_refl _, fun _ _ _ => rfl⟩
theorem Only.trans (h : Only g W W1) (k : Only g W1 W2) : Only g W W2 :=
  ⟨k.os.trans h.os, k.tape.trans h.tape, k.output.trans h.output, Nat.le_trans h.size k.size, fun i hi hg => (k.block i (Nat.lt_of_lt_of_le hi h.size) hg).trans (h.block i hi hg)⟩
theorem Only.of (h : Below W.heap.size W W1) : Only g W W1 := ⟨h.os, h.tape, h.output, h.size, fun k hk _ => h.block k hk⟩
theorem Only.below (h : Only g W W1) (k : Below W1.heap.size W1 W2) : Only g W W2 := h.trans (Only.of k)
theorem Only.cell (h : Only g W W1) {p : Addr} (hp : p.block = g ∨ W.heap.size ≤ p.block) (u : Value) : Only g W (W1.setCell p u) :=
  ⟨h.os, h.tape, h.output, by have := h.size; simp [World.setCell]; omega, fun k hk hg => (Below.heap_setCell _ _ _ _ (by omega)).trans (h.block k hk hg)⟩
theorem Only.alloc (h : Only g W W1) (o : Obj) : Only g W (W1.alloc o) :=
  ⟨h.os, h.tape, h.output, by have := h.size; simp; omega, fun k hk hg => (Below.heap_alloc _ _ _ (Nat.lt_of_lt_of_le hk h.size)).trans (h.block k hk hg)⟩
theorem Only.row (h : Only g W W1) {b : Nat} (hp : b = g ∨ W.heap.size ≤ b) (cs : Array Value) : Only g W (W1.setRow b cs) :=
  ⟨h.os, h.tape, h.output, by have := h.size; simp; omega, fun k hk hg => (setRow_other _ _ _ _ (by omega)).trans (h.block k hk hg)⟩
theorem Only.drewN (h : Only g W W1) (n : Nat) : Only g W (W1.drewN n) := ⟨h.os, h.tape, h.output, h.size, h.block⟩
end
/-- What does not turn: where the reader lies, its tokens. -/
structure Env where
  g : Nat
  vt : Value
  ts : List Tk
  en : Int
  mo : Bool
def Ne (g : Nat) : Nat → Prop := fun b => b ≠ g
/-- The reader, at a token's number, so deep, without an error. -/
structure PS (E : Env) (W : World) (p d : Nat) : Prop where
  box : W.heap[E.g]? = some (.cells #[E.vt, .int .i64 (p : Int), .int .i64 E.en, .bool E.mo, .int .i64 (d : Int), .int .i64 0, .int .i64 0] 64 (0, 0))
  row : Row W (Ne E.g) E.vt E.ts.length 5 (tcells E.ts)
  len : E.ts.length ≤ 4096
  at_ : p ≤ E.ts.length
  dp : d ≤ 40
section
variable {E : Env} {W W1 : World} {p d : Nat}
theorem PS.lt (h : PS E W p d) : E.g < W.heap.size := blk_lt h.box
theorem PS.below (h : PS E W p d) (hb : Below W.heap.size W W1) : PS E W1 p d :=
  ⟨(hb.block _ h.lt).trans h.box, h.row.keep (by decide) (fun b hF hlt => ⟨hb.block b hlt, hF⟩), h.len, h.at_, h.dp⟩
theorem PS.only (h : PS E W p d) (ho : Only E.g W W1) {p' d' : Nat} (hp : p' ≤ E.ts.length) (hd : d' ≤ 40) (hb : W1.heap[E.g]? = some (.cells #[E.vt, .int .i64 (p' : Int), .int .i64 E.en, .bool E.mo, .int .i64 (d' : Int), .int .i64 0, .int .i64 0] 64 (0, 0))) : PS E W1 p' d' :=
  ⟨hb, h.row.keep (by decide) (fun b hF hlt => ⟨ho.block b hlt hF, hF⟩), h.len, hp, hd⟩
theorem PS.move (h : PS E W p d) {p' : Nat} (hp : p' ≤ E.ts.length) : PS E (W.setCell ⟨E.g, 1, none⟩ (.int .i64 (p' : Int))) p' d :=
  h.only ((Only.refl _ _).cell (p := ⟨E.g, 1, none⟩) (.inl rfl) _) hp h.dp (blk_set h.box 1 _)
theorem PS.sink (h : PS E W p d) {d' : Nat} (hd : d' ≤ 40) : PS E (W.setCell ⟨E.g, 4, none⟩ (.int .i64 (d' : Int))) p d' :=
  h.only ((Only.refl _ _).cell (p := ⟨E.g, 4, none⟩) (.inl rfl) _) h.at_ hd (blk_set h.box 4 _)
end
def zT : Tk := ⟨0, 0, ⟨#[]⟩, 0, 0⟩
/-- The token that stands at a number; a zero behind all. -/
def Env.tk (E : Env) (p : Nat) : Tk := E.ts.getD p zT
theorem Env.tk_lt {E : Env} {p : Nat} (h : p < E.ts.length) : E.ts[p]? = some (E.tk p) := by
  rw [Env.tk, List.getD_eq_getElem?_getD, List.getElem?_eq_getElem h]; rfl
theorem Env.tk_ge {E : Env} {p : Nat} (h : ¬ p < E.ts.length) : E.tk p = zT := by
  rw [Env.tk, List.getD_eq_getElem?_getD, List.getElem?_eq_none (by omega)]; rfl
def Env.pl (E : Env) (p : Nat) : Int := if p < E.ts.length then (E.tk p).at_ else E.en
theorem tcells_length (l : List Tk) : (tcells l).length = l.length * 5 := by
  unfold tcells
  rw [List.length_flatMap]
  have h : (l.map fun t => t.cells.length) = List.replicate l.length 5 := by
    rw [List.eq_replicate_iff]
    exact ⟨by simp, fun b hb => by obtain ⟨t, _, rfl⟩ := List.mem_map.1 hb; rfl⟩
  rw [h, List.sum_replicate_nat]
theorem tcells_get : ∀ (l : List Tk) (p j : Nat) (t : Tk), l[p]? = some t → j < 5 → (tcells l)[p * 5 + j]? = t.cells[j]?
  | [], p, j, t, h, _ => by simp at h
  | x :: l, 0, j, t, h, hj => by
    simp at h
    subst h
    rw [tcells, List.flatMap_cons, List.getElem?_append_left (by show 0 * 5 + j < 5; omega)]
    simp
  | x :: l, p + 1, j, t, h, hj => by
    simp at h
    rw [tcells, List.flatMap_cons, List.getElem?_append_right (by show 5 ≤ _; omega)]
    have := tcells_get l p j t h hj
    rw [tcells] at this
    rw [← this]
    congr 1
    show (p + 1) * 5 + j - 5 = _
    omega
/-- Where a token lies. -/
theorem PS.tok {E : Env} {W : World} {p d q : Nat} (h : PS E W p d) (hq : q < E.ts.length) : ∃ b o cap, E.vt = .slice (some ⟨b, o, none⟩) E.ts.length cap ∧ b ≠ E.g ∧ b < W.heap.size ∧ W.rangeAt b (o + q * 5) (E.tk q).cells := by
  obtain ⟨hl, ao, cap, hv, hc⟩ := h.row
  obtain ⟨b, o, hF, rfl, hr⟩ := hc (by omega)
  have h0 := hr 0 _ (List.getElem?_eq_getElem (by rw [hl]; omega))
  refine ⟨b, o, cap, hv, hF, World.block_lt_of_cell? W _ h0, fun j v hj => ?_⟩
  have hj5 : j < 5 := (List.getElem?_eq_some_iff.1 hj).1
  rw [Nat.add_assoc]
  exact hr _ _ ((tcells_get _ _ _ _ (Env.tk_lt hq) hj5).trans hj)
theorem PS.vt {E : Env} {W : World} {p d : Nat} (h : PS E W p d) : ∃ ao cap, E.vt = .slice ao E.ts.length cap := by
  obtain ⟨hl, ao, cap, hv, hc⟩ := h.row
  exact ⟨ao, cap, hv⟩
/-- The cells of the reader, at hand. -/
theorem PS.cells {E : Env} {W : World} {p d : Nat} (h : PS E W p d) : W.cell? ⟨E.g, 0, none⟩ = some E.vt ∧ W.cell? ⟨E.g, 1, none⟩ = some (.int .i64 (p : Int)) ∧ W.cell? ⟨E.g, 2, none⟩ = some (.int .i64 E.en) ∧ W.cell? ⟨E.g, 3, none⟩ = some (.bool E.mo) ∧ W.cell? ⟨E.g, 4, none⟩ = some (.int .i64 (d : Int)) ∧ W.cell? ⟨E.g, 5, none⟩ = some (.int .i64 0) ∧ W.cell? ⟨E.g, 6, none⟩ = some (.int .i64 0) :=
  ⟨blk_cell h.box 0, blk_cell h.box 1, blk_cell h.box 2, blk_cell h.box 3, blk_cell h.box 4, blk_cell h.box 5, blk_cell h.box 6⟩
theorem place_calls {E : Env} {W : World} {p d : Nat} (h : PS E W p d) : Calls Tryz.prog 25 #[.pointer (some ⟨E.g, 0, none⟩)] W (RetB (.int .i64 (E.pl p)) W) := by
  obtain ⟨c0, c1, c2, -, -, -, -⟩ := h.cells
  have hlen := h.len
  by_cases hp : p < E.ts.length
  · obtain ⟨b, o, cap, hv, -, hlt, hr⟩ := h.tok hp
    rw [hv] at c0
    have k1 : W.cell? ⟨b, o + p * 5 + 1, none⟩ = some (.int .i64 (E.tk p).at_) := hr 1 _ rfl
    have hpl : E.pl p = (E.tk p).at_ := if_pos hp
    rw [hpl]
    obtain ⟨n, hn⟩ : ∃ n, E.ts.length = n := ⟨_, rfl⟩
    rw [hn] at hp c0 hlen
    clear hpl hr hv h hn
    go_enter Tryz.func25, Tryz.ntmps25
    go_wp2_with fail
    go_quiet (fail)
    go_wp2_with fail
    go_quiet (fail)
    go_wp2_with fail
    go_ret
    exact ⟨rfl, Ir.below_drewN (Ir.below_drewN (Below.refl _ _) _) _⟩
  · obtain ⟨ao, cap, hv⟩ := h.vt
    rw [hv] at c0
    have hpl : E.pl p = E.en := if_neg hp
    rw [hpl]
    obtain ⟨n, hn⟩ : ∃ n, E.ts.length = n := ⟨_, rfl⟩
    rw [hn] at hp c0 hlen
    clear hpl hv h hn
    go_enter Tryz.func25, Tryz.ntmps25
    go_wp2_with fail
    go_quiet (fail)
    go_wp2_with fail
    go_ret
    exact ⟨rfl, Ir.below_drewN (Below.refl _ _) _⟩
end Go.Proofs.YtjddnchenhnemaaGreatDoor.Ps
