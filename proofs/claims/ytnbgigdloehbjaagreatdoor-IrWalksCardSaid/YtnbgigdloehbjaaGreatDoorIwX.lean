/-
  The document's nodes in memory: what IrA, IrQ, IrS, IrX, IrZ say of ir.Node, of isobarref12.Node.
  A plan as the document's (Of of isobarlaw12).
  A plan as the document's (Of of isobarlaw12): the walk.
  A region whose order is drawn, with a fact on memory that one operation (number b) ends: till it has come up the fact holds, and what waits not for it may be taken by it.
  Plans told apart (ir.Twin).
  A range over a function whose yielded values are known to lie in memory where they are yielded.
  All nodes of a plan, kids first: pure, rows in memory.
  All nodes of a plan, kids first (list of isobarlaw12): the walk.
  A region that draws its order, within a round of a range over a function: by the laws for regions elsewhere.
-/
import Derived.Test.YtnbgigdloehbjaaGreatDoorIrRx
import Derived.Deep.RegionHeld3
import Derived.OrdersHeld
import Derived.Deep.RegionHeld
import Derived.RangeFuncWrites
import Derived.RangeFuncBound
import Derived.RangeFuncLeaves
import Derived.RangeFuncCalls
import Derived.Great.FillDense
import Derived.OrdersIn
namespace Go.Proofs.YtnbgigdloehbjaaGreatDoor.Ir.R
open Go Go.RowKit Go.Proofs.YtnbgigdloehbjaaGreatDoor.Rg Go.Proofs.YtnbgigdloehbjaaGreatDoor.Ma
set_option maxHeartbeats 4000000
set_option maxRecDepth 100000

theorem infoNd : (Tryz.prog.info? 43).map (fun i => (i.zero, i.size)) = some (some (.agg zcl.toArray), 17) := by kernel_rfl
theorem sizeNd : (Tryz.prog.info? 43).map (·.size) = some 17 := by kernel_rfl
theorem zeroNd (w : World) : (zeroValue 43).run Tryz.prog w = .ok (.agg zcl.toArray) w := (zero_of_info infoNd).1 w
theorem loadNd {W : World} {b o : Nat} {c : List Value} (h : W.rangeAt b o c) (hl : c.length = 17) : (Instr.loadAt 43 (.pointer (some ⟨b, o, none⟩))).run Tryz.prog W = .ok (.agg c.toArray) W :=
  run_loadAt_mid W b o 43 c _ h Tryz.underlying43 rfl (by rw [sizeNd, hl])
theorem storeNd {c : List Value} (hl : c.length = 17) (h1 : ∀ u ∈ c, u.oneCell' = true) (w : World) :
    (Instr.storeAt 43 (.pointer (some ⟨w.heap.size, 0, none⟩)) (.agg c.toArray)).run Tryz.prog (w.alloc (.cells zcl.toArray 43)) = .ok () (w.alloc (.cells c.toArray 43)) :=
  run_storeAt_new w 43 zcl.toArray c.toArray (by rw [sizeNd]; simp [hl]) (by simp [hl, zcl]) (all_oneCell_toArray h1)
theorem loadNd2 {W : World} {b o : Nat} {c : List Value} (h : W.rangeAt b o c) (hl : c.length = 17) : (loadCellsFrom ⟨b, o, none⟩ 0 17 #[]).run Tryz.prog W = .ok c.toArray W := by
  have := run_loadCells_list (P := Tryz.prog) W ⟨b, o, none⟩ c (fun j v hv => by rw [Addr.add_mid]; exact h j v hv)
  rw [hl] at this
  simpa [loadCells] using this
theorem reloadNd {c : List Value} (hl : c.length = 17) (w : World) :
    (Instr.loadAt 43 (.pointer (some ⟨w.heap.size, 0, none⟩))).run Tryz.prog (w.alloc (.cells c.toArray 43)) = .ok (.agg c.toArray) (w.alloc (.cells c.toArray 43)) :=
  loadNd (range_blk (blk_new w _)) hl
theorem box_cell {W : World} {c : List Value} (j : Nat) {u : Value} (h : c[j]? = some u) : (W.alloc (.cells c.toArray 43)).cell? ⟨W.heap.size, j, none⟩ = some u := by
  rw [blk_cell (blk_new W _)]; simpa using h
theorem wpList_loadNd {ops : Array Oper} {rest : List Oper} {op : Oper} {a : Act} {w : World} {Q : Exit → Act → World → Prop} (hgd : op.guard = none) (x : Operand) (ho : op.op = .load 43 x)
    (b o : Nat) (hx : a.eval x = .pointer (some ⟨b, o, none⟩)) (c : List Value) (hc : w.rangeAt b o c) (hl : c.length = 17)
    (h : wpList Tryz.prog ops Q rest (a.put op.dst (.agg c.toArray)) w) : wpList Tryz.prog ops Q (op :: rest) a w :=
  wpList_load_mid hgd 43 x ho b o hx c _ hc Tryz.underlying43 rfl (by rw [sizeNd, hl]) h
theorem wpList_newNd {ops : Array Oper} {rest : List Oper} {o1 o2 : Oper} {a : Act} {w : World} {Q : Exit → Act → World → Prop} (hg1 : o1.guard = none) (hg2 : o2.guard = none) (d : Nat) (y : Operand)
    (h1 : o1.op = .alloc 43) (hd1 : o1.dst = some d) (h2 : o2.op = .store 43 (.tmp d) y) (hd2 : o2.dst = none) (c : List Value)
    (hx : (a.put (some d) (.pointer (some ⟨w.heap.size, 0, none⟩))).eval (.tmp d) = .pointer (some ⟨w.heap.size, 0, none⟩)) (hy : (a.put (some d) (.pointer (some ⟨w.heap.size, 0, none⟩))).eval y = .agg c.toArray) (hl : c.length = 17) (hone : ∀ u ∈ c, u.oneCell' = true)
    (h : wpList Tryz.prog ops Q rest (a.put (some d) (.pointer (some ⟨w.heap.size, 0, none⟩))) (w.alloc (.cells c.toArray 43))) : wpList Tryz.prog ops Q (o1 :: o2 :: rest) a w := by
  refine Great.wpList_runTo hg1 (some d) hd1 (.pointer (some ⟨w.heap.size, 0, none⟩)) (w.alloc (.cells zcl.toArray 43)) ?_ ?_
  · unfold execOp
    have hz := zeroNd w
    simp [h1, Instr.alloc, Sem.run_bind, hz]
    rfl
  refine wpList_plain hg2 fun K hK => ?_
  have hK2 := hK _ _ h
  unfold Oper.wp execOp
  simp only [h2, hx, hy, Instr.storeAt, Instr.sureAddr, Sem.run_bind, Sem.run_pure, Result.andThen_ok, run_storeVar_new (P := Tryz.prog) w 43 zcl.toArray c.toArray (by rw [sizeNd]; simp [hl]) (by simp [hl, zcl]) (all_oneCell_toArray hone)]
  show K ((a.put (some d) (.pointer (some ⟨w.heap.size, 0, none⟩))).put o2.dst undef) _
  rw [hd2]
  exact hK2
theorem wpList_loadNdW {ops : Array Oper} {rest : List Oper} {op : Oper} {a : Act} {w : World} {Q : Exit → Act → World → Prop} (x : Operand) (ho : op.op = .load 43 x)
    (b o : Nat) (hx : a.eval x = .pointer (some ⟨b, o, none⟩)) (c : List Value) (hc : w.rangeAt b o c) (hl : c.length = 17) (hw : Region.wanted op (yielded ops a.tmps) = true)
    (h : wpList Tryz.prog ops Q rest (a.put op.dst (.agg c.toArray)) w) : wpList Tryz.prog ops Q (op :: rest) a w :=
  wpList_step fun K hK => by
    rw [if_pos hw]
    exact wp_load_mid 43 x ho b o hx c _ hc Tryz.underlying43 rfl (by rw [sizeNd, hl]) (hK _ _ h)
theorem wpList_setNd {ops : Array Oper} {rest : List Oper} {op : Oper} {a : Act} {w : World} {Q : Exit → Act → World → Prop} (hgd : op.guard = none) (x y : Operand) (ho : op.op = .store 43 x y)
    (b : Nat) (old c : List Value) (hb : w.heap[b]? = some (.cells old.toArray 43 (0, 0))) (hol : old.length = 17) (hx : a.eval x = .pointer (some ⟨b, 0, none⟩)) (hy : a.eval y = .agg c.toArray) (hl : c.length = 17) (hone : ∀ u ∈ c, u.oneCell' = true)
    (h : wpList Tryz.prog ops Q rest (a.put op.dst undef) (w.setRow b c.toArray)) : wpList Tryz.prog ops Q (op :: rest) a w :=
  wpList_plain hgd fun _ hK => by
    unfold Oper.wp execOp
    simp only [ho, hx, hy, Instr.storeAt, Instr.sureAddr, Sem.run_bind, Sem.run_pure, Result.andThen_ok, run_storeVar_row w b 43 43 old.toArray c.toArray hb (by rw [sizeNd]; simp [hl]) (by simp [hl, hol]) (all_oneCell_toArray hone)]
    exact hK _ _ h
theorem wpList_setNewNd {ops : Array Oper} {rest : List Oper} {op : Oper} {a : Act} {w : World} {Q : Exit → Act → World → Prop} (hgd : op.guard = none) (x y : Operand) (ho : op.op = .store 43 x y)
    (c : List Value) (hx : a.eval x = .pointer (some ⟨w.heap.size, 0, none⟩)) (hy : a.eval y = .agg c.toArray) (hl : c.length = 17) (hone : ∀ u ∈ c, u.oneCell' = true)
    (h : wpList Tryz.prog ops Q rest (a.put op.dst undef) (w.alloc (.cells c.toArray 43))) : wpList Tryz.prog ops Q (op :: rest) a (w.alloc (.cells #[.int .i64 0, .float .f64 0, .int .i64 0, .slice none 0 0, .int .i64 0, .int .i64 0, .int .i64 0, .int .i64 0, .slice none 0 0, .int .i64 0, .slice none 0 0, .int .i64 0, .slice none 0 0, .bool false, .string ⟨#[]⟩, .string ⟨#[]⟩, .slice none 0 0] 43)) :=
  wpList_setNd hgd x y ho w.heap.size zcl c (blk_new w _) rfl hx hy hl hone (by rw [World.setRow_alloc_new]; exact h)
theorem wpList_sliceNd {ops : Array Oper} {rest : List Oper} {op : Oper} {a : Act} {w : World} {Q : Exit → Act → World → Prop} (hgd : op.guard = none) (x : Operand) (ho : op.op = .buildSlice 41 1 #[(0, x)])
    (c : List Value) (hx : a.eval x = .agg c.toArray) (hl : c.length = 17) (h : wpList Tryz.prog ops Q rest (a.put op.dst (.slice (some ⟨w.heap.size, 0, none⟩) 1 1)) (w.alloc (.cells c.toArray 43))) : wpList Tryz.prog ops Q (op :: rest) a w :=
  wpList_plain hgd fun _ hK => Sl.wp_slice1 41 43 17 _ x ho c.toArray hx Tryz.underlying41 infoNd (by decide) (by decide) (by simp [hl]) (hK _ _ h)
theorem infoNd3 : (Tryz.prog.info? 43).map (fun i => (i.zero, i.size, i.bytes)) = some (some (.agg zcl.toArray), 17, 232) := by kernel_rfl
end Go.Proofs.YtnbgigdloehbjaaGreatDoor.Ir.R
namespace Go.Proofs.YtnbgigdloehbjaaGreatDoor.Ir
open Go Go.RowKit Go.Proofs.YtnbgigdloehbjaaGreatDoor.Rg Go.Proofs.YtnbgigdloehbjaaGreatDoor.Ma
set_option maxHeartbeats 8000000
set_option maxRecDepth 100000

/-- Old blocks, and those from one on, but for the row's and the variable's. -/
def Off1 (K B : Nat) (v : Value) (m : Nat) : Nat → Prop := fun j => (j < K ∨ B ≤ j) ∧ v.ownBlock ≠ some j ∧ j ≠ m
def Old (K B : Nat) : Nat → Prop := fun j => j < K ∨ B ≤ j
structure MkO (T : TypeId) (K B : Nat) (w : World) (m : Nat) (f : Fd) (vM vG vX vI v : Value) (l : Kd) (ls : List Value) : Prop where
  box : w.heap[m]? = some (.cells (ncl f vM vG vX vI v).toArray T (0, 0))
  own : w.ownsRow B T 17 v l.len ls
  ne : v.ownBlock ≠ some m
  flds : Flds w (Off1 K B v m) f vM vG vX vI
  held : l.Held w (Off1 K B v m) ls
theorem MkO.below {T : TypeId} {K B : Nat} {w w1 : World} {m : Nat} {f : Fd} {vM vG vX vI v : Value} {l : Kd} {ls : List Value} (h : MkO T K B w m f vM vG vX vI v l ls) (hb : Below w.heap.size w w1) : MkO T K B w1 m f vM vG vX vI v l ls :=
  ⟨(hb.block m (blk_lt h.box)).trans h.box, own_below h.own hb, h.ne, h.flds.keep fun b hF hlt => ⟨hb.block b hlt, hF⟩, Kd.Held.keep (fun b hF hlt => ⟨hb.block b hlt, hF⟩) l h.held⟩
theorem MkO.c16 {T : TypeId} {K B : Nat} {w : World} {m : Nat} {f : Fd} {vM vG vX vI v : Value} {l : Kd} {ls : List Value} (h : MkO T K B w m f vM vG vX vI v l ls) : w.cell? ⟨m, 16, none⟩ = some v := blk_cell h.box 16
/-- A kid is put. -/
theorem MkO.put {T : TypeId} {K B : Nat} {w8 w9 : World} {m : Nat} {f : Fd} {vM vG vX vI v : Value} {l : Kd} {ls : List Value} (hM : MkO T K B w8 m f vM vG vX vI v l ls)
    {n2 : Nd} {cs2 : List Value} {N4 : Nat} {o : Obj} {gg cap2 : Nat} (hKB : K ≤ B) (hKm : K ≤ m) (hm : m < N4) (hv : ∀ k, v.ownBlock = some k → k < N4) (h2 : n2.Held w8 (Old K N4) cs2) (hB : B ≤ N4)
    (hown : w9.ownsRow B T 17 (.slice (some ⟨gg, 0, none⟩) (l.len + 1) cap2) (l.len + 1) (ls ++ cs2)) (hgrow : (w8.alloc o).grownBy w9 v.ownBlock) (hat : v.ownBlock = some gg ∨ gg = w8.heap.size + 1) :
    MkO T K B (w9.setCell ⟨m, 16, none⟩ (.slice (some ⟨gg, 0, none⟩) (l.len + 1) cap2)) m f vM vG vX vI (.slice (some ⟨gg, 0, none⟩) (l.len + 1) cap2) (.snoc l n2) (ls ++ cs2) := by
  have hlm := blk_lt hM.box
  have hlo := hM.own.lt
  have hggm : gg ≠ m := by
    rcases hat with h | h
    · intro e; exact hM.ne (e ▸ h)
    · omega
  have hkeep : ∀ j, j < w8.heap.size → v.ownBlock ≠ some j → j ≠ m → (w9.setCell ⟨m, 16, none⟩ (.slice (some ⟨gg, 0, none⟩) (l.len + 1) cap2)).heap[j]? = w8.heap[j]? := fun j hj h1 h2 =>
    (Below.heap_setCell _ _ _ _ h2).trans ((hgrow.block j (by simp; omega) (fun e => h1 e.symm)).trans (Below.heap_alloc _ _ _ hj))
  have hbox : w9.heap[m]? = w8.heap[m]? := (hgrow.block m (by simp; omega) (fun e => hM.ne e.symm)).trans (Below.heap_alloc _ _ _ hlm)
  have hF : ∀ j, j < w8.heap.size → Off1 K B v m j → Off1 K B (.slice (some ⟨gg, 0, none⟩) (l.len + 1) cap2) m j := fun j hj ⟨h1, h2, h3⟩ => ⟨h1, fun e => by
    have e' : gg = j := by simpa [Value.ownBlock] using e
    subst e'
    rcases hat with h | h
    · exact h2 h
    · omega, h3⟩
  refine ⟨?_, own_set' hown (fun e => hggm (by simpa [Value.ownBlock] using e)) _, fun e => hggm (by simpa [Value.ownBlock] using e), hM.flds.keep fun b hO hlt => ⟨hkeep b hlt hO.2.1 hO.2.2, hF b hlt hO⟩, ls, cs2, rfl, h2.length, Kd.Held.keep (fun b hO hlt => ⟨hkeep b hlt hO.2.1 hO.2.2, hF b hlt hO⟩) l hM.held, Nd.Held.keep (fun b hO hlt => ?_) n2 h2⟩
  · rw [blk_set (hbox.trans hM.box), ncl_set16]
  · have hO' : b < K ∨ N4 ≤ b := hO
    have hv1 : v.ownBlock ≠ some b := fun e => by
      have h3 := hv b e
      have h4 := (hlo b e).1
      omega
    have hbm : b ≠ m := by omega
    exact ⟨hkeep b hlt hv1 hbm, hF b hlt ⟨by omega, hv1, hbm⟩⟩
theorem MkO.done {T : TypeId} {K B : Nat} {w w1 : World} {m : Nat} {f : Fd} {vM vG vX vI v : Value} {l : Kd} {ls : List Value} (h : MkO T K B w m f vM vG vX vI v l ls) (hk : ∀ b, (b < K ∨ B ≤ b) → b < w.heap.size → b ≠ m → w1.heap[b]? = w.heap[b]?) :
    (Nd.mk f l).Held w1 (Old K B) (ncl f vM vG vX vI v) := by
  rw [Nd.Held]
  have hK : Keeps w w1 (Off1 K B v m) (Old K B) := fun b hO hlt => ⟨hk b hO.1 hlt hO.2.2, hO.1⟩
  refine ⟨vM, vG, vX, vI, v, ls, rfl, h.flds.keep hK, Kd.Held.keep hK l h.held, ?_⟩
  exact (row_blk h.own).keep (by decide) fun b hO hlt => ⟨hk b (.inr hO.1) hlt fun e => h.ne (by rw [hO.2, e]), .inr hO.1⟩
def RetO (K : Nat) (n : Nd) (W : World) (e : Ending) (W' : World) : Prop := ∃ c : List Value, e = .returned (.agg c.toArray) ∧ n.Held W' (Old K W.heap.size) c ∧ Below W.heap.size W W'
end Go.Proofs.YtnbgigdloehbjaaGreatDoor.Ir
namespace Go.Proofs.YtnbgigdloehbjaaGreatDoor.Ir
open Go Go.RowKit Go.Proofs.YtnbgigdloehbjaaGreatDoor.Rg Go.Proofs.YtnbgigdloehbjaaGreatDoor.Ma
set_option maxHeartbeats 16000000
set_option maxRecDepth 100000

theorem kid_blk {W : World} {F : Nat → Prop} {l : Kd} {ls : List Value} {ao : Option Addr} {cap k b o : Nat} (hK : Row W F (.slice ao l.len cap) l.len 17 ls) (hk : k < l.len) (ha : ao = some ⟨b, o, none⟩) : F b := by
  obtain ⟨_, ao', cap', hv, hc⟩ := hK
  obtain ⟨b', o', hF, ha', _⟩ := hc (by omega)
  simp only [Value.slice.injEq, true_and] at hv
  obtain ⟨rfl, rfl⟩ := hv
  rw [ha] at ha'
  cases ha'
  exact hF
theorem cell_keep {w w1 : World} {b j : Nat} {u : Value} (h : w.cell? ⟨b, j, none⟩ = some u) (hb : Below w.heap.size w w1) : w1.cell? ⟨b, j, none⟩ = some u :=
  (hb.cell (p := ⟨b, j, none⟩) (World.block_lt_of_cell? w _ h)).trans h
theorem cell_set {w : World} {b j m i : Nat} {u v : Value} (h : w.cell? ⟨b, j, none⟩ = some u) (hne : b ≠ m) : (w.setCell ⟨m, i, none⟩ v).cell? ⟨b, j, none⟩ = some u :=
  (World.cell?_of_block (Below.heap_setCell w _ v _ hne)).trans h
theorem Of_calls : ∀ (N : Nat) (n : Nd), n.tot ≤ N → N ≤ 100000 → ∀ (K : Nat) (W : World) (cs : List Value), K ≤ W.heap.size → n.Held W (fun b => b < K) cs → Calls Tryz.prog 11 #[.agg cs.toArray] W (RetO K n W) := by
  intro N
  induction N with
  | zero => intro n hn; have := n.tot_pos; omega
  | succ N ih =>
    rintro ⟨f, l⟩ hn hN K W cs hKW hH
    have hlen := l.len_tot
    rw [Nd.tot] at hn
    have hKB3 : K ≤ W.heap.size + 3 := by omega
    have hKm2 : K ≤ W.heap.size + 2 := by omega
    obtain ⟨vM, vG, vX, vI, aK, cK, lk, hcs, hf, hl, hK⟩ := hH.open
    obtain ⟨_, aM, cM, rfl, _⟩ := id hf.m
    obtain ⟨_, aG, cG, rfl, _⟩ := id hf.g
    obtain ⟨_, aX, cX, rfl, _⟩ := id hf.x
    obtain ⟨_, aI, cI, rfl, _⟩ := id hf.i
    have k0 : cs[0]? = some (.int .i64 f.kind) := by rw [hcs]; rfl
    have k1 : cs[1]? = some (.float .f64 f.num) := by rw [hcs]; rfl
    have k2 : cs[2]? = some (.int .i64 f.fn) := by rw [hcs]; rfl
    have k3 : cs[3]? = some (.slice aM f.m.length cM) := by rw [hcs]; rfl
    have k4 : cs[4]? = some (.int .i64 f.range) := by rw [hcs]; rfl
    have k5 : cs[5]? = some (.int .i64 f.step) := by rw [hcs]; rfl
    have k6 : cs[6]? = some (.int .i64 f.offset) := by rw [hcs]; rfl
    have k7 : cs[7]? = some (.int .i64 f.ghow) := by rw [hcs]; rfl
    have k8 : cs[8]? = some (.slice aG f.gn.length cG) := by rw [hcs]; rfl
    have k9 : cs[9]? = some (.int .i64 f.xhow) := by rw [hcs]; rfl
    have k10 : cs[10]? = some (.slice aX f.xn.length cX) := by rw [hcs]; rfl
    have k11 : cs[11]? = some (.int .i64 f.card) := by rw [hcs]; rfl
    have k12 : cs[12]? = some (.slice aI f.incl.length cI) := by rw [hcs]; rfl
    have k13 : cs[13]? = some (.bool f.flag) := by rw [hcs]; rfl
    have k14 : cs[14]? = some (.string f.name) := by rw [hcs]; rfl
    have k15 : cs[15]? = some (.string f.value) := by rw [hcs]; rfl
    have k16 : cs[16]? = some (.slice aK l.len cK) := by rw [hcs]; rfl
    obtain ⟨B, hB⟩ : ∃ B, B = (W.alloc (.cells cs.toArray 31)).alloc (.cells zcl.toArray 43) := ⟨_, rfl⟩
    have hbB : Below W.heap.size W B := by rw [hB]; exact ((Below.refl _ _).alloc (Nat.le_refl _) _).alloc (by simp) _
    have hsB : B.heap.size = W.heap.size + 2 := by rw [hB]; simp
    have hg : B.heap[W.heap.size]? = some (.cells cs.toArray 31 (0, 0)) := by rw [hB]; exact blk_alloc (blk_new W _) _
    have hg2 : B.heap[W.heap.size + 1]? = some (.cells zcl.toArray 43 (0, 0)) := by rw [hB]; exact blk_new2 W _ _
    have na : ∀ j, B.cell? ⟨W.heap.size, j, none⟩ = cs[j]? := fun j => (blk_cell hg j).trans (List.getElem?_toArray ..)
    have HbB := Lib.hid hbB; have Hg := Lib.hid hg; have Hg2 := Lib.hid hg2
    have HF := Lib.hid hf; have HL := Lib.hid hl; have HK := Lib.hid hK
    have HIH := Lib.hid ih
    have hx : (W.alloc (.cells cs.toArray 31)).alloc (.cells #[.int .i64 0, .float .f64 0, .int .i64 0, .slice none 0 0, .int .i64 0, .int .i64 0, .int .i64 0, .int .i64 0, .slice none 0 0, .int .i64 0, .slice none 0 0, .int .i64 0, .slice none 0 0, .bool false, .string ⟨#[]⟩, .string ⟨#[]⟩, .slice none 0 0] 43) = B := hB.symm
    have hone : ∀ u ∈ ncl f (.slice aM f.m.length cM) (.slice aG f.gn.length cG) (.slice aX f.xn.length cX) (.slice aI f.incl.length cI) (.slice none 0 0), u.oneCell' = true := by
      intro u hu
      simp only [ncl, List.mem_cons, List.not_mem_nil, or_false] at hu
      rcases hu with rfl | rfl | rfl | rfl | rfl | rfl | rfl | rfl | rfl | rfl | rfl | rfl | rfl | rfl | rfl | rfl | rfl
      all_goals rfl
    have HOne := Lib.hid hone
    have hlc : (ncl f (.slice aM f.m.length cM) (.slice aG f.gn.length cG) (.slice aX f.xn.length cX) (.slice aI f.incl.length cI) (.slice none 0 0)).length = 17 := rfl
    have HLc := Lib.hid hlc
    clear hB hH hcs hf hl hK hbB hg hg2 ih hone hlc
    go_enter Tryz.func11, Tryz.ntmps11
    go_wp2_with ((with_reducible refine R.wpList_newNd rfl rfl 3 (.tmp 29) rfl rfl rfl rfl (ncl f (.slice aM f.m.length cM) (.slice aG f.gn.length cG) (.slice aX f.xn.length cX) (.slice aI f.incl.length cI) (.slice none 0 0)) rfl ?_ HLc.out HOne.out ?_); (exact rfl))
    clear hx
    obtain ⟨B1, hB1⟩ : ∃ B1, B1 = B.alloc (.cells (ncl f (.slice aM f.m.length cM) (.slice aG f.gn.length cG) (.slice aX f.xn.length cX) (.slice aI f.incl.length cI) (.slice none 0 0)).toArray 43) := ⟨_, rfl⟩
    have hm0 : MkO 43 K (W.heap.size + 3) B1 (W.heap.size + 2) f (.slice aM f.m.length cM) (.slice aG f.gn.length cG) (.slice aX f.xn.length cX) (.slice aI f.incl.length cI) (.slice none 0 0) .nil [] := by
      refine ⟨by rw [hB1, ← hsB]; exact blk_new B _, World.ownsRow_nil _ _ _ _, by simp [Value.ownBlock], ?_, rfl⟩
      refine HF.out.keep fun b hb hlt => ⟨?_, .inl hb, by simp [Value.ownBlock], by omega⟩
      rw [hB1]; exact (Below.heap_alloc _ _ _ (by omega)).trans (HbB.out.block b hlt)
    have hb1 : Below W.heap.size W B1 := by rw [hB1]; exact HbB.out.alloc HbB.out.size _
    have hg1 : B1.heap[W.heap.size]? = some (.cells cs.toArray 31 (0, 0)) := by rw [hB1]; exact blk_alloc Hg.out _
    have hg3 : B1.heap[W.heap.size + 1]? = some (.cells zcl.toArray 43 (0, 0)) := by rw [hB1]; exact blk_alloc Hg2.out _
    have HM0 := Lib.hid hm0; have Hb1 := Lib.hid hb1; have Hg1 := Lib.hid hg1; have Hg3 := Lib.hid hg3
    rw [← hB1]
    clear hB1 hm0 hb1 hg1 hg3 na HbB Hg Hg2 k0 k1 k2 k3 k4 k5 k6 k7 k8 k9 k10 k11 k12 k13 k14 k15
    go_loopw [4] (fun i wr => ∃ (k : Nat) (v : Value) (ls : List Value), k ≤ l.len ∧ i = .int .i64 (k : Int) ∧ MkO 43 K (W.heap.size + 3) wr (W.heap.size + 2) f (.slice aM f.m.length cM) (.slice aG f.gn.length cG) (.slice aX f.xn.length cX) (.slice aI f.incl.length cI) v (l.pre k) ls ∧ wr.heap[W.heap.size]? = some (.cells cs.toArray 31 (0, 0)) ∧ wr.heap[W.heap.size + 1]? = some (.cells zcl.toArray 43 (0, 0)) ∧ Below W.heap.size W wr) (fun i _ => l.len - (intOf i).toNat)
    case atStart => exact ⟨0, .slice none 0 0, [], Nat.zero_le _, rfl, by rw [Kd.pre_zero]; exact HM0.out, Hg1.out, Hg3.out, Hb1.out⟩
    case round =>
      obtain ⟨k, v, ls, hk, rfl, hm, hgb, hgt, hbel⟩ := hrel
      have nq : ∀ j, wr.cell? ⟨W.heap.size, j, none⟩ = cs[j]? := fun j => (blk_cell hgb j).trans (List.getElem?_toArray ..)
      have HM := Lib.hid hm; have Hgb := Lib.hid hgb; have Hgt := Lib.hid hgt; have HBel := Lib.hid hbel
      have hmlt := blk_lt hm.box
      have hpl := (l.pre k).kids_length
      clear hm hgb hgt hbel HM0 Hb1 Hg1 Hg3
      by_cases hkl : k < l.len
      · have hkeep : Keeps W wr (fun b => b < K) (fun b => b < K) := fun b hF hlt => ⟨HBel.out.block b hlt, hF⟩
        obtain ⟨b, o, ha, n1, c, hn1, hat, hH1⟩ := kid_at (HL.out.keep hkeep) (HK.out.keep (by decide) hkeep) hkl
        have hbK : b < K := kid_blk (F := fun b => b < K) HK.out hkl ha
        subst ha
        have hps := l.pre_succ k _ hn1
        have ht1 := Kd.tot_kid hn1
        have hl1 := hH1.length
        obtain ⟨w4, hw4⟩ : ∃ w4, w4 = wr.drew := ⟨_, rfl⟩
        have hb4 : Below wr.heap.size wr w4 := by rw [hw4]; exact (Below.refl _ _).drew
        have hs4 : w4.heap.size = wr.heap.size := by rw [hw4]; rfl
        have HM4 := Lib.hid (HM.out.below hb4)
        have hcell4 : w4.cell? ⟨W.heap.size + 2, 16, none⟩ = some v := HM4.out.c16
        have HCall := Lib.hid (HIH.out n1 (by omega) (by omega) K w4 c (by omega) (Nd.Held.keep (fun b hF hlt => ⟨hb4.block b hlt, hF⟩) n1 hH1))
        have hcb : w4.cell? ⟨W.heap.size, 16, none⟩ = some (.slice (some ⟨b, o, none⟩) l.len cK) := by rw [hw4]; exact (nq 16).trans k16
        have hrk : w4.rangeAt b (o + k * 17) c := by rw [hw4]; exact hat
        have HV4 : Hid (∀ j, v.ownBlock = some j → W.heap.size + 3 ≤ j ∧ j < wr.heap.size) := Lib.hid HM.out.own.lt
        have HPs := Lib.hid hps
        have hN : (l.pre k).len ≤ 100000 := by
          have h1 := (l.pre k).len_tot
          have h2 := l.tot_pre k
          omega
        have hwr3 : W.heap.size + 3 ≤ wr.heap.size := by omega
        obtain ⟨i0, hi0, hz0, hz1, hz2⟩ := info_parts R.infoNd3
        clear hn1 hat hH1 hps hkeep
        go_wp2_with fail
        refine wp_region_held_drew (S := fun w' => w'.cell? ⟨W.heap.size, 16, none⟩ = some (.slice (some ⟨b, o, none⟩) l.len cK) ∧ w'.rangeAt b (o + k * 17) c) (by kernel_rfl) (by rw [← hw4]; exact ⟨hcb, hrk⟩) (fun hHeld => ?_)
        rw [← hw4] at hHeld ⊢
        clear hw4
        refine wpAnyH_take (i := 0) (v := .pointer (some ⟨W.heap.size + 2, 16, none⟩)) rfl (by kernel_rfl) (by kernel_rfl) (by kernel_rfl) (fun _ _ _ h => h) (Or.inl ⟨by rfl, fun w hSw => by obtain ⟨hS1, hS2⟩ := hSw; go_simp⟩) hHeld ?_
        simp only [Act.put, List.getElem_toArray, List.getElem_cons_zero, List.setIfInBounds_toArray, List.set_cons_zero, List.set_cons_succ]
        refine wpAnyH_take (i := 2) (v := .pointer (some ⟨W.heap.size, 16, none⟩)) rfl (by kernel_rfl) (by kernel_rfl) (by kernel_rfl) (fun _ _ _ h => h) (Or.inl ⟨by rfl, fun w hSw => by obtain ⟨hS1, hS2⟩ := hSw; go_simp⟩) hHeld ?_
        simp only [Act.put, List.getElem_toArray, List.getElem_cons_zero, List.getElem_cons_succ, List.setIfInBounds_toArray, List.set_cons_zero, List.set_cons_succ]
        refine wpAnyH_take (i := 3) (v := .slice (some ⟨b, o, none⟩) l.len cK) rfl (by kernel_rfl) (by kernel_rfl) (by kernel_rfl) (fun _ _ _ h => h) (Or.inl ⟨by rfl, fun w hSw => by obtain ⟨hS1, hS2⟩ := hSw; go_simp⟩) hHeld ?_
        simp only [Act.put, List.getElem_toArray, List.getElem_cons_zero, List.getElem_cons_succ, List.setIfInBounds_toArray, List.set_cons_zero, List.set_cons_succ]
        refine wpAnyH_take (i := 4) (v := .int .i64 (k : Int)) rfl (by kernel_rfl) (by kernel_rfl) (by kernel_rfl) (fun _ _ _ h => h) (Or.inl ⟨by rfl, fun w hSw => by obtain ⟨hS1, hS2⟩ := hSw; go_simp⟩) hHeld ?_
        simp only [Act.put, List.getElem_toArray, List.getElem_cons_zero, List.getElem_cons_succ, List.setIfInBounds_toArray, List.set_cons_zero, List.set_cons_succ]
        refine wpAnyH_take (i := 5) (v := .pointer (some ⟨b, o + k * 17, none⟩)) rfl (by kernel_rfl) (by kernel_rfl) (by kernel_rfl) (fun _ _ _ h => h) (Or.inl ⟨by rfl, fun w hSw => by obtain ⟨hS1, hS2⟩ := hSw; go_simp⟩) hHeld ?_
        simp only [Act.put, List.getElem_toArray, List.getElem_cons_zero, List.getElem_cons_succ, List.setIfInBounds_toArray, List.set_cons_zero, List.set_cons_succ]
        refine wpAnyH_take (i := 6) (v := .agg c.toArray) rfl (by kernel_rfl) (by kernel_rfl) (by kernel_rfl) (fun _ _ _ h => h) (yieldsIf_load_mid (by rfl) 31 (.tmp 42) rfl b (o + k * 17) rfl c _ (fun w hw => hw.2) Tryz.underlying31 rfl (by rw [sizeNd, hl1])) hHeld ?_
        simp only [Act.put, List.getElem_toArray, List.getElem_cons_zero, List.getElem_cons_succ, List.setIfInBounds_toArray, List.set_cons_zero, List.set_cons_succ]
        refine wpAnyH_ready (rs := [1, 7]) (by kernel_rfl) (by simp) (AllReadyH.cons rfl (fun K' hK' => ?_) (AllReadyH.cons rfl (fun K' hK' => ?_) AllReadyH.nil))
        · rw [if_pos (by rfl)]
          go_simp
          refine hK'.out _ _ hHeld (fun hHeld => ?_)
          clear hK' K'
          refine wpAnyH_ready (rs := [7]) (by kernel_rfl) (by simp) (AllReadyH.cons rfl (fun K' hK' => ?_) AllReadyH.nil)
          rw [if_pos (by rfl)]
          go_simp
          go_at_call 11
          refine HCall.out.mono ?_
          rintro q w7 ⟨c2, rfl, hN7, hb7⟩
          have hM7 := HM4.out.below hb7
          have hcell7 := hM7.c16
          have hlen7 := hN7.length
          have HOne7 := Lib.hid hN7.one
          have HS7 := Lib.hid (And.intro (cell_keep hHeld.1 hb7) (range_keep hHeld.2 fun h => hb7.block _ h))
          have HN7 := Lib.hid hN7
          have HM7 := Lib.hid hM7
          have HB7 := Lib.hid hb7
          clear hN7 hM7 hb7
          refine hK'.out _ _ HS7.out (fun hHeld => ?_)
          clear hK' K'
          refine wpAnyH_ready (rs := [8]) (by kernel_rfl) (by simp) (AllReadyH.cons rfl (fun K' hK' => ?_) AllReadyH.nil)
          refine step_slice1 (by rfl) 41 43 17 _ (.tmp 44) (by rfl) c2.toArray (by rfl) Tryz.underlying41 R.infoNd (by decide) (by decide) (by simp [hlen7]) ?_
          have hcell8 : (w7.alloc (.cells c2.toArray 43)).cell? ⟨W.heap.size + 2, 16, none⟩ = some v := (World.cell?_of_block (Below.heap_alloc _ _ _ (blk_lt HM7.out.box))).trans hcell7
          refine hK'.out _ _ ⟨cell_keep hHeld.1 ((Below.refl _ _).alloc (Nat.le_refl _) _), range_keep hHeld.2 fun h => Below.heap_alloc _ _ _ h⟩ (fun hHeld => ?_)
          clear hK' K'
          refine wpAnyH_ready (rs := [9]) (by kernel_rfl) (by simp) (AllReadyH.cons rfl (fun K' hK' => ?_) AllReadyH.nil)
          refine step_append_lies _ (by rfl) (.tmp 38) (.tmp 45) 41 (by rfl) (W.heap.size + 3) 43 i0 (.agg zcl.toArray) 17 232 Tryz.underlying41 hi0 hz0 hz1 hz2 (by rfl) (by decide) v (l.pre k).len ls (by rfl) (HM7.out.own.alloc _) ⟨w7.heap.size, 0, none⟩ 1 1 c2 (by rfl) (by rw [hlen7]) (World.news_of_block (cs := c2.toArray) (t := 43) (fr := (0, 0)) (blk_new _ _)) HOne7.out (by decide) (by unfold maxLen; omega) (by omega) (by have := HB7.out.size; simp; omega) (w7.heap.size + 1) (by simp) ?_
          intro gg cap9 w9 hown9 hgrow9 hat9 hlt9
          have hs7 : wr.heap.size ≤ w7.heap.size := by have := HB7.out.size; omega
          have hbk : ∀ j, j < w7.heap.size → v.ownBlock ≠ some j → w9.heap[j]? = w7.heap[j]? := fun j hj hne => (hgrow9.block j (by simp; omega) (fun e => hne e.symm)).trans (Below.heap_alloc _ _ _ hj)
          have hm9 := hbk (W.heap.size + 2) (by omega) (fun e => by have := HV4.out _ e; omega)
          have hcell9 : w9.cell? ⟨W.heap.size + 2, 16, none⟩ = some v := (World.cell?_of_block hm9).trans hcell7
          have hf9 : w9.frozen? ⟨W.heap.size + 2, 16, none⟩ = false := (World.frozen?_of_block hm9).trans (blk_frozen HM7.out.box 16)
          have hbox9 := hbk W.heap.size (by omega) (fun e => by have := HV4.out _ e; omega)
          have htop9 := hbk (W.heap.size + 1) (by omega) (fun e => by have := HV4.out _ e; omega)
          have hkid9 := hbk b (by omega) (fun e => by have := HV4.out _ e; omega)
          have HS9 := Lib.hid (And.intro ((World.cell?_of_block hbox9).trans HS7.out.1) (range_keep HS7.out.2 fun _ => hkid9))
          have HTop9 := Lib.hid htop9; have HBox9 := Lib.hid hbox9
          have HAp := Lib.hid (And.intro hown9 (And.intro hgrow9 (And.intro hat9 hlt9)))
          clear hown9 hgrow9 hat9 hlt9 hm9 hbox9 htop9 hkid9 hbk
          refine hK'.out _ _ HS9.out (fun hHeld => ?_)
          clear hK' K'
          refine wpAnyH_take (i := 10) (v := .pointer (some ⟨W.heap.size + 2, 16, none⟩)) rfl (by kernel_rfl) (by kernel_rfl) (by kernel_rfl) (fun _ _ _ h => h) (Or.inl ⟨by rfl, fun w hSw => by obtain ⟨hS1, hS2⟩ := hSw; go_simp⟩) hHeld ?_
          simp only [Act.put, List.getElem_toArray, List.getElem_cons_zero, List.getElem_cons_succ, List.setIfInBounds_toArray, List.set_cons_zero, List.set_cons_succ]
          refine wpAnyH_ready (rs := [11]) (by kernel_rfl) (by simp) (AllReadyH.cons rfl (fun K' hK' => ?_) AllReadyH.nil)
          rw [if_pos (by rfl)]
          go_simp
          refine hK'.out _ _ ⟨cell_set hHeld.1 (by simp), range_set hHeld.2 (by omega)⟩ (fun hHeld => ?_)
          clear hK' K'
          refine wpAnyH_done (by kernel_rfl) ?_ _
          go_wp2_with fail
          go_roundw
          case measure => (simp [intOf] <;> omega)
          case rel =>
            obtain ⟨hown9, hgrow9, hat9, hlt9⟩ := HAp.out
            have hM10 := HM7.out.put (N4 := wr.heap.size) hKB3 hKm2 (by omega) (fun j hj => (HV4.out j hj).2) (by have := HN7.out; rwa [hs4] at this) hwr3 hown9 hgrow9 hat9
            have hbw7 : Below W.heap.size W w7 := HBel.out.trans ((hb4.trans (HB7.out.mono (by omega))).mono HBel.out.size)
            have hbw9 : Below W.heap.size W w9 := (hbw7.alloc hbw7.size _).grown hgrow9 (by simp; omega) (fun j hj => by have := HV4.out j hj; omega)
            refine ⟨k + 1, _, ls ++ c2, by omega, by go_num, by rw [HPs.out]; exact hM10, ?_, ?_, hbw9.setCell (by simp) _⟩
            · exact blk_far (HBox9.out.trans ((HB7.out.block _ (by omega)).trans ((hb4.block _ (by omega)).trans Hgb.out))) (by simp) _
            · exact blk_far (HTop9.out.trans ((HB7.out.block _ (by omega)).trans ((hb4.block _ (by omega)).trans Hgt.out))) (by simp) _
        · rw [if_pos (by rfl)]
          go_simp
          go_at_call 11
          refine HCall.out.mono ?_
          rintro q w7 ⟨c2, rfl, hN7, hb7⟩
          have hM7 := HM4.out.below hb7
          have hcell7 := hM7.c16
          have hlen7 := hN7.length
          have HOne7 := Lib.hid hN7.one
          have HS7 := Lib.hid (And.intro (cell_keep hHeld.1 hb7) (range_keep hHeld.2 fun h => hb7.block _ h))
          have HN7 := Lib.hid hN7
          have HM7 := Lib.hid hM7
          have HB7 := Lib.hid hb7
          clear hN7 hM7 hb7
          refine hK'.out _ _ HS7.out (fun hHeld => ?_)
          clear hK' K'
          refine wpAnyH_ready (rs := [1, 8]) (by kernel_rfl) (by simp) (AllReadyH.cons rfl (fun K' hK' => ?_) (AllReadyH.cons rfl (fun K' hK' => ?_) AllReadyH.nil))
          · rw [if_pos (by rfl)]
            go_simp
            refine hK'.out _ _ hHeld (fun hHeld => ?_)
            clear hK' K'
            refine wpAnyH_ready (rs := [8]) (by kernel_rfl) (by simp) (AllReadyH.cons rfl (fun K' hK' => ?_) AllReadyH.nil)
            refine step_slice1 (by rfl) 41 43 17 _ (.tmp 44) (by rfl) c2.toArray (by rfl) Tryz.underlying41 R.infoNd (by decide) (by decide) (by simp [hlen7]) ?_
            have hcell8 : (w7.alloc (.cells c2.toArray 43)).cell? ⟨W.heap.size + 2, 16, none⟩ = some v := (World.cell?_of_block (Below.heap_alloc _ _ _ (blk_lt HM7.out.box))).trans hcell7
            refine hK'.out _ _ ⟨cell_keep hHeld.1 ((Below.refl _ _).alloc (Nat.le_refl _) _), range_keep hHeld.2 fun h => Below.heap_alloc _ _ _ h⟩ (fun hHeld => ?_)
            clear hK' K'
            refine wpAnyH_ready (rs := [9]) (by kernel_rfl) (by simp) (AllReadyH.cons rfl (fun K' hK' => ?_) AllReadyH.nil)
            refine step_append_lies _ (by rfl) (.tmp 38) (.tmp 45) 41 (by rfl) (W.heap.size + 3) 43 i0 (.agg zcl.toArray) 17 232 Tryz.underlying41 hi0 hz0 hz1 hz2 (by rfl) (by decide) v (l.pre k).len ls (by rfl) (HM7.out.own.alloc _) ⟨w7.heap.size, 0, none⟩ 1 1 c2 (by rfl) (by rw [hlen7]) (World.news_of_block (cs := c2.toArray) (t := 43) (fr := (0, 0)) (blk_new _ _)) HOne7.out (by decide) (by unfold maxLen; omega) (by omega) (by have := HB7.out.size; simp; omega) (w7.heap.size + 1) (by simp) ?_
            intro gg cap9 w9 hown9 hgrow9 hat9 hlt9
            have hs7 : wr.heap.size ≤ w7.heap.size := by have := HB7.out.size; omega
            have hbk : ∀ j, j < w7.heap.size → v.ownBlock ≠ some j → w9.heap[j]? = w7.heap[j]? := fun j hj hne => (hgrow9.block j (by simp; omega) (fun e => hne e.symm)).trans (Below.heap_alloc _ _ _ hj)
            have hm9 := hbk (W.heap.size + 2) (by omega) (fun e => by have := HV4.out _ e; omega)
            have hcell9 : w9.cell? ⟨W.heap.size + 2, 16, none⟩ = some v := (World.cell?_of_block hm9).trans hcell7
            have hf9 : w9.frozen? ⟨W.heap.size + 2, 16, none⟩ = false := (World.frozen?_of_block hm9).trans (blk_frozen HM7.out.box 16)
            have hbox9 := hbk W.heap.size (by omega) (fun e => by have := HV4.out _ e; omega)
            have htop9 := hbk (W.heap.size + 1) (by omega) (fun e => by have := HV4.out _ e; omega)
            have hkid9 := hbk b (by omega) (fun e => by have := HV4.out _ e; omega)
            have HS9 := Lib.hid (And.intro ((World.cell?_of_block hbox9).trans HS7.out.1) (range_keep HS7.out.2 fun _ => hkid9))
            have HTop9 := Lib.hid htop9; have HBox9 := Lib.hid hbox9
            have HAp := Lib.hid (And.intro hown9 (And.intro hgrow9 (And.intro hat9 hlt9)))
            clear hown9 hgrow9 hat9 hlt9 hm9 hbox9 htop9 hkid9 hbk
            refine hK'.out _ _ HS9.out (fun hHeld => ?_)
            clear hK' K'
            refine wpAnyH_take (i := 10) (v := .pointer (some ⟨W.heap.size + 2, 16, none⟩)) rfl (by kernel_rfl) (by kernel_rfl) (by kernel_rfl) (fun _ _ _ h => h) (Or.inl ⟨by rfl, fun w hSw => by obtain ⟨hS1, hS2⟩ := hSw; go_simp⟩) hHeld ?_
            simp only [Act.put, List.getElem_toArray, List.getElem_cons_zero, List.getElem_cons_succ, List.setIfInBounds_toArray, List.set_cons_zero, List.set_cons_succ]
            refine wpAnyH_ready (rs := [11]) (by kernel_rfl) (by simp) (AllReadyH.cons rfl (fun K' hK' => ?_) AllReadyH.nil)
            rw [if_pos (by rfl)]
            go_simp
            refine hK'.out _ _ ⟨cell_set hHeld.1 (by simp), range_set hHeld.2 (by omega)⟩ (fun hHeld => ?_)
            clear hK' K'
            refine wpAnyH_done (by kernel_rfl) ?_ _
            go_wp2_with fail
            go_roundw
            case measure => (simp [intOf] <;> omega)
            case rel =>
              obtain ⟨hown9, hgrow9, hat9, hlt9⟩ := HAp.out
              have hM10 := HM7.out.put (N4 := wr.heap.size) hKB3 hKm2 (by omega) (fun j hj => (HV4.out j hj).2) (by have := HN7.out; rwa [hs4] at this) hwr3 hown9 hgrow9 hat9
              have hbw7 : Below W.heap.size W w7 := HBel.out.trans ((hb4.trans (HB7.out.mono (by omega))).mono HBel.out.size)
              have hbw9 : Below W.heap.size W w9 := (hbw7.alloc hbw7.size _).grown hgrow9 (by simp; omega) (fun j hj => by have := HV4.out j hj; omega)
              refine ⟨k + 1, _, ls ++ c2, by omega, by go_num, by rw [HPs.out]; exact hM10, ?_, ?_, hbw9.setCell (by simp) _⟩
              · exact blk_far (HBox9.out.trans ((HB7.out.block _ (by omega)).trans ((hb4.block _ (by omega)).trans Hgb.out))) (by simp) _
              · exact blk_far (HTop9.out.trans ((HB7.out.block _ (by omega)).trans ((hb4.block _ (by omega)).trans Hgt.out))) (by simp) _
          · refine step_slice1 (by rfl) 41 43 17 _ (.tmp 44) (by rfl) c2.toArray (by rfl) Tryz.underlying41 R.infoNd (by decide) (by decide) (by simp [hlen7]) ?_
            have hcell8 : (w7.alloc (.cells c2.toArray 43)).cell? ⟨W.heap.size + 2, 16, none⟩ = some v := (World.cell?_of_block (Below.heap_alloc _ _ _ (blk_lt HM7.out.box))).trans hcell7
            refine hK'.out _ _ ⟨cell_keep hHeld.1 ((Below.refl _ _).alloc (Nat.le_refl _) _), range_keep hHeld.2 fun h => Below.heap_alloc _ _ _ h⟩ (fun hHeld => ?_)
            clear hK' K'
            refine wpAnyH_ready (rs := [1]) (by kernel_rfl) (by simp) (AllReadyH.cons rfl (fun K' hK' => ?_) AllReadyH.nil)
            rw [if_pos (by rfl)]
            go_simp
            refine hK'.out _ _ hHeld (fun hHeld => ?_)
            clear hK' K'
            refine wpAnyH_ready (rs := [9]) (by kernel_rfl) (by simp) (AllReadyH.cons rfl (fun K' hK' => ?_) AllReadyH.nil)
            refine step_append_lies _ (by rfl) (.tmp 38) (.tmp 45) 41 (by rfl) (W.heap.size + 3) 43 i0 (.agg zcl.toArray) 17 232 Tryz.underlying41 hi0 hz0 hz1 hz2 (by rfl) (by decide) v (l.pre k).len ls (by rfl) (HM7.out.own.alloc _) ⟨w7.heap.size, 0, none⟩ 1 1 c2 (by rfl) (by rw [hlen7]) (World.news_of_block (cs := c2.toArray) (t := 43) (fr := (0, 0)) (blk_new _ _)) HOne7.out (by decide) (by unfold maxLen; omega) (by omega) (by have := HB7.out.size; simp; omega) (w7.heap.size + 1) (by simp) ?_
            intro gg cap9 w9 hown9 hgrow9 hat9 hlt9
            have hs7 : wr.heap.size ≤ w7.heap.size := by have := HB7.out.size; omega
            have hbk : ∀ j, j < w7.heap.size → v.ownBlock ≠ some j → w9.heap[j]? = w7.heap[j]? := fun j hj hne => (hgrow9.block j (by simp; omega) (fun e => hne e.symm)).trans (Below.heap_alloc _ _ _ hj)
            have hm9 := hbk (W.heap.size + 2) (by omega) (fun e => by have := HV4.out _ e; omega)
            have hcell9 : w9.cell? ⟨W.heap.size + 2, 16, none⟩ = some v := (World.cell?_of_block hm9).trans hcell7
            have hf9 : w9.frozen? ⟨W.heap.size + 2, 16, none⟩ = false := (World.frozen?_of_block hm9).trans (blk_frozen HM7.out.box 16)
            have hbox9 := hbk W.heap.size (by omega) (fun e => by have := HV4.out _ e; omega)
            have htop9 := hbk (W.heap.size + 1) (by omega) (fun e => by have := HV4.out _ e; omega)
            have hkid9 := hbk b (by omega) (fun e => by have := HV4.out _ e; omega)
            have HS9 := Lib.hid (And.intro ((World.cell?_of_block hbox9).trans HS7.out.1) (range_keep HS7.out.2 fun _ => hkid9))
            have HTop9 := Lib.hid htop9; have HBox9 := Lib.hid hbox9
            have HAp := Lib.hid (And.intro hown9 (And.intro hgrow9 (And.intro hat9 hlt9)))
            clear hown9 hgrow9 hat9 hlt9 hm9 hbox9 htop9 hkid9 hbk
            refine hK'.out _ _ HS9.out (fun hHeld => ?_)
            clear hK' K'
            refine wpAnyH_take (i := 10) (v := .pointer (some ⟨W.heap.size + 2, 16, none⟩)) rfl (by kernel_rfl) (by kernel_rfl) (by kernel_rfl) (fun _ _ _ h => h) (Or.inl ⟨by rfl, fun w hSw => by obtain ⟨hS1, hS2⟩ := hSw; go_simp⟩) hHeld ?_
            simp only [Act.put, List.getElem_toArray, List.getElem_cons_zero, List.getElem_cons_succ, List.setIfInBounds_toArray, List.set_cons_zero, List.set_cons_succ]
            refine wpAnyH_ready (rs := [11]) (by kernel_rfl) (by simp) (AllReadyH.cons rfl (fun K' hK' => ?_) AllReadyH.nil)
            rw [if_pos (by rfl)]
            go_simp
            refine hK'.out _ _ ⟨cell_set hHeld.1 (by simp), range_set hHeld.2 (by omega)⟩ (fun hHeld => ?_)
            clear hK' K'
            refine wpAnyH_done (by kernel_rfl) ?_ _
            go_wp2_with fail
            go_roundw
            case measure => (simp [intOf] <;> omega)
            case rel =>
              obtain ⟨hown9, hgrow9, hat9, hlt9⟩ := HAp.out
              have hM10 := HM7.out.put (N4 := wr.heap.size) hKB3 hKm2 (by omega) (fun j hj => (HV4.out j hj).2) (by have := HN7.out; rwa [hs4] at this) hwr3 hown9 hgrow9 hat9
              have hbw7 : Below W.heap.size W w7 := HBel.out.trans ((hb4.trans (HB7.out.mono (by omega))).mono HBel.out.size)
              have hbw9 : Below W.heap.size W w9 := (hbw7.alloc hbw7.size _).grown hgrow9 (by simp; omega) (fun j hj => by have := HV4.out j hj; omega)
              refine ⟨k + 1, _, ls ++ c2, by omega, by go_num, by rw [HPs.out]; exact hM10, ?_, ?_, hbw9.setCell (by simp) _⟩
              · exact blk_far (HBox9.out.trans ((HB7.out.block _ (by omega)).trans ((hb4.block _ (by omega)).trans Hgb.out))) (by simp) _
              · exact blk_far (HTop9.out.trans ((HB7.out.block _ (by omega)).trans ((hb4.block _ (by omega)).trans Hgt.out))) (by simp) _
      · have hz : l.pre k = l := l.pre_ge k (by omega)
        rw [hz] at HM
        have hlc : (ncl f (.slice aM f.m.length cM) (.slice aG f.gn.length cG) (.slice aX f.xn.length cX) (.slice aI f.incl.length cI) v).length = 17 := rfl
        have HLc2 := Lib.hid hlc
        obtain ⟨av, cv, hv⟩ := own_any HM.out.own
        have hone : ∀ u ∈ ncl f (.slice aM f.m.length cM) (.slice aG f.gn.length cG) (.slice aX f.xn.length cX) (.slice aI f.incl.length cI) v, u.oneCell' = true := by
          subst hv
          intro u hu
          simp only [ncl, List.mem_cons, List.not_mem_nil, or_false] at hu
          rcases hu with rfl | rfl | rfl | rfl | rfl | rfl | rfl | rfl | rfl | rfl | rfl | rfl | rfl | rfl | rfl | rfl | rfl
          all_goals rfl
        have HOne2 := Lib.hid hone
        clear hone hlc hv
        go_wp2_with (first | (with_reducible refine R.wpList_loadNd rfl _ rfl (W.heap.size + 2) 0 rfl (ncl f (.slice aM f.m.length cM) (.slice aG f.gn.length cG) (.slice aX f.xn.length cX) (.slice aI f.incl.length cI) v) (range_blk HM.out.box) HLc2.out ?_) | (with_reducible refine R.wpList_setNd rfl _ _ rfl (W.heap.size + 1) zcl (ncl f (.slice aM f.m.length cM) (.slice aG f.gn.length cG) (.slice aX f.xn.length cX) (.slice aI f.incl.length cI) v) Hgt.out rfl rfl rfl HLc2.out HOne2.out ?_))
        refine bodyPost_ret_by (results_cell_row (p := 2) (ty := 43) rfl _ _ (W.heap.size + 1) 43 _ (0, 0) _ rfl (setRow_heap _ _ _ _ _ _ Hgt.out) Tryz.underlying43 rfl (by rw [R.sizeNd]; rfl)) rfl ?_
        refine ⟨_, rfl, Nd.Held.keep (fun b hF _ => ⟨rfl, ?_⟩) _ (HM.out.done fun b hb hlt _ => setRow_other _ _ _ _ (by omega)), below_row HBel.out (by omega) _⟩
        have hF' : b < K ∨ W.heap.size + 3 ≤ b := hF
        show b < K ∨ W.heap.size ≤ b
        omega
end Go.Proofs.YtnbgigdloehbjaaGreatDoor.Ir
namespace Go.Proofs.YtnbgigdloehbjaaGreatDoor.QT
open Go

def wpAnyX (P : Program) (md : Region.Mode) (ops : Array Oper) (Q : Exit → Act → World → Prop) (S : World → Prop) (b : Nat) : Nat → Array Bool → Act → World → Prop
  | 0, listed, a, w => Region.ready md ops listed = [] ∧ Q .normal a w
  | fuel + 1, listed, a, w =>
    (Region.ready md ops listed = [] → Q .normal a w) ∧
    ∀ i ∈ Region.ready md ops listed, wpOp P ops Q i (fun a' w' => ((listed.setIfInBounds i true).getD b true = false → S w') ∧ wpAnyX P md ops Q S b fuel (listed.setIfInBounds i true) a' w') a w
section
variable {P : Program} {md : Region.Mode} {ops : Array Oper} {Q : Exit → Act → World → Prop} {S : World → Prop} {b : Nat}
theorem wpAny_of_x : ∀ (fuel : Nat) (listed : Array Bool) (a : Act) (w : World), wpAnyX P md ops Q S b fuel listed a w → wpAny P md ops Q fuel listed a w
  | 0, _, _, _, h => h
  | fuel + 1, _, _, _, h => ⟨h.1, fun i hi => wpOp_mono (fun a' w' h' => wpAny_of_x fuel _ a' w' h'.2) (h.2 i hi)⟩
theorem wpAnyX_first {i : Nat} {oi ob : Oper} {v : Value} (hi : ops[i]? = some oi) (hb : ops[b]? = some ob) (hbi : b ≠ i) (hw : ∃ e ∈ ob.after, Region.binds md e = true ∧ e.on = i)
    (hsel : ∀ (j : Nat) (o : Oper) cs b, ops[j]? = some o → o.op ≠ .select cs b)
    (hQ : ∀ c a w, Q (.panic c) (a.put oi.dst v) w → Q (.panic c) a w) :
    ∀ (fuel : Nat) (listed : Array Bool) (a : Act) (w : World),
      (∀ j oj, ops[j]? = some oj → j ≠ i → listed.getD j true = false → (∀ e ∈ oj.after, Region.binds md e = true → e.on ≠ i) → oi.apart ops oj = true) →
      i ∈ Region.ready md ops listed → listed.getD b true = false → YieldsIf P ops S oi v a → S w →
      wpAnyX P md ops Q S b fuel (listed.setIfInBounds i true) (a.put oi.dst v) w → wpAnyX P md ops Q S b (fuel + 1) listed a w := by
  intro fuel
  induction fuel with
  | zero =>
    intro listed a w _ hr hbu hy hS H
    refine ⟨fun h => (by rw [h] at hr; cases hr), fun j hj => ?_⟩
    by_cases hji : j = i
    · subst hji; exact hy.wpOp hi hS ⟨fun _ => hS, H⟩
    · have := ready_mono hj hji
      rw [H.1] at this
      cases this
  | succ fuel ih =>
    intro listed a w hfree hr hbu hy hS H
    refine ⟨fun h => (by rw [h] at hr; cases hr), fun j hj => ?_⟩
    by_cases hji : j = i
    · subst hji; exact hy.wpOp hi hS ⟨fun _ => hS, H⟩
    · have h1 := H.2 j (ready_mono hj hji)
      obtain ⟨hjun, oj, hoj, hall⟩ := mem_ready.1 hj
      have hnot : ∀ e ∈ oj.after, Region.binds md e = true → e.on ≠ i := fun e he hb heq => by
        have h1 := hall e he hb
        have h0 := (mem_ready.1 hr).1
        rw [heq] at h1
        rcases Nat.lt_or_ge i listed.size with h' | h'
        · simp [h'] at h0 h1; rw [h0] at h1; cases h1
        · simp [Array.getElem?_eq_none h'] at h1
      have hjb : j ≠ b := by
        rintro rfl
        obtain ⟨e, he, h2, h3⟩ := hw
        have : oj = ob := by rw [hoj] at hb; exact Option.some.inj hb
        subst this
        exact hnot e he h2 h3
      have hbu' : (listed.setIfInBounds j true).getD b true = false := by rw [getD_set_ne true hjb]; exact hbu
      have hbu'' : ((listed.setIfInBounds i true).setIfInBounds j true).getD b true = false := by rw [getD_set_ne true hjb, getD_set_ne true hbi.symm]; exact hbu
      have h2 := wpOp_putIf hoj (hfree j oj hoj hji hjun hnot) (fun cs b => hsel i oi cs b hi) (fun cs b => hsel j oj cs b hoj) hQ hy h1
      have hfree' : ∀ k ok, ops[k]? = some ok → k ≠ i → (listed.setIfInBounds j true).getD k true = false →
          (∀ e ∈ ok.after, Region.binds md e = true → e.on ≠ i) → oi.apart ops ok = true := fun k ok hk hki hun hno => by
        refine hfree k ok hk hki ?_ hno
        by_cases hjk : j = k
        · subst hjk; exact hjun
        · rw [getD_set_ne true hjk] at hun; exact hun
      refine wpOp_mono (fun a' w' h3 => ⟨fun _ => h3.2.1 hbu'', ih (listed.setIfInBounds j true) a' w' hfree' (ready_mono hr (Ne.symm hji)) hbu' h3.1 (h3.2.1 hbu'') ?_⟩) h2
      rw [Array.setIfInBounds_comm _ _ hji]
      exact h3.2.2
/-- Number i is taken first. -/
theorem wpAnyX_take {i : Nat} {oi ob : Oper} {v : Value} {fuel : Nat} {listed : Array Bool} {a : Act} {w : World} (hi : ops[i]? = some oi) (hb : ops[b]? = some ob) (hbi : (b != i) = true) (hw : (ob.after.any fun e => Region.binds md e && e.on == i) = true)
    (hs : Region.noSelect ops = true) (hf : Region.free md ops listed i = true) (hr : (Region.ready md ops listed).contains i = true) (hbu : listed.getD b true = false)
    (hQ : ∀ c a w, Q (.panic c) (a.put oi.dst v) w → Q (.panic c) a w) (hy : YieldsIf P ops S oi v a) (hS : S w)
    (h : wpAnyX P md ops Q S b fuel (listed.setIfInBounds i true) (a.put oi.dst v) w) : wpAnyX P md ops Q S b (fuel + 1) listed a w :=
  wpAnyX_first hi hb (by simpa using hbi) (by
    rw [Array.any_eq_true] at hw
    obtain ⟨k, hk, h⟩ := hw
    simp only [Bool.and_eq_true, beq_iff_eq] at h
    exact ⟨_, Array.getElem_mem hk, h.1, h.2⟩) (Region.noSelect_spec hs) hQ fuel listed a w (Region.free_spec hi hf) (by simpa using hr) hbu hy hS h
/-- Whichever comes up. -/
theorem wpAnyX_ready {rs : List Nat} {fuel : Nat} {listed : Array Bool} {a : Act} {w : World} (hr : Region.ready md ops listed = rs) (hne : rs ≠ [])
    (h : ∀ i ∈ rs, ∃ o, ops[i]? = some o ∧ ∀ K' : Act → World → Prop, Shut (∀ a w, ((listed.setIfInBounds i true).getD b true = false → S w) → wpAnyX P md ops Q S b fuel (listed.setIfInBounds i true) a w → K' a w) → if Region.wanted o (yielded ops a.tmps) = true then Oper.wp P o a w K' Q else K' (a.put o.dst undef) w) :
    wpAnyX P md ops Q S b (fuel + 1) listed a w :=
  ⟨fun h0 => absurd (hr ▸ h0) hne, hr ▸ fun i hi => by
    obtain ⟨o, ho, hstep⟩ := h i hi
    exact wpOp_step ho (fun K' hK => hstep K' (fun a w hS hW => hK a w ⟨hS, hW⟩))⟩
theorem wpAnyX_one {i : Nat} {o : Oper} {fuel : Nat} {listed : Array Bool} {a : Act} {w : World} (hr : Region.ready md ops listed = [i]) (ho : ops[i]? = some o)
    (h : ∀ K' : Act → World → Prop, Shut (∀ a w, ((listed.setIfInBounds i true).getD b true = false → S w) → wpAnyX P md ops Q S b fuel (listed.setIfInBounds i true) a w → K' a w) → if Region.wanted o (yielded ops a.tmps) = true then Oper.wp P o a w K' Q else K' (a.put o.dst undef) w) :
    wpAnyX P md ops Q S b (fuel + 1) listed a w := wpAnyX_ready hr (by simp) fun j hj => by
  simp only [List.mem_cons, List.not_mem_nil, or_false] at hj
  subst hj
  exact ⟨o, ho, h⟩
theorem wpAnyX_two {i j : Nat} {o p : Oper} {fuel : Nat} {listed : Array Bool} {a : Act} {w : World} (hr : Region.ready md ops listed = [i, j]) (ho : ops[i]? = some o) (hp : ops[j]? = some p)
    (h : ∀ K' : Act → World → Prop, Shut (∀ a w, ((listed.setIfInBounds i true).getD b true = false → S w) → wpAnyX P md ops Q S b fuel (listed.setIfInBounds i true) a w → K' a w) → if Region.wanted o (yielded ops a.tmps) = true then Oper.wp P o a w K' Q else K' (a.put o.dst undef) w)
    (h2 : ∀ K' : Act → World → Prop, Shut (∀ a w, ((listed.setIfInBounds j true).getD b true = false → S w) → wpAnyX P md ops Q S b fuel (listed.setIfInBounds j true) a w → K' a w) → if Region.wanted p (yielded ops a.tmps) = true then Oper.wp P p a w K' Q else K' (a.put p.dst undef) w) :
    wpAnyX P md ops Q S b (fuel + 1) listed a w := wpAnyX_ready hr (by simp) fun k hk => by
  simp only [List.mem_cons, List.not_mem_nil, or_false] at hk
  rcases hk with rfl | rfl
  · exact ⟨o, ho, h⟩
  · exact ⟨p, hp, h2⟩
theorem wpAnyX_done {listed : Array Bool} {a : Act} {w : World} (hr : Region.ready md ops listed = []) (h : Q .normal a w) :
    ∀ fuel, wpAnyX P md ops Q S b fuel listed a w
  | 0 => ⟨hr, h⟩
  | _ + 1 => ⟨fun _ => h, by rw [hr]; simp⟩
end
theorem wp_region_x {P : Program} {ops : Array Oper} {Q : Exit → Act → World → Prop} {S : World → Prop} (b : Nat) {id : Nat} {a : Act} {w : World} (hm : P.follows .mixedOrders = true) (hS : S w.drew)
    (h : S w.drew → wpAnyX P .any ops Q S b ops.size (Array.replicate ops.size false) a w.drew) : (Code.region id ops true).wp P Q a w :=
  wp_region_any hm (wpAny_of_x _ _ _ _ (h hS))
end Go.Proofs.YtnbgigdloehbjaaGreatDoor.QT
namespace Go.Proofs.YtnbgigdloehbjaaGreatDoor.Ir
open Go Go.RowKit Go.Proofs.YtnbgigdloehbjaaGreatDoor.Rg Go.Proofs.YtnbgigdloehbjaaGreatDoor.Ma Go.Proofs.YtnbgigdloehbjaaGreatDoor.QT
set_option maxHeartbeats 16000000
set_option maxRecDepth 100000
theorem matchBuilt (a b c d : Value) : Tryz.prog.built 28 [(0, .agg #[a, b]), (1, c), (2, d)] = Tryz.prog.built 28 [(0, .agg #[a, b]), (1, c), (2, d)] := rfl
theorem Twin_calls : ∀ (N : Nat) (n : Nd), n.tot ≤ N → N ≤ 100000 → n.Sm → ∀ (W : World) (cs : List Value), n.Held W Any cs → Calls Tryz.prog 39 #[.agg cs.toArray] W (RetT n W) := by
  intro N
  induction N with
  | zero => intro n hn; have := n.tot_pos; omega
  | succ N ih =>
    rintro ⟨f, l⟩ hn hN hSm W cs hH
    have hlen := l.len_tot
    rw [Nd.tot] at hn
    rw [Nd.Sm] at hSm
    obtain ⟨hSf, hSl⟩ := hSm
    have hm1 := hSf.m; have hg1 := hSf.g; have hx1 := hSf.x; have hi1 := hSf.i
    obtain ⟨vM, vG, vX, vI, aK, cK, lk, hcs, hf, hl, hK⟩ := hH.open
    obtain ⟨_, aM, cM, rfl, _⟩ := id hf.m
    obtain ⟨_, aG, cG, rfl, _⟩ := id hf.g
    obtain ⟨_, aX, cX, rfl, _⟩ := id hf.x
    obtain ⟨_, aI, cI, rfl, _⟩ := id hf.i
    obtain ⟨B, hB⟩ : ∃ B, B = (W.alloc (.cells cs.toArray 31)).alloc (.cells zcl.toArray 31) := ⟨_, rfl⟩
    have hbB : Below W.heap.size W B := by rw [hB]; exact ((Below.refl _ _).alloc (Nat.le_refl _) _).alloc (by simp) _
    have hsB : B.heap.size = W.heap.size + 2 := by rw [hB]; simp
    have hg : B.heap[W.heap.size]? = some (.cells cs.toArray 31 (0, 0)) := by rw [hB]; exact blk_alloc (blk_new W _) _
    have hg2 : B.heap[W.heap.size + 1]? = some (.cells zcl.toArray 31 (0, 0)) := by rw [hB]; exact blk_new2 W _ _
    have HbB := Lib.hid hbB; have Hg := Lib.hid hg; have Hg2 := Lib.hid hg2
    have HF := Lib.hid hf; have HL := Lib.hid hl; have HK := Lib.hid hK
    have HIH := Lib.hid ih; have HSl := Lib.hid hSl
    have hx : (W.alloc (.cells cs.toArray 31)).alloc (.cells #[.int .i64 0, .float .f64 0, .int .i64 0, .slice none 0 0, .int .i64 0, .int .i64 0, .int .i64 0, .int .i64 0, .slice none 0 0, .int .i64 0, .slice none 0 0, .int .i64 0, .slice none 0 0, .bool false, .string ⟨#[]⟩, .string ⟨#[]⟩, .slice none 0 0] 31) = B := hB.symm
    obtain ⟨cs0, hcs0⟩ : ∃ c, c = cs := ⟨_, rfl⟩
    rw [hcs] at hcs0
    clear hB hH hf hl hK hbB hg hg2 ih hSf hSl
    subst hcs
    clear hcs0 cs0
    go_enter Tryz.func39, Tryz.ntmps39
    go_wp2_with fail
    clear hx
    have HCM := Lib.hid (fun W' (hb : Below W.heap.size W W') => cloneM_calls (.slice aM f.m.length cM) f.m.length (mcells f.m) (mcells_one _) W' (HF.out.m.keep (by decide) (Keeps.below hb)) (by omega))
    have HCG := Lib.hid (fun W' (hb : Below W.heap.size W W') => group_calls f.ghow (.slice aG f.gn.length cG) f.gn.length (scells f.gn) (scells_one _) W' (HF.out.g.keep (by decide) (Keeps.below hb)) (by omega))
    have HCX := Lib.hid (fun W' (hb : Below W.heap.size W W') => group_calls f.xhow (.slice aX f.xn.length cX) f.xn.length (scells f.xn) (scells_one _) W' (HF.out.x.keep (by decide) (Keeps.below hb)) (by omega))
    have HCI := Lib.hid (fun W' (hb : Below W.heap.size W W') => cloneS_calls (.slice aI f.incl.length cI) f.incl.length (scells f.incl) (scells_one _) W' (HF.out.i.keep (by decide) (Keeps.below hb)) (by omega))
    obtain ⟨vK, hvK⟩ : ∃ vK : Value, vK = .slice aK l.len cK := ⟨_, rfl⟩
    rw [← hvK] at Hg
    refine wp_region_x (S := fun w => w.heap[W.heap.size]? = some (.cells (ncl f (.slice aM f.m.length cM) (.slice aG f.gn.length cG) (.slice aX f.xn.length cX) (.slice aI f.incl.length cI) vK).toArray 31 (0, 0))) 7 (by kernel_rfl) Hg.out (fun hHS => ?_)
    refine wpAnyX_take (i := 0) (v := .pointer (some ⟨W.heap.size, 3, none⟩)) rfl rfl (by kernel_rfl) (by kernel_rfl) (by kernel_rfl) (by kernel_rfl) (by kernel_rfl) (by kernel_rfl) (fun _ _ _ h => h) (Or.inl ⟨by rfl, fun w hSw => by skip; go_simp⟩) hHS ?_
    try simp only [Act.put, List.getElem_toArray, List.getElem_cons_zero, List.setIfInBounds_toArray, List.set_cons_zero, List.set_cons_succ]
    refine wpAnyX_take (i := 1) (v := .slice aM f.m.length cM) rfl rfl (by kernel_rfl) (by kernel_rfl) (by kernel_rfl) (by kernel_rfl) (by kernel_rfl) (by kernel_rfl) (fun _ _ _ h => h) (Or.inl ⟨by rfl, fun w hSw => by have c3 := blk_cell hSw 3; go_simp⟩) hHS ?_
    try simp only [Act.put, List.getElem_toArray, List.getElem_cons_zero, List.getElem_cons_succ, List.setIfInBounds_toArray, List.set_cons_zero, List.set_cons_succ]
    refine wpAnyX_take (i := 3) (v := .pointer (some ⟨W.heap.size, 7, none⟩)) rfl rfl (by kernel_rfl) (by kernel_rfl) (by kernel_rfl) (by kernel_rfl) (by kernel_rfl) (by kernel_rfl) (fun _ _ _ h => h) (Or.inl ⟨by rfl, fun w hSw => by skip; go_simp⟩) hHS ?_
    try simp only [Act.put, List.getElem_toArray, List.getElem_cons_zero, List.getElem_cons_succ, List.setIfInBounds_toArray, List.set_cons_zero, List.set_cons_succ]
    refine wpAnyX_take (i := 4) (v := .agg #[.int .i64 f.ghow, .slice aG f.gn.length cG]) rfl rfl (by kernel_rfl) (by kernel_rfl) (by kernel_rfl) (by kernel_rfl) (by kernel_rfl) (by kernel_rfl) (fun _ _ _ h => h) (Or.inl ⟨by rfl, fun w hSw => by have c7 := blk_cell hSw 7; have c8 := blk_cell hSw 8; go_simp⟩) hHS ?_
    try simp only [Act.put, List.getElem_toArray, List.getElem_cons_zero, List.getElem_cons_succ, List.setIfInBounds_toArray, List.set_cons_zero, List.set_cons_succ]
    refine wpAnyX_one (i := 2) (by kernel_rfl) rfl (fun K' hK' => ?_)
    rw [if_pos (by rfl)]
    go_simp
    go_at_call 61
    refine (HCM.out _ (HbB.out.drew)).mono ?_
    rintro q w1 ⟨v', rfl, hr1, hb1⟩
    obtain ⟨_, aM1, cM1, rfl, _⟩ := id hr1
    have hb1' : Below W.heap.size W w1 := HbB.out.drew.trans (hb1.mono HbB.out.drew.size)
    have hS1 := (hb1.block W.heap.size (by show _ < B.heap.size; omega)).trans hHS
    have ht1 := (hb1.block (W.heap.size + 1) (by show _ < B.heap.size; omega)).trans (show B.drew.heap[W.heap.size + 1]? = _ from Hg2.out)
    have HR1 := Lib.hid (hr1.keep (F1 := From (W.heap.size + 2)) (by decide) (Keeps.from (by show W.heap.size + 2 ≤ B.heap.size; omega) fun _ _ _ => rfl))
    have HB1 := Lib.hid hb1'; have HT1 := Lib.hid ht1
    have hs1 : W.heap.size + 2 ≤ w1.heap.size := by have : B.heap.size ≤ _ := hb1.size; omega
    refine hK'.out _ _ (fun _ => hS1) ?_
    clear hK' K' hr1 hb1 hb1' ht1 hHS
    have hHS := hS1
    try simp only [Act.put, List.getElem_toArray, List.getElem_cons_zero, List.getElem_cons_succ, List.setIfInBounds_toArray, List.set_cons_zero, List.set_cons_succ]
    refine wpAnyX_take (i := 6) (v := .pointer (some ⟨W.heap.size, 3, none⟩)) rfl rfl (by kernel_rfl) (by kernel_rfl) (by kernel_rfl) (by kernel_rfl) (by kernel_rfl) (by kernel_rfl) (fun _ _ _ h => h) (Or.inl ⟨by rfl, fun w hSw => by skip; go_simp⟩) hHS ?_
    try simp only [Act.put, List.getElem_toArray, List.getElem_cons_zero, List.getElem_cons_succ, List.setIfInBounds_toArray, List.set_cons_zero, List.set_cons_succ]
    clear hHS
    refine wpAnyX_one (i := 5) (by kernel_rfl) rfl (fun K' hK' => ?_)
    rw [if_pos (by rfl)]
    go_simp
    go_at_call 62
    refine (HCG.out _ HB1.out).mono ?_
    rintro q w2 ⟨v', rfl, hr2, hb2⟩
    obtain ⟨_, aG1, cG1, rfl, _⟩ := id hr2
    have hS2 := (hb2.block W.heap.size (by omega)).trans hS1
    have c3 := blk_cell hS2 3
    have f3 := blk_frozen hS2 3
    have c7 := blk_cell hS2 7
    have f7 := blk_frozen hS2 7
    have c8 := blk_cell hS2 8
    have f8 := blk_frozen hS2 8
    have HR2 := Lib.hid (hr2.keep (F1 := From (W.heap.size + 2)) (by decide) (Keeps.from (by omega) fun _ _ _ => rfl))
    have HR12 := Lib.hid (HR1.out.keep (F1 := From (W.heap.size + 2)) (by decide) (fun b hF hlt => ⟨hb2.block b hlt, hF⟩))
    have HT2 := Lib.hid ((hb2.block _ (by omega)).trans HT1.out)
    have HB2 := Lib.hid (HB1.out.trans (hb2.mono HB1.out.size))
    have HS2 := Lib.hid hS2
    have hs2 : W.heap.size + 2 ≤ w2.heap.size := by have := hb2.size; omega
    refine hK'.out _ _ (fun _ => hS2) ?_
    clear hK' K' hr2 hb2 hS1 hS2
    try simp only [Act.put, List.getElem_toArray, List.getElem_cons_zero, List.getElem_cons_succ, List.setIfInBounds_toArray, List.set_cons_zero, List.set_cons_succ]
    refine wpAnyX_one (i := 7) (by kernel_rfl) rfl (fun K' hK' => ?_)
    rw [if_pos (by rfl)]
    go_simp
    refine hK'.out _ _ (fun h => by cases h) ?_
    clear hK' K'
    try simp only [Act.put, List.getElem_toArray, List.getElem_cons_zero, List.getElem_cons_succ, List.setIfInBounds_toArray, List.set_cons_zero, List.set_cons_succ]
    refine wpAnyX_one (i := 8) (by kernel_rfl) rfl (fun K' hK' => ?_)
    rw [if_pos (by rfl)]
    go_simp
    refine hK'.out _ _ (fun h => by cases h) ?_
    clear hK' K'
    try simp only [Act.put, List.getElem_toArray, List.getElem_cons_zero, List.getElem_cons_succ, List.setIfInBounds_toArray, List.set_cons_zero, List.set_cons_succ]
    refine wpAnyX_one (i := 9) (by kernel_rfl) rfl (fun K' hK' => ?_)
    rw [if_pos (by rfl)]
    go_simp
    refine hK'.out _ _ (fun h => by cases h) ?_
    clear hK' K'
    try simp only [Act.put, List.getElem_toArray, List.getElem_cons_zero, List.getElem_cons_succ, List.setIfInBounds_toArray, List.set_cons_zero, List.set_cons_succ]
    refine wpAnyX_done (by kernel_rfl) ?_ _
    have hk3 : ∀ k, k ≠ W.heap.size → (((w2.setCell ⟨W.heap.size, 3, none⟩ (.slice aM1 f.m.length cM1)).setCell ⟨W.heap.size, 7, none⟩ (.int .i64 f.ghow)).setCell ⟨W.heap.size, 8, none⟩ (.slice aG1 f.gn.length cG1)).heap[k]? = w2.heap[k]? := fun k hk =>
      (Below.heap_setCell _ ⟨W.heap.size, 8, none⟩ _ k hk).trans ((Below.heap_setCell _ ⟨W.heap.size, 7, none⟩ _ k hk).trans (Below.heap_setCell _ ⟨W.heap.size, 3, none⟩ _ k hk))
    have hS3 : (((w2.setCell ⟨W.heap.size, 3, none⟩ (.slice aM1 f.m.length cM1)).setCell ⟨W.heap.size, 7, none⟩ (.int .i64 f.ghow)).setCell ⟨W.heap.size, 8, none⟩ (.slice aG1 f.gn.length cG1)).heap[W.heap.size]? = some (.cells (ncl f (.slice aM1 f.m.length cM1) (.slice aG1 f.gn.length cG1) (.slice aX f.xn.length cX) (.slice aI f.incl.length cI) vK).toArray 31 (0, 0)) := by
      rw [blk_set (blk_set (blk_set HS2.out 3 _) 7 _) 8 _]; rfl
    have hB3 : Below W.heap.size W (((w2.setCell ⟨W.heap.size, 3, none⟩ (.slice aM1 f.m.length cM1)).setCell ⟨W.heap.size, 7, none⟩ (.int .i64 f.ghow)).setCell ⟨W.heap.size, 8, none⟩ (.slice aG1 f.gn.length cG1)) := ((HB2.out.setCell (p := ⟨W.heap.size, 3, none⟩) (Nat.le_refl _) _).setCell (p := ⟨W.heap.size, 7, none⟩) (Nat.le_refl _) _).setCell (p := ⟨W.heap.size, 8, none⟩) (Nat.le_refl _) _
    have hs3 : (((w2.setCell ⟨W.heap.size, 3, none⟩ (.slice aM1 f.m.length cM1)).setCell ⟨W.heap.size, 7, none⟩ (.int .i64 f.ghow)).setCell ⟨W.heap.size, 8, none⟩ (.slice aG1 f.gn.length cG1)).heap.size = w2.heap.size := by simp [World.setCell]
    clear c3 f3 c7 f7 c8 f8
    go_wp2_with fail
    obtain ⟨w3, hw3⟩ : ∃ w3, w3 = (((w2.setCell ⟨W.heap.size, 3, none⟩ (.slice aM1 f.m.length cM1)).setCell ⟨W.heap.size, 7, none⟩ (.int .i64 f.ghow)).setCell ⟨W.heap.size, 8, none⟩ (.slice aG1 f.gn.length cG1)) := ⟨_, rfl⟩
    rw [← hw3] at hk3 hS3 hB3 hs3 ⊢
    clear hw3
    have HS3 := Lib.hid hS3; have HB3 := Lib.hid hB3
    have HT3 := Lib.hid ((hk3 (W.heap.size + 1) (by omega)).trans HT2.out)
    have HRM3 := Lib.hid (HR12.out.keep (F1 := From (W.heap.size + 2)) (by decide) (Keeps.from (Nat.le_refl _) fun b hb _ => hk3 b (by omega)))
    have HRG3 := Lib.hid (HR2.out.keep (F1 := From (W.heap.size + 2)) (by decide) (Keeps.from (Nat.le_refl _) fun b hb _ => hk3 b (by omega)))
    clear hk3 hS3 hB3 HR12 HR2 HT2 HS2 HB2 HR1 HT1 HB1
    refine wp_region_x (S := fun w => w.heap[W.heap.size]? = some (.cells (ncl f (.slice aM1 f.m.length cM1) (.slice aG1 f.gn.length cG1) (.slice aX f.xn.length cX) (.slice aI f.incl.length cI) vK).toArray 31 (0, 0))) 13 (by kernel_rfl) HS3.out (fun hHS => ?_)
    refine wpAnyX_take (i := 0) (v := .pointer (some ⟨W.heap.size, 9, none⟩)) rfl rfl (by kernel_rfl) (by kernel_rfl) (by kernel_rfl) (by kernel_rfl) (by kernel_rfl) (by kernel_rfl) (fun _ _ _ h => h) (Or.inl ⟨by rfl, fun w hSw => by skip; go_simp⟩) hHS ?_
    try simp only [Act.put, List.getElem_toArray, List.getElem_cons_zero, List.setIfInBounds_toArray, List.set_cons_zero, List.set_cons_succ]
    refine wpAnyX_take (i := 1) (v := .pointer (some ⟨W.heap.size, 9, none⟩)) rfl rfl (by kernel_rfl) (by kernel_rfl) (by kernel_rfl) (by kernel_rfl) (by kernel_rfl) (by kernel_rfl) (fun _ _ _ h => h) (Or.inl ⟨by rfl, fun w hSw => by skip; go_simp⟩) hHS ?_
    try simp only [Act.put, List.getElem_toArray, List.getElem_cons_zero, List.getElem_cons_succ, List.setIfInBounds_toArray, List.set_cons_zero, List.set_cons_succ]
    refine wpAnyX_take (i := 2) (v := .agg #[.int .i64 f.xhow, .slice aX f.xn.length cX]) rfl rfl (by kernel_rfl) (by kernel_rfl) (by kernel_rfl) (by kernel_rfl) (by kernel_rfl) (by kernel_rfl) (fun _ _ _ h => h) (Or.inl ⟨by rfl, fun w hSw => by have c7 := blk_cell hSw 9; have c8 := blk_cell hSw 10; go_simp⟩) hHS ?_
    try simp only [Act.put, List.getElem_toArray, List.getElem_cons_zero, List.getElem_cons_succ, List.setIfInBounds_toArray, List.set_cons_zero, List.set_cons_succ]
    refine wpAnyX_take (i := 4) (v := .pointer (some ⟨W.heap.size, 9, none⟩)) rfl rfl (by kernel_rfl) (by kernel_rfl) (by kernel_rfl) (by kernel_rfl) (by kernel_rfl) (by kernel_rfl) (fun _ _ _ h => h) (Or.inl ⟨by rfl, fun w hSw => by skip; go_simp⟩) hHS ?_
    try simp only [Act.put, List.getElem_toArray, List.getElem_cons_zero, List.getElem_cons_succ, List.setIfInBounds_toArray, List.set_cons_zero, List.set_cons_succ]
    refine wpAnyX_take (i := 5) (v := .pointer (some ⟨W.heap.size, 11, none⟩)) rfl rfl (by kernel_rfl) (by kernel_rfl) (by kernel_rfl) (by kernel_rfl) (by kernel_rfl) (by kernel_rfl) (fun _ _ _ h => h) (Or.inl ⟨by rfl, fun w hSw => by skip; go_simp⟩) hHS ?_
    try simp only [Act.put, List.getElem_toArray, List.getElem_cons_zero, List.getElem_cons_succ, List.setIfInBounds_toArray, List.set_cons_zero, List.set_cons_succ]
    refine wpAnyX_take (i := 6) (v := .int .i64 f.card) rfl rfl (by kernel_rfl) (by kernel_rfl) (by kernel_rfl) (by kernel_rfl) (by kernel_rfl) (by kernel_rfl) (fun _ _ _ h => h) (Or.inl ⟨by rfl, fun w hSw => by have c7 := blk_cell hSw 11; go_simp⟩) hHS ?_
    try simp only [Act.put, List.getElem_toArray, List.getElem_cons_zero, List.getElem_cons_succ, List.setIfInBounds_toArray, List.set_cons_zero, List.set_cons_succ]
    refine wpAnyX_take (i := 7) (v := .pointer (some ⟨W.heap.size, 9, none⟩)) rfl rfl (by kernel_rfl) (by kernel_rfl) (by kernel_rfl) (by kernel_rfl) (by kernel_rfl) (by kernel_rfl) (fun _ _ _ h => h) (Or.inl ⟨by rfl, fun w hSw => by skip; go_simp⟩) hHS ?_
    try simp only [Act.put, List.getElem_toArray, List.getElem_cons_zero, List.getElem_cons_succ, List.setIfInBounds_toArray, List.set_cons_zero, List.set_cons_succ]
    refine wpAnyX_take (i := 8) (v := .pointer (some ⟨W.heap.size, 12, none⟩)) rfl rfl (by kernel_rfl) (by kernel_rfl) (by kernel_rfl) (by kernel_rfl) (by kernel_rfl) (by kernel_rfl) (fun _ _ _ h => h) (Or.inl ⟨by rfl, fun w hSw => by skip; go_simp⟩) hHS ?_
    try simp only [Act.put, List.getElem_toArray, List.getElem_cons_zero, List.getElem_cons_succ, List.setIfInBounds_toArray, List.set_cons_zero, List.set_cons_succ]
    refine wpAnyX_take (i := 9) (v := .slice aI f.incl.length cI) rfl rfl (by kernel_rfl) (by kernel_rfl) (by kernel_rfl) (by kernel_rfl) (by kernel_rfl) (by kernel_rfl) (fun _ _ _ h => h) (Or.inl ⟨by rfl, fun w hSw => by have c7 := blk_cell hSw 12; go_simp⟩) hHS ?_
    try simp only [Act.put, List.getElem_toArray, List.getElem_cons_zero, List.getElem_cons_succ, List.setIfInBounds_toArray, List.set_cons_zero, List.set_cons_succ]
    refine wpAnyX_one (i := 3) (by kernel_rfl) rfl (fun K' hK' => ?_)
    rw [if_pos (by rfl)]
    go_simp
    go_at_call 62
    refine (HCX.out _ (HB3.out.drew)).mono ?_
    rintro q w4 ⟨v', rfl, hr4, hb4⟩
    obtain ⟨_, aX1, cX1, rfl, _⟩ := id hr4
    have hS4 := (hb4.block W.heap.size (by show _ < w3.heap.size; omega)).trans hHS
    have HRX4 := Lib.hid (hr4.keep (F1 := From (W.heap.size + 2)) (by decide) (Keeps.from (by show W.heap.size + 2 ≤ w3.heap.size; omega) fun _ _ _ => rfl))
    have HRM4 := Lib.hid (HRM3.out.keep (F1 := From (W.heap.size + 2)) (by decide) (fun b hF hlt => ⟨hb4.block b hlt, hF⟩))
    have HRG4 := Lib.hid (HRG3.out.keep (F1 := From (W.heap.size + 2)) (by decide) (fun b hF hlt => ⟨hb4.block b hlt, hF⟩))
    have HT4 := Lib.hid ((hb4.block _ (by show _ < w3.heap.size; omega)).trans (show w3.drew.heap[W.heap.size + 1]? = _ from HT3.out))
    have HB4 := Lib.hid (HB3.out.drew.trans (hb4.mono HB3.out.drew.size))
    have hs4 : W.heap.size + 2 ≤ w4.heap.size := by have : w3.heap.size ≤ _ := hb4.size; omega
    refine hK'.out _ _ (fun _ => hS4) ?_
    clear hK' K' hr4 hb4 hHS HRM3 HRG3 HT3 HB3
    try simp only [Act.put, List.getElem_toArray, List.getElem_cons_zero, List.getElem_cons_succ, List.setIfInBounds_toArray, List.set_cons_zero, List.set_cons_succ]
    refine wpAnyX_one (i := 10) (by kernel_rfl) rfl (fun K' hK' => ?_)
    rw [if_pos (by rfl)]
    go_simp
    go_at_call 63
    refine (HCI.out _ HB4.out).mono ?_
    rintro q w5 ⟨v', rfl, hr5, hb5⟩
    obtain ⟨_, aI1, cI1, rfl, _⟩ := id hr5
    have hS5 := (hb5.block W.heap.size (by omega)).trans hS4
    have HRI5 := Lib.hid (hr5.keep (F1 := From (W.heap.size + 2)) (by decide) (Keeps.from (by omega) fun _ _ _ => rfl))
    have HRM5 := Lib.hid (HRM4.out.keep (F1 := From (W.heap.size + 2)) (by decide) (fun b hF hlt => ⟨hb5.block b hlt, hF⟩))
    have HRG5 := Lib.hid (HRG4.out.keep (F1 := From (W.heap.size + 2)) (by decide) (fun b hF hlt => ⟨hb5.block b hlt, hF⟩))
    have HRX5 := Lib.hid (HRX4.out.keep (F1 := From (W.heap.size + 2)) (by decide) (fun b hF hlt => ⟨hb5.block b hlt, hF⟩))
    have HT5 := Lib.hid ((hb5.block _ (by omega)).trans HT4.out)
    have HB5 := Lib.hid (HB4.out.trans (hb5.mono HB4.out.size))
    have hs5 : W.heap.size + 2 ≤ w5.heap.size := by have := hb5.size; omega
    have c9 := blk_cell hS5 9
    have c10 := blk_cell hS5 10
    have c11 := blk_cell hS5 11
    have c12 := blk_cell hS5 12
    have f9 := blk_frozen hS5 9
    have f10 := blk_frozen hS5 10
    have f11 := blk_frozen hS5 11
    have f12 := blk_frozen hS5 12
    have HS5 := Lib.hid hS5
    refine hK'.out _ _ (fun _ => hS5) ?_
    have hHS := hS5
    clear hK' K' hr5 hb5 hS4 hS5 HRM4 HRG4 HRX4 HT4 HB4
    try simp only [Act.put, List.getElem_toArray, List.getElem_cons_zero, List.getElem_cons_succ, List.setIfInBounds_toArray, List.set_cons_zero, List.set_cons_succ]
    refine wpAnyX_take (i := 11) (v := .agg #[.int .i64 f.xhow, .slice aX1 f.xn.length cX1, .int .i64 f.card, .slice aI1 f.incl.length cI1]) rfl rfl (by kernel_rfl) (by kernel_rfl) (by kernel_rfl) (by kernel_rfl) (by kernel_rfl) (by kernel_rfl) (fun _ _ _ h => h) (Or.inl ⟨by rfl, fun w hSw => by skip; go_simp⟩) hHS ?_
    try simp only [Act.put, List.getElem_toArray, List.getElem_cons_zero, List.getElem_cons_succ, List.setIfInBounds_toArray, List.set_cons_zero, List.set_cons_succ]
    refine wpAnyX_take (i := 12) (v := .pointer (some ⟨W.heap.size, 9, none⟩)) rfl rfl (by kernel_rfl) (by kernel_rfl) (by kernel_rfl) (by kernel_rfl) (by kernel_rfl) (by kernel_rfl) (fun _ _ _ h => h) (Or.inl ⟨by rfl, fun w hSw => by skip; go_simp⟩) hHS ?_
    try simp only [Act.put, List.getElem_toArray, List.getElem_cons_zero, List.getElem_cons_succ, List.setIfInBounds_toArray, List.set_cons_zero, List.set_cons_succ]
    clear hHS
    refine wpAnyX_one (i := 13) (by kernel_rfl) rfl (fun K' hK' => ?_)
    rw [if_pos (by rfl)]
    go_simp
    refine hK'.out _ _ (fun h => by cases h) ?_
    clear hK' K'
    try simp only [Act.put, List.getElem_toArray, List.getElem_cons_zero, List.getElem_cons_succ, List.setIfInBounds_toArray, List.set_cons_zero, List.set_cons_succ]
    refine wpAnyX_done (by kernel_rfl) ?_ _
    obtain ⟨w6, hw6⟩ : ∃ w6, w6 = ((((w5.setCell ⟨W.heap.size, 9, none⟩ (.int .i64 f.xhow)).setCell ⟨W.heap.size, 10, none⟩ (.slice aX1 f.xn.length cX1)).setCell ⟨W.heap.size, 11, none⟩ (.int .i64 f.card)).setCell ⟨W.heap.size, 12, none⟩ (.slice aI1 f.incl.length cI1)) := ⟨_, rfl⟩
    have hk6 : ∀ k, k ≠ W.heap.size → w6.heap[k]? = w5.heap[k]? := fun k hk => by
      rw [hw6]
      exact (Below.heap_setCell _ ⟨W.heap.size, 12, none⟩ _ k hk).trans ((Below.heap_setCell _ ⟨W.heap.size, 11, none⟩ _ k hk).trans ((Below.heap_setCell _ ⟨W.heap.size, 10, none⟩ _ k hk).trans (Below.heap_setCell _ ⟨W.heap.size, 9, none⟩ _ k hk)))
    have hS6 : w6.heap[W.heap.size]? = some (.cells (ncl f (.slice aM1 f.m.length cM1) (.slice aG1 f.gn.length cG1) (.slice aX1 f.xn.length cX1) (.slice aI1 f.incl.length cI1) vK).toArray 31 (0, 0)) := by
      rw [hw6, blk_set (blk_set (blk_set (blk_set HS5.out 9 _) 10 _) 11 _) 12 _]; rfl
    have hB6 : Below W.heap.size W w6 := by
      rw [hw6]
      exact (((HB5.out.setCell (p := ⟨W.heap.size, 9, none⟩) (Nat.le_refl _) _).setCell (p := ⟨W.heap.size, 10, none⟩) (Nat.le_refl _) _).setCell (p := ⟨W.heap.size, 11, none⟩) (Nat.le_refl _) _).setCell (p := ⟨W.heap.size, 12, none⟩) (Nat.le_refl _) _
    have hs6 : w6.heap.size = w5.heap.size := by rw [hw6]; simp [World.setCell]
    rw [← hw6]
    clear hw6 c9 c10 c11 c12 f9 f10 f11 f12
    obtain ⟨w7, hw7⟩ : ∃ w7, w7 = w6.setCell ⟨W.heap.size, 16, none⟩ (.slice none 0 0) := ⟨_, rfl⟩
    have hk7 : ∀ k, k ≠ W.heap.size → w7.heap[k]? = w5.heap[k]? := fun k hk => by
      rw [hw7]; exact (Below.heap_setCell _ ⟨W.heap.size, 16, none⟩ _ k hk).trans (hk6 k hk)
    have hs7 : w7.heap.size = w5.heap.size := by rw [hw7]; simp [World.setCell]; exact hs6
    have hm0 : MkN 31 (W.heap.size + 2) w7 W.heap.size f (.slice aM1 f.m.length cM1) (.slice aG1 f.gn.length cG1) (.slice aX1 f.xn.length cX1) (.slice aI1 f.incl.length cI1) (.slice none 0 0) .nil [] := by
      have hkp : Keeps w5 w7 (From (W.heap.size + 2)) (Off (W.heap.size + 2) (.slice none 0 0) W.heap.size) := fun b hb _ => by
        have hb' : W.heap.size + 2 ≤ b := hb
        exact ⟨hk7 b (by omega), hb', by simp [Value.ownBlock], by omega⟩
      refine ⟨by rw [hw7, blk_set hS6 16 _]; rfl, World.ownsRow_nil _ _ _ _, by simp [Value.ownBlock], ⟨HRM5.out.keep (by decide) hkp, HRG5.out.keep (by decide) hkp, HRX5.out.keep (by decide) hkp, HRI5.out.keep (by decide) hkp⟩, rfl⟩
    have hB7 : Below W.heap.size W w7 := by rw [hw7]; exact hB6.setCell (p := ⟨W.heap.size, 16, none⟩) (Nat.le_refl _) _
    have hT7 := (hk7 (W.heap.size + 1) (by omega)).trans HT5.out
    have c16 := blk_cell hS6 16
    have f16 := blk_frozen hS6 16
    have HM0 := Lib.hid hm0; have HB7 := Lib.hid hB7; have HT7 := Lib.hid hT7
    replace hw7 := hw7.symm
    clear hk6 hS6 hB6 hk7 hm0 hB7 hT7 HRM5 HRG5 HRX5 HRI5 HT5 HB5 HS5
    subst hvK
    go_wp2_with fail
    try rw [hw7]
    clear hw7 c16 f16
    go_loopw [32] (fun i wr => ∃ (k : Nat) (v : Value) (ls : List Value), k ≤ l.len ∧ i = .int .i64 (k : Int) ∧ MkN 31 (W.heap.size + 2) wr W.heap.size f (.slice aM1 f.m.length cM1) (.slice aG1 f.gn.length cG1) (.slice aX1 f.xn.length cX1) (.slice aI1 f.incl.length cI1) v (l.pre k) ls ∧ wr.heap[W.heap.size + 1]? = some (.cells zcl.toArray 31 (0, 0)) ∧ Below W.heap.size W wr) (fun i _ => l.len - (intOf i).toNat)
    case atStart => exact ⟨0, .slice none 0 0, [], Nat.zero_le _, rfl, by rw [Kd.pre_zero]; exact HM0.out, HT7.out, HB7.out⟩
    case round =>
      obtain ⟨k, v, ls, hk, rfl, hm, hgt, hbel⟩ := hrel
      have HM := Lib.hid hm; have Hgt := Lib.hid hgt; have HBel := Lib.hid hbel
      have hmlt := blk_lt hgt
      have hpl := (l.pre k).kids_length
      clear hm hgt hbel HM0 HB7 HT7
      by_cases hkl : k < l.len
      · obtain ⟨b, o, ha, n1, c, hn1, hat, hH1⟩ := kid_at (HL.out.keep (Keeps.below HBel.out)) (HK.out.keep (by decide) (Keeps.below HBel.out)) hkl
        subst ha
        have hps := l.pre_succ k _ hn1
        have ht1 := Kd.tot_kid hn1
        have hSm1 := HSl.out.kid hn1
        have hl1 := hH1.length
        have HAt := Lib.hid hat
        have HOne := Lib.hid hH1.one
        obtain ⟨w4, hw4⟩ : ∃ w4, w4 = (wr.alloc (.cells c.toArray 31)).drew := ⟨_, rfl⟩
        have hb4 : Below wr.heap.size wr w4 := by rw [hw4]; exact ((Below.refl _ _).alloc (Nat.le_refl _) _).drew
        have hs4 : w4.heap.size = wr.heap.size + 1 := by rw [hw4]; exact World.size_alloc _ _
        have HM4 := Lib.hid (HM.out.below hb4)
        have hcell4 : w4.cell? ⟨W.heap.size, 16, none⟩ = some v := HM4.out.c16
        have HCall := Lib.hid (HIH.out n1 (by omega) (by omega) hSm1 w4 c (hH1.below hb4))
        have hrk : w4.rangeAt wr.heap.size 0 c := by
          rw [hw4]
          exact range_blk (t := 31) (fr := (0, 0)) (show (wr.alloc (.cells c.toArray 31)).drew.heap[wr.heap.size]? = _ from blk_new wr _)
        have HV4 : Hid (∀ j, v.ownBlock = some j → W.heap.size + 2 ≤ j ∧ j < wr.heap.size) := Lib.hid HM.out.own.lt
        have HPs := Lib.hid hps
        have hN : (l.pre k).len ≤ 100000 := by
          have h1 := (l.pre k).len_tot
          have h2 := l.tot_pre k
          omega
        have hwr3 : W.heap.size + 2 ≤ wr.heap.size := by omega
        obtain ⟨i0, hi0, hz0, hz1, hz2⟩ := info_parts infoNd3
        clear hn1 hat hH1 hps hSm1
        go_wp2_with (first | (with_reducible refine wpList_loadNd rfl _ rfl b (o + k * 17) rfl c HAt.out hl1 ?_) | (with_reducible refine wpList_newNd rfl rfl 5 (.tmp 35) rfl rfl rfl rfl c rfl rfl hl1 HOne.out ?_))
        refine wp_region_held_drew (S := fun w' => w'.rangeAt wr.heap.size 0 c) (by kernel_rfl) (by rw [← hw4]; exact hrk) (fun hHeld => ?_)
        rw [← hw4] at hHeld ⊢
        clear hw4
        refine wpAnyH_take (i := 0) (v := .pointer (some ⟨W.heap.size, 16, none⟩)) rfl (by kernel_rfl) (by kernel_rfl) (by kernel_rfl) (fun _ _ _ h => h) (Or.inl ⟨by rfl, fun w hSw => by go_simp⟩) hHeld ?_
        try simp only [Act.put, List.getElem_toArray, List.getElem_cons_zero, List.setIfInBounds_toArray, List.set_cons_zero, List.set_cons_succ]
        refine wpAnyH_take (i := 2) (v := .agg c.toArray) rfl (by kernel_rfl) (by kernel_rfl) (by kernel_rfl) (fun _ _ _ h => h) (yieldsIf_load_mid (by rfl) 31 (.tmp 5) rfl wr.heap.size 0 rfl c _ (fun w hw => hw) Tryz.underlying31 rfl (by rw [sizeNd, hl1])) hHeld ?_
        try simp only [Act.put, List.getElem_toArray, List.getElem_cons_zero, List.getElem_cons_succ, List.setIfInBounds_toArray, List.set_cons_zero, List.set_cons_succ]
        refine wpAnyH_ready (rs := [1, 3]) (by kernel_rfl) (by simp) (AllReadyH.cons rfl (fun K' hK' => ?_) (AllReadyH.cons rfl (fun K' hK' => ?_) AllReadyH.nil))
        · rw [if_pos (by rfl)]
          go_simp
          refine hK'.out _ _ hHeld (fun hHeld => ?_)
          clear hK' K'
          try simp only [Act.put, List.getElem_toArray, List.getElem_cons_zero, List.getElem_cons_succ, List.setIfInBounds_toArray, List.set_cons_zero, List.set_cons_succ]
          refine wpAnyH_ready (rs := [3]) (by kernel_rfl) (by simp) (AllReadyH.cons rfl (fun K' hK' => ?_) AllReadyH.nil)
          rw [if_pos (by rfl)]
          go_simp
          go_at_call 39
          refine HCall.out.mono ?_
          rintro q w8 ⟨c2, rfl, hN7, hb7⟩
          have hM7 := HM4.out.below hb7
          have hcell7 := hM7.c16
          have hlen7 := hN7.length
          have HOne7 := Lib.hid hN7.one
          have HS7 := Lib.hid (range_keep hHeld fun h => hb7.block _ h)
          have HN7 := Lib.hid hN7
          have HM7 := Lib.hid hM7
          have HB7 := Lib.hid hb7
          clear hN7 hM7 hb7
          refine hK'.out _ _ HS7.out (fun hHeld => ?_)
          clear hK' K'
          try simp only [Act.put, List.getElem_toArray, List.getElem_cons_zero, List.getElem_cons_succ, List.setIfInBounds_toArray, List.set_cons_zero, List.set_cons_succ]
          refine wpAnyH_ready (rs := [4]) (by kernel_rfl) (by simp) (AllReadyH.cons rfl (fun K' hK' => ?_) AllReadyH.nil)
          refine step_slice1 (by rfl) 29 31 17 _ (.tmp 39) (by rfl) c2.toArray (by rfl) Tryz.underlying29 infoNdS (by decide) (by decide) (by simp [hlen7]) ?_
          have hcell8 : (w8.alloc (.cells c2.toArray 31)).cell? ⟨W.heap.size, 16, none⟩ = some v := (World.cell?_of_block (Below.heap_alloc _ _ _ (blk_lt HM7.out.box))).trans hcell7
          refine hK'.out _ _ (range_keep hHeld fun h => Below.heap_alloc _ _ _ h) (fun hHeld => ?_)
          clear hK' K'
          try simp only [Act.put, List.getElem_toArray, List.getElem_cons_zero, List.getElem_cons_succ, List.setIfInBounds_toArray, List.set_cons_zero, List.set_cons_succ]
          refine wpAnyH_ready (rs := [5]) (by kernel_rfl) (by simp) (AllReadyH.cons rfl (fun K' hK' => ?_) AllReadyH.nil)
          refine step_append_lies _ (by rfl) (.tmp 37) (.tmp 40) 29 (by rfl) (W.heap.size + 2) 31 i0 (.agg zcl.toArray) 17 232 Tryz.underlying29 hi0 hz0 hz1 hz2 (by rfl) (by decide) v (l.pre k).len ls (by rfl) (HM7.out.own.alloc _) ⟨w8.heap.size, 0, none⟩ 1 1 c2 (by rfl) (by rw [hlen7]) (World.news_of_block (cs := c2.toArray) (t := 31) (fr := (0, 0)) (blk_new _ _)) HOne7.out (by decide) (by unfold maxLen; omega) (by omega) (by have := HB7.out.size; simp; omega) (w8.heap.size + 1) (by simp) ?_
          intro gg cap9 w9 hown9 hgrow9 hat9 hlt9
          have hs7 : wr.heap.size + 1 ≤ w8.heap.size := by have := HB7.out.size; omega
          have hbk : ∀ j, j < w8.heap.size → v.ownBlock ≠ some j → w9.heap[j]? = w8.heap[j]? := fun j hj hne => (hgrow9.block j (by simp; omega) (fun e => hne e.symm)).trans (Below.heap_alloc _ _ _ hj)
          have hm9 := hbk W.heap.size (by omega) (fun e => by have := HV4.out _ e; omega)
          have hcell9 : w9.cell? ⟨W.heap.size, 16, none⟩ = some v := (World.cell?_of_block hm9).trans hcell7
          have hf9 : w9.frozen? ⟨W.heap.size, 16, none⟩ = false := (World.frozen?_of_block hm9).trans (blk_frozen HM7.out.box 16)
          have htop9 := hbk (W.heap.size + 1) (by omega) (fun e => by have := HV4.out _ e; omega)
          have hkid9 := hbk wr.heap.size (by omega) (fun e => by have := HV4.out _ e; omega)
          have HS9 := Lib.hid (range_keep HS7.out fun _ => hkid9)
          have HTop9 := Lib.hid htop9
          have HAp := Lib.hid (And.intro hown9 (And.intro hgrow9 (And.intro hat9 hlt9)))
          clear hown9 hgrow9 hat9 hlt9 hm9 htop9 hkid9 hbk
          refine hK'.out _ _ HS9.out (fun hHeld => ?_)
          clear hK' K'
          try simp only [Act.put, List.getElem_toArray, List.getElem_cons_zero, List.getElem_cons_succ, List.setIfInBounds_toArray, List.set_cons_zero, List.set_cons_succ]
          refine wpAnyH_take (i := 6) (v := .pointer (some ⟨W.heap.size, 16, none⟩)) rfl (by kernel_rfl) (by kernel_rfl) (by kernel_rfl) (fun _ _ _ h => h) (Or.inl ⟨by rfl, fun w hSw => by go_simp⟩) hHeld ?_
          try simp only [Act.put, List.getElem_toArray, List.getElem_cons_zero, List.getElem_cons_succ, List.setIfInBounds_toArray, List.set_cons_zero, List.set_cons_succ]
          refine wpAnyH_ready (rs := [7]) (by kernel_rfl) (by simp) (AllReadyH.cons rfl (fun K' hK' => ?_) AllReadyH.nil)
          rw [if_pos (by rfl)]
          go_simp
          refine hK'.out _ _ (range_set hHeld (by omega)) (fun hHeld => ?_)
          clear hK' K'
          refine wpAnyH_done (by kernel_rfl) ?_ _
          go_wp2_with fail
          go_roundw
          case measure => (simp [intOf] <;> omega)
          case rel =>
            obtain ⟨hown9, hgrow9, hat9, hlt9⟩ := HAp.out
            have hM10 := HM7.out.put (N4 := w4.heap.size) (by omega) (fun j hj => by have := (HV4.out j hj).2; omega) HN7.out (by omega) hown9 hgrow9 hat9
            have hbw7 : Below W.heap.size W w8 := HBel.out.trans ((hb4.trans (HB7.out.mono (by omega))).mono HBel.out.size)
            have hbw9 : Below W.heap.size W w9 := (hbw7.alloc hbw7.size _).grown hgrow9 (by simp; omega) (fun j hj => by have := HV4.out j hj; omega)
            refine ⟨k + 1, _, ls ++ c2, by omega, by go_num, by rw [HPs.out]; exact hM10, ?_, hbw9.setCell (p := ⟨W.heap.size, 16, none⟩) (Nat.le_refl _) _⟩
            exact blk_far (HTop9.out.trans ((HB7.out.block _ (by omega)).trans ((hb4.block _ (by omega)).trans Hgt.out))) (by simp) _
        · rw [if_pos (by rfl)]
          go_simp
          go_at_call 39
          refine HCall.out.mono ?_
          rintro q w8 ⟨c2, rfl, hN7, hb7⟩
          have hM7 := HM4.out.below hb7
          have hcell7 := hM7.c16
          have hlen7 := hN7.length
          have HOne7 := Lib.hid hN7.one
          have HS7 := Lib.hid (range_keep hHeld fun h => hb7.block _ h)
          have HN7 := Lib.hid hN7
          have HM7 := Lib.hid hM7
          have HB7 := Lib.hid hb7
          clear hN7 hM7 hb7
          refine hK'.out _ _ HS7.out (fun hHeld => ?_)
          clear hK' K'
          try simp only [Act.put, List.getElem_toArray, List.getElem_cons_zero, List.getElem_cons_succ, List.setIfInBounds_toArray, List.set_cons_zero, List.set_cons_succ]
          refine wpAnyH_ready (rs := [1, 4]) (by kernel_rfl) (by simp) (AllReadyH.cons rfl (fun K' hK' => ?_) (AllReadyH.cons rfl (fun K' hK' => ?_) AllReadyH.nil))
          · rw [if_pos (by rfl)]
            go_simp
            refine hK'.out _ _ hHeld (fun hHeld => ?_)
            clear hK' K'
            try simp only [Act.put, List.getElem_toArray, List.getElem_cons_zero, List.getElem_cons_succ, List.setIfInBounds_toArray, List.set_cons_zero, List.set_cons_succ]
            refine wpAnyH_ready (rs := [4]) (by kernel_rfl) (by simp) (AllReadyH.cons rfl (fun K' hK' => ?_) AllReadyH.nil)
            refine step_slice1 (by rfl) 29 31 17 _ (.tmp 39) (by rfl) c2.toArray (by rfl) Tryz.underlying29 infoNdS (by decide) (by decide) (by simp [hlen7]) ?_
            have hcell8 : (w8.alloc (.cells c2.toArray 31)).cell? ⟨W.heap.size, 16, none⟩ = some v := (World.cell?_of_block (Below.heap_alloc _ _ _ (blk_lt HM7.out.box))).trans hcell7
            refine hK'.out _ _ (range_keep hHeld fun h => Below.heap_alloc _ _ _ h) (fun hHeld => ?_)
            clear hK' K'
            try simp only [Act.put, List.getElem_toArray, List.getElem_cons_zero, List.getElem_cons_succ, List.setIfInBounds_toArray, List.set_cons_zero, List.set_cons_succ]
            refine wpAnyH_ready (rs := [5]) (by kernel_rfl) (by simp) (AllReadyH.cons rfl (fun K' hK' => ?_) AllReadyH.nil)
            refine step_append_lies _ (by rfl) (.tmp 37) (.tmp 40) 29 (by rfl) (W.heap.size + 2) 31 i0 (.agg zcl.toArray) 17 232 Tryz.underlying29 hi0 hz0 hz1 hz2 (by rfl) (by decide) v (l.pre k).len ls (by rfl) (HM7.out.own.alloc _) ⟨w8.heap.size, 0, none⟩ 1 1 c2 (by rfl) (by rw [hlen7]) (World.news_of_block (cs := c2.toArray) (t := 31) (fr := (0, 0)) (blk_new _ _)) HOne7.out (by decide) (by unfold maxLen; omega) (by omega) (by have := HB7.out.size; simp; omega) (w8.heap.size + 1) (by simp) ?_
            intro gg cap9 w9 hown9 hgrow9 hat9 hlt9
            have hs7 : wr.heap.size + 1 ≤ w8.heap.size := by have := HB7.out.size; omega
            have hbk : ∀ j, j < w8.heap.size → v.ownBlock ≠ some j → w9.heap[j]? = w8.heap[j]? := fun j hj hne => (hgrow9.block j (by simp; omega) (fun e => hne e.symm)).trans (Below.heap_alloc _ _ _ hj)
            have hm9 := hbk W.heap.size (by omega) (fun e => by have := HV4.out _ e; omega)
            have hcell9 : w9.cell? ⟨W.heap.size, 16, none⟩ = some v := (World.cell?_of_block hm9).trans hcell7
            have hf9 : w9.frozen? ⟨W.heap.size, 16, none⟩ = false := (World.frozen?_of_block hm9).trans (blk_frozen HM7.out.box 16)
            have htop9 := hbk (W.heap.size + 1) (by omega) (fun e => by have := HV4.out _ e; omega)
            have hkid9 := hbk wr.heap.size (by omega) (fun e => by have := HV4.out _ e; omega)
            have HS9 := Lib.hid (range_keep HS7.out fun _ => hkid9)
            have HTop9 := Lib.hid htop9
            have HAp := Lib.hid (And.intro hown9 (And.intro hgrow9 (And.intro hat9 hlt9)))
            clear hown9 hgrow9 hat9 hlt9 hm9 htop9 hkid9 hbk
            refine hK'.out _ _ HS9.out (fun hHeld => ?_)
            clear hK' K'
            try simp only [Act.put, List.getElem_toArray, List.getElem_cons_zero, List.getElem_cons_succ, List.setIfInBounds_toArray, List.set_cons_zero, List.set_cons_succ]
            refine wpAnyH_take (i := 6) (v := .pointer (some ⟨W.heap.size, 16, none⟩)) rfl (by kernel_rfl) (by kernel_rfl) (by kernel_rfl) (fun _ _ _ h => h) (Or.inl ⟨by rfl, fun w hSw => by go_simp⟩) hHeld ?_
            try simp only [Act.put, List.getElem_toArray, List.getElem_cons_zero, List.getElem_cons_succ, List.setIfInBounds_toArray, List.set_cons_zero, List.set_cons_succ]
            refine wpAnyH_ready (rs := [7]) (by kernel_rfl) (by simp) (AllReadyH.cons rfl (fun K' hK' => ?_) AllReadyH.nil)
            rw [if_pos (by rfl)]
            go_simp
            refine hK'.out _ _ (range_set hHeld (by omega)) (fun hHeld => ?_)
            clear hK' K'
            refine wpAnyH_done (by kernel_rfl) ?_ _
            go_wp2_with fail
            go_roundw
            case measure => (simp [intOf] <;> omega)
            case rel =>
              obtain ⟨hown9, hgrow9, hat9, hlt9⟩ := HAp.out
              have hM10 := HM7.out.put (N4 := w4.heap.size) (by omega) (fun j hj => by have := (HV4.out j hj).2; omega) HN7.out (by omega) hown9 hgrow9 hat9
              have hbw7 : Below W.heap.size W w8 := HBel.out.trans ((hb4.trans (HB7.out.mono (by omega))).mono HBel.out.size)
              have hbw9 : Below W.heap.size W w9 := (hbw7.alloc hbw7.size _).grown hgrow9 (by simp; omega) (fun j hj => by have := HV4.out j hj; omega)
              refine ⟨k + 1, _, ls ++ c2, by omega, by go_num, by rw [HPs.out]; exact hM10, ?_, hbw9.setCell (p := ⟨W.heap.size, 16, none⟩) (Nat.le_refl _) _⟩
              exact blk_far (HTop9.out.trans ((HB7.out.block _ (by omega)).trans ((hb4.block _ (by omega)).trans Hgt.out))) (by simp) _
          · refine step_slice1 (by rfl) 29 31 17 _ (.tmp 39) (by rfl) c2.toArray (by rfl) Tryz.underlying29 infoNdS (by decide) (by decide) (by simp [hlen7]) ?_
            have hcell8 : (w8.alloc (.cells c2.toArray 31)).cell? ⟨W.heap.size, 16, none⟩ = some v := (World.cell?_of_block (Below.heap_alloc _ _ _ (blk_lt HM7.out.box))).trans hcell7
            refine hK'.out _ _ (range_keep hHeld fun h => Below.heap_alloc _ _ _ h) (fun hHeld => ?_)
            clear hK' K'
            try simp only [Act.put, List.getElem_toArray, List.getElem_cons_zero, List.getElem_cons_succ, List.setIfInBounds_toArray, List.set_cons_zero, List.set_cons_succ]
            refine wpAnyH_ready (rs := [1]) (by kernel_rfl) (by simp) (AllReadyH.cons rfl (fun K' hK' => ?_) AllReadyH.nil)
            rw [if_pos (by rfl)]
            go_simp
            refine hK'.out _ _ hHeld (fun hHeld => ?_)
            clear hK' K'
            try simp only [Act.put, List.getElem_toArray, List.getElem_cons_zero, List.getElem_cons_succ, List.setIfInBounds_toArray, List.set_cons_zero, List.set_cons_succ]
            refine wpAnyH_ready (rs := [5]) (by kernel_rfl) (by simp) (AllReadyH.cons rfl (fun K' hK' => ?_) AllReadyH.nil)
            refine step_append_lies _ (by rfl) (.tmp 37) (.tmp 40) 29 (by rfl) (W.heap.size + 2) 31 i0 (.agg zcl.toArray) 17 232 Tryz.underlying29 hi0 hz0 hz1 hz2 (by rfl) (by decide) v (l.pre k).len ls (by rfl) (HM7.out.own.alloc _) ⟨w8.heap.size, 0, none⟩ 1 1 c2 (by rfl) (by rw [hlen7]) (World.news_of_block (cs := c2.toArray) (t := 31) (fr := (0, 0)) (blk_new _ _)) HOne7.out (by decide) (by unfold maxLen; omega) (by omega) (by have := HB7.out.size; simp; omega) (w8.heap.size + 1) (by simp) ?_
            intro gg cap9 w9 hown9 hgrow9 hat9 hlt9
            have hs7 : wr.heap.size + 1 ≤ w8.heap.size := by have := HB7.out.size; omega
            have hbk : ∀ j, j < w8.heap.size → v.ownBlock ≠ some j → w9.heap[j]? = w8.heap[j]? := fun j hj hne => (hgrow9.block j (by simp; omega) (fun e => hne e.symm)).trans (Below.heap_alloc _ _ _ hj)
            have hm9 := hbk W.heap.size (by omega) (fun e => by have := HV4.out _ e; omega)
            have hcell9 : w9.cell? ⟨W.heap.size, 16, none⟩ = some v := (World.cell?_of_block hm9).trans hcell7
            have hf9 : w9.frozen? ⟨W.heap.size, 16, none⟩ = false := (World.frozen?_of_block hm9).trans (blk_frozen HM7.out.box 16)
            have htop9 := hbk (W.heap.size + 1) (by omega) (fun e => by have := HV4.out _ e; omega)
            have hkid9 := hbk wr.heap.size (by omega) (fun e => by have := HV4.out _ e; omega)
            have HS9 := Lib.hid (range_keep HS7.out fun _ => hkid9)
            have HTop9 := Lib.hid htop9
            have HAp := Lib.hid (And.intro hown9 (And.intro hgrow9 (And.intro hat9 hlt9)))
            clear hown9 hgrow9 hat9 hlt9 hm9 htop9 hkid9 hbk
            refine hK'.out _ _ HS9.out (fun hHeld => ?_)
            clear hK' K'
            try simp only [Act.put, List.getElem_toArray, List.getElem_cons_zero, List.getElem_cons_succ, List.setIfInBounds_toArray, List.set_cons_zero, List.set_cons_succ]
            refine wpAnyH_take (i := 6) (v := .pointer (some ⟨W.heap.size, 16, none⟩)) rfl (by kernel_rfl) (by kernel_rfl) (by kernel_rfl) (fun _ _ _ h => h) (Or.inl ⟨by rfl, fun w hSw => by go_simp⟩) hHeld ?_
            try simp only [Act.put, List.getElem_toArray, List.getElem_cons_zero, List.getElem_cons_succ, List.setIfInBounds_toArray, List.set_cons_zero, List.set_cons_succ]
            refine wpAnyH_ready (rs := [7]) (by kernel_rfl) (by simp) (AllReadyH.cons rfl (fun K' hK' => ?_) AllReadyH.nil)
            rw [if_pos (by rfl)]
            go_simp
            refine hK'.out _ _ (range_set hHeld (by omega)) (fun hHeld => ?_)
            clear hK' K'
            refine wpAnyH_done (by kernel_rfl) ?_ _
            go_wp2_with fail
            go_roundw
            case measure => (simp [intOf] <;> omega)
            case rel =>
              obtain ⟨hown9, hgrow9, hat9, hlt9⟩ := HAp.out
              have hM10 := HM7.out.put (N4 := w4.heap.size) (by omega) (fun j hj => by have := (HV4.out j hj).2; omega) HN7.out (by omega) hown9 hgrow9 hat9
              have hbw7 : Below W.heap.size W w8 := HBel.out.trans ((hb4.trans (HB7.out.mono (by omega))).mono HBel.out.size)
              have hbw9 : Below W.heap.size W w9 := (hbw7.alloc hbw7.size _).grown hgrow9 (by simp; omega) (fun j hj => by have := HV4.out j hj; omega)
              refine ⟨k + 1, _, ls ++ c2, by omega, by go_num, by rw [HPs.out]; exact hM10, ?_, hbw9.setCell (p := ⟨W.heap.size, 16, none⟩) (Nat.le_refl _) _⟩
              exact blk_far (HTop9.out.trans ((HB7.out.block _ (by omega)).trans ((hb4.block _ (by omega)).trans Hgt.out))) (by simp) _
      · have hz : l.pre k = l := l.pre_ge k (by omega)
        rw [hz] at HM
        have hlc : (ncl f (.slice aM1 f.m.length cM1) (.slice aG1 f.gn.length cG1) (.slice aX1 f.xn.length cX1) (.slice aI1 f.incl.length cI1) v).length = 17 := rfl
        have HLc2 := Lib.hid hlc
        obtain ⟨av, cv, hv⟩ := own_any HM.out.own
        have hone : ∀ u ∈ ncl f (.slice aM1 f.m.length cM1) (.slice aG1 f.gn.length cG1) (.slice aX1 f.xn.length cX1) (.slice aI1 f.incl.length cI1) v, u.oneCell' = true := by
          subst hv
          intro u hu
          simp only [ncl, List.mem_cons, List.not_mem_nil, or_false] at hu
          rcases hu with rfl | rfl | rfl | rfl | rfl | rfl | rfl | rfl | rfl | rfl | rfl | rfl | rfl | rfl | rfl | rfl | rfl
          all_goals rfl
        have HOne2 := Lib.hid hone
        clear hone hlc hv
        go_wp2_with (first | (with_reducible refine wpList_loadNd rfl _ rfl W.heap.size 0 rfl (ncl f (.slice aM1 f.m.length cM1) (.slice aG1 f.gn.length cG1) (.slice aX1 f.xn.length cX1) (.slice aI1 f.incl.length cI1) v) (range_blk HM.out.box) HLc2.out ?_) | (with_reducible refine wpList_setNd rfl _ _ rfl (W.heap.size + 1) zcl (ncl f (.slice aM1 f.m.length cM1) (.slice aG1 f.gn.length cG1) (.slice aX1 f.xn.length cX1) (.slice aI1 f.incl.length cI1) v) Hgt.out rfl rfl rfl HLc2.out HOne2.out ?_))
        refine bodyPost_ret_by (results_cell_row (p := 2) (ty := 31) rfl _ _ (W.heap.size + 1) 31 _ (0, 0) _ rfl (setRow_heap _ _ _ _ _ _ Hgt.out) Tryz.underlying31 rfl (by rw [sizeNd]; rfl)) rfl ?_
        exact ⟨_, rfl, Nd.Held.keep (Keeps.from (by omega) fun b _ _ => rfl) _ (HM.out.done fun b hb hlt _ => setRow_other _ _ _ _ (by omega)), below_row HBel.out (by omega) _⟩
end Go.Proofs.YtnbgigdloehbjaaGreatDoor.Ir
namespace Go.Proofs.YtnbgigdloehbjaaGreatDoor.Rng
open Go Go.RowKit
variable {F : Fence} {n : Nat} {P : Program}

/-- What the iterator promises: it yields, one behind the other, values of which G holds; between two rounds it lays new blocks alone. -/
def Gives {α : Type} (F : Fence) (n : Nat) (P : Program) (g : Nat) (lb : Array Value) (k : Nat) (G : Nat → List α → α → Array Value → World → Prop) (Kp : Nat → World → World → Prop) (Done Part : List α → Prop) (w : World) : Prop :=
  ∀ (l : Nat) (J Jx : List α → World → Prop) (W : World), Below w.heap.size w W → w.heap.size ≤ l → l < W.heap.size →
    (∀ s A B, J s A → Below A.heap.size A B → J s B) → (∀ s A B, Jx s A → Below A.heap.size A B → Jx s B) →
    (∀ m pre x args W1, J pre W1 → args.size = k → G l pre x args W1 → YieldAt F m P l args W1 fun e W' =>
      (e = .returned (.bool true) ∧ J (pre ++ [x]) W' ∧ Kp l W1 W') ∨ (e = .returned (.bool false) ∧ Jx (pre ++ [x]) W')) →
    J [] W →
    CallsIn F n P g (#[.func (.yield l) #[] #[]] ++ lb) W fun e W' => (∃ v, e = .returned v) ∧ ((∃ xs, Done xs ∧ J xs W') ∨ (∃ pre, Part pre ∧ Jx pre W'))
theorem grown_of_below {A B : World} (h : Below A.heap.size A B) : A.grownBy B none := ⟨h.os, h.tape, h.output, h.size, fun k hk _ => h.block k hk⟩
theorem own_below_step {β : Type} {B : Nat} {I : β → World → Prop} (h : OwnFrom B I) {s : β} {W W1 : World} (hs : I s W) (hb : Below W.heap.size W W1) : I s W1 :=
  h s W W1 none hs (grown_of_below hb) (fun r e => by cases e)
/-- The law. -/
theorem wpIn_range {α : Type} {g : Operand} {ps : Array Tmp} {assign body : Code} {Q : Exit → Act → World → Prop} {a : Act} {w : World}
    (hro : F.round = none) (h1 : F.depth.isSome = true → 1 ≤ n) {gf : Nat} {lb : Array Value} (hg : a.eval g = .func (.func gf) #[] lb) (hFg : F.fn gf) (eg : ∀ args w, (callFunc gf args).run P w = .ok (.enter gf args) w)
    {G : Nat → List α → α → Array Value → World → Prop} {Kp : Nat → World → World → Prop} {Done Part : List α → Prop} (hseq : Gives F (n - 1) P gf lb ps.size G Kp Done Part w)
    (hKt : ∀ {l : Nat} {A B C : World}, Kp l A B → Kp l B C → Kp l A C) (hKb : ∀ (W : World) (l : Nat) (o' : Obj), Kp l W (W.putObj l o'))
    (I : List α → World → Prop) (Ix : Code → List α → World → Prop) (hI : OwnFrom w.heap.size I) (hIx : ∀ c, OwnFrom w.heap.size (Ix c)) (h0 : I [] w)
    (Ax : Nat → List α → α → Act → World → Prop) (hAx : ∀ l pre x a₁ (W : World) (o' : Obj), Ax l pre x a₁ W → Ax l pre x a₁ (W.putObj l o'))
    (hassign : ∀ (l m : Nat) (pre : List α) (x : α) (args : Array Value) (W : World) (K : Act → World → Prop), I pre W → w.heap.size ≤ l → l < W.heap.size → args.size = ps.size → G l pre x args W → (∀ a₁ W1, KeepsFrom w.heap.size W W1 → Kp l W W1 → I pre W1 → Ax l pre x a₁ W1 → K a₁ W1) →
      assign.wpIn (F.inRound l) m P (Exit.then K (fun _ _ _ => False)) { tmps := (ps.zip args).foldl (fun t (p, v) => t.setIfInBounds p v) a.tmps, defers := [] } W)
    (hbody : ∀ (l m : Nat) (pre : List α) (x : α) (a₁ : Act) (W : World), I pre W → Ax l pre x a₁ W → body.wpIn (F.inRound l) m P (ownPostG w.heap.size (Kp l) I Ix (pre ++ [x]) W) a₁ W)
    (hdone : ∀ (D : Nat) (xs : List α) (W : World), w.heap.size ≤ D → Done xs → I xs W → W.heap[D]? = some (.deferred (some [])) → Q .normal { a with defers := { target := .collected D, args := #[] } :: a.defers } W)
    (hstop : ∀ (D : Nat) (c : Code) (pre : List α) (W : World), w.heap.size ≤ D → Part pre → Ix c pre W → W.heap[D]? = some (.deferred (some [])) → c.wpIn F n P Q { a with defers := { target := .collected D, args := #[] } :: a.defers } W) :
    (Code.rangeFunc g ps assign body).wpIn F n P Q a w := by
  refine wpIn_rangeFunc ?_
  intro fn hfn
  rw [hro]
  obtain ⟨rec, hrec⟩ : ∃ rec : LoopState → Option Code → Loop, rec = fun st pe => { state := st, pending := pe, fn, tmps := a.tmps, params := ps, assign, body, defers := w.heap.size } := ⟨_, rfl⟩
  obtain ⟨W1, hW1⟩ : ∃ W1, (w.alloc (.deferred (some []))).alloc (.loop (rec .ready none)) = W1 := ⟨_, rfl⟩
  have hL1 : W1.heap[w.heap.size + 1]? = some (.loop (rec .ready none)) := by
    rw [← hW1]; have := World.alloc_heap_new (w.alloc (.deferred (some []))) (.loop (rec .ready none)); rwa [World.size_alloc] at this
  have hK1 : W1.heap[w.heap.size]? = some (.deferred (some [])) := by
    rw [← hW1]; exact (Below.heap_alloc _ _ _ (by simp)).trans (World.alloc_heap_new w _)
  have hI1 : I [] W1 := by rw [← hW1]; exact hI.alloc _ (hI.alloc _ h0)
  have hb1 : Below w.heap.size w W1 := by
    rw [← hW1]; exact (((Below.refl _ w).alloc (Nat.le_refl _) _).alloc (by simp) _)
  refine ⟨w.heap.size + 1, [{ target := .collected w.heap.size, args := #[] }], W1, { target := .fn (.func gf) lb, args := #[.func (.yield (w.heap.size + 1)) #[] #[]] }, W1, gf,
    #[.func (.yield (w.heap.size + 1)) #[] #[]] ++ lb, W1, ?_, ?_, ?_, ?_, h1, ?_⟩
  · rw [← hW1, hrec]; exact run_enterLoop_outer _ _ _ _ _
  · simp only [resolve, hg]
    simp [go_sem]
  · intro f' hf'; simp [Target.leads] at hf'; subst hf'; exact hFg
  · simp [invoke, go_sem, eg]
  · refine (hseq (w.heap.size + 1)
      (fun pre W => I pre W ∧ W.heap[w.heap.size + 1]? = some (.loop (rec .ready none)) ∧ W.heap[w.heap.size]? = some (.deferred (some [])))
      (fun pre W => ∃ c, Ix c pre W ∧ W.heap[w.heap.size + 1]? = some (.loop (rec .done (some c))) ∧ W.heap[w.heap.size]? = some (.deferred (some [])))
      W1 hb1 (by omega) (by rw [← hW1]; simp)
      (fun s A B hs hb => ⟨own_below_step hI hs.1 hb, (hb.block _ (Array.getElem?_eq_some_iff.1 hs.2.1).1).trans hs.2.1, (hb.block _ (Array.getElem?_eq_some_iff.1 hs.2.2).1).trans hs.2.2⟩)
      (fun s A B hs hb => by
        obtain ⟨c, hc, hl, hk⟩ := hs
        exact ⟨c, own_below_step (hIx c) hc hb, (hb.block _ (Array.getElem?_eq_some_iff.1 hl).1).trans hl, (hb.block _ (Array.getElem?_eq_some_iff.1 hk).1).trans hk⟩)
      ?_ ⟨hI1, hL1, hK1⟩).mono ?_
    · rintro m pre x args W ⟨hi, hl, hk⟩ hsz hG
      have hlt : w.heap.size + 1 < W.heap.size := (Array.getElem?_eq_some_iff.1 hl).1
      have hy := run_yield (P := P) (args := args) hl (by rw [hrec]; exact hsz)
      rw [hrec] at hy
      refine ⟨fn, _, assign, body, hy, roundIn_of_wpIn hfn (hassign _ m pre x args W _ hi (by omega) (by omega) hsz hG fun a₁ V hkf hkp hiV hax => ?_)⟩
      have hlV := hkf.same _ _ (by omega) hl rfl
      have hkV := hkf.same _ _ (Nat.le_refl _) hk rfl
      have hltV := (Array.getElem?_eq_some_iff.1 hlV).1
      refine ⟨_, run_beginRound hlV (by rw [hrec]), ?_⟩
      have hl2 : (V.putObj (w.heap.size + 1) (.loop { rec .ready none with state := .busy })).heap[w.heap.size + 1]? = some (.loop { rec .ready none with state := .busy }) := World.putObj_heap_same hltV
      have hk2 : (V.putObj (w.heap.size + 1) (.loop { rec .ready none with state := .busy })).heap[w.heap.size]? = some (.deferred (some [])) := (World.putObj_heap_other (by omega)).trans hkV
      have hw2 : Kp _ W (V.putObj (w.heap.size + 1) (.loop { rec .ready none with state := .busy })) := hKt hkp (hKb _ _ _)
      refine wpIn_mono (hbody _ m pre x a₁ _ (hI.putObj _ hiV (by omega) hlV rfl) (hAx _ _ _ _ _ _ hax)) ?_
      have fin : ∀ (jump : Option Code) (W3 : World), KeepsFrom w.heap.size (V.putObj (w.heap.size + 1) (.loop { rec .ready none with state := .busy })) W3 →
          (Instr.endRound (w.heap.size + 1) jump).run P W3 = .ok (.bool jump.isNone) (W3.putObj (w.heap.size + 1) (.loop (rec (if jump.isNone then .ready else .done) jump))) ∧
          W3.heap[w.heap.size + 1]? = some (.loop { rec .ready none with state := .busy }) ∧
          (W3.putObj (w.heap.size + 1) (.loop (rec (if jump.isNone then .ready else .done) jump))).heap[w.heap.size + 1]? = some (.loop (rec (if jump.isNone then .ready else .done) jump)) ∧
          (W3.putObj (w.heap.size + 1) (.loop (rec (if jump.isNone then .ready else .done) jump))).heap[w.heap.size]? = some (.deferred (some [])) := fun jump W3 hk3 => by
        have hl3 := hk3.same _ _ (by omega) hl2 rfl
        have := run_endRound (P := P) jump hl3
        rw [hrec] at this ⊢
        exact ⟨this, by rw [hrec] at hl3; exact hl3, World.putObj_heap_same (Array.getElem?_eq_some_iff.1 hl3).1, (World.putObj_heap_other (by omega)).trans (hk3.same _ _ (Nat.le_refl _) hk2 rfl)⟩
      rintro e a3 W3 hp
      cases e with
      | normal =>
        obtain ⟨hk3, hkp3, hi3⟩ := hp
        obtain ⟨hr, hl3, hl4, hk4⟩ := fin none W3 hk3
        exact ⟨_, _, hr, .inl ⟨rfl, ⟨hI.putObj _ hi3 (by omega) hl3 rfl, hl4, hk4⟩, hKt (hKt hw2 hkp3) (hKb _ _ _)⟩⟩
      | ret =>
        obtain ⟨hk3, hi3⟩ := hp
        obtain ⟨hr, hl3, hl4, hk4⟩ := fin (some .ret) W3 hk3
        exact ⟨_, _, hr, .inr ⟨rfl, .ret, (hIx _).putObj _ hi3 (by omega) hl3 rfl, hl4, hk4⟩⟩
      | exit id =>
        obtain ⟨hk3, hi3⟩ := hp
        obtain ⟨hr, hl3, hl4, hk4⟩ := fin (some (.exit id)) W3 hk3
        exact ⟨_, _, hr, .inr ⟨rfl, .exit id, (hIx _).putObj _ hi3 (by omega) hl3 rfl, hl4, hk4⟩⟩
      | goto t =>
        obtain ⟨hk3, hi3⟩ := hp
        obtain ⟨hr, hl3, hl4, hk4⟩ := fin (some (.goto t)) W3 hk3
        exact ⟨_, _, hr, .inr ⟨rfl, .goto t, (hIx _).putObj _ hi3 (by omega) hl3 rfl, hl4, hk4⟩⟩
      | panic ch => exact hp.elim
      | outgrown => exact hp.elim
    · rintro e W2 ⟨⟨v, rfl⟩, (⟨xs, hS, hi, hl, hk⟩ | ⟨pre, hSp, c, hi, hl, hk⟩)⟩
      · exact ⟨none, _, by have := run_endLoop (P := P) hl (by rw [hrec]; simp); rw [hrec] at this; exact this, hdone _ xs _ (Nat.le_refl _) hS (hI.putObj _ hi (by omega) hl rfl) ((World.putObj_heap_other (by omega)).trans hk)⟩
      · exact ⟨some c, _, by have := run_endLoop (P := P) hl (by rw [hrec]; simp); rw [hrec] at this; exact this, hstop _ c pre _ (Nat.le_refl _) hSp ((hIx c).putObj _ hi (by omega) hl rfl) ((World.putObj_heap_other (by omega)).trans hk)⟩
end Go.Proofs.YtnbgigdloehbjaaGreatDoor.Rng
namespace Go.Proofs.YtnbgigdloehbjaaGreatDoor.Ir
open Go Go.RowKit Go.Proofs.YtnbgigdloehbjaaGreatDoor.Rg Go.Proofs.YtnbgigdloehbjaaGreatDoor.Ma
set_option maxHeartbeats 8000000
set_option maxRecDepth 100000

mutual
/-- All nodes, kids first, with their depths. -/
def Nd.lst : Nd → Nat → List (Nat × Nd)
  | .mk f l, d => l.lsts (d + 1) ++ [(d, .mk f l)]
def Kd.lsts : Kd → Nat → List (Nat × Nd)
  | .nil, _ => []
  | .snoc l n, d => l.lsts d ++ n.lst d
end
mutual
theorem Nd.lst_len : ∀ (n : Nd) (d : Nat), (n.lst d).length = n.tot
  | .mk f l, d => by rw [Nd.lst, List.length_append, l.lsts_len, Nd.tot]; simp; omega
theorem Kd.lsts_len : ∀ (l : Kd) (d : Nat), (l.lsts d).length = l.tot
  | .nil, d => rfl
  | .snoc l n, d => by rw [Kd.lsts, List.length_append, l.lsts_len, n.lst_len, Kd.tot]
end
/-- Rows of a depth and a node. -/
def RowsH (W : World) (F : Nat → Prop) : List (Nat × Nd) → List Value → Prop
  | [], cs => cs = []
  | (d, n) :: r, cs => ∃ c rest, cs = (.int .i64 (d : Int) :: c) ++ rest ∧ n.Held W F c ∧ RowsH W F r rest
theorem RowsH.app {W : World} {F : Nat → Prop} : ∀ {a : List (Nat × Nd)} {b : List (Nat × Nd)} {x y : List Value}, RowsH W F a x → RowsH W F b y → RowsH W F (a ++ b) (x ++ y)
  | [], b, x, y, hx, hy => by
    have : x = [] := hx
    subst this
    exact hy
  | (d, n) :: r, b, x, y, hx, hy => by
    obtain ⟨c, rest, hc, hn, hr⟩ := hx
    exact ⟨c, rest ++ y, by rw [hc, List.append_assoc], hn, RowsH.app hr hy⟩
theorem RowsH.keep {W W1 : World} {F F1 : Nat → Prop} (hk : Keeps W W1 F F1) : ∀ {a : List (Nat × Nd)} {x : List Value}, RowsH W F a x → RowsH W1 F1 a x
  | [], _, h => h
  | (_, n) :: _, _, ⟨c, rest, hc, hn, hr⟩ => ⟨c, rest, hc, Nd.Held.keep hk n hn, RowsH.keep hk hr⟩
theorem RowsH.length {W : World} {F : Nat → Prop} : ∀ {a : List (Nat × Nd)} {x : List Value}, RowsH W F a x → x.length = a.length * 18
  | [], x, h => by rw [show x = [] from h]; rfl
  | (_, n) :: r, x, ⟨c, rest, hc, hn, hr⟩ => by
    have h1 := hn.length
    have h2 := RowsH.length hr
    rw [hc, List.length_append, List.length_cons, h1, h2, List.length_cons]; omega
theorem RowsH.one {W : World} {F : Nat → Prop} {n : Nd} {c : List Value} (d : Nat) (h : n.Held W F c) : RowsH W F [(d, n)] (.int .i64 (d : Int) :: c) := ⟨c, [], by simp, h, rfl⟩
/-- One of the rows. -/
theorem RowsH.at {W : World} {F : Nat → Prop} : ∀ {a : List (Nat × Nd)} {x : List Value} {i d : Nat} {n : Nd}, RowsH W F a x → a[i]? = some (d, n) → x[i * 18]? = some (.int .i64 (d : Int)) ∧ ∃ c, n.Held W F c ∧ ∀ j v, c[j]? = some v → x[i * 18 + 1 + j]? = some v
  | [], x, i, d, n, _, hi => by simp at hi
  | (d', n') :: r, x, 0, d, n, ⟨c, rest, hc, hn, hr⟩, hi => by
    simp at hi
    obtain ⟨rfl, rfl⟩ := hi
    subst hc
    refine ⟨rfl, c, hn, fun j v hj => ?_⟩
    have hlt := (List.getElem?_eq_some_iff.1 hj).1
    rw [List.getElem?_append_left (by simp; omega), show 0 * 18 + 1 + j = j + 1 by omega]
    exact hj
  | (d', n') :: r, x, i + 1, d, n, ⟨c, rest, hc, hn, hr⟩, hi => by
    obtain ⟨h1, c', h2, h3⟩ := RowsH.at hr (by simpa using hi)
    have hl := hn.length
    have key : ∀ j, x[(i + 1) * 18 + j]? = rest[i * 18 + j]? := fun j => by
      rw [hc, List.getElem?_append_right (by simp [hl]; omega)]
      congr 1
      simp [hl]; omega
    refine ⟨by have := key 0; rw [Nat.add_zero, Nat.add_zero] at this; rw [this]; exact h1, c', h2, fun j v hj => ?_⟩
    rw [Nat.add_assoc, key, ← Nat.add_assoc]
    exact h3 j v hj
theorem infoRow : (Tryz.prog.info? 54).map (fun i => (i.zero, i.size, i.bytes)) = some (some (.agg (.int .i64 0 :: zcl).toArray), 18, 240) := by kernel_rfl
theorem infoRowS : (Tryz.prog.info? 54).map (fun i => (i.zero, i.size)) = some (some (.agg (.int .i64 0 :: zcl).toArray), 18) := by kernel_rfl
def rowPlaces : Array (Nat × Nat) := #[(0, 1), (1, 17)]
theorem builtRow (parts : List (Nat × Value)) : Tryz.prog.built 54 parts = Instr.fill (rowPlaces[·]?) (Value.int .i64 0 :: zcl).toArray parts := by kernel_rfl
theorem fill_cell (place : Nat → Option (Nat × Nat)) (cells : Array Value) (i off : Nat) (v : Value) (rest : List (Nat × Value)) (hp : place i = some (off, 1)) (hv : v.cells = #[v]) (ho : off + 1 ≤ cells.size) :
    Instr.fill place cells ((i, v) :: rest) = Instr.fill place (cells.setIfInBounds off v) rest := by
  rw [Instr.fill]
  simp only [hp, hv]
  rw [if_neg (by simp; omega)]
  simp
theorem fill_part (place : Nat → Option (Nat × Nat)) (cells : Array Value) (i off : Nat) (cs r : Array Value) (rest : List (Nat × Value)) (hp : place i = some (off, cs.size)) (ho : off + cs.size ≤ cells.size)
    (hr : ∀ k, (if off ≤ k ∧ k < off + cs.size then cs[k - off]? else cells[k]?) = r[k]?) : Instr.fill place cells ((i, .agg cs) :: rest) = Instr.fill place r rest := by
  rw [Instr.fill]
  simp only [hp]
  rw [if_neg (by simp [Value.cells]; omega)]
  show Instr.fill place (cs.zipIdx.foldl (fun cs' (x : Value × Nat) => cs'.setIfInBounds (off + x.2) x.1) cells) rest = Instr.fill place r rest
  congr 1
  obtain ⟨g1, g2⟩ := Great.foldl_set off cs.toList 0 cells
  have e : cs.zipIdx.foldl (fun cs' (x : Value × Nat) => cs'.setIfInBounds (off + x.2) x.1) cells = (cs.toList.zipIdx 0).foldl (fun cs' (x : Value × Nat) => cs'.setIfInBounds (off + x.2) x.1) cells := by
    rw [← Array.foldl_toList]; simp
  apply Array.ext_getElem?
  intro k
  rw [← hr k]
  have := g2 k
  rw [← e] at this
  rw [this]
  simp only [Nat.add_zero, Array.length_toList]
  by_cases hk : off ≤ k ∧ k < off + cs.size
  · rw [if_pos hk, if_pos ⟨hk.1, hk.2, by omega⟩]; simp
  · rw [if_neg hk, if_neg (by omega)]
theorem built_row (d : Int) (c : List Value) (hl : c.length = 17) : Tryz.prog.built 54 [(0, .int .i64 d), (1, .agg c.toArray)] = some (Value.int .i64 d :: c).toArray := by
  have hz : (zcl.length : Nat) = 17 := rfl
  rw [builtRow, fill_cell _ _ 0 0 _ _ rfl rfl (by simp), List.setIfInBounds_toArray, List.set_cons_zero, fill_part _ _ 1 1 _ (Value.int .i64 d :: c).toArray [] (by rw [List.size_toArray, hl]; rfl) (by simp [hl, hz]) (fun k => ?_)]
  · rfl
  · simp only [List.size_toArray, hl, List.getElem?_toArray]
    cases k with
    | zero => simp
    | succ k =>
      rw [List.getElem?_cons_succ, List.getElem?_cons_succ]
      by_cases hk : k < 17
      · rw [if_pos (by omega), show k + 1 - 1 = k by omega]
      · rw [if_neg (by omega), List.getElem?_eq_none (by omega), List.getElem?_eq_none (by omega)]
theorem wpList_buildRow {ops : Array Oper} {rest : List Oper} {o : Oper} {a : Act} {w : World} {Q : Exit → Act → World → Prop} (hg : o.guard = none) (x y : Operand) (ho : o.op = .build 54 #[(0, x), (1, y)]) (d : Int) (c : List Value) (hx : a.eval x = .int .i64 d) (hy : a.eval y = .agg c.toArray) (hl : c.length = 17)
    (h : wpList Tryz.prog ops Q rest (a.put o.dst (.agg (Value.int .i64 d :: c).toArray)) w) : wpList Tryz.prog ops Q (o :: rest) a w := by
  have e : Tryz.prog.built 54 ((#[(0, x), (1, y)] : Array (Nat × Operand)).map fun (i, x) => (i, a.eval x)).toList = some (Value.int .i64 d :: c).toArray := by
    rw [show ((#[(0, x), (1, y)] : Array (Nat × Operand)).map fun (i, x) => (i, a.eval x)).toList = [(0, a.eval x), (1, a.eval y)] by simp, hx, hy]
    exact built_row d c hl
  refine wpList_build hg 54 #[(0, x), (1, y)] ho (by rw [e]; rfl) ?_
  rw [e]
  exact h
theorem wpList_sliceRow {ops : Array Oper} {rest : List Oper} {op : Oper} {a : Act} {w : World} {Q : Exit → Act → World → Prop} (hgd : op.guard = none) (x : Operand) (ho : op.op = .buildSlice 39 1 #[(0, x)])
    (c : List Value) (hx : a.eval x = .agg c.toArray) (hl : c.length = 18) (h : wpList Tryz.prog ops Q rest (a.put op.dst (.slice (some ⟨w.heap.size, 0, none⟩) 1 1)) (w.alloc (.cells c.toArray 54))) : wpList Tryz.prog ops Q (op :: rest) a w :=
  wpList_plain hgd fun _ hK => Sl.wp_slice1 39 54 18 _ x ho c.toArray hx Tryz.underlying39 infoRowS (by decide) (by decide) (by simp [hl]) (hK _ _ h)
/-- Rows behind rows: what has turned, what lies there. -/
structure LP (base K : Nat) (W W' : World) (v v' : Value) (rs : List (Nat × Nd)) (xs : List Value) : Prop where
  own : W'.ownsRow base 54 18 v' rs.length xs
  rows : RowsH W' (fun b => b < K) rs xs
  far : W.grownBy W' v.ownBlock
  new : ∀ g, v'.ownBlock = some g → v.ownBlock = some g ∨ W.heap.size ≤ g
theorem LP.trans {base K : Nat} {W W1 W2 : World} {v v1 v2 : Value} {rs rs2 : List (Nat × Nd)} {xs xs2 : List Value} (h1 : LP base K W W1 v v1 rs xs) (h2 : LP base K W1 W2 v1 v2 rs2 xs2) : LP base K W W2 v v2 rs2 xs2 := by
  have hs := h1.far.size
  refine ⟨h2.own, h2.rows, ⟨h2.far.os.trans h1.far.os, h2.far.tape.trans h1.far.tape, h2.far.output.trans h1.far.output, Nat.le_trans hs h2.far.size, fun k hk hne => ?_⟩, fun g hg => ?_⟩
  · refine (h2.far.block k (by omega) fun e => ?_).trans (h1.far.block k hk hne)
    rcases h1.new k e.symm with h | h
    · exact hne h.symm
    · omega
  · rcases h2.new g hg with h | h
    · exact h1.new g h
    · exact .inr (by omega)
theorem LP.keep {base K : Nat} {W W1 : World} {v v1 : Value} {rs : List (Nat × Nd)} {xs : List Value} (h : LP base K W W1 v v1 rs xs) (hb : ∀ k, v.ownBlock = some k → base ≤ k) (hK : K ≤ base) : Keeps W W1 (fun b => b < K) (fun b => b < K) := fun b hF hlt =>
  ⟨h.far.block b hlt fun e => by have := hb b e.symm; omega, hF⟩
def RetL (base K : Nat) (v : Value) (rs : List (Nat × Nd)) (W : World) (e : Ending) (W' : World) : Prop := ∃ v' xs', e = .returned v' ∧ LP base K W W' v v' rs xs'
end Go.Proofs.YtnbgigdloehbjaaGreatDoor.Ir
namespace Go.Proofs.YtnbgigdloehbjaaGreatDoor.Ir
open Go Go.RowKit Go.Proofs.YtnbgigdloehbjaaGreatDoor.Rg Go.Proofs.YtnbgigdloehbjaaGreatDoor.Ma
set_option maxHeartbeats 8000000
set_option maxRecDepth 100000

theorem list_calls : ∀ (N : Nat) (n : Nd), n.tot ≤ N → N ≤ 1000 → ∀ (K base : Nat), K ≤ base → ∀ (W : World) (c : List Value) (v : Value) (rs : List (Nat × Nd)) (xs : List Value) (d : Nat), base ≤ W.heap.size → n.Held W (fun b => b < K) c → W.ownsRow base 54 18 v rs.length xs → RowsH W (fun b => b < K) rs xs →
    rs.length + n.tot ≤ 2000 → d + n.tot ≤ 2000 → Calls Tryz.prog 10 #[.agg c.toArray, .int .i64 (d : Int), v] W (RetL base K v (rs ++ n.lst d) W) := by
  intro N
  induction N with
  | zero => intro n hn; have := n.tot_pos; omega
  | succ N ih =>
    rintro ⟨f, l⟩ hn hN K base hKb W cs v rs xs d hbW hH hown hrows hlen hd
    rw [Nd.tot] at hn hlen hd
    obtain ⟨vM, vG, vX, vI, aK, cK, lk, hcs, hf, hl, hK⟩ := hH.open
    have hc17 := hH.length
    have hlt2 := l.len_tot
    have hone := hH.one
    have k16 : cs[16]? = some (.slice aK l.len cK) := by rw [hcs]; rfl
    obtain ⟨B, hB⟩ : ∃ B, B = W.alloc (.cells cs.toArray 43) := ⟨_, rfl⟩
    have hg : B.heap[W.heap.size]? = some (.cells cs.toArray 43 (0, 0)) := by rw [hB]; exact blk_new W _
    have hsB : B.heap.size = W.heap.size + 1 := by rw [hB]; simp
    have hlt := hown.lt
    have hLP0 : LP base K W B v v rs xs := by
      have hb : Below W.heap.size W B := by rw [hB]; exact (Below.refl _ _).alloc (Nat.le_refl _) _
      exact ⟨own_below hown hb, RowsH.keep (fun b hF h => ⟨hb.block b h, hF⟩) hrows, by rw [hB]; exact World.grownBy_alloc W _ _, fun g hg => .inl hg⟩
    have hHB : (Nd.mk f l).Held B (fun b => b < K) cs := Nd.Held.keep (hLP0.keep (fun k hk => (hlt k hk).1) hKb) _ hH
    have na : ∀ j, B.cell? ⟨W.heap.size, j, none⟩ = cs[j]? := fun j => (blk_cell hg j).trans (List.getElem?_toArray ..)
    have HLP0 := Lib.hid hLP0; have Hg := Lib.hid hg; have HIH := Lib.hid ih; have HOne := Lib.hid hone; have HC17 := Lib.hid hc17
    obtain ⟨vM2, vG2, vX2, vI2, aK2, cK2, lk', hcs', _, hl', hK'⟩ := hHB.open
    have hsl : (Value.slice aK l.len cK) = .slice aK2 l.len cK2 := by
      have := congrArg (fun z => z[16]?) (hcs.symm.trans hcs')
      simpa using this
    simp only [Value.slice.injEq, true_and] at hsl
    obtain ⟨rfl, rfl⟩ := hsl
    have HL := Lib.hid hl'; have HK := Lib.hid hK'; have HHB := Lib.hid hHB
    have HLt := Lib.hid hlt
    have hx := hB.symm
    clear hB hH hcs hf hl hK hown hrows hg ih hone hLP0 hHB hcs' hl' hK' hlt hc17
    go_enter Tryz.func10, Tryz.ntmps10
    go_wp2_with fail
    clear hx
    go_loopw [7, 2] (fun i u' wr => ∃ (k : Nat) (xs1 : List Value) (u : Value), u = u' ∧ k ≤ l.len ∧ i = .int .i64 (k : Int) ∧ LP base K B wr v u (rs ++ (l.pre k).lsts (d + 1)) xs1) (fun i _ _ => l.len - (intOf i).toNat)
    case atStart => exact ⟨0, xs, _, rfl, Nat.zero_le _, rfl, by
      rw [Kd.pre_zero, Kd.lsts, List.append_nil]
      exact ⟨HLP0.out.own, HLP0.out.rows, ⟨rfl, rfl, rfl, Nat.le_refl _, fun _ _ _ => rfl⟩, fun g hg => .inl hg⟩⟩
    case round =>
      obtain ⟨k, xs1, u, rfl, hk, rfl, hlp⟩ := hrel
      have hne : v.ownBlock ≠ some W.heap.size := fun e => by have := (HLt.out _ e).2; omega
      have hgb : wr.heap[W.heap.size]? = some (.cells cs.toArray 43 (0, 0)) := (hlp.far.block _ (by omega) (fun e => hne e.symm)).trans Hg.out
      have nq : ∀ j, wr.cell? ⟨W.heap.size, j, none⟩ = cs[j]? := fun j => (blk_cell hgb j).trans (List.getElem?_toArray ..)
      have hkeep : Keeps B wr (fun b => b < K) (fun b => b < K) := hlp.keep (fun j hj => (HLt.out j hj).1) hKb
      have hpt := l.tot_pre k
      have hll : (rs ++ (l.pre k).lsts (d + 1)).length = rs.length + (l.pre k).tot := by rw [List.length_append, Kd.lsts_len]
      have HLp := Lib.hid hlp; have Hgb := Lib.hid hgb
      clear hlp hgb hne
      by_cases hkl : k < l.len
      · obtain ⟨b, o, ha, n1, c, hn1, hat, hH1⟩ := kid_at (HL.out.keep hkeep) (HK.out.keep (by decide) hkeep) hkl
        subst ha
        have hps := l.pre_succ k _ hn1
        have hpt2 := l.tot_pre (k + 1)
        have hps2 : (l.pre (k + 1)).tot = (l.pre k).tot + n1.tot := by rw [hps, Kd.tot]
        have HL1 := Lib.hid hH1.length
        have hbr : base ≤ wr.heap.size := by have := HLp.out.far.size; omega
        have hc := HIH.out n1 (by omega) (by omega) K base hKb wr c u (rs ++ (l.pre k).lsts (d + 1)) xs1 (d + 1) hbr hH1 HLp.out.own HLp.out.rows (by omega) (by omega)
        rw [show ((d + 1 : Nat) : Int) = (d : Int) + 1 from rfl] at hc
        have HCall := Lib.hid hc; have HPs := Lib.hid hps; have HAt := Lib.hid hat
        clear hc hn1 hat hH1 hps hkeep
        go_wp2_with (with_reducible refine R.wpList_loadNd rfl _ rfl b (o + k * 17) rfl c HAt.out HL1.out ?_)
        with_reducible refine HCall.out.mono ?_
        rintro q w2 ⟨v2, xs2, rfl, h2⟩
        have H2 := Lib.hid h2
        clear h2
        go_wp2_with fail
        go_roundw
        case measure => (simp [intOf] <;> omega)
        case rel =>
          have h3 := LP.trans HLp.out H2.out
          rw [List.append_assoc, show (l.pre k).lsts (d + 1) ++ n1.lst (d + 1) = (l.pre (k + 1)).lsts (d + 1) by rw [HPs.out, Kd.lsts]] at h3
          exact ⟨k + 1, xs2, _, rfl, by omega, by go_num, h3⟩
      · have hz : l.pre k = l := l.pre_ge k (by omega)
        rw [hz] at HLp hll
        obtain ⟨i0, hi0, hz0, hz1, hz2⟩ := info_parts infoRow
        have hlr := HLp.out.rows.length
        have hown1 := HLp.out.own
        have HOwn := Lib.hid hown1
        have hbr : base ≤ wr.heap.size := by have := HLp.out.far.size; omega
        have hone2 : ∀ u ∈ (Value.int .i64 (d : Int) :: cs), u.oneCell' = true := by
          intro u hu
          rcases List.mem_cons.1 hu with rfl | hu
          · rfl
          · exact HOne.out u hu
        have HOne2 := Lib.hid hone2
        have hl18 : (Value.int .i64 (d : Int) :: cs).length = 18 := by rw [List.length_cons, HC17.out]
        have hkeep2 : Keeps B wr (fun b => b < K) (fun b => b < K) := hkeep
        have HL18 := Lib.hid hl18
        clear hown1 hone2 hkeep hl18
        go_wp2_with (first | (with_reducible refine R.wpList_loadNd rfl _ rfl W.heap.size 0 rfl cs (range_blk Hgb.out) HC17.out ?_) | (refine wpList_buildRow rfl (.tmp 25) (.tmp 26) ?_ (d : Int) cs ?_ ?_ HC17.out ?_; exact rfl; exact rfl; exact rfl) | (refine wpList_sliceRow rfl (.tmp 27) ?_ (Value.int .i64 (d : Int) :: cs) ?_ HL18.out ?_; exact rfl; exact rfl) | ((at_builtin; refine wpList_append_lies _ rfl _ _ 39 rfl base 54 i0 (.agg (.int .i64 0 :: zcl).toArray) 18 240 Tryz.underlying39 hi0 hz0 hz1 hz2 rfl (by decide) u (rs ++ l.lsts (d + 1)).length xs1 rfl (HOwn.out.alloc _) ⟨wr.heap.size, 0, none⟩ 1 1 (Value.int .i64 (d : Int) :: cs) rfl (by rw [HL18.out]) (World.news_of_block (cs := (Value.int .i64 (d : Int) :: cs).toArray) (t := 54) (fr := (0, 0)) (blk_new _ _)) HOne2.out (by decide) (by unfold maxLen; omega) (by omega) (by simp; omega) (wr.heap.size + 1) (by simp) ?_; intro gg cap9 w9 hown9 hgrow9 hat9 hlt9; have tok := trivial)))
        clear tok
        go_ret
        have hs9 := hgrow9.size
        have hlen9 : ((rs ++ l.lsts (d + 1)) ++ [(d, Nd.mk f l)]).length = rs.length + l.tot + 1 := by rw [List.length_append, hll]; rfl
        rw [hll] at hown9
        have hst : LP base K wr w9 u (.slice (some ⟨gg, 0, none⟩) (rs.length + l.tot + 1) cap9) ((rs ++ l.lsts (d + 1)) ++ [(d, Nd.mk f l)]) (xs1 ++ (Value.int .i64 (d : Int) :: cs)) := by
          have hfar : wr.grownBy w9 u.ownBlock := ⟨hgrow9.os, hgrow9.tape, hgrow9.output, by simp at hs9; omega, fun j hj hne => (hgrow9.block j (by simp; omega) hne).trans (Below.heap_alloc _ _ _ hj)⟩
          have hkp : Keeps wr w9 (fun b => b < K) (fun b => b < K) := fun b hF hlt => ⟨hfar.block b hlt fun e => by have := (HOwn.out.lt _ e.symm).1; omega, hF⟩
          refine ⟨by rw [hlen9]; exact hown9, RowsH.app (RowsH.keep hkp HLp.out.rows) (RowsH.one d (Nd.Held.keep hkp _ (Nd.Held.keep hkeep2 _ HHB.out))), hfar, fun g hg => ?_⟩
          simp [Value.ownBlock] at hg
          subst hg
          rcases hat9 with h | h
          · exact .inl h
          · exact .inr (by omega)
        have hend := LP.trans HLP0.out (LP.trans HLp.out hst)
        rw [List.append_assoc] at hend
        refine ⟨.slice (some ⟨gg, 0, none⟩) (rs.length + l.tot + 1) cap9, xs1 ++ (Value.int .i64 (d : Int) :: cs), rfl, ?_⟩
        rw [Nd.lst]
        exact hend
end Go.Proofs.YtnbgigdloehbjaaGreatDoor.Ir
namespace Go.Proofs.YtnbgigdloehbjaaGreatDoor.Rng
open Go
section
variable {P : Program} {ops : Array Oper} {Q : Exit → Act → World → Prop} {md : Region.Mode} {l n : Nat}
def noDefer (ops : Array Oper) : Bool := ops.all fun o => match o.op with | .defer _ => false | _ => true
theorem noDefer_spec (h : noDefer ops = true) {i : Nat} {o : Oper} (hi : ops[i]? = some o) (c : Call) : o.op ≠ .defer c := by
  intro e
  have := (Array.all_eq_true_iff_forall_mem.1 h) o (Array.mem_of_getElem? hi)
  rw [e] at this
  cases this
theorem wpOpIn_of_plain (hd : noDefer ops = true) (hQ : ¬ LetsOut Q) {i : Nat} {K : Act → World → Prop} {a : Act} {w : World} (h : wpOp P ops Q i K a w) : wpOpIn (Fence.wide.inRound l) n P ops Q i K a w := by
  unfold wpOp at h
  unfold wpOpIn
  cases hi : ops[i]? with
  | none => simpa [hi] using h
  | some o =>
    simp only [hi] at h ⊢
    split
    · rename_i hw
      simp only [hw, if_true] at h
      rcases h with h | ⟨_, h⟩
      · refine ⟨fun _ _ => trivial, ?_⟩
        rw [Oper.semAt_eq _ _ _ (noDefer_spec hd hi)]
        unfold Oper.wp at h
        generalize (execOp a.eval o).run P w = r at h ⊢
        cases r with
        | ok x w' =>
          cases x
          all_goals first
            | exact h
            | exact ⟨fun e => (by cases e), CallsIn.inRound l (callsIn_wide.2 h)⟩
            | exact ⟨fun e => (by cases e), fun c cs _ => let ⟨v, w', r, s⟩ := h c cs; ⟨v, w', r, stepsIn_wide.2 s⟩⟩
            | exact h.elim
        | halt x w' =>
          cases x <;> exact h
      · exact absurd h hQ
    · rename_i hw
      simp only [hw] at h
      exact ⟨fun _ _ => trivial, h⟩
theorem wpAnyIn_of_plain (hd : noDefer ops = true) (hQ : ¬ LetsOut Q) : ∀ (fuel : Nat) (listed : Array Bool) (a : Act) (w : World), wpAny P md ops Q fuel listed a w → wpAnyIn (Fence.wide.inRound l) n P md ops Q fuel listed a w
  | 0, _, _, _, h => h
  | fuel + 1, _, _, _, h => ⟨h.1, fun i hi => wpOpIn_mono (fun a w => wpAnyIn_of_plain hd hQ fuel _ a w) (wpOpIn_of_plain hd hQ (h.2 i hi))⟩
/-- Begin, in a round. -/
theorem wpIn_region_held {S : World → Prop} {id : Nat} {a : Act} {w : World} (hm : P.follows .mixedOrders = true) (hd : noDefer ops = true) (hQ : ¬ LetsOut Q) (hS : S w.drew)
    (h : S w.drew → wpAnyH P .any ops Q S ops.size (Array.replicate ops.size false) a w.drew) : (Code.region id ops true).wpIn (Fence.wide.inRound l) n P Q a w :=
  wpIn_region_any hm (wpAnyIn_of_plain hd hQ _ _ _ _ (wpAny_of_held _ _ _ _ (h hS)))
end
end Go.Proofs.YtnbgigdloehbjaaGreatDoor.Rng
