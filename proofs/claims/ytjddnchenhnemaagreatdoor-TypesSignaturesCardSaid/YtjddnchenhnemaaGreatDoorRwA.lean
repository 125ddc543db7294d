/-
  Rows in memory: slices of so many elements, of so many cells each; what an answer may say of the world.
-/
import Derived.Test.YtjddnchenhnemaaGreatDoorMbR
import Derived.Deep.MidRow
import Derived.Deep.WholeRow
import Derived.Great.Walk
import Derived.LoopN
namespace Go.Proofs.YtjddnchenhnemaaGreatDoor.Ir
open Go Go.RowKit Go.Proofs.YtjddnchenhnemaaGreatDoor.Rg Go.Proofs.YtjddnchenhnemaaGreatDoor.Ma

def inB (v lo hi : Int) : Bool := decide (lo ≤ v) && decide (v ≤ hi)
/-- A slice of n elements of so many cells each. -/
def Row (W : World) (F : Nat → Prop) (v : Value) (n sz : Nat) (cs : List Value) : Prop :=
  cs.length = n * sz ∧ ∃ ao cap, v = .slice ao n cap ∧ (0 < n → ∃ b o, F b ∧ ao = some ⟨b, o, none⟩ ∧ W.rangeAt b o cs)
def mcells (l : List Mr) : List Value := l.flatMap fun m => [.int .i64 m.kind, .string m.name, .string m.value]
def scells (l : List ByteArray) : List Value := l.map .string
theorem range_keep {W W1 : World} {b o : Nat} {cs : List Value} (h : W.rangeAt b o cs) (hk : b < W.heap.size → W1.heap[b]? = W.heap[b]?) : W1.rangeAt b o cs := fun j v hv => by
  have h1 := h j v hv
  have hlt := World.block_lt_of_cell? W _ h1
  rw [World.cell?_of_block (hk hlt)]; exact h1
def Keeps (W W1 : World) (F F1 : Nat → Prop) : Prop := ∀ b, F b → b < W.heap.size → W1.heap[b]? = W.heap[b]? ∧ F1 b
theorem Row.keep {W W1 : World} {F F1 : Nat → Prop} {v : Value} {n sz : Nat} {cs : List Value} (h : Row W F v n sz cs) (hsz : 0 < sz) (hk : Keeps W W1 F F1) : Row W1 F1 v n sz cs := by
  obtain ⟨hl, ao, cap, hv, hc⟩ := h
  refine ⟨hl, ao, cap, hv, fun h0 => ?_⟩
  obtain ⟨b, o, hF, ha, hr⟩ := hc h0
  have hb : b < W.heap.size := by
    have hj : 0 < cs.length := by rw [hl]; exact Nat.mul_pos h0 hsz
    exact World.block_lt_of_cell? W _ (hr 0 _ (List.getElem?_eq_getElem hj))
  exact ⟨b, o, (hk b hF hb).2, ha, range_keep hr fun _ => (hk b hF hb).1⟩
/-- Anywhere. -/
def Any : Nat → Prop := fun _ => True
theorem Keeps.below {W W1 : World} (hb : Below W.heap.size W W1) : Keeps W W1 Any Any := fun b _ hlt => ⟨hb.block b hlt, trivial⟩
theorem row_one {W : World} {F : Nat → Prop} {v : Value} {n sz : Nat} {cs : List Value} (h : Row W F v n sz cs) : v.oneCell' = true := by
  obtain ⟨_, ao, cap, rfl, _⟩ := h
  rfl
theorem range_blk {W : World} {b : Nat} {c : List Value} {t : TypeId} {fr : Nat × Nat} (h : W.heap[b]? = some (.cells c.toArray t fr)) : W.rangeAt b 0 c := fun j v hv => by
  rw [blk_cell h]; simpa using hv
def RetB (v : Value) (W : World) (e : Ending) (W' : World) : Prop := e = .returned v ∧ Below W.heap.size W W'
/-- A number comes back. -/
def RetN (r : Nat) (W : World) (e : Ending) (W' : World) : Prop := ∃ x : Nat, e = .returned (.int .i64 (x : Int)) ∧ x = r ∧ Below W.heap.size W W'
theorem below_drewN {B : Nat} {a w : World} (h : Below B a w) (n : Nat) : Below B a (w.drewN n) := ⟨h.os, h.tape, h.output, h.size, h.block⟩
theorem after1 {W wr w2 : World} {o : Obj} (h : Below W.heap.size W wr) (h2 : Below (wr.alloc o).heap.size (wr.alloc o) w2) : Below W.heap.size W w2 := by
  have hs := h.size
  exact (h.alloc hs o).trans (h2.mono (by simp; omega))
/-- A whole struct into a variable that holds one. -/
theorem wpList_setA {P : Program} {T : TypeId} {n : Nat} (hT : (P.info? T).map (·.size) = some n) {ops : Array Oper} {rest : List Oper} {op : Oper} {a : Act} {w : World} {Q : Exit → Act → World → Prop} (hgd : op.guard = none) (x y : Operand) (ho : op.op = .store T x y)
    (b : Nat) (old c : Array Value) (hb : w.heap[b]? = some (.cells old T (0, 0))) (hol : old.size = n) (hx : a.eval x = .pointer (some ⟨b, 0, none⟩)) (hy : a.eval y = .agg c) (hl : c.size = n) (hone : c.all Value.oneCell' = true)
    (h : wpList P ops Q rest (a.put op.dst undef) (w.setRow b c)) : wpList P ops Q (op :: rest) a w :=
  wpList_plain hgd fun _ hK => by
    unfold Oper.wp execOp
    simp only [ho, hx, hy, Instr.storeAt, Instr.sureAddr, Sem.run_bind, Sem.run_pure, Result.andThen_ok, run_storeVar_row w b T T old c hb (by rw [hT]; simp [hl]) (by simp [hl, hol]) hone]
    exact hK _ _ h
theorem below_row {B : Nat} {W W1 : World} (h : Below B W W1) {b : Nat} (hb : B ≤ b) (cs : Array Value) : Below B W (W1.setRow b cs) :=
  ⟨h.os, h.tape, h.output, by have := h.size; simp; omega, fun k hk => (setRow_other _ _ _ _ (by omega)).trans (h.block k hk)⟩
theorem row_nil (W : World) (F : Nat → Prop) (sz : Nat) : Row W F (.slice none 0 0) 0 sz [] := ⟨by simp, none, 0, rfl, fun h => by omega⟩
/-- Blocks from one on. -/
def From (n : Nat) : Nat → Prop := fun b => n ≤ b
theorem Keeps.from {W W1 : World} {n m : Nat} (hm : m ≤ n) (h : ∀ b, n ≤ b → b < W.heap.size → W1.heap[b]? = W.heap[b]?) : Keeps W W1 (From n) (From m) := fun b hb hlt => ⟨h b hb hlt, Nat.le_trans hm hb⟩
end Go.Proofs.YtjddnchenhnemaaGreatDoor.Ir
