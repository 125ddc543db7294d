/-
  The reader of queries: a name alone is checked; a name that selects, with a stretch of time behind it or not.
-/
import Derived.Test.YtjddnchenhnemaaGreatDoorPsH
namespace Go.Proofs.YtjddnchenhnemaaGreatDoor.Ps
open Go Go.RowKit Go.Proofs.YtjddnchenhnemaaGreatDoor.QT Go.Proofs.YtjddnchenhnemaaGreatDoor.Rg Go.Proofs.YtjddnchenhnemaaGreatDoor.Ma Go.Proofs.YtjddnchenhnemaaGreatDoor.Ir Go.Proofs.YtjddnchenhnemaaGreatDoor.Pm Go.Proofs.YtjddnchenhnemaaGreatDoor.Le
set_option maxHeartbeats 8000000
set_option maxRecDepth 100000
theorem field_kind (k a : Int) (s : ByteArray) (v : Nat) (n : Int) (w : World) : (Instr.field 86 (.agg #[.int .i64 k, .int .i64 a, .string s, .float .f64 v, .int .i64 n]) 0).run Tryz.prog w = .ok (.int .i64 k) w := by kernel_rfl
theorem field_text (k a : Int) (s : ByteArray) (v : Nat) (n : Int) (w : World) : (Instr.field 86 (.agg #[.int .i64 k, .int .i64 a, .string s, .float .f64 v, .int .i64 n]) 2).run Tryz.prog w = .ok (.string s) w := by kernel_rfl
theorem field_n (k a : Int) (s : ByteArray) (v : Nat) (n : Int) (w : World) : (Instr.field 86 (.agg #[.int .i64 k, .int .i64 a, .string s, .float .f64 v, .int .i64 n]) 4).run Tryz.prog w = .ok (.int .i64 n) w := by kernel_rfl
/-- A whole node into a variable that holds one, at a step of a region that draws. -/
theorem wp_setX {op : Oper} {a : Act} {w : World} {K : Act → World → Prop} {Q : Exit → Act → World → Prop} (x y : Operand) (ho : op.op = .store 42 x y)
    (b : Nat) (old c : List Value) (hb : w.heap[b]? = some (.cells old.toArray 42 (0, 0))) (hol : old.length = 17) (hx : a.eval x = .pointer (some ⟨b, 0, none⟩)) (hy : a.eval y = .agg c.toArray) (hl : c.length = 17) (hone : ∀ u ∈ c, u.oneCell' = true)
    (h : K (a.put op.dst undef) (w.setRow b c.toArray)) : op.wp Tryz.prog a w K Q := by
  unfold Oper.wp execOp
  simp only [ho, hx, hy, Instr.storeAt, Instr.sureAddr, Sem.run_bind, Sem.run_pure, Result.andThen_ok, run_storeVar_row w b 42 42 old.toArray c.toArray hb (by rw [sizeX]; simp [hl]) (by simp [hl, hol]) (all_oneCell_toArray hone)]
  exact h
/-- __name__ -/
def nmB : ByteArray := ⟨#[95, 95, 110, 97, 109, 101, 95, 95]⟩
theorem nmB_name : nameB nmB = true := by decide +kernel
theorem check1_calls {W : World} {b : Nat} {s : ByteArray} (hb : W.heap[b]? = some (.cells #[.int .i64 1, .string nmB, .string s] 157 (0, 0))) (hs : s.size ≤ 256) :
    Calls Tryz.prog 131 #[.slice (some ⟨b, 0, none⟩) 1 1] W (RetB (.int .i64 0) W) := by
  have c0 := blk_cell hb 0
  have c1 := blk_cell hb 1
  have c2 := blk_cell hb 2
  have hlt := blk_lt hb
  have HN := Lib.hid (name_calls nmB (by decide) true nmB_name)
  have hsz : ¬ 256 < s.size := by omega
  clear hb
  go_enter Tryz.func131, Tryz.ntmps131
  go_wp2_with fail
  refine wp_loop_rounds 2 ?_
  rw [rounds_succ]
  go_wp2_with fail
  (with_reducible refine (HN.out _).mono ?_)
  rintro e W1 ⟨rfl, rfl⟩
  go_wp2_with fail
  rw [rounds_succ]
  go_wp2_with fail
  go_ret
  exact ⟨rfl, (Below.refl _ _).alloc (Nat.le_refl _) _⟩
end Go.Proofs.YtjddnchenhnemaaGreatDoor.Ps
