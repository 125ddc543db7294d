/-
  A set of bytes in memory: put and has.
-/
import Derived.Test.YtnbgigdloehbjaaGreatDoorRgD
import Derived.Laws.Bits64b
namespace Go.Proofs.YtnbgigdloehbjaaGreatDoor.Rg
open Go Go.RowKit
variable {W : World} {S : Bs}

theorem i64_and63 (c : Nat) (h : c < 256) : bits BinOp.and IntKind.i64 (c : Int) 63 = ((c % 64 : Nat) : Int) := by
  have : ∀ c : Fin 256, bits BinOp.and IntKind.i64 ((c.val : Nat) : Int) 63 = ((c.val % 64 : Nat) : Int) := by decide +kernel
  exact this ⟨c, h⟩

theorem pow_lt (k : Nat) : 2 ^ (k % 64) < 18446744073709551616 := by
  have : 2 ^ (k % 64) ≤ 2 ^ 63 := Nat.pow_le_pow_right (by omega) (by omega)
  have e : (2 : Nat) ^ 63 = 9223372036854775808 := by decide
  omega
theorem u64_pow (c : Nat) : IntKind.u64.wrap (2 ^ (c % 64)) = ((2 ^ (c % 64) : Nat) : Int) := by
  have h := pow_lt c
  have e : ((2 ^ (c % 64) : Nat) : Int) = (2 : Int) ^ (c % 64) := by simp
  rw [← e]
  generalize 2 ^ (c % 64) = n at h
  unfold IntKind.wrap
  simp [IntKind.bits, IntKind.signed]
  omega
theorem u64_or (x y : Nat) (hx : x < 18446744073709551616) (hy : y < 18446744073709551616) : bits BinOp.or IntKind.u64 (x : Int) (y : Int) = ((x ||| y : Nat) : Int) := by
  exact u64_or_nat x y hx hy

theorem Bs.word_lt (h : S.ok) (i : Nat) : S.word i < 18446744073709551616 := by
  obtain ⟨h0, h1, h2, h3⟩ := h
  unfold Bs.word
  split <;> assumption
theorem Bs.cells_get (S : Bs) (i : Nat) (hi : i < 4) : S.cells[i]? = some (.int .u64 (S.word i)) := by
  match i, hi with
  | 0, _ => rfl
  | 1, _ => rfl
  | 2, _ => rfl
  | 3, _ => rfl
theorem Bs.cells_set (S : Bs) (i v : Nat) (hi : i < 4) : S.cells.setIfInBounds i (.int .u64 v) = (S.setWord i v).cells := by
  match i, hi with
  | 0, _ => rfl
  | 1, _ => rfl
  | 2, _ => rfl
  | 3, _ => rfl
theorem Bs.ok_setWord (h : S.ok) (i : Nat) {x : Nat} (hx : x < 18446744073709551616) : (S.setWord i x).ok := by
  obtain ⟨h0, h1, h2, h3⟩ := h
  unfold Bs.setWord
  split
  · exact ⟨hx, h1, h2, h3⟩
  · exact ⟨h0, hx, h2, h3⟩
  · exact ⟨h0, h1, hx, h3⟩
  · exact ⟨h0, h1, h2, hx⟩
theorem Bs.ok_put (h : S.ok) (c : Nat) : (S.put c).ok := by
  refine Bs.ok_setWord h _ ?_
  have h1 := Bs.word_lt h (c / 64)
  have h2 := pow_lt c
  have : S.word (c / 64) ||| 2 ^ (c % 64) < 2 ^ 64 := Nat.or_lt_two_pow (by omega) (by omega)
  omega

/-- The set S lies at block g. -/
def IsBs (W : World) (g : Nat) (S : Bs) : Prop := W.heap[g]? = some (.cells S.cells 143 (0, 0)) ∧ S.ok

set_option maxRecDepth 100000 in
theorem setput_calls (g c : Nat) (hc : c < 256) (hS : IsBs W g S) :
    Calls Tryz.prog 159 #[.pointer (some ⟨g, 0, none⟩), .int .i64 c] W fun q W' => q = .returned (.tuple #[]) ∧ IsBs W' g (S.put c) ∧ W' = (W.setCell ⟨g, c / 64, none⟩ (.int .u64 (S.word (c / 64) ||| 2 ^ (c % 64) : Nat))).drew := by
  have h0 : W.cell? ⟨g, c / 64, none⟩ = some (.int .u64 (S.word (c / 64))) := (blk_cell hS.1 _).trans (S.cells_get _ (by omega))
  have f0 : W.frozen? ⟨g, c / 64, none⟩ = false := blk_frozen hS.1 _
  have hand := i64_and63 c hc
  have hor := u64_or (S.word (c / 64)) (2 ^ (c % 64)) (Bs.word_lt hS.2 _) (pow_lt c)
  have hset : IsBs (W.setCell ⟨g, c / 64, none⟩ (.int .u64 (S.word (c / 64) ||| 2 ^ (c % 64) : Nat))) g (S.put c) := ⟨(blk_set hS.1 _ _).trans (by rw [Bs.cells_set _ _ _ (by omega)]; rfl), Bs.ok_put hS.2 c⟩
  have HS := Lib.hid hset; clear hset
  have HO := Lib.hid hor; clear hor
  clear hS
  go_enter Tryz.func159, Tryz.ntmps159
  refine QT.wp_region_qtail 12 (by kernel_rfl) (by kernel_rfl) (by kernel_rfl) ?_
  simp only [List.take_succ_cons, List.take_zero, List.drop_succ_cons, List.drop_zero]
  repeat (go_big_quiet_step (fail))
  refine wpQuiet_nil ?_
  go_wp2
  go_end0
  rw [u64_pow, HO.out]
  exact ⟨rfl, HS.out, rfl⟩

theorem u8_and63 (c : Nat) (h : c < 256) : bits BinOp.and IntKind.u8 (c : Int) 63 = ((c % 64 : Nat) : Int) := by
  have : ∀ c : Fin 256, bits BinOp.and IntKind.u8 ((c.val : Nat) : Int) 63 = ((c.val % 64 : Nat) : Int) := by decide +kernel
  exact this ⟨c, h⟩

theorem bit_test (x k : Nat) (hx : x < 18446744073709551616) : (bits BinOp.and IntKind.u64 ((x : Int) / 2 ^ k) 1 == 1) = x.testBit k := by
  have e : (x : Int) / 2 ^ k = ((x / 2 ^ k : Nat) : Int) := by simp
  have hlt : x / 2 ^ k < 18446744073709551616 := Nat.lt_of_le_of_lt (Nat.div_le_self _ _) hx
  have h1 : bits BinOp.and IntKind.u64 ((x / 2 ^ k : Nat) : Int) ((1 : Nat) : Int) = ((x / 2 ^ k &&& 1 : Nat) : Int) := u64_and_nat _ 1 hlt (by omega)
  rw [e, show (1 : Int) = ((1 : Nat) : Int) from rfl, h1, Nat.and_one_is_mod, Nat.testBit_eq_decide_div_mod_eq]
  rw [Bool.eq_iff_iff, beq_iff_eq, decide_eq_true_eq]
  omega

end Go.Proofs.YtnbgigdloehbjaaGreatDoor.Rg
