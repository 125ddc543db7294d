/-
  The reader of queries: the next token.
-/
import Derived.Test.YtjddnchenhnemaaGreatDoorPsA
namespace Go.Proofs.YtjddnchenhnemaaGreatDoor.Ps
open Go Go.RowKit Go.Proofs.YtjddnchenhnemaaGreatDoor.QT Go.Proofs.YtjddnchenhnemaaGreatDoor.Rg Go.Proofs.YtjddnchenhnemaaGreatDoor.Ma Go.Proofs.YtjddnchenhnemaaGreatDoor.Ir Go.Proofs.YtjddnchenhnemaaGreatDoor.Pm Go.Proofs.YtjddnchenhnemaaGreatDoor.Le
set_option maxHeartbeats 4000000
set_option maxRecDepth 100000

theorem sizeTok : (Tryz.prog.info? 86).map (·.size) = some 5 := by kernel_rfl
abbrev tz : Array Value := #[.int .i64 0, .int .i64 0, .string ⟨#[]⟩, .float .f64 0, .int .i64 0]
/-- The tokens' cells, as an array. -/
abbrev ta (t : Tk) : Array Value := #[.int .i64 t.kind, .int .i64 t.at_, .string t.text, .float .f64 t.v, .int .i64 t.n]
theorem next_calls {E : Env} {W : World} {p d : Nat} (h : PS E W p d) : Calls Tryz.prog 87 #[.pointer (some ⟨E.g, 0, none⟩)] W (RetB (.agg (ta (E.tk p))) W) := by
  have hlen := h.len
  obtain ⟨B0, hB0⟩ : ∃ B0, B0 = W.alloc (.cells #[.int .i64 0, .int .i64 0, .string ⟨#[]⟩, .float .f64 0, .int .i64 0] 86) := ⟨_, rfl⟩
  have hb0 : Below W.heap.size W B0 := by rw [hB0]; exact (Below.refl _ _).alloc (Nat.le_refl _) _
  have hn0 : B0.heap[W.heap.size]? = some (.cells tz 86 (0, 0)) := by rw [hB0]; exact blk_new W _
  have h0 : PS E B0 p d := h.below hb0
  obtain ⟨c0, c1, -, -, -, c5, -⟩ := h0.cells
  have HB0 := Lib.hid hb0; have HN0 := Lib.hid hn0; clear hb0 hn0
  have hx : W.alloc (.cells #[.int .i64 0, .int .i64 0, .string ⟨#[]⟩, .float .f64 0, .int .i64 0] 86) = B0 := hB0.symm
  clear hB0
  by_cases hp : p < E.ts.length
  · obtain ⟨b, o, cap, hv, -, hlt, hr⟩ := h0.tok hp
    rw [hv] at c0
    have k0 : B0.cell? ⟨b, o + p * 5, none⟩ = some (.int .i64 (E.tk p).kind) := hr 0 _ rfl
    have k1 : B0.cell? ⟨b, o + p * 5 + 1, none⟩ = some (.int .i64 (E.tk p).at_) := hr 1 _ rfl
    have k2 : B0.cell? ⟨b, o + p * 5 + 2, none⟩ = some (.string (E.tk p).text) := hr 2 _ rfl
    have k3 : B0.cell? ⟨b, o + p * 5 + 3, none⟩ = some (.float .f64 (E.tk p).v) := hr 3 _ rfl
    have k4 : B0.cell? ⟨b, o + p * 5 + 4, none⟩ = some (.int .i64 (E.tk p).n) := hr 4 _ rfl
    obtain ⟨n, hn⟩ : ∃ n, E.ts.length = n := ⟨_, rfl⟩
    obtain ⟨t, ht⟩ : ∃ t, E.tk p = t := ⟨_, rfl⟩
    rw [hn] at hp c0 hlen
    rw [ht] at k0 k1 k2 k3 k4 ⊢
    clear hr hv h h0 hn ht
    go_enter Tryz.func87, Tryz.ntmps87
    go_wp2_with fail
    clear hx
    go_quiet (fail)
    go_wp2_with fail
    refine QT.wp_region_qtail 10 (by kernel_rfl) (by kernel_rfl) (by kernel_rfl) ?_
    simp only [List.take_succ_cons, List.take_zero, List.drop_succ_cons, List.drop_zero]
    repeat (go_big_quiet_step (fail))
    refine wpQuiet_nil ?_
    refine wpList_setA sizeTok rfl _ _ rfl W.heap.size tz (ta t) HN0.out rfl rfl rfl rfl (by simp [ta, Value.oneCell']) ?_
    go_wp2_with fail
    refine bodyPost_ret_by (results_cell_row (p := 2) (ty := 86) rfl _ _ W.heap.size 86 _ (0, 0) _ rfl (setRow_heap _ _ _ _ _ _ HN0.out) Tryz.underlying86 rfl (by rw [sizeTok]; rfl)) rfl ?_
    exact ⟨rfl, below_row (Ir.below_drewN HB0.out _).drew (Nat.le_refl _) _⟩
  · have hz := Env.tk_ge hp
    obtain ⟨ao, cap, hv⟩ := h0.vt
    rw [hv] at c0
    rw [hz]
    obtain ⟨n, hn⟩ : ∃ n, E.ts.length = n := ⟨_, rfl⟩
    rw [hn] at hp c0 hlen
    clear hv h h0 hn hz
    go_enter Tryz.func87, Tryz.ntmps87
    go_wp2_with fail
    clear hx
    go_quiet (fail)
    go_wp2_with (refine wpList_setA sizeTok rfl _ _ rfl W.heap.size tz tz HN0.out rfl rfl rfl rfl (by simp [tz, Value.oneCell']) ?_)
    refine bodyPost_ret_by (results_cell_row (p := 2) (ty := 86) rfl _ _ W.heap.size 86 _ (0, 0) _ rfl (setRow_heap _ _ _ _ _ _ HN0.out) Tryz.underlying86 rfl (by rw [sizeTok]; rfl)) rfl ?_
    exact ⟨rfl, below_row (Ir.below_drewN HB0.out _) (Nat.le_refl _) _⟩
end Go.Proofs.YtjddnchenhnemaaGreatDoor.Ps
