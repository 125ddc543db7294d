/-
  Types of trees: leaves.
-/
import Derived.Test.YtjddnchenhnemaaGreatDoorPsV
import Derived.Test.YtjddnchenhnemaaGreatDoorPsW
import Derived.Test.YtjddnchenhnemaaGreatDoorPsX
namespace Go.Proofs.YtjddnchenhnemaaGreatDoor.Ps
open Go Go.RowKit Go.Proofs.YtjddnchenhnemaaGreatDoor.QT Go.Proofs.YtjddnchenhnemaaGreatDoor.Rg Go.Proofs.YtjddnchenhnemaaGreatDoor.Ma Go.Proofs.YtjddnchenhnemaaGreatDoor.Ir Go.Proofs.YtjddnchenhnemaaGreatDoor.Pm
set_option maxHeartbeats 8000000
set_option maxRecDepth 100000
def RetT (a b : Int) (W : World) (e : Ending) (W' : World) : Prop := e = .returned (.tuple #[.int .i64 a, .int .i64 b]) ∧ Below W.heap.size W W'
def RetO (a b c : Int) (W : World) (e : Ending) (W' : World) : Prop := e = .returned (.tuple #[.int .i64 a, .int .i64 b, .int .i64 c]) ∧ Below W.heap.size W W'
theorem xkind {n : Xn} {W : World} {F : Nat → Prop} {cs : List Value} (h : n.Held W F cs) : ∃ f l, n = .mk f l ∧ cs[0]? = some (.int .i64 f.kind) ∧ cs[1]? = some (.int .i64 f.at_) ∧ cs[3]? = some (.string f.name) := by
  obtain ⟨f, l⟩ := n
  obtain ⟨vM, vX, vI, vG, ao, cap, ls, rfl, -, -, -⟩ := h.open
  exact ⟨f, l, rfl, rfl, rfl, rfl⟩
def LeafT (k t : Int) : Prop := (k = 1 ∧ t = 1) ∨ (k = 3 ∧ t = 2) ∨ (k = 4 ∧ t = 3)
theorem own_leaf {k t : Int} (hk : LeafT k t) (W : World) (cs : List Value) (hl : cs.length = 17) (h0 : cs[0]? = some (.int .i64 k)) (v : Value) : Calls Tryz.prog 16 #[.agg cs.toArray, v] W (RetT t 0 W) := by
  have hk0 := xbox_cell (W := W) 0 h0
  clear h0
  rcases hk with ⟨rfl, rfl⟩ | ⟨rfl, rfl⟩ | ⟨rfl, rfl⟩
  all_goals
    go_enter Tryz.func16, Tryz.ntmps16
    go_wp2_with fail
    refine bodyPost_ret (v := .tuple #[.int .i64 _, .int .i64 _]) (by simp [results, Tryz.results16, go_sem, *]) rfl ⟨rfl, (Below.refl _ _).alloc (Nat.le_refl _) _⟩
theorem of_leaf {k t : Int} (hk : LeafT k t) (W : World) (cs : List Value) (hl : cs.length = 17) (hone : ∀ u ∈ cs, u.oneCell' = true) (h0 : cs[0]? = some (.int .i64 k)) : Calls Tryz.prog 10 #[.agg cs.toArray] W (RetO t 0 0 W) := by
  have hk0 := xbox_cell (W := W) 0 h0
  have HO := Lib.hid (own_leaf hk (W.alloc (.cells cs.toArray 42)) cs hl h0 (.slice none 0 0))
  have HB := Lib.hid (blk_new W (.cells cs.toArray 42))
  clear h0
  rcases hk with ⟨rfl, rfl⟩ | ⟨rfl, rfl⟩ | ⟨rfl, rfl⟩
  all_goals
    go_enter Tryz.func10, Tryz.ntmps10
    go_wp2_with (with_reducible refine wpList_loadX rfl _ rfl W.heap.size 0 rfl cs (range_blk HB.out) hl ?_)
    (with_reducible refine HO.out.mono ?_)
    rintro e W1 ⟨rfl, hb1⟩
    have HB1 := Lib.hid (((Below.refl _ _).alloc (Nat.le_refl _) _).trans (hb1.mono (by simp)) : Below W.heap.size W W1)
    clear hb1 HO HB hk0
    go_wp2_with fail
    refine bodyPost_ret (v := .tuple #[.int .i64 _, .int .i64 _, .int .i64 _]) (by simp [results, Tryz.results10, go_sem, *]) rfl ⟨rfl, HB1.out⟩
end Go.Proofs.YtjddnchenhnemaaGreatDoor.Ps
