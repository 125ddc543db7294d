/-
  The reader's methods put, escaped, item; a set's put and has.
-/
import Derived.Test.YtnbgigdloehbjaaGreatDoorRgB
import Derived.Test.YtnbgigdloehbjaaGreatDoorShelf
namespace Go.Proofs.YtnbgigdloehbjaaGreatDoor.Rg
open Go Go.RowKit
variable {B : Nat} {W : World} {g : Nat} {r : Rd} {v : Value}

theorem infoInst : (Tryz.prog.info? 145).map (fun i => (i.zero, i.size, i.bytes)) = some (some (.agg #[.int .i64 0, .int .u64 0, .int .u64 0, .int .u64 0, .int .u64 0, .int .i64 0, .int .i64 0]), 7, 56) := by kernel_rfl

theorem put_is (x : Inst) {w0 w1 : World} (hI : Is B w0 g r v) (hF : Fr B W w0) (hB : B ≤ W.heap.size) (hgrow : w0.grownBy w1 v.ownBlock) {gg cap H : Nat}
    (hown : w1.ownsRow B 145 7 (.slice (some ⟨gg, 0, none⟩) (r.l.length + 1) cap) (r.l.length + 1) (flat r.l ++ x.cells)) (hat : v.ownBlock = some gg ∨ gg = H) (hH : w0.heap.size ≤ H) :
    Is B (w1.setCell ⟨g, 3, none⟩ (.slice (some ⟨gg, 0, none⟩) (r.l.length + 1) cap)) g (r.put x) (.slice (some ⟨gg, 0, none⟩) (r.l.length + 1) cap) ∧
    Fr B W (w1.setCell ⟨g, 3, none⟩ (.slice (some ⟨gg, 0, none⟩) (r.l.length + 1) cap)) := by
  have hne : gg ≠ g := by
    rcases hat with h | h
    · exact hI.apart h
    · have := hI.lt; omega
  have hb1 := (hgrow.block g hI.lt (fun e => hI.apart e.symm rfl)).trans hI.blk
  refine ⟨⟨blk_set hb1 3 _, hI.ge, ?_, hI.sz⟩, ?_⟩
  · have : flat r.l ++ x.cells = flat (r.put x).l := by rw [Rd.put, flat_append]; simp [flat]
    rw [← this]
    have h2 : (r.put x).l.length = r.l.length + 1 := by simp [Rd.put]
    rw [h2]
    exact own_set hown (fun k hk => by simp [Value.ownBlock] at hk; subst hk; exact hne) _
  · have hF1 : Fr B W w1 := hF.grown hgrow hB (fun k hk => own_blk hI.own hk)
    exact hF1.set (p := ⟨g, 3, none⟩) hb1 hI.ge (.inl rfl) _

set_option maxRecDepth 100000 in
set_option maxHeartbeats 1600000 in
theorem put_calls (x : Inst) (hI : Is B W g r v) (hB : B ≤ W.heap.size) (hn : r.l.length ≤ 20000) :
    Calls Tryz.prog 103 #[.pointer (some ⟨g, 0, none⟩), .agg #[.int .i64 x.kind, .int .u64 x.set.w0, .int .u64 x.set.w1, .int .u64 x.set.w2, .int .u64 x.set.w3, .int .i64 x.a, .int .i64 x.b]] W
      fun q W' => q = .returned (.int .i64 r.l.length) ∧ (∃ v', Is B W' g (r.put x) v') ∧ Fr B W W' := by
  obtain ⟨i0, hi0, hz0, hz1, hz2⟩ := info_parts infoInst
  have c3 := hI.c3
  have f3 : ∀ o, (W.alloc o).frozen? ⟨g, 3, none⟩ = false := fun o => (hI.alloc o).fz 3
  have f3b : ∀ o o', ((W.alloc o).alloc o').frozen? ⟨g, 3, none⟩ = false := fun o o' => ((hI.alloc o).alloc o').fz 3
  have hlt := hI.lt
  have hown := hI.own
  have hap : v.ownBlock ≠ some g := fun h => hI.apart h rfl
  have Hown := Lib.hid hown; clear hown
  have HI := Lib.hid hI; clear hI
  go_enter Tryz.func103, Tryz.ntmps103
  go_wp2
  go_region_law ((refine step_append_lies _ (by rfl) _ _ _ (by rfl) B 145 i0 _ 7 56 Tryz.underlying137 hi0 hz0 hz1 hz2 rfl (by omega) v r.l.length (flat r.l) (by rfl) (((Hown.out.alloc _).alloc _).drew) ⟨W.heap.size + 1, 0, none⟩ 1 1 x.cells (by rfl) (by rfl) (World.news_of_block (cs := x.cells.toArray) (t := 145) (fr := (0, 0)) (by exact blk_new2 _ _ _)) (by simp [Inst.cells, Value.oneCell']) (by omega) (by unfold maxLen; omega) (by omega) (by simp; omega) (W.heap.size + 2) (by simp) ?_; intro gg cap w1 hown1 hgrow hat hlt1; have k3 : w1.cell? ⟨g, 3, none⟩ = some v := (hgrow.cell_far _ (by simp; omega) (Ne.symm hap)).trans (((HI.out.alloc _).alloc _).c3); have kf : w1.frozen? ⟨g, 3, none⟩ = false := (hgrow.frozen_far _ (by simp; omega) (Ne.symm hap)).trans (((HI.out.alloc _).alloc _).fz 3)))
  all_goals
    go_wp2
    go_ret
    have hp := put_is x (((HI.out.alloc _).alloc _).drew) ((((Fr.refl B W).alloc hB _).alloc hB _).drew) hB hgrow hown1 hat (by simp)
    exact ⟨ret_int (by simp), ⟨_, hp.1⟩, hp.2⟩
end Go.Proofs.YtnbgigdloehbjaaGreatDoor.Rg
