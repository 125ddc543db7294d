/-
  Types of trees: one argument fits or not.
-/
import Derived.Test.YtjddnchenhnemaaGreatDoorPsZ
namespace Go.Proofs.YtjddnchenhnemaaGreatDoor.Ps
open Go Go.RowKit Go.Proofs.YtjddnchenhnemaaGreatDoor.QT Go.Proofs.YtjddnchenhnemaaGreatDoor.Rg Go.Proofs.YtjddnchenhnemaaGreatDoor.Ma Go.Proofs.YtjddnchenhnemaaGreatDoor.Ir Go.Proofs.YtjddnchenhnemaaGreatDoor.Pm
set_option maxHeartbeats 8000000
set_option maxRecDepth 100000
theorem row_int {W : World} {F : Nat → Prop} {v : Value} {x : Int} (h : Row W F v 1 1 (ints [x])) : ∃ b o cap, v = .slice (some ⟨b, o, none⟩) 1 cap ∧ W.cell? ⟨b, o, none⟩ = some (.int .i64 x) ∧ b < W.heap.size := by
  obtain ⟨_, ao, cap, rfl, hc⟩ := h
  obtain ⟨b, o, _, rfl, hr⟩ := hc (by decide)
  have h0 := hr 0 _ (show (ints [x])[0]? = some (.int .i64 x) from rfl)
  exact ⟨b, o, cap, rfl, h0, World.block_lt_of_cell? W _ h0⟩
theorem fits_one {nm : ByteArray} (q1 : (nm.toList == [97, 98, 115, 101, 110, 116]) = false) (q2 : (nm.toList == [108, 97, 98, 101, 108, 95, 115, 101, 116]) = false) {f : Xf} {kid : Xn} {W : World} {cs : List Value} (hH : (Xn.mk f (.snoc .nil kid)).Held W Any cs)
    {vS : Value} (hS : Row W Any vS 1 1 (ints [3])) (u t : Int) : Calls Tryz.prog 47 #[.agg #[.string nm, vS, .int .i64 u], .agg cs.toArray, .int .i64 0, .int .i64 t] W (RetB (.bool (t == 3)) W) := by
  have hlcs := hH.length
  obtain ⟨vM, vX, vI, vG, ao, cap, ls, hcs, hf, hl, hK⟩ := hH.open
  obtain ⟨b2, o2, cap2, rfl, hc2, hlt2⟩ := row_int hS
  have hk16 := xbox_cell (W := W.alloc (.cells #[.string nm, .slice (some ⟨b2, o2, none⟩) 1 cap2, .int .i64 u] 25)) 16 (show cs[16]? = some (.slice ao 1 cap) by rw [hcs]; rfl)
  have hsz1 : (W.alloc (.cells #[.string nm, .slice (some ⟨b2, o2, none⟩) 1 cap2, .int .i64 u] 25)).heap.size = W.heap.size + 1 := by simp
  rw [hsz1] at hk16
  have hbel : Below W.heap.size W ((W.alloc (.cells #[.string nm, .slice (some ⟨b2, o2, none⟩) 1 cap2, .int .i64 u] 25)).alloc (.cells cs.toArray 42)) := ((Below.refl _ _).alloc (Nat.le_refl _) _).alloc (by simp) _
  obtain ⟨b, o, ha, n1, c, hn1, hat, hH1⟩ := xkid_at (k := 0) (hl.keep (Keeps.below hbel)) (hK.keep (by decide) (Keeps.below hbel)) (by show 0 < 0 + 1; omega)
  subst ha
  have hl1 := hH1.length
  have HOne := Lib.hid hH1.one
  have HAt := Lib.hid hat
  have HBel := Lib.hid hbel
  have hb3 := hbel.alloc (by simp; omega) (.cells c.toArray 42)
  have hc3 := (World.cell?_of_block (a := ⟨b2, o2, none⟩) (hb3.block b2 hlt2)).trans hc2
  clear hb3 hc2
  clear hcs hf hl hK hS hH hbel hH1 hat hn1
  go_enter Tryz.func47, Tryz.ntmps47
  go_wp2_with (first | (with_reducible refine wpList_newX rfl rfl 9 (.tmp 16) rfl rfl rfl rfl c rfl rfl hl1 HOne.out ?_) | (with_reducible refine wpList_loadX rfl _ rfl b (o + 0 * 17) rfl c HAt.out hl1 ?_))
  go_ret
  exact ⟨rfl, HBel.out.alloc (by simp; omega) _⟩
end Go.Proofs.YtjddnchenhnemaaGreatDoor.Ps
