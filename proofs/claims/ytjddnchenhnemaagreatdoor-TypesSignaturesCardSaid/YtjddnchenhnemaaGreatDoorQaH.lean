/-
  What the types' statements ask first.
-/
import Derived.Test.YtjddnchenhnemaaGreatDoorQaD
namespace Go.Proofs.YtjddnchenhnemaaGreatDoor.Ps
open Go Go.RowKit Go.Proofs.YtjddnchenhnemaaGreatDoor.QT Go.Proofs.YtjddnchenhnemaaGreatDoor.Rg Go.Proofs.YtjddnchenhnemaaGreatDoor.Ma Go.Proofs.YtjddnchenhnemaaGreatDoor.Ir Go.Proofs.YtjddnchenhnemaaGreatDoor.Pm
set_option maxHeartbeats 8000000
set_option maxRecDepth 100000
def tClamp : ByteArray := ⟨#[99, 108, 97, 109, 112, 95, 109, 105, 110]⟩
theorem sig_clamp : sigT tClamp = ([2, 5], 2, true) := by decide +kernel
theorem clamp_calls (W : World) : Calls Tryz.prog 5 #[.string ⟨#[99, 108, 97, 109, 112, 95, 109, 105, 110]⟩] W (fun e W' => ∃ v, e = .returned (.tuple #[.agg #[.string tClamp, v, .int .i64 2], .bool true]) ∧ Row W' Any v 2 1 (ints [2, 5]) ∧ Below W.heap.size W W') := by
  have h := sig_calls tClamp W
  rw [sig_clamp] at h
  exact h
theorem known_calls (W : World) (hT : Tabs W) : Calls Tryz.prog 4 #[] W (RetB (.bool true) W) := by
  have hpa := parseA W
  unfold sA at hpa
  have HPA := Lib.hid hpa
  have HT := Lib.hid hT
  clear hT hpa
  go_enter Tryz.func4, Tryz.ntmps4
  go_wp2_with fail
  (with_reducible refine HPA.out.mono ?_)
  rintro e W1 ⟨c, rfl, hn1, hb1⟩
  have hl1 := hn1.length
  have HO1 := Lib.hid hn1.one
  obtain ⟨W2, hW2⟩ : ∃ W2, W2 = W1.alloc (.cells c.toArray 42) := ⟨_, rfl⟩
  have hx : W1.alloc (.cells c.toArray 42) = W2 := hW2.symm
  have hb12 : Below W1.heap.size W1 W2 := by rw [hW2]; exact (Below.refl _ _).alloc (Nat.le_refl _) _
  have hr2 : W2.heap[W1.heap.size]? = some (.cells c.toArray 42 (0, 0)) := by rw [hW2]; exact blk_new W1 _
  have hb2 := hb1.trans (hb12.mono hb1.size)
  have hn2 := hn1.any.below hb12
  have hpb := parseB W2 (Tabs.below _ _ HT.out hb2)
  unfold sB at hpb
  have HPB := Lib.hid hpb; have HR2 := Lib.hid hr2; have HB2 := Lib.hid hb2; have HN2 := Lib.hid hn2
  clear hn1 hb1 hW2 hb12 hr2 hb2 hn2 hpb
  go_wp2_with (with_reducible refine wpList_newX rfl rfl 1 (.tmp 17) rfl rfl rfl rfl c rfl rfl hl1 HO1.out ?_)
  (with_reducible refine HPB.out.mono ?_)
  rintro e W3 ⟨c2, rfl, hn3, hb3⟩
  have hl2 := hn3.length
  have HO2 := Lib.hid hn3.one
  clear hx
  obtain ⟨W4, hW4⟩ : ∃ W4, W4 = W3.alloc (.cells c2.toArray 42) := ⟨_, rfl⟩
  have hx : W3.alloc (.cells c2.toArray 42) = W4 := hW4.symm
  have hb34 : Below W3.heap.size W3 W4 := by rw [hW4]; exact (Below.refl _ _).alloc (Nat.le_refl _) _
  have hr4 : W4.heap[W3.heap.size]? = some (.cells c2.toArray 42 (0, 0)) := by rw [hW4]; exact blk_new W3 _
  have hb24 := hb3.trans (hb34.mono hb3.size)
  have HOA := Lib.hid (ofA W4 c (HN2.out.below hb24))
  have HR24 := Lib.hid ((hb24.block _ (blk_lt HR2.out)).trans HR2.out)
  have HN4 := Lib.hid (hn3.any.below hb34)
  have HB4 := Lib.hid (HB2.out.trans (hb24.mono HB2.out.size)); have HR4 := Lib.hid hr4
  clear hn3 hb3 hW4 hb34 hr4 hb24
  go_wp2_with (first | (with_reducible refine wpList_newX rfl rfl 4 (.tmp 22) rfl rfl rfl rfl c2 rfl rfl hl2 HO2.out ?_) | (with_reducible refine wpList_loadX rfl _ rfl W1.heap.size 0 rfl c (range_blk HR24.out) hl1 ?_))
  clear hx
  (with_reducible refine HOA.out.mono ?_)
  rintro e W5 ⟨rfl, hb5⟩
  have HOB := Lib.hid (ofB W5 c2 (HN4.out.below hb5))
  have HR5 := Lib.hid ((hb5.block _ (blk_lt HR4.out)).trans HR4.out)
  have HB5 := Lib.hid (HB4.out.trans (hb5.mono HB4.out.size))
  clear hb5
  go_wp2_with (with_reducible refine wpList_loadX rfl _ rfl W3.heap.size 0 rfl c2 (range_blk HR5.out) hl2 ?_)
  (with_reducible refine HOB.out.mono ?_)
  rintro e W6 ⟨rfl, hb6⟩
  have HB6 := Lib.hid (HB5.out.trans (hb6.mono HB5.out.size))
  have HCl := Lib.hid (clamp_calls W6)
  clear hb6
  go_wp2_with fail
  (with_reducible refine HCl.out.mono ?_)
  rintro e W7 ⟨v, rfl, ⟨-, ao, cap, rfl, -⟩, hb7⟩
  obtain ⟨W8, hW8⟩ : ∃ W8, W8 = W7.alloc (.cells #[.string tClamp, .slice ao 2 cap, .int .i64 2] 25) := ⟨_, rfl⟩
  have hx : W7.alloc (.cells #[.string tClamp, .slice ao 2 cap, .int .i64 2] 25) = W8 := hW8.symm
  have hb78 : Below W7.heap.size W7 W8 := by rw [hW8]; exact (Below.refl _ _).alloc (Nat.le_refl _) _
  have hr8 : W8.heap[W7.heap.size]? = some (.cells #[.string tClamp, .slice ao 2 cap, .int .i64 2] 25 (0, 0)) := by rw [hW8]; exact blk_new W7 _
  have n1 : W8.cell? ⟨W7.heap.size, 1, none⟩ = some (.slice ao 2 cap) := blk_cell hr8 1
  have HB8 := Lib.hid (HB6.out.trans ((hb7.trans (hb78.mono hb7.size)).mono HB6.out.size))
  have HNm := Lib.hid (names_calls W8)
  clear hb7 hW8 hb78 hr8
  go_wp2_with fail
  (with_reducible refine HNm.out.mono ?_)
  rintro e W9 ⟨v, rfl, ⟨-, ao9, cap9, rfl, -⟩, hb9⟩
  have HB9 := Lib.hid (HB8.out.trans (hb9.mono HB8.out.size))
  have hl23 : sortL.length = 23 := rfl
  rw [hl23]
  clear hb9
  go_wp2_with fail
  go_ret
  exact ⟨rfl, HB9.out⟩
end Go.Proofs.YtjddnchenhnemaaGreatDoor.Ps
