/-
  Signatures of functions: what the document tells of a name.
-/
import Derived.Test.YtjddnchenhnemaaGreatDoorPsW
import Derived.Test.YtjddnchenhnemaaGreatDoorPsX
namespace Go.Proofs.YtjddnchenhnemaaGreatDoor.Ps
open Go Go.RowKit Go.Proofs.YtjddnchenhnemaaGreatDoor.QT Go.Proofs.YtjddnchenhnemaaGreatDoor.Rg Go.Proofs.YtjddnchenhnemaaGreatDoor.Ma Go.Proofs.YtjddnchenhnemaaGreatDoor.Ir
set_option maxHeartbeats 8000000
set_option maxRecDepth 100000
theorem rwinNames_calls (W : World) : Calls Tryz.prog 19 #[] W (RetR windowL W) := by
  go_enter Tryz.func19, Tryz.ntmps19
  go_wp2
  go_ret
  exact ⟨_, rfl, ⟨rfl, _, _, rfl, fun _ => ⟨_, 0, trivial, rfl, range_blk (blk_new W _)⟩⟩, (Below.refl _ _).alloc (Nat.le_refl _) _⟩
theorem rwinName_calls (k : Nat) (h1 : 1 ≤ k) (h2 : k ≤ 14) (t : ByteArray) (ht : windowL[k]? = some t) (W : World) : Calls Tryz.prog 12 #[.int .i64 (k : Int)] W (RetB (.string t) W) := by
  have HT := Lib.hid ht; clear ht
  go_enter Tryz.func12, Tryz.ntmps12
  go_wp2_with fail
  (with_reducible refine (rwinNames_calls _).mono ?_)
  rintro e W1 ⟨v, rfl, hR, hb⟩
  obtain ⟨_, ao, cap, rfl, _⟩ := id hR
  obtain ⟨b, o, t', rfl, ht', hc⟩ := row_str hR rfl (k := k) (by show k < 15; omega)
  have : t' = t := by have := HT.out; rw [ht'] at this; exact Option.some.inj this
  subst this
  have HB := Lib.hid hb
  have hl15 : windowL.length = 15 := rfl
  rw [hl15]
  clear hR hb ht' hl15
  go_wp2_with fail
  go_ret
  exact ⟨rfl, HB.out⟩
def sigR (s : ByteArray) : List Int × Int × Bool :=
  if decide (1 ≤ ixS winL s 1) then ([3], 2, true) else if b7 s then ([2], 2, true) else if b8 s then ([2], 2, true) else if b9 s then ([2], 2, true) else if b1 s then ([2, 5], 2, true) else if b2 s then ([2, 5], 2, true)
  else if b5 s then ([2], 1, true) else if b6 s then ([1], 2, true) else if b4 s then ([], 1, true) else if b3 s then ([2, 4, 4], 2, true) else ([], 0, false)
theorem ixS_pos : ∀ (l : List ByteArray) (s t : ByteArray) (k : Nat), l[k]? = some t → (s.toList == t.toList) = true → ∀ j, (0 : Int) ≤ ixS l s j
  | [], _, _, _, h, _, _ => by simp at h
  | x :: l, s, t, 0, h, he, j => by
    simp at h
    subst h
    rw [ixS, if_pos he]; omega
  | x :: l, s, t, k + 1, h, he, j => by
    rw [ixS]
    split
    · omega
    · exact ixS_pos l s t k (by simpa using h) he (j + 1)
theorem rsig_calls (s : ByteArray) (W : World) : Calls Tryz.prog 6 #[.string s] W (SigPost W s (sigR s)) := by
  obtain ⟨B0, hB0⟩ : ∃ B0, B0 = W.alloc (.cells #[.string ⟨#[]⟩, .slice none 0 0, .int .i64 0] 28) := ⟨_, rfl⟩
  have hx : W.alloc (.cells #[.string ⟨#[]⟩, .slice none 0 0, .int .i64 0] 28) = B0 := hB0.symm
  have hb0 : Below W.heap.size W B0 := by rw [hB0]; exact (Below.refl _ _).alloc (Nat.le_refl _) _
  have s0 : B0.heap.size = W.heap.size + 1 := by rw [hB0]; simp
  have hr : B0.heap[W.heap.size]? = some (.cells #[.string ⟨#[]⟩, .slice none 0 0, .int .i64 0] 28 (0, 0)) := by rw [hB0]; exact blk_new W _
  have HB0 := Lib.hid hb0; have HR := Lib.hid hr; have HS0 := Lib.hid s0
  clear hB0 hb0 hr s0
  go_enter Tryz.func6, Tryz.ntmps6
  go_wp2_with fail
  clear hx
  go_loopw [4] (fun i wr => ∃ k : Nat, k ≤ 14 ∧ i = .int .i64 ((k : Int) + 1) ∧ ixS winL s 1 = ixS (winL.drop k) s (k + 1) ∧ Below B0.heap.size B0 wr) (fun i _ => (15 - intOf i).toNat)
  case atStart => exact ⟨0, by decide, rfl, rfl, Below.refl _ _⟩
  case round =>
    obtain ⟨k, hk, rfl, hix, hbel⟩ := hrel
    by_cases hk14 : k < 14
    · have hwl : winL.length = 14 := rfl
      have hd : winL.drop k = winL[k]'(by rw [hwl]; exact hk14) :: winL.drop (k + 1) := List.drop_eq_getElem_cons (by rw [hwl]; exact hk14)
      obtain ⟨t, ht⟩ : ∃ t, winL[k]'(by rw [hwl]; exact hk14) = t := ⟨_, rfl⟩
      have ht1 : winL[k]? = some t := by rw [List.getElem?_eq_getElem (by rw [hwl]; exact hk14), ht]
      have ht2 : windowL[k + 1]? = some t := ht1
      rw [ht] at hd
      rw [hd, ixS] at hix
      obtain ⟨b, hb⟩ : ∃ b, (t.toList == s.toList) = b := ⟨_, rfl⟩
      have hb' : (s.toList == t.toList) = b := by rw [← hb, Bool.eq_iff_iff, beq_iff_eq, beq_iff_eq]; exact eq_comm
      rw [hb'] at hix
      have HN := Lib.hid (rwinName_calls (k + 1) (by omega) (by omega) t ht2)
      have HBel := Lib.hid hbel
      have hc : ((k + 1 : Nat) : Int) = (k : Int) + 1 := by omega
      rw [hc] at HN
      clear hc hwl hd ht ht1 ht2 hbel hb'
      cases b with
      | true =>
        rw [if_pos rfl] at hix
        have hfin : sigR s = ([3], 2, true) := by
          unfold sigR
          rw [hix, if_pos (decide_eq_true (by omega))]
        rw [hfin]
        obtain rfl : s = t := (toList_inj (beq_iff_eq.1 hb)).symm
        clear hix hfin hb
        go_wp2_with fail
        (with_reducible refine (HN.out _).mono ?_)
        rintro e wr ⟨rfl, hb1⟩
        have hb2 := HBel.out.trans (hb1.mono HBel.out.size)
        have hr3 := (hb2.block _ (blk_lt HR.out)).trans HR.out
        have g31 : W.heap.size < wr.heap.size := blk_lt hr3
        have y0 : wr.cell? ⟨W.heap.size, 0, none⟩ = some (.string ⟨#[]⟩) := blk_cell hr3 0
        have y1 : wr.cell? ⟨W.heap.size, 1, none⟩ = some (.slice none 0 0) := blk_cell hr3 1
        have y2 : wr.cell? ⟨W.heap.size, 2, none⟩ = some (.int .i64 0) := blk_cell hr3 2
        have z0 : wr.frozen? ⟨W.heap.size, 0, none⟩ = false := blk_frozen hr3 0
        have z1 : wr.frozen? ⟨W.heap.size, 1, none⟩ = false := blk_frozen hr3 1
        have z2 : wr.frozen? ⟨W.heap.size, 2, none⟩ = false := blk_frozen hr3 2
        have HB := Lib.hid (HB0.out.trans (hb2.mono (by have := HS0.out; omega)))
        clear hr3 hb2
        clear hb1
        go_wp2_with fail
        refine bodyPost_ret (v := .tuple #[.agg #[.string s, .slice (some ⟨wr.heap.size, 0, none⟩) [3].length [3].length, .int .i64 2], .bool true]) (by simp [results, Tryz.results6, go_sem, *]) rfl ⟨_, rfl, ⟨rfl, _, _, rfl, fun _ => ⟨_, 0, trivial, rfl, range_blk (c := ints [3]) (blk_at _ _ (by simp [World.setCell]))⟩⟩, ?_⟩
        exact (((HB.out.setCell (Nat.le_refl _) _).setCell (Nat.le_refl _) _).setCell (Nat.le_refl _) _).alloc (by simp [World.setCell]; omega) _
      | false =>
        rw [if_neg (by decide)] at hix
        have HI := Lib.hid hix; clear hix
        go_wp2_with fail
        (with_reducible refine (HN.out _).mono ?_)
        rintro e w1 ⟨rfl, hb1⟩
        have HB1 := Lib.hid (HBel.out.trans (hb1.mono HBel.out.size))
        clear hb1
        go_wp2_with fail
        go_roundw
        case rel => exact ⟨k + 1, by omega, by go_num, HI.out, HB1.out⟩
        case measure => (simp [intOf] <;> omega)
    · obtain rfl : k = 14 := by omega
      have hz : ixS winL s 1 = -1 := hix
      have hzz : decide (1 ≤ ixS winL s 1) = false := by rw [hz]; rfl
      clear hix hz
      have hb2 := hbel
      have hr3 := (hb2.block _ (blk_lt HR.out)).trans HR.out
      have g31 : W.heap.size < wr.heap.size := blk_lt hr3
      have y0 : wr.cell? ⟨W.heap.size, 0, none⟩ = some (.string ⟨#[]⟩) := blk_cell hr3 0
      have y1 : wr.cell? ⟨W.heap.size, 1, none⟩ = some (.slice none 0 0) := blk_cell hr3 1
      have y2 : wr.cell? ⟨W.heap.size, 2, none⟩ = some (.int .i64 0) := blk_cell hr3 2
      have z0 : wr.frozen? ⟨W.heap.size, 0, none⟩ = false := blk_frozen hr3 0
      have z1 : wr.frozen? ⟨W.heap.size, 1, none⟩ = false := blk_frozen hr3 1
      have z2 : wr.frozen? ⟨W.heap.size, 2, none⟩ = false := blk_frozen hr3 2
      have HB := Lib.hid (HB0.out.trans (hb2.mono (by have := HS0.out; omega)))
      clear hr3 hb2
      clear hbel
      obtain ⟨x7, h7⟩ : ∃ x, b7 s = x := ⟨_, rfl⟩
      have q7 := h7; unfold b7 at q7
      cases x7 with
      | true =>
        have HF := Lib.hid (show sigR s = ([2], 2, true) by simp [sigR, hzz, h7])
        clear hzz h7
        go_wp2_with fail
        rw [HF.out]
        refine bodyPost_ret (v := .tuple #[.agg #[.string s, .slice (some ⟨wr.heap.size, 0, none⟩) [2].length [2].length, .int .i64 2], .bool true]) (by simp [results, Tryz.results6, go_sem, *]) rfl ⟨_, rfl, ⟨rfl, _, _, rfl, fun _ => ⟨_, 0, trivial, rfl, range_blk (c := ints [2]) (blk_at _ _ (by simp [World.setCell]))⟩⟩, ?_⟩
        exact (((HB.out.setCell (Nat.le_refl _) _).setCell (Nat.le_refl _) _).setCell (Nat.le_refl _) _).alloc (by simp [World.setCell]; omega) _
      | false =>
      obtain ⟨x8, h8⟩ : ∃ x, b8 s = x := ⟨_, rfl⟩
      have q8 := h8; unfold b8 at q8
      cases x8 with
      | true =>
        have HF := Lib.hid (show sigR s = ([2], 2, true) by simp [sigR, hzz, h7, h8])
        clear hzz h7 h8
        go_wp2_with fail
        rw [HF.out]
        refine bodyPost_ret (v := .tuple #[.agg #[.string s, .slice (some ⟨wr.heap.size, 0, none⟩) [2].length [2].length, .int .i64 2], .bool true]) (by simp [results, Tryz.results6, go_sem, *]) rfl ⟨_, rfl, ⟨rfl, _, _, rfl, fun _ => ⟨_, 0, trivial, rfl, range_blk (c := ints [2]) (blk_at _ _ (by simp [World.setCell]))⟩⟩, ?_⟩
        exact (((HB.out.setCell (Nat.le_refl _) _).setCell (Nat.le_refl _) _).setCell (Nat.le_refl _) _).alloc (by simp [World.setCell]; omega) _
      | false =>
      obtain ⟨x9, h9⟩ : ∃ x, b9 s = x := ⟨_, rfl⟩
      have q9 := h9; unfold b9 at q9
      cases x9 with
      | true =>
        have HF := Lib.hid (show sigR s = ([2], 2, true) by simp [sigR, hzz, h7, h8, h9])
        clear hzz h7 h8 h9
        go_wp2_with fail
        rw [HF.out]
        refine bodyPost_ret (v := .tuple #[.agg #[.string s, .slice (some ⟨wr.heap.size, 0, none⟩) [2].length [2].length, .int .i64 2], .bool true]) (by simp [results, Tryz.results6, go_sem, *]) rfl ⟨_, rfl, ⟨rfl, _, _, rfl, fun _ => ⟨_, 0, trivial, rfl, range_blk (c := ints [2]) (blk_at _ _ (by simp [World.setCell]))⟩⟩, ?_⟩
        exact (((HB.out.setCell (Nat.le_refl _) _).setCell (Nat.le_refl _) _).setCell (Nat.le_refl _) _).alloc (by simp [World.setCell]; omega) _
      | false =>
      obtain ⟨x1, h1⟩ : ∃ x, b1 s = x := ⟨_, rfl⟩
      have q1 := h1; unfold b1 at q1
      cases x1 with
      | true =>
        have HF := Lib.hid (show sigR s = ([2, 5], 2, true) by simp [sigR, hzz, h7, h8, h9, h1])
        clear hzz h7 h8 h9 h1
        go_wp2_with fail
        rw [HF.out]
        refine bodyPost_ret (v := .tuple #[.agg #[.string s, .slice (some ⟨wr.heap.size, 0, none⟩) [2, 5].length [2, 5].length, .int .i64 2], .bool true]) (by simp [results, Tryz.results6, go_sem, *]) rfl ⟨_, rfl, ⟨rfl, _, _, rfl, fun _ => ⟨_, 0, trivial, rfl, range_blk (c := ints [2, 5]) (blk_at _ _ (by simp [World.setCell]))⟩⟩, ?_⟩
        exact (((HB.out.setCell (Nat.le_refl _) _).setCell (Nat.le_refl _) _).setCell (Nat.le_refl _) _).alloc (by simp [World.setCell]; omega) _
      | false =>
      obtain ⟨x2, h2⟩ : ∃ x, b2 s = x := ⟨_, rfl⟩
      have q2 := h2; unfold b2 at q2
      cases x2 with
      | true =>
        have HF := Lib.hid (show sigR s = ([2, 5], 2, true) by simp [sigR, hzz, h7, h8, h9, h1, h2])
        clear hzz h7 h8 h9 h1 h2
        go_wp2_with fail
        rw [HF.out]
        refine bodyPost_ret (v := .tuple #[.agg #[.string s, .slice (some ⟨wr.heap.size, 0, none⟩) [2, 5].length [2, 5].length, .int .i64 2], .bool true]) (by simp [results, Tryz.results6, go_sem, *]) rfl ⟨_, rfl, ⟨rfl, _, _, rfl, fun _ => ⟨_, 0, trivial, rfl, range_blk (c := ints [2, 5]) (blk_at _ _ (by simp [World.setCell]))⟩⟩, ?_⟩
        exact (((HB.out.setCell (Nat.le_refl _) _).setCell (Nat.le_refl _) _).setCell (Nat.le_refl _) _).alloc (by simp [World.setCell]; omega) _
      | false =>
      obtain ⟨x5, h5⟩ : ∃ x, b5 s = x := ⟨_, rfl⟩
      have q5 := h5; unfold b5 at q5
      cases x5 with
      | true =>
        have HF := Lib.hid (show sigR s = ([2], 1, true) by simp [sigR, hzz, h7, h8, h9, h1, h2, h5])
        clear hzz h7 h8 h9 h1 h2 h5
        go_wp2_with fail
        rw [HF.out]
        refine bodyPost_ret (v := .tuple #[.agg #[.string s, .slice (some ⟨wr.heap.size, 0, none⟩) [2].length [2].length, .int .i64 1], .bool true]) (by simp [results, Tryz.results6, go_sem, *]) rfl ⟨_, rfl, ⟨rfl, _, _, rfl, fun _ => ⟨_, 0, trivial, rfl, range_blk (c := ints [2]) (blk_at _ _ (by simp [World.setCell]))⟩⟩, ?_⟩
        exact (((HB.out.setCell (Nat.le_refl _) _).setCell (Nat.le_refl _) _).setCell (Nat.le_refl _) _).alloc (by simp [World.setCell]; omega) _
      | false =>
      obtain ⟨x6, h6⟩ : ∃ x, b6 s = x := ⟨_, rfl⟩
      have q6 := h6; unfold b6 at q6
      cases x6 with
      | true =>
        have HF := Lib.hid (show sigR s = ([1], 2, true) by simp [sigR, hzz, h7, h8, h9, h1, h2, h5, h6])
        clear hzz h7 h8 h9 h1 h2 h5 h6
        go_wp2_with fail
        rw [HF.out]
        refine bodyPost_ret (v := .tuple #[.agg #[.string s, .slice (some ⟨wr.heap.size, 0, none⟩) [1].length [1].length, .int .i64 2], .bool true]) (by simp [results, Tryz.results6, go_sem, *]) rfl ⟨_, rfl, ⟨rfl, _, _, rfl, fun _ => ⟨_, 0, trivial, rfl, range_blk (c := ints [1]) (blk_at _ _ (by simp [World.setCell]))⟩⟩, ?_⟩
        exact (((HB.out.setCell (Nat.le_refl _) _).setCell (Nat.le_refl _) _).setCell (Nat.le_refl _) _).alloc (by simp [World.setCell]; omega) _
      | false =>
      obtain ⟨x4, h4⟩ : ∃ x, b4 s = x := ⟨_, rfl⟩
      have q4 := h4; unfold b4 at q4
      cases x4 with
      | true =>
        have HF := Lib.hid (show sigR s = ([], 1, true) by simp [sigR, hzz, h7, h8, h9, h1, h2, h5, h6, h4])
        clear hzz h7 h8 h9 h1 h2 h5 h6 h4
        go_wp2_with fail
        rw [HF.out]
        refine bodyPost_ret (v := .tuple #[.agg #[.string s, .slice none 0 0, .int .i64 1], .bool true]) (by simp [results, Tryz.results6, go_sem, *]) rfl ⟨_, rfl, row_nil _ _ _, ?_⟩
        exact ((HB.out.setCell (Nat.le_refl _) _).setCell (Nat.le_refl _) _).setCell (Nat.le_refl _) _
      | false =>
      obtain ⟨x3, h3⟩ : ∃ x, b3 s = x := ⟨_, rfl⟩
      have q3 := h3; unfold b3 at q3
      cases x3 with
      | true =>
        have HF := Lib.hid (show sigR s = ([2, 4, 4], 2, true) by simp [sigR, hzz, h7, h8, h9, h1, h2, h5, h6, h4, h3])
        clear hzz h7 h8 h9 h1 h2 h5 h6 h4 h3
        go_wp2_with fail
        rw [HF.out]
        refine bodyPost_ret (v := .tuple #[.agg #[.string s, .slice (some ⟨wr.heap.size, 0, none⟩) [2, 4, 4].length [2, 4, 4].length, .int .i64 2], .bool true]) (by simp [results, Tryz.results6, go_sem, *]) rfl ⟨_, rfl, ⟨rfl, _, _, rfl, fun _ => ⟨_, 0, trivial, rfl, range_blk (c := ints [2, 4, 4]) (blk_at _ _ (by simp [World.setCell]))⟩⟩, ?_⟩
        exact (((HB.out.setCell (Nat.le_refl _) _).setCell (Nat.le_refl _) _).setCell (Nat.le_refl _) _).alloc (by simp [World.setCell]; omega) _
      | false =>
      have HF := Lib.hid (show sigR s = ([], 0, false) by simp [sigR, hzz, h7, h8, h9, h1, h2, h5, h6, h4, h3])
      clear hzz h7 h8 h9 h1 h2 h5 h6 h4 h3
      go_wp2_with fail
      rw [HF.out]
      refine bodyPost_ret (v := .tuple #[.agg #[.string ⟨#[]⟩, .slice none 0 0, .int .i64 0], .bool false]) (by simp [results, Tryz.results6, go_sem, *]) rfl ⟨_, rfl, row_nil _ _ _, ?_⟩
      exact ((HB.out.setCell (Nat.le_refl _) _).setCell (Nat.le_refl _) _).setCell (Nat.le_refl _) _
end Go.Proofs.YtjddnchenhnemaaGreatDoor.Ps
