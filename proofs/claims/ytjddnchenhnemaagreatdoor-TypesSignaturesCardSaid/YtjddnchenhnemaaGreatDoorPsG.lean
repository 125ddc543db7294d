/-
  The reader of queries: one argument of a call is read (the closure in kids): its walk.
-/
import Derived.Test.YtjddnchenhnemaaGreatDoorPsF
namespace Go.Proofs.YtjddnchenhnemaaGreatDoor.Ps
open Go Go.RowKit Go.Proofs.YtjddnchenhnemaaGreatDoor.QT Go.Proofs.YtjddnchenhnemaaGreatDoor.Rg Go.Proofs.YtjddnchenhnemaaGreatDoor.Ma Go.Proofs.YtjddnchenhnemaaGreatDoor.Ir Go.Proofs.YtjddnchenhnemaaGreatDoor.Pm Go.Proofs.YtjddnchenhnemaaGreatDoor.Le
set_option maxHeartbeats 8000000
set_option maxRecDepth 100000
theorem kid_calls {E : Env} {n : Xn} {p j d lb pb : Nat} {W : World} (hP : PS E W p d) (hl : W.heap[lb]? = some (.cells #[.slice none 0 0] 40 (0, 0))) (hp : W.heap[pb]? = some (.cells #[.pointer (some ⟨E.g, 0, none⟩)] 62 (0, 0)))
    (hQ : ∀ W, PS E W p d → Calls Tryz.prog 23 #[.pointer (some ⟨E.g, 0, none⟩)] W (ReadsTo E n j d W)) :
    Calls Tryz.prog 140 #[.pointer (some ⟨lb, 0, none⟩), .pointer (some ⟨pb, 0, none⟩)] W (KidPost E n j d lb W) := by
  obtain ⟨i0, hi0, hz0, hz1, hz2⟩ := info_parts infoX3
  have hlg : lb ≠ E.g := by intro e; have := hP.box; rw [← e, hl] at this; simp at this
  have hpg : pb ≠ E.g := by intro e; have := hP.box; rw [← e, hp] at this; simp at this
  have HLg := Lib.hid hlg; have HPg := Lib.hid hpg
  have HLt := Lib.hid (blk_lt hl); have HPt := Lib.hid (blk_lt hp); have HEt := Lib.hid hP.lt
  have HL := Lib.hid hl
  have HPb := Lib.hid hp
  have HPc := Lib.hid (show W.cell? ⟨pb, 0, none⟩ = some (.pointer (some ⟨E.g, 0, none⟩)) from blk_cell hp 0)
  have HQ := Lib.hid hQ
  have HPS := Lib.hid hP
  have XZ1 := Lib.hid (show ∀ u ∈ xz, u.oneCell' = true by decide)
  clear hlg hpg hQ hP hl hp
  go_enter Tryz.func140, Tryz.ntmps140
  refine wp_region_x (S := fun w => w.cell? ⟨lb, 0, none⟩ = some (.slice none 0 0) ∧ w.cell? ⟨pb, 0, none⟩ = some (.pointer (some ⟨E.g, 0, none⟩))) 8 (by kernel_rfl) ⟨blk_cell HL.out 0, HPc.out⟩ (fun hHeld => ?_)
  refine wpAnyX_take (i := 0) (v := .slice none 0 0) rfl rfl rfl (by kernel_rfl) (by kernel_rfl) (by kernel_rfl) (by kernel_rfl) rfl (fun _ _ _ h => h) (Or.inl ⟨by rfl, fun w hSw => by obtain ⟨h1, h2⟩ := hSw; go_simp⟩) hHeld ?_
  try simp only [Act.put, List.getElem_toArray, List.getElem_cons_zero, List.getElem_cons_succ, List.setIfInBounds_toArray, List.set_cons_zero, List.set_cons_succ]
  refine wpAnyX_take (i := 1) (v := .pointer (some ⟨E.g, 0, none⟩)) rfl rfl rfl (by kernel_rfl) (by kernel_rfl) (by kernel_rfl) (by kernel_rfl) rfl (fun _ _ _ h => h) (Or.inl ⟨by rfl, fun w hSw => by obtain ⟨h1, h2⟩ := hSw; go_simp⟩) hHeld ?_
  try simp only [Act.put, List.getElem_toArray, List.getElem_cons_zero, List.getElem_cons_succ, List.setIfInBounds_toArray, List.set_cons_zero, List.set_cons_succ]
  refine wpAnyX_take (i := 3) (v := .int .i64 0) rfl rfl rfl (by kernel_rfl) (by kernel_rfl) (by kernel_rfl) (by kernel_rfl) rfl (fun _ _ _ h => h) (Or.inl ⟨by rfl, fun w hSw => by go_simp⟩) hHeld ?_
  try simp only [Act.put, List.getElem_toArray, List.getElem_cons_zero, List.getElem_cons_succ, List.setIfInBounds_toArray, List.set_cons_zero, List.set_cons_succ]
  refine wpAnyX_two (i := 2) (j := 4) (by kernel_rfl) rfl rfl (fun K hK => ?_) (fun K hK => ?_)
  · rw [if_pos (by rfl)]
    go_simp
    go_at_call 23
    refine (HQ.out _ (HPS.out.below ((Below.refl _ _).drew))).mono ?_
    rintro q w4 ⟨c, rfl, hn, hps, hon⟩
    have hon' : Only E.g W w4 := ((Only.refl E.g W).drewN 1).trans hon
    have hl4 := (hon'.block lb HLt.out HLg.out).trans HL.out
    have hp4 := (World.cell?_of_block (a := ⟨pb, 0, none⟩) (hon'.block pb HPt.out HPg.out)).trans HPc.out
    refine hK.out _ _ (fun _ => ⟨blk_cell hl4 0, hp4⟩) ?_
    clear hK K hl4 hp4
    have HN4 := Lib.hid hn; have HPS4 := Lib.hid hps; have HOn4 := Lib.hid hon'; clear hn hps hon hon'
    try simp only [Act.put, List.getElem_toArray, List.getElem_cons_zero, List.getElem_cons_succ, List.setIfInBounds_toArray, List.set_cons_zero, List.set_cons_succ]
    refine wpAnyX_one (i := 4) (by kernel_rfl) rfl (fun K hK => ?_)
    refine step_slice1 (by rfl) 40 42 17 _ (.const (.agg xz.toArray)) (by rfl) xz.toArray (by rfl) Tryz.underlying40 infoX (by decide) (by decide) (by decide) ?_
    have hM : Mid E n j d c w4.heap.size W (w4.alloc (.cells xz.toArray 42)) := ⟨HPS4.out.below ((Below.refl _ _).alloc (Nat.le_refl _) _), HOn4.out.alloc _, Xn.Held.keep (fun b hb hlt => ⟨Below.heap_alloc _ _ _ hlt, hb⟩) n (Xn.Held.keep (fun b hb _ => ⟨rfl, by exact hb⟩) n HN4.out), blk_new _ _⟩
    have hS4 : (w4.alloc (.cells xz.toArray 42)).cell? ⟨lb, 0, none⟩ = some (.slice none 0 0) ∧ (w4.alloc (.cells xz.toArray 42)).cell? ⟨pb, 0, none⟩ = some (.pointer (some ⟨E.g, 0, none⟩)) := ⟨blk_cell ((hM.on.block lb HLt.out HLg.out).trans HL.out) 0, (World.cell?_of_block (a := ⟨pb, 0, none⟩) (hM.on.block pb HPt.out HPg.out)).trans HPc.out⟩
    refine hK.out _ _ (fun _ => hS4) ?_
    clear hK K hS4
    have HMid := Lib.hid hM; clear hM
    obtain ⟨z, hz⟩ : ∃ z, w4.heap.size = z := ⟨_, rfl⟩
    rw [hz] at HMid ⊢
    generalize w4.alloc (.cells xz.toArray 42) = w5 at HMid ⊢
    clear hz HN4 HPS4 HOn4
    try simp only [Act.put, List.getElem_toArray, List.getElem_cons_zero, List.getElem_cons_succ, List.setIfInBounds_toArray, List.set_cons_zero, List.set_cons_succ]
    refine wpAnyX_one (i := 5) (by kernel_rfl) rfl (fun K hK => ?_)
    refine step_append_lies _ (by rfl) (.tmp 2) (.tmp 6) 40 (by rfl) w5.heap.size 42 i0 (.agg xz.toArray) 17 224 Tryz.underlying40 hi0 hz0 hz1 hz2 (by rfl) (by decide) (.slice none 0 0) 0 [] (by rfl) ⟨rfl, .inl ⟨rfl, rfl⟩⟩ ⟨z, 0, none⟩ 1 1 xz (by rfl) (by rfl) (World.news_of_block (cs := xz.toArray) (t := 42) (fr := (0, 0)) HMid.out.zero) XZ1.out (by decide) (by decide) (by decide) (Nat.le_refl _) w5.heap.size rfl ?_
    intro gg cap w6 hown hgrow hat hlt6
    have hgg : gg = w5.heap.size := by rcases hat with h | h; · cases h
                                       · exact h
    subst hgg
    have hl6 : w6.heap[lb]? = some (.cells #[.slice none 0 0] 40 (0, 0)) := (hgrow.block lb (by have := HMid.out.on.size; have := HLt.out; omega) (by intro h; cases h)).trans ((HMid.out.on.block lb HLt.out HLg.out).trans HL.out)
    have hp6 : w6.cell? ⟨pb, 0, none⟩ = some (.pointer (some ⟨E.g, 0, none⟩)) := (World.cell?_of_block ((hgrow.block pb (by have := HMid.out.on.size; have := HPt.out; omega) (by intro h; cases h)).trans (HMid.out.on.block pb HPt.out HPg.out))).trans HPc.out
    have hth : w6.there w5.heap.size 0 17 := by
      rcases hown.2 with ⟨h, _⟩ | ⟨g', cap', cur, h1, h2, h3, h4, h5, h6, h7⟩
      · cases h
      · simp only [Value.slice.injEq, Option.some.injEq, Addr.mk.injEq, true_and, and_true] at h1
        obtain ⟨rfl, rfl⟩ := h1
        intro j hj
        refine ⟨?_, by rw [show (0 + j) = j by omega]; exact blk_frozen h3 j⟩
        rw [blk_cell h3, Array.getElem?_eq_getElem (by rw [h6]; omega)]
        rfl
    have hone := HMid.out.held.one
    have hlen := HMid.out.held.length
    refine hK.out _ _ (fun _ => ⟨blk_cell hl6 0, hp6⟩) ?_
    clear hK K
    have HGr := Lib.hid hgrow; have HTh := Lib.hid hth; have HOne := Lib.hid hone; have HLen := Lib.hid hlen; have HL6 := Lib.hid hl6; have HLt6 := Lib.hid hlt6
    have HP6 := Lib.hid hp6
    have HLtW := Lib.hid (show lb < w6.heap.size by have := HMid.out.on.size; have := HLt.out; have := hgrow.size; omega)
    have HNe := Lib.hid (show lb ≠ w5.heap.size by have := HMid.out.on.size; have := HLt.out; omega)
    have HNp := Lib.hid (show pb ≠ w5.heap.size by have := HMid.out.on.size; have := HPt.out; omega)
    have hHS6 : w6.cell? ⟨lb, 0, none⟩ = some (.slice none 0 0) ∧ w6.cell? ⟨pb, 0, none⟩ = some (.pointer (some ⟨E.g, 0, none⟩)) := ⟨blk_cell HL6.out 0, HP6.out⟩
    have hHS7 : (w6.setCells w5.heap.size 0 c).cell? ⟨lb, 0, none⟩ = some (.slice none 0 0) ∧ (w6.setCells w5.heap.size 0 c).cell? ⟨pb, 0, none⟩ = some (.pointer (some ⟨E.g, 0, none⟩)) := ⟨(World.cell?_of_block (a := ⟨lb, 0, none⟩) (World.heap_setCells_other _ _ _ _ HLtW.out HNe.out)).trans hHS6.1, (World.cell?_of_block (a := ⟨pb, 0, none⟩) (World.heap_setCells_other _ _ _ _ (World.block_lt_of_cell? _ _ HP6.out) HNp.out)).trans hHS6.2⟩
    clear hown hgrow hat hth hone hlen hl6 hlt6 hp6
    have hind : (Instr.indexAt 40 (.slice (some ⟨w5.heap.size, 0, none⟩) (0 + 1) cap) (.int .i64 0)).run Tryz.prog w6 = .ok (.pointer (some ⟨w5.heap.size, 0, none⟩)) w6 := by
      go_simp
    try simp only [Act.put, List.getElem_toArray, List.getElem_cons_zero, List.getElem_cons_succ, List.setIfInBounds_toArray, List.set_cons_zero, List.set_cons_succ]
    refine wpAnyX_two (i := 6) (j := 8) (by kernel_rfl) rfl rfl (fun K hK => ?_) (fun K hK => ?_)
    · rw [if_pos (by rfl)]
      go_simp
      refine hK.out _ _ (fun _ => hHS6) ?_
      clear hK K
      try simp only [Act.put, List.getElem_toArray, List.getElem_cons_zero, List.getElem_cons_succ, List.setIfInBounds_toArray, List.set_cons_zero, List.set_cons_succ]
      refine wpAnyX_two (i := 7) (j := 8) (by kernel_rfl) rfl rfl (fun K hK => ?_) (fun K hK => ?_)
      · rw [if_pos (by rfl)]
        refine wp_store_mid 42 (.tmp 8) (.tmp 4) (by rfl) w5.heap.size 0 c.toArray (by rfl) (by rfl) (by simpa [HLen.out] using HTh.out) (by rw [sizeX]; simp [HLen.out]) (all_oneCell_toArray HOne.out) ?_
        refine hK.out _ _ (fun _ => hHS7) ?_
        clear hK K
        have hl7 : (w6.setCells w5.heap.size 0 c).heap[lb]? = some (.cells #[.slice none 0 0] 40 (0, 0)) := (World.heap_setCells_other _ _ _ _ HLtW.out HNe.out).trans HL6.out
        have hlc7 := blk_cell hl7 0
        have hlf7 := blk_frozen hl7 0
        generalize hw7 : w6.setCells w5.heap.size 0 c = w7 at hl7 hlc7 hlf7 ⊢
        try simp only [Act.put, List.getElem_toArray, List.getElem_cons_zero, List.getElem_cons_succ, List.setIfInBounds_toArray, List.set_cons_zero, List.set_cons_succ]
        refine wpAnyX_one (i := 8) (by kernel_rfl) rfl (fun K hK => ?_)
        rw [if_pos (by rfl)]
        go_simp
        refine hK.out _ _ (fun h => by cases h) ?_
        clear hK K
        subst hw7
        refine wpAnyX_done (by kernel_rfl) ?_ _
        go_wp2_with fail
        go_end0
        exact kid_end HMid.out HL.out HLt.out HLg.out HEt.out HGr.out rfl HLt6.out (World.os_setCells _ _ _ _) (tape_setCells _ _ _ _) (World.output_setCells _ _ _ _) (by simp [World.setCell, size_setCells']) (fun k hk h1 h2 => (setCell_same _ h2 0).trans (World.heap_setCells_other _ _ _ _ hk h1)) (fun j v hv => (World.cell?_of_block (setCell_same _ HNe.out.symm 0)).trans (World.rangeAt_setCells_same _ _ _ _ (by simpa [HLen.out] using HTh.out) j v hv)) (by rw [blk_set hl7]; rfl)
      · have hlc8 := blk_cell HL6.out 0
        have hlf8 := blk_frozen HL6.out 0
        rw [if_pos (by rfl)]
        go_simp
        refine hK.out _ _ (fun h => by cases h) ?_
        clear hK K
        try simp only [Act.put, List.getElem_toArray, List.getElem_cons_zero, List.getElem_cons_succ, List.setIfInBounds_toArray, List.set_cons_zero, List.set_cons_succ]
        refine wpAnyX_one (i := 7) (by kernel_rfl) rfl (fun K hK => ?_)
        rw [if_pos (by rfl)]
        refine wp_store_mid 42 (.tmp 8) (.tmp 4) (by rfl) w5.heap.size 0 c.toArray (by rfl) (by rfl) (there_set (by simpa [HLen.out] using HTh.out) HNe.out) (by rw [sizeX]; simp [HLen.out]) (all_oneCell_toArray HOne.out) ?_
        refine hK.out _ _ (fun h => by cases h) ?_
        clear hK K
        refine wpAnyX_done (by kernel_rfl) ?_ _
        go_wp2_with fail
        go_end0
        exact kid_end HMid.out HL.out HLt.out HLg.out HEt.out HGr.out rfl HLt6.out (World.os_setCells _ _ _ _) (tape_setCells _ _ _ _) (World.output_setCells _ _ _ _) (by simp [World.setCell, size_setCells']) (fun k hk h1 h2 => (World.heap_setCells_other _ _ _ _ (by simpa [World.setCell] using hk) h1).trans (setCell_same _ h2 0)) (World.rangeAt_setCells_same _ _ _ _ (there_set (by simpa [HLen.out] using HTh.out) HNe.out)) ((World.heap_setCells_other _ _ _ _ (by simpa [World.setCell] using HLtW.out) HNe.out).trans (by rw [blk_set HL6.out]; rfl))
    · have hlc8 := blk_cell HL6.out 0
      have hlf8 := blk_frozen HL6.out 0
      rw [if_pos (by rfl)]
      go_simp
      refine hK.out _ _ (fun h => by cases h) ?_
      clear hK K
      have hind2 : (Instr.indexAt 40 (.slice (some ⟨w5.heap.size, 0, none⟩) (0 + 1) cap) (.int .i64 0)).run Tryz.prog (w6.setCell ⟨lb, 0, none⟩ (.slice (some ⟨w5.heap.size, 0, none⟩) (0 + 1) cap)) = .ok (.pointer (some ⟨w5.heap.size, 0, none⟩)) (w6.setCell ⟨lb, 0, none⟩ (.slice (some ⟨w5.heap.size, 0, none⟩) (0 + 1) cap)) := by
        go_simp
      try simp only [Act.put, List.getElem_toArray, List.getElem_cons_zero, List.getElem_cons_succ, List.setIfInBounds_toArray, List.set_cons_zero, List.set_cons_succ]
      refine wpAnyX_one (i := 6) (by kernel_rfl) rfl (fun K hK => ?_)
      rw [if_pos (by rfl)]
      go_simp
      refine hK.out _ _ (fun h => by cases h) ?_
      clear hK K
      try simp only [Act.put, List.getElem_toArray, List.getElem_cons_zero, List.getElem_cons_succ, List.setIfInBounds_toArray, List.set_cons_zero, List.set_cons_succ]
      refine wpAnyX_one (i := 7) (by kernel_rfl) rfl (fun K hK => ?_)
      rw [if_pos (by rfl)]
      refine wp_store_mid 42 (.tmp 8) (.tmp 4) (by rfl) w5.heap.size 0 c.toArray (by rfl) (by rfl) (there_set (by simpa [HLen.out] using HTh.out) HNe.out) (by rw [sizeX]; simp [HLen.out]) (all_oneCell_toArray HOne.out) ?_
      refine hK.out _ _ (fun h => by cases h) ?_
      clear hK K
      refine wpAnyX_done (by kernel_rfl) ?_ _
      go_wp2_with fail
      go_end0
      exact kid_end HMid.out HL.out HLt.out HLg.out HEt.out HGr.out rfl HLt6.out (World.os_setCells _ _ _ _) (tape_setCells _ _ _ _) (World.output_setCells _ _ _ _) (by simp [World.setCell, size_setCells']) (fun k hk h1 h2 => (World.heap_setCells_other _ _ _ _ (by simpa [World.setCell] using hk) h1).trans (setCell_same _ h2 0)) (World.rangeAt_setCells_same _ _ _ _ (there_set (by simpa [HLen.out] using HTh.out) HNe.out)) ((World.heap_setCells_other _ _ _ _ (by simpa [World.setCell] using HLtW.out) HNe.out).trans (by rw [blk_set HL6.out]; rfl))
  · refine step_slice1 (by rfl) 40 42 17 _ (.const (.agg xz.toArray)) (by rfl) xz.toArray (by rfl) Tryz.underlying40 infoX (by decide) (by decide) (by decide) ?_
    have hon : Only E.g W (W.drew.alloc (.cells xz.toArray 42)) := ((Only.refl E.g W).drewN 1).alloc _
    have hps := HPS.out.below (((Below.refl W.heap.size W).drew).alloc (Nat.le_refl _) (.cells xz.toArray 42))
    have hzr : (W.drew.alloc (.cells xz.toArray 42)).heap[W.heap.size]? = some (.cells xz.toArray 42 (0, 0)) := blk_new _ _
    have hS3 : (W.drew.alloc (.cells xz.toArray 42)).cell? ⟨lb, 0, none⟩ = some (.slice none 0 0) ∧ (W.drew.alloc (.cells xz.toArray 42)).cell? ⟨pb, 0, none⟩ = some (.pointer (some ⟨E.g, 0, none⟩)) := ⟨blk_cell ((hon.block lb HLt.out HLg.out).trans HL.out) 0, (World.cell?_of_block (a := ⟨pb, 0, none⟩) (hon.block pb HPt.out HPg.out)).trans HPc.out⟩
    refine hK.out _ _ (fun _ => hS3) ?_
    clear hK K hS3
    have HOn3 := Lib.hid hon; have HPS3 := Lib.hid hps; have HZr := Lib.hid hzr
    have HLz := Lib.hid (show W.heap.size < (W.drew.alloc (.cells xz.toArray 42)).heap.size by simp)
    clear hon hps hzr
    generalize W.drew.alloc (.cells xz.toArray 42) = w3 at HOn3 HPS3 HZr HLz ⊢
    try simp only [Act.put, List.getElem_toArray, List.getElem_cons_zero, List.getElem_cons_succ, List.setIfInBounds_toArray, List.set_cons_zero, List.set_cons_succ]
    refine wpAnyX_one (i := 2) (by kernel_rfl) rfl (fun K hK => ?_)
    rw [if_pos (by rfl)]
    go_simp
    go_at_call 23
    refine (HQ.out _ HPS3.out).mono ?_
    rintro q w5 ⟨c, rfl, hn, hps, hon⟩
    have hM : Mid E n j d c W.heap.size W w5 := ⟨hps, HOn3.out.trans hon, Xn.Held.keep (fun b hb _ => ⟨rfl, Nat.le_trans HOn3.out.size hb⟩) n hn, (hon.block _ HLz.out (by have := HEt.out; omega)).trans HZr.out⟩
    have hS4 : w5.cell? ⟨lb, 0, none⟩ = some (.slice none 0 0) ∧ w5.cell? ⟨pb, 0, none⟩ = some (.pointer (some ⟨E.g, 0, none⟩)) := ⟨blk_cell ((hM.on.block lb HLt.out HLg.out).trans HL.out) 0, (World.cell?_of_block (a := ⟨pb, 0, none⟩) (hM.on.block pb HPt.out HPg.out)).trans HPc.out⟩
    refine hK.out _ _ (fun _ => hS4) ?_
    clear hK K hS4
    have HMid := Lib.hid hM; clear hM hn hps hon HOn3 HPS3 HZr
    try simp only [Act.put, List.getElem_toArray, List.getElem_cons_zero, List.getElem_cons_succ, List.setIfInBounds_toArray, List.set_cons_zero, List.set_cons_succ]
    refine wpAnyX_one (i := 5) (by kernel_rfl) rfl (fun K hK => ?_)
    refine step_append_lies _ (by rfl) (.tmp 2) (.tmp 6) 40 (by rfl) w5.heap.size 42 i0 (.agg xz.toArray) 17 224 Tryz.underlying40 hi0 hz0 hz1 hz2 (by rfl) (by decide) (.slice none 0 0) 0 [] (by rfl) ⟨rfl, .inl ⟨rfl, rfl⟩⟩ ⟨W.heap.size, 0, none⟩ 1 1 xz (by rfl) (by rfl) (World.news_of_block (cs := xz.toArray) (t := 42) (fr := (0, 0)) HMid.out.zero) XZ1.out (by decide) (by decide) (by decide) (Nat.le_refl _) w5.heap.size rfl ?_
    intro gg cap w6 hown hgrow hat hlt6
    have hgg : gg = w5.heap.size := by rcases hat with h | h; · cases h
                                       · exact h
    subst hgg
    have hl6 : w6.heap[lb]? = some (.cells #[.slice none 0 0] 40 (0, 0)) := (hgrow.block lb (by have := HMid.out.on.size; have := HLt.out; omega) (by intro h; cases h)).trans ((HMid.out.on.block lb HLt.out HLg.out).trans HL.out)
    have hp6 : w6.cell? ⟨pb, 0, none⟩ = some (.pointer (some ⟨E.g, 0, none⟩)) := (World.cell?_of_block ((hgrow.block pb (by have := HMid.out.on.size; have := HPt.out; omega) (by intro h; cases h)).trans (HMid.out.on.block pb HPt.out HPg.out))).trans HPc.out
    have hth : w6.there w5.heap.size 0 17 := by
      rcases hown.2 with ⟨h, _⟩ | ⟨g', cap', cur, h1, h2, h3, h4, h5, h6, h7⟩
      · cases h
      · simp only [Value.slice.injEq, Option.some.injEq, Addr.mk.injEq, true_and, and_true] at h1
        obtain ⟨rfl, rfl⟩ := h1
        intro j hj
        refine ⟨?_, by rw [show (0 + j) = j by omega]; exact blk_frozen h3 j⟩
        rw [blk_cell h3, Array.getElem?_eq_getElem (by rw [h6]; omega)]
        rfl
    have hone := HMid.out.held.one
    have hlen := HMid.out.held.length
    refine hK.out _ _ (fun _ => ⟨blk_cell hl6 0, hp6⟩) ?_
    clear hK K
    have HGr := Lib.hid hgrow; have HTh := Lib.hid hth; have HOne := Lib.hid hone; have HLen := Lib.hid hlen; have HL6 := Lib.hid hl6; have HLt6 := Lib.hid hlt6
    have HP6 := Lib.hid hp6
    have HLtW := Lib.hid (show lb < w6.heap.size by have := HMid.out.on.size; have := HLt.out; have := hgrow.size; omega)
    have HNe := Lib.hid (show lb ≠ w5.heap.size by have := HMid.out.on.size; have := HLt.out; omega)
    have HNp := Lib.hid (show pb ≠ w5.heap.size by have := HMid.out.on.size; have := HPt.out; omega)
    have hHS6 : w6.cell? ⟨lb, 0, none⟩ = some (.slice none 0 0) ∧ w6.cell? ⟨pb, 0, none⟩ = some (.pointer (some ⟨E.g, 0, none⟩)) := ⟨blk_cell HL6.out 0, HP6.out⟩
    have hHS7 : (w6.setCells w5.heap.size 0 c).cell? ⟨lb, 0, none⟩ = some (.slice none 0 0) ∧ (w6.setCells w5.heap.size 0 c).cell? ⟨pb, 0, none⟩ = some (.pointer (some ⟨E.g, 0, none⟩)) := ⟨(World.cell?_of_block (a := ⟨lb, 0, none⟩) (World.heap_setCells_other _ _ _ _ HLtW.out HNe.out)).trans hHS6.1, (World.cell?_of_block (a := ⟨pb, 0, none⟩) (World.heap_setCells_other _ _ _ _ (World.block_lt_of_cell? _ _ HP6.out) HNp.out)).trans hHS6.2⟩
    clear hown hgrow hat hth hone hlen hl6 hlt6 hp6
    have hind : (Instr.indexAt 40 (.slice (some ⟨w5.heap.size, 0, none⟩) (0 + 1) cap) (.int .i64 0)).run Tryz.prog w6 = .ok (.pointer (some ⟨w5.heap.size, 0, none⟩)) w6 := by
      go_simp
    try simp only [Act.put, List.getElem_toArray, List.getElem_cons_zero, List.getElem_cons_succ, List.setIfInBounds_toArray, List.set_cons_zero, List.set_cons_succ]
    refine wpAnyX_two (i := 6) (j := 8) (by kernel_rfl) rfl rfl (fun K hK => ?_) (fun K hK => ?_)
    · rw [if_pos (by rfl)]
      go_simp
      refine hK.out _ _ (fun _ => hHS6) ?_
      clear hK K
      try simp only [Act.put, List.getElem_toArray, List.getElem_cons_zero, List.getElem_cons_succ, List.setIfInBounds_toArray, List.set_cons_zero, List.set_cons_succ]
      refine wpAnyX_two (i := 7) (j := 8) (by kernel_rfl) rfl rfl (fun K hK => ?_) (fun K hK => ?_)
      · rw [if_pos (by rfl)]
        refine wp_store_mid 42 (.tmp 8) (.tmp 4) (by rfl) w5.heap.size 0 c.toArray (by rfl) (by rfl) (by simpa [HLen.out] using HTh.out) (by rw [sizeX]; simp [HLen.out]) (all_oneCell_toArray HOne.out) ?_
        refine hK.out _ _ (fun _ => hHS7) ?_
        clear hK K
        have hl7 : (w6.setCells w5.heap.size 0 c).heap[lb]? = some (.cells #[.slice none 0 0] 40 (0, 0)) := (World.heap_setCells_other _ _ _ _ HLtW.out HNe.out).trans HL6.out
        have hlc7 := blk_cell hl7 0
        have hlf7 := blk_frozen hl7 0
        generalize hw7 : w6.setCells w5.heap.size 0 c = w7 at hl7 hlc7 hlf7 ⊢
        try simp only [Act.put, List.getElem_toArray, List.getElem_cons_zero, List.getElem_cons_succ, List.setIfInBounds_toArray, List.set_cons_zero, List.set_cons_succ]
        refine wpAnyX_one (i := 8) (by kernel_rfl) rfl (fun K hK => ?_)
        rw [if_pos (by rfl)]
        go_simp
        refine hK.out _ _ (fun h => by cases h) ?_
        clear hK K
        subst hw7
        refine wpAnyX_done (by kernel_rfl) ?_ _
        go_wp2_with fail
        go_end0
        exact kid_end HMid.out HL.out HLt.out HLg.out HEt.out HGr.out rfl HLt6.out (World.os_setCells _ _ _ _) (tape_setCells _ _ _ _) (World.output_setCells _ _ _ _) (by simp [World.setCell, size_setCells']) (fun k hk h1 h2 => (setCell_same _ h2 0).trans (World.heap_setCells_other _ _ _ _ hk h1)) (fun j v hv => (World.cell?_of_block (setCell_same _ HNe.out.symm 0)).trans (World.rangeAt_setCells_same _ _ _ _ (by simpa [HLen.out] using HTh.out) j v hv)) (by rw [blk_set hl7]; rfl)
      · have hlc8 := blk_cell HL6.out 0
        have hlf8 := blk_frozen HL6.out 0
        rw [if_pos (by rfl)]
        go_simp
        refine hK.out _ _ (fun h => by cases h) ?_
        clear hK K
        try simp only [Act.put, List.getElem_toArray, List.getElem_cons_zero, List.getElem_cons_succ, List.setIfInBounds_toArray, List.set_cons_zero, List.set_cons_succ]
        refine wpAnyX_one (i := 7) (by kernel_rfl) rfl (fun K hK => ?_)
        rw [if_pos (by rfl)]
        refine wp_store_mid 42 (.tmp 8) (.tmp 4) (by rfl) w5.heap.size 0 c.toArray (by rfl) (by rfl) (there_set (by simpa [HLen.out] using HTh.out) HNe.out) (by rw [sizeX]; simp [HLen.out]) (all_oneCell_toArray HOne.out) ?_
        refine hK.out _ _ (fun h => by cases h) ?_
        clear hK K
        refine wpAnyX_done (by kernel_rfl) ?_ _
        go_wp2_with fail
        go_end0
        exact kid_end HMid.out HL.out HLt.out HLg.out HEt.out HGr.out rfl HLt6.out (World.os_setCells _ _ _ _) (tape_setCells _ _ _ _) (World.output_setCells _ _ _ _) (by simp [World.setCell, size_setCells']) (fun k hk h1 h2 => (World.heap_setCells_other _ _ _ _ (by simpa [World.setCell] using hk) h1).trans (setCell_same _ h2 0)) (World.rangeAt_setCells_same _ _ _ _ (there_set (by simpa [HLen.out] using HTh.out) HNe.out)) ((World.heap_setCells_other _ _ _ _ (by simpa [World.setCell] using HLtW.out) HNe.out).trans (by rw [blk_set HL6.out]; rfl))
    · have hlc8 := blk_cell HL6.out 0
      have hlf8 := blk_frozen HL6.out 0
      rw [if_pos (by rfl)]
      go_simp
      refine hK.out _ _ (fun h => by cases h) ?_
      clear hK K
      have hind2 : (Instr.indexAt 40 (.slice (some ⟨w5.heap.size, 0, none⟩) (0 + 1) cap) (.int .i64 0)).run Tryz.prog (w6.setCell ⟨lb, 0, none⟩ (.slice (some ⟨w5.heap.size, 0, none⟩) (0 + 1) cap)) = .ok (.pointer (some ⟨w5.heap.size, 0, none⟩)) (w6.setCell ⟨lb, 0, none⟩ (.slice (some ⟨w5.heap.size, 0, none⟩) (0 + 1) cap)) := by
        go_simp
      try simp only [Act.put, List.getElem_toArray, List.getElem_cons_zero, List.getElem_cons_succ, List.setIfInBounds_toArray, List.set_cons_zero, List.set_cons_succ]
      refine wpAnyX_one (i := 6) (by kernel_rfl) rfl (fun K hK => ?_)
      rw [if_pos (by rfl)]
      go_simp
      refine hK.out _ _ (fun h => by cases h) ?_
      clear hK K
      try simp only [Act.put, List.getElem_toArray, List.getElem_cons_zero, List.getElem_cons_succ, List.setIfInBounds_toArray, List.set_cons_zero, List.set_cons_succ]
      refine wpAnyX_one (i := 7) (by kernel_rfl) rfl (fun K hK => ?_)
      rw [if_pos (by rfl)]
      refine wp_store_mid 42 (.tmp 8) (.tmp 4) (by rfl) w5.heap.size 0 c.toArray (by rfl) (by rfl) (there_set (by simpa [HLen.out] using HTh.out) HNe.out) (by rw [sizeX]; simp [HLen.out]) (all_oneCell_toArray HOne.out) ?_
      refine hK.out _ _ (fun h => by cases h) ?_
      clear hK K
      refine wpAnyX_done (by kernel_rfl) ?_ _
      go_wp2_with fail
      go_end0
      exact kid_end HMid.out HL.out HLt.out HLg.out HEt.out HGr.out rfl HLt6.out (World.os_setCells _ _ _ _) (tape_setCells _ _ _ _) (World.output_setCells _ _ _ _) (by simp [World.setCell, size_setCells']) (fun k hk h1 h2 => (World.heap_setCells_other _ _ _ _ (by simpa [World.setCell] using hk) h1).trans (setCell_same _ h2 0)) (World.rangeAt_setCells_same _ _ _ _ (there_set (by simpa [HLen.out] using HTh.out) HNe.out)) ((World.heap_setCells_other _ _ _ _ (by simpa [World.setCell] using HLtW.out) HNe.out).trans (by rw [blk_set HL6.out]; rfl))
end Go.Proofs.YtjddnchenhnemaaGreatDoor.Ps
