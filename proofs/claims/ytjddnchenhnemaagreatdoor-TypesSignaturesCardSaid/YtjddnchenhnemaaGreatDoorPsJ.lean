/-
  The reader of queries: a name that selects.
-/
import Derived.Test.YtjddnchenhnemaaGreatDoorPsI
namespace Go.Proofs.YtjddnchenhnemaaGreatDoor.Ps
open Go Go.RowKit Go.Proofs.YtjddnchenhnemaaGreatDoor.QT Go.Proofs.YtjddnchenhnemaaGreatDoor.Rg Go.Proofs.YtjddnchenhnemaaGreatDoor.Ma Go.Proofs.YtjddnchenhnemaaGreatDoor.Ir Go.Proofs.YtjddnchenhnemaaGreatDoor.Pm Go.Proofs.YtjddnchenhnemaaGreatDoor.Le
set_option maxHeartbeats 8000000
set_option maxRecDepth 100000
/-- A selector's cells. -/
abbrev sclJ (k a : Int) (vM : Value) (r o : Int) : List Value := [.int .i64 k, .int .i64 a, .float .f64 0, .string ⟨#[]⟩, vM, .int .i64 r, .int .i64 0, .int .i64 o, .int .i64 0, .bool false, .int .i64 0, .slice none 0 0, .int .i64 0, .slice none 0 0, .int .i64 0, .slice none 0 0, .slice none 0 0]
/-- A name that selects, as a tree. -/
def selT (k a : Int) (nm : ByteArray) (r : Int) : Xn := .mk { kind := k, at_ := a, m := [⟨1, nmB, nm⟩], range := r } .nil
theorem selT_held {W : World} {F : Nat → Prop} {k a : Int} {nm : ByteArray} {r : Int} {v : Value} (h : Row W F v 1 3 (mcells [⟨1, nmB, nm⟩])) : (selT k a nm r).Held W F (sclJ k a v r 0) := by
  rw [selT, Xn.Held]
  exact ⟨v, .slice none 0 0, .slice none 0 0, .slice none 0 0, .slice none 0 0, [], rfl, ⟨h, row_nil _ _ _, row_nil _ _ _, row_nil _ _ _⟩, rfl, row_nil _ _ _⟩
theorem selector_plain {E : Env} {W : World} {p d : Nat} (hP : PS E W p d) (hi1 : p < E.ts.length) (hk1 : (E.tk p).kind = 1) (hsz : (E.tk p).text.size ≤ 256)
    (h1 : isB (E.tk (p + 1)) ⟨#[123]⟩ = false) (h2 : isB (E.tk (p + 1)) ⟨#[91]⟩ = false) (h3 : isB (E.tk (p + 1)) ⟨#[111, 102, 102, 115, 101, 116]⟩ = false) (h4 : isB (E.tk (p + 3)) ⟨#[58]⟩ = false) :
    Calls Tryz.prog 120 #[.pointer (some ⟨E.g, 0, none⟩)] W (ReadsTo E (selT 3 (E.pl p) (E.tk p).text 0) (p + 1) d W) := by
  have H1 := Lib.hid h1; have H2 := Lib.hid h2; have H3 := Lib.hid h3; have H4 := Lib.hid h4; clear h1 h2 h3 h4
  have hlen := hP.len
  obtain ⟨B0, hB0⟩ : ∃ B0, B0 = (W.alloc (.cells #[.pointer (some ⟨E.g, 0, none⟩)] 62)).alloc (.cells xz.toArray 42) := ⟨_, rfl⟩
  have hb0 : Below W.heap.size W B0 := by rw [hB0]; exact ((Below.refl _ _).alloc (Nat.le_refl _) _).alloc (by simp) _
  have hpb : B0.heap[W.heap.size]? = some (.cells #[.pointer (some ⟨E.g, 0, none⟩)] 62 (0, 0)) := by rw [hB0]; exact blk_alloc (blk_new W _) _
  have hrb : B0.heap[W.heap.size + 1]? = some (.cells xz.toArray 42 (0, 0)) := by rw [hB0]; exact blk_new2 W _ _
  have hps : PS E B0 p d := hP.below hb0
  have hgW := hP.lt
  have hpc : B0.cell? ⟨W.heap.size, 0, none⟩ = some (.pointer (some ⟨E.g, 0, none⟩)) := blk_cell hpb 0
  have hx : (W.alloc (.cells #[.pointer (some ⟨E.g, 0, none⟩)] 62)).alloc (.cells #[.int .i64 0, .int .i64 0, .float .f64 0, .string ⟨#[]⟩, .slice none 0 0, .int .i64 0, .int .i64 0, .int .i64 0, .int .i64 0, .bool false, .int .i64 0, .slice none 0 0, .int .i64 0, .slice none 0 0, .int .i64 0, .slice none 0 0, .slice none 0 0] 42) = B0 := hB0.symm
  have HB0 := Lib.hid hb0; have HPB := Lib.hid hpb; have HRB := Lib.hid hrb; have HPS := Lib.hid hps; have HPW := Lib.hid hP; have HGW := Lib.hid hgW
  have HK1 := Lib.hid hk1; have HI1 := Lib.hid hi1; have HSz := Lib.hid hsz
  have s0 : B0.heap.size = W.heap.size + 2 := by rw [hB0]; simp
  clear hB0 hb0 hpb hrb hps hP hgW hk1 hi1 hsz
  obtain ⟨a, ha⟩ : ∃ a, E.pl p = a := ⟨_, rfl⟩
  rw [ha]
  have HPL := place_calls HPS.out
  rw [ha] at HPL
  have HPL := Lib.hid HPL
  clear ha
  go_enter Tryz.func120, Tryz.ntmps120
  go_wp2_with fail
  clear hx
  (with_reducible refine HPL.out.mono ?_)
  rintro e W1 ⟨rfl, hb1⟩
  have hpc1a : ∀ o, (W1.alloc o).cell? ⟨W.heap.size, 0, none⟩ = some (.pointer (some ⟨E.g, 0, none⟩)) := fun o => blk_cell (blk_alloc ((hb1.block _ (blk_lt HPB.out)).trans HPB.out) o) 0
  go_wp2_with (with_reducible refine wpList_newX rfl rfl 3 (.tmp 8) rfl rfl rfl rfl (sclJ 3 a (.slice none 0 0) 0 0) rfl rfl rfl (by simp [Value.oneCell']) ?_)
  have hB1 : Below B0.heap.size B0 (W1.alloc (.cells (sclJ 3 a (.slice none 0 0) 0 0).toArray 42)) := hb1.alloc hb1.size _
  have hE1 := blk_new W1 (.cells (sclJ 3 a (.slice none 0 0) 0 0).toArray 42)
  have hs1 := hb1.size
  have hP1 := HPS.out.below hB1
  have hpc1 := hpc1a (.cells (sclJ 3 a (.slice none 0 0) 0 0).toArray 42)
  clear hpc1a
  obtain ⟨be, hbe⟩ : ∃ be, W1.heap.size = be := ⟨_, rfl⟩
  rw [hbe] at hE1 ⊢
  rw [hbe] at hs1
  have HNX := Lib.hid (next_calls hP1)
  have HP1 := Lib.hid hP1; have HB1 := Lib.hid hB1; have HE1 := Lib.hid hE1
  generalize hW1' : W1.alloc (.cells (sclJ 3 a (.slice none 0 0) 0 0).toArray 42) = W1' at hpc1 HNX HP1 HB1 HE1 ⊢
  clear hb1 hB1 hE1 hP1 hpc hbe hW1'
  obtain ⟨t, ht⟩ : ∃ t, E.tk p = t := ⟨_, rfl⟩
  rw [ht] at HNX HK1 HSz ⊢
  have hkk : (t.kind == 1) = true := by rw [beq_iff_eq]; exact HK1.out
  (with_reducible refine HNX.out.mono ?_)
  rintro e W2 ⟨rfl, hb2⟩
  have hpc2 := (hb2.cell (p := ⟨W.heap.size, 0, none⟩) (by have := HB1.out.size; show W.heap.size < _; omega)).trans hpc1
  have HP2 := Lib.hid (HP1.out.below hb2)
  have HB2 := Lib.hid (HB1.out.trans (hb2.mono HB1.out.size))
  have HE2 := Lib.hid ((hb2.block be (blk_lt HE1.out)).trans HE1.out)
  have HTk := token_calls HP2.out 1 HI1.out (by rw [ht]; exact HK1.out)
  rw [ht] at HTk
  have HTk := Lib.hid HTk
  have HT := Lib.hid ht
  clear hb2 hpc1 ht
  unfold ta
  have hfk := field_kind
  go_wp2_with fail
  clear hfk
  (with_reducible refine HTk.out.mono ?_)
  rintro e W3 ⟨rfl, hP3, hO3⟩
  have hpc3 := (World.cell?_of_block (a := ⟨W.heap.size, 0, none⟩) (hO3.block W.heap.size (by have := HB2.out.size; omega) (by have := HGW.out; omega))).trans hpc2
  have hE3 := (hO3.block be (blk_lt HE2.out) (by have := HGW.out; omega)).trans HE2.out
  have hs3 : be < W3.heap.size := blk_lt hE3
  have hOO3 : Only E.g W W3 := (Only.of HB0.out).trans ((Only.of HB2.out).trans hO3)
  have hR3 : W3.heap[W.heap.size + 1]? = some (.cells xz.toArray 42 (0, 0)) := (hO3.block _ (by have := HB2.out.size; omega) (by have := HGW.out; omega)).trans ((HB2.out.block _ (blk_lt HRB.out)).trans HRB.out)
  have he3 : W3.cell? ⟨be, 4, none⟩ = some (.slice none 0 0) := blk_cell hE3 4
  have hf3 : W3.frozen? ⟨be, 4, none⟩ = false := blk_frozen hE3 4
  have hpb3 : W3.heap[W.heap.size]? = some (.cells #[.pointer (some ⟨E.g, 0, none⟩)] 62 (0, 0)) := (hO3.block W.heap.size (by have := HB2.out.size; omega) (by have := HGW.out; omega)).trans ((HB2.out.block _ (blk_lt HPB.out)).trans HPB.out)
  have HPB3 := Lib.hid hpb3; clear hpb3
  have HP3 := Lib.hid hP3; have HE3 := Lib.hid hE3; have HO3 := Lib.hid hOO3; have HR3 := Lib.hid hR3
  have HS3 := Lib.hid hs3
  clear hP3 hO3 hpc2 hE3 hOO3 hR3
  unfold ta
  have hft := field_text
  go_wp2_with fail
  clear hft
  obtain ⟨bm, hbm⟩ : ∃ bm, W3.heap.size = bm := ⟨_, rfl⟩
  rw [hbm]
  have HBm := Lib.hid (show W.heap.size + 2 ≤ be ∧ be < bm from ⟨by omega, by have := HS3.out; omega⟩)
  have hz3 : (W3.setCell ⟨be, 4, none⟩ (.slice (some ⟨bm, 0, none⟩) 1 1)).heap.size = bm := by simp [World.setCell, hbm]
  obtain ⟨W4, hW4⟩ : ∃ W4, W4 = (W3.setCell ⟨be, 4, none⟩ (.slice (some ⟨bm, 0, none⟩) 1 1)).alloc (.cells #[.int .i64 1, .string ⟨#[95, 95, 110, 97, 109, 101, 95, 95]⟩, .string t.text] 157) := ⟨_, rfl⟩
  have hm4 : W4.heap[bm]? = some (.cells #[.int .i64 1, .string nmB, .string t.text] 157 (0, 0)) := by
    rw [hW4]
    have := blk_new (W3.setCell ⟨be, 4, none⟩ (.slice (some ⟨bm, 0, none⟩) 1 1)) (.cells #[.int .i64 1, .string ⟨#[95, 95, 110, 97, 109, 101, 95, 95]⟩, .string t.text] 157)
    rw [hz3] at this
    exact this
  have hE4 : W4.heap[be]? = some (.cells (sclJ 3 a (.slice (some ⟨bm, 0, none⟩) 1 1) 0 0).toArray 42 (0, 0)) := by rw [hW4]; exact blk_alloc (by rw [blk_set HE3.out]; rfl) _
  have hgb : E.g ≠ be := by have := HGW.out; have := s0; omega
  have hO4 : Only E.g W W4 := by rw [hW4]; exact (HO3.out.cell (p := ⟨be, 4, none⟩) (.inr (by show W.heap.size ≤ be; omega)) _).alloc _
  have hP4 : PS E W4 (p + 1) d := HPW.out.only hO4 HP3.out.at_ HP3.out.dp (by rw [hW4]; exact blk_alloc ((Below.heap_setCell _ ⟨be, 4, none⟩ _ _ hgb).trans HP3.out.box) _)
  have hR4 : W4.heap[W.heap.size + 1]? = some (.cells xz.toArray 42 (0, 0)) := by rw [hW4]; exact blk_alloc ((Below.heap_setCell _ ⟨be, 4, none⟩ _ _ (by show W.heap.size + 1 ≠ be; omega)).trans HR3.out) _
  have hpb4 : W4.heap[W.heap.size]? = some (.cells #[.pointer (some ⟨E.g, 0, none⟩)] 62 (0, 0)) := by
    have h3 : W3.heap[W.heap.size]? = some (.cells #[.pointer (some ⟨E.g, 0, none⟩)] 62 (0, 0)) := HPB3.out
    rw [hW4]; exact blk_alloc ((Below.heap_setCell _ ⟨be, 4, none⟩ _ _ (by show W.heap.size ≠ be; omega)).trans h3) _
  rw [← hW4]
  have hlt4 : bm < W4.heap.size := blk_lt hm4
  have HM4 := Lib.hid hm4; have HE4 := Lib.hid hE4; have HO4 := Lib.hid hO4; have HP4 := Lib.hid hP4; have HR4 := Lib.hid hR4; have HPB4 := Lib.hid hpb4
  clear hz3 hW4 hm4 hE4 hO4 hP4 hR4 hpb4 he3 hf3 hpc3
  (with_reducible refine (check1_calls HM4.out HSz.out).mono ?_)
  rintro e W5 ⟨rfl, hb5⟩
  have HB5 := Lib.hid hb5
  have hpc5 : W5.cell? ⟨W.heap.size, 0, none⟩ = some (.pointer (some ⟨E.g, 0, none⟩)) := blk_cell ((hb5.block _ (blk_lt HPB4.out)).trans HPB4.out) 0
  have hP5 := HP4.out.below hb5
  clear hb5
  go_wp2_with fail
  (with_reducible refine (is_calls hP5 _ false H1.out).mono ?_)
  rintro e W6 ⟨rfl, hb6⟩
  have hb46 := HB5.out.trans (hb6.mono HB5.out.size)
  have hpc6 : W6.cell? ⟨W.heap.size, 0, none⟩ = some (.pointer (some ⟨E.g, 0, none⟩)) := blk_cell ((hb46.block _ (blk_lt HPB4.out)).trans HPB4.out) 0
  have hP6 := HP4.out.below hb46
  have c56 := hP6.cells.2.2.2.2.2.1
  have hm6 : W6.cell? ⟨be, 4, none⟩ = some (.slice (some ⟨bm, 0, none⟩) 1 1) := blk_cell ((hb46.block _ (blk_lt HE4.out)).trans HE4.out) 4
  have hM6 := (hb46.block _ (blk_lt HM4.out)).trans HM4.out
  have HCk := Lib.hid (check1_calls hM6 HSz.out)
  have HB6 := Lib.hid hb46
  clear hb6 hb46 hpc5 hP5 hP6 hM6
  go_wp2_with fail
  (with_reducible refine HCk.out.mono ?_)
  rintro e W7 ⟨rfl, hb7⟩
  have hb47 := HB6.out.trans (hb7.mono HB6.out.size)
  have hpc7 : W7.cell? ⟨W.heap.size, 0, none⟩ = some (.pointer (some ⟨E.g, 0, none⟩)) := blk_cell ((hb47.block _ (blk_lt HPB4.out)).trans HPB4.out) 0
  have hP7 := HP4.out.below hb47
  have HP7 := Lib.hid hP7
  obtain ⟨c0, c1, -, -, -, -, -⟩ := hP7.cells
  have HB7 := Lib.hid hb47
  clear hb7 hb47 hpc6 hP7 c56 hm6
  go_wp2_with fail
  obtain ⟨q, hq⟩ : ∃ q, p + 1 = q := ⟨_, rfl⟩
  rw [show p + 3 = q + 2 by omega] at H4
  rw [hq] at c1 HP7 HP4 H1 H2 ⊢
  try rw [hq] at HLt2
  by_cases hp3 : q + 2 < E.ts.length
  · obtain ⟨b, o, cap, hv, -, hlt, hr⟩ := HP7.out.tok hp3
    rw [hv] at c0
    have k0 : W7.cell? ⟨b, o + (q + 2) * 5, none⟩ = some (.int .i64 (E.tk (q + 2)).kind) := hr 0 _ rfl
    have k1 : W7.cell? ⟨b, o + (q + 2) * 5 + 1, none⟩ = some (.int .i64 (E.tk (q + 2)).at_) := hr 1 _ rfl
    have k2 : W7.cell? ⟨b, o + (q + 2) * 5 + 2, none⟩ = some (.string (E.tk (q + 2)).text) := hr 2 _ rfl
    have k3 : W7.cell? ⟨b, o + (q + 2) * 5 + 3, none⟩ = some (.float .f64 (E.tk (q + 2)).v) := hr 3 _ rfl
    have k4 : W7.cell? ⟨b, o + (q + 2) * 5 + 4, none⟩ = some (.int .i64 (E.tk (q + 2)).n) := hr 4 _ rfl
    obtain ⟨n, hn⟩ : ∃ n, E.ts.length = n := ⟨_, rfl⟩
    obtain ⟨t2, ht2⟩ : ∃ t, E.tk (q + 2) = t := ⟨_, rfl⟩
    rw [hn] at hp3 c0 hlen
    rw [ht2] at k0 k1 k2 k3 k4 H4
    have HI := Lib.hid (isT_calls t2 _ false H4.out)
    have e1 : IntKind.i64.wrap ((q : Int) + 2) = (q : Int) + 2 := IntWalk.i64_in _ (by omega)
    have e2 : ((q : Int) + 2).toNat = q + 2 := by omega
    have e3 : (0 : Int) ≤ (q : Int) + 2 := by omega
    have e4 : (q : Int) + 2 < (n : Int) := by omega
    have HN := Lib.hid hn; have HQ := Lib.hid hq
    clear hr hv hn ht2 hlt hq
    refine QT.wp_region_qtail 23 (by kernel_rfl) (by kernel_rfl) (by kernel_rfl) ?_
    simp only [List.take_succ_cons, List.take_zero, List.drop_succ_cons, List.drop_zero]
    repeat (go_big_quiet_step (fail))
    refine wpQuiet_nil ?_
    clear e1 e2 e3 e4 k0 k1 k2 k3 k4 c0 c1
    go_wp2_with fail
    (with_reducible refine (HI.out _).mono ?_)
    rintro e W8 ⟨rfl, hb8⟩
    have hb78 : Below W7.heap.size W7 W8 := ((Below.refl _ _).drew).trans hb8
    have hpc8 : W8.cell? ⟨W.heap.size, 0, none⟩ = some (.pointer (some ⟨E.g, 0, none⟩)) := (hb78.cell (p := ⟨W.heap.size, 0, none⟩) (by have := blk_lt HPB4.out; have := HB7.out.size; show W.heap.size < _; omega)).trans hpc7
    have HB8 := Lib.hid (HB7.out.trans (hb78.mono HB7.out.size))
    clear hb8 hb78 hpc7
    go_wp2_with fail
    (with_reducible refine (takes_no (HP4.out.below HB8.out) _ H2.out).mono ?_)
    rintro e W9 ⟨rfl, hb9⟩
    have hb49 := HB8.out.trans (hb9.mono HB8.out.size)
    have hpc9 : W9.cell? ⟨W.heap.size, 0, none⟩ = some (.pointer (some ⟨E.g, 0, none⟩)) := blk_cell ((hb49.block _ (blk_lt HPB4.out)).trans HPB4.out) 0
    have HP9 := Lib.hid (HP4.out.below hb49)
    have HB9 := Lib.hid hb49
    clear hb9 hb49 hpc8
    go_wp2_with fail
    (with_reducible refine (offset_none HP9.out (by rw [← HQ.out]; exact H3.out)).mono ?_)
    rintro e W10 ⟨rfl, hb10⟩
    have hb410 := HB9.out.trans (hb10.mono HB9.out.size)
    have hE10 := (hb410.block _ (blk_lt HE4.out)).trans HE4.out
    have hR10 := (hb410.block _ (blk_lt HR4.out)).trans HR4.out
    have hM10 := (hb410.block _ (blk_lt HM4.out)).trans HM4.out
    have hP10 := HP4.out.below hb410
    have hO10 : Only E.g W W10 := HO4.out.below hb410
    clear hb10 hb410 hpc9
    have he7 : W10.cell? ⟨be, 7, none⟩ = some (.int .i64 0) := blk_cell hE10 7
    have hf7 : W10.frozen? ⟨be, 7, none⟩ = false := blk_frozen hE10 7
    have hEF : (W10.setCell ⟨be, 7, none⟩ (.int .i64 0)).heap[be]? = some (.cells (sclJ 3 a (.slice (some ⟨bm, 0, none⟩) 1 1) 0 0).toArray 42 (0, 0)) := by rw [blk_set hE10]; rfl
    have hRF : (W10.setCell ⟨be, 7, none⟩ (.int .i64 0)).heap[W.heap.size + 1]? = some (.cells xz.toArray 42 (0, 0)) := (Below.heap_setCell _ ⟨be, 7, none⟩ _ _ (by show W.heap.size + 1 ≠ be; omega)).trans hR10
    have HB10 := Lib.hid hO10; have HEF := Lib.hid hEF; have HRF := Lib.hid hRF; have HM10 := Lib.hid hM10; have HP10 := Lib.hid hP10
    clear hO10 hE10 hEF hRF hR10 hM10 hP10
    go_wp2_with (first | (with_reducible refine wpList_loadX rfl _ rfl be 0 rfl (sclJ 3 a (.slice (some ⟨bm, 0, none⟩) 1 1) 0 0) (range_blk HEF.out) rfl ?_) | (with_reducible refine wpList_setX rfl _ _ rfl (W.heap.size + 1) xz (sclJ 3 a (.slice (some ⟨bm, 0, none⟩) 1 1) 0 0) HRF.out rfl rfl rfl rfl (by simp [Value.oneCell']) ?_))
    refine bodyPost_ret_by (results_cell_row (p := 2) (ty := 42) rfl _ _ (W.heap.size + 1) 42 _ (0, 0) _ rfl (setRow_heap _ _ _ _ _ _ HRF.out) Tryz.underlying42 rfl (by rw [sizeX]; rfl)) rfl ?_
    have hOF : Only E.g W ((W10.setCell ⟨be, 7, none⟩ (.int .i64 0)).setRow (W.heap.size + 1) (sclJ 3 a (.slice (some ⟨bm, 0, none⟩) 1 1) 0 0).toArray) := (HB10.out.cell (p := ⟨be, 7, none⟩) (.inr (by show W.heap.size ≤ be; omega)) _).row (.inr (Nat.le_succ _)) _
    have hq := HQ.out
    subst hq
    have ht := HT.out
    subst ht
    try (have hu2 := HU.out; subst hu2)
    have hbm2 := HBm.out
    refine ⟨_, rfl, selT_held ⟨rfl, some ⟨bm, 0, none⟩, 1, rfl, fun _ => ⟨bm, 0, by show W.heap.size ≤ bm; omega, rfl, ?_⟩⟩, HPW.out.only hOF HP10.out.at_ HP10.out.dp ?_, hOF⟩
    · refine range_blk (c := mcells [⟨1, nmB, (E.tk p).text⟩]) ((setRow_other _ _ _ _ ?_).trans ((Below.heap_setCell _ ⟨be, 7, none⟩ _ _ (by show bm ≠ be; omega)).trans HM10.out))
      omega
    · exact (setRow_other _ _ _ _ (by have := HGW.out; omega)).trans ((Below.heap_setCell _ ⟨be, 7, none⟩ _ _ hgb).trans HP10.out.box)
  · obtain ⟨ao, cap, hv⟩ := HP7.out.vt
    rw [hv] at c0
    obtain ⟨n, hn⟩ : ∃ n, E.ts.length = n := ⟨_, rfl⟩
    rw [hn] at hp3 c0 hlen
    have e1 : IntKind.i64.wrap ((q : Int) + 2) = (q : Int) + 2 := IntWalk.i64_in _ (by have := HP7.out.at_; omega)
    have e4 : decide ((q : Int) + 2 < (n : Int)) = false := decide_eq_false (by omega)
    have HN := Lib.hid hn; have HQ := Lib.hid hq
    clear hv hn hq
    go_quiet (fail)
    clear e1 e4 c0 c1
    have hb78 := Ir.below_drewN (Below.refl W7.heap.size W7) nq
    have hpc8 : (W7.drewN nq).cell? ⟨W.heap.size, 0, none⟩ = some (.pointer (some ⟨E.g, 0, none⟩)) := (hb78.cell (p := ⟨W.heap.size, 0, none⟩) (by have := blk_lt HPB4.out; have := HB7.out.size; show W.heap.size < _; omega)).trans hpc7
    have HB8 := Lib.hid (HB7.out.trans (hb78.mono HB7.out.size))
    generalize W7.drewN nq = W8 at hpc8 HB8 ⊢
    clear hb78 hpc7
    go_wp2_with fail
    (with_reducible refine (takes_no (HP4.out.below HB8.out) _ H2.out).mono ?_)
    rintro e W9 ⟨rfl, hb9⟩
    have hb49 := HB8.out.trans (hb9.mono HB8.out.size)
    have hpc9 : W9.cell? ⟨W.heap.size, 0, none⟩ = some (.pointer (some ⟨E.g, 0, none⟩)) := blk_cell ((hb49.block _ (blk_lt HPB4.out)).trans HPB4.out) 0
    have HP9 := Lib.hid (HP4.out.below hb49)
    have HB9 := Lib.hid hb49
    clear hb9 hb49 hpc8
    go_wp2_with fail
    (with_reducible refine (offset_none HP9.out (by rw [← HQ.out]; exact H3.out)).mono ?_)
    rintro e W10 ⟨rfl, hb10⟩
    have hb410 := HB9.out.trans (hb10.mono HB9.out.size)
    have hE10 := (hb410.block _ (blk_lt HE4.out)).trans HE4.out
    have hR10 := (hb410.block _ (blk_lt HR4.out)).trans HR4.out
    have hM10 := (hb410.block _ (blk_lt HM4.out)).trans HM4.out
    have hP10 := HP4.out.below hb410
    have hO10 : Only E.g W W10 := HO4.out.below hb410
    clear hb10 hb410 hpc9
    have he7 : W10.cell? ⟨be, 7, none⟩ = some (.int .i64 0) := blk_cell hE10 7
    have hf7 : W10.frozen? ⟨be, 7, none⟩ = false := blk_frozen hE10 7
    have hEF : (W10.setCell ⟨be, 7, none⟩ (.int .i64 0)).heap[be]? = some (.cells (sclJ 3 a (.slice (some ⟨bm, 0, none⟩) 1 1) 0 0).toArray 42 (0, 0)) := by rw [blk_set hE10]; rfl
    have hRF : (W10.setCell ⟨be, 7, none⟩ (.int .i64 0)).heap[W.heap.size + 1]? = some (.cells xz.toArray 42 (0, 0)) := (Below.heap_setCell _ ⟨be, 7, none⟩ _ _ (by show W.heap.size + 1 ≠ be; omega)).trans hR10
    have HB10 := Lib.hid hO10; have HEF := Lib.hid hEF; have HRF := Lib.hid hRF; have HM10 := Lib.hid hM10; have HP10 := Lib.hid hP10
    clear hO10 hE10 hEF hRF hR10 hM10 hP10
    go_wp2_with (first | (with_reducible refine wpList_loadX rfl _ rfl be 0 rfl (sclJ 3 a (.slice (some ⟨bm, 0, none⟩) 1 1) 0 0) (range_blk HEF.out) rfl ?_) | (with_reducible refine wpList_setX rfl _ _ rfl (W.heap.size + 1) xz (sclJ 3 a (.slice (some ⟨bm, 0, none⟩) 1 1) 0 0) HRF.out rfl rfl rfl rfl (by simp [Value.oneCell']) ?_))
    refine bodyPost_ret_by (results_cell_row (p := 2) (ty := 42) rfl _ _ (W.heap.size + 1) 42 _ (0, 0) _ rfl (setRow_heap _ _ _ _ _ _ HRF.out) Tryz.underlying42 rfl (by rw [sizeX]; rfl)) rfl ?_
    have hOF : Only E.g W ((W10.setCell ⟨be, 7, none⟩ (.int .i64 0)).setRow (W.heap.size + 1) (sclJ 3 a (.slice (some ⟨bm, 0, none⟩) 1 1) 0 0).toArray) := (HB10.out.cell (p := ⟨be, 7, none⟩) (.inr (by show W.heap.size ≤ be; omega)) _).row (.inr (Nat.le_succ _)) _
    have hq := HQ.out
    subst hq
    have ht := HT.out
    subst ht
    try (have hu2 := HU.out; subst hu2)
    have hbm2 := HBm.out
    refine ⟨_, rfl, selT_held ⟨rfl, some ⟨bm, 0, none⟩, 1, rfl, fun _ => ⟨bm, 0, by show W.heap.size ≤ bm; omega, rfl, ?_⟩⟩, HPW.out.only hOF HP10.out.at_ HP10.out.dp ?_, hOF⟩
    · refine range_blk (c := mcells [⟨1, nmB, (E.tk p).text⟩]) ((setRow_other _ _ _ _ ?_).trans ((Below.heap_setCell _ ⟨be, 7, none⟩ _ _ (by show bm ≠ be; omega)).trans HM10.out))
      omega
    · exact (setRow_other _ _ _ _ (by have := HGW.out; omega)).trans ((Below.heap_setCell _ ⟨be, 7, none⟩ _ _ hgb).trans HP10.out.box)
theorem selector_range {E : Env} {W : World} {p d : Nat} (hP : PS E W p d) (hi1 : p < E.ts.length) (hk1 : (E.tk p).kind = 1) (hsz : (E.tk p).text.size ≤ 256)
    (h1 : isB (E.tk (p + 1)) ⟨#[123]⟩ = false) (h2 : isB (E.tk (p + 1)) ⟨#[91]⟩ = true) (h4 : isB (E.tk (p + 3)) ⟨#[58]⟩ = false) (h5 : p + 1 + 1 < E.ts.length) (h6 : (E.tk (p + 1 + 1)).kind = 3) (h7 : isB (E.tk (p + 1 + 2)) ⟨#[93]⟩ = true)
    (h3 : isB (E.tk (p + 1 + 3)) ⟨#[111, 102, 102, 115, 101, 116]⟩ = false) :
    Calls Tryz.prog 120 #[.pointer (some ⟨E.g, 0, none⟩)] W (ReadsTo E (selT 4 (E.pl p) (E.tk p).text (E.tk (p + 1 + 1)).n) (p + 1 + 3) d W) := by
  have H1 := Lib.hid h1; have H2 := Lib.hid h2; have H3 := Lib.hid h3; have H4 := Lib.hid h4; have HLtt := Lib.hid h5; have HDur := Lib.hid h6; have HKet := Lib.hid h7; clear h1 h2 h3 h4 h5 h6 h7
  have hlen := hP.len
  obtain ⟨B0, hB0⟩ : ∃ B0, B0 = (W.alloc (.cells #[.pointer (some ⟨E.g, 0, none⟩)] 62)).alloc (.cells xz.toArray 42) := ⟨_, rfl⟩
  have hb0 : Below W.heap.size W B0 := by rw [hB0]; exact ((Below.refl _ _).alloc (Nat.le_refl _) _).alloc (by simp) _
  have hpb : B0.heap[W.heap.size]? = some (.cells #[.pointer (some ⟨E.g, 0, none⟩)] 62 (0, 0)) := by rw [hB0]; exact blk_alloc (blk_new W _) _
  have hrb : B0.heap[W.heap.size + 1]? = some (.cells xz.toArray 42 (0, 0)) := by rw [hB0]; exact blk_new2 W _ _
  have hps : PS E B0 p d := hP.below hb0
  have hgW := hP.lt
  have hpc : B0.cell? ⟨W.heap.size, 0, none⟩ = some (.pointer (some ⟨E.g, 0, none⟩)) := blk_cell hpb 0
  have hx : (W.alloc (.cells #[.pointer (some ⟨E.g, 0, none⟩)] 62)).alloc (.cells #[.int .i64 0, .int .i64 0, .float .f64 0, .string ⟨#[]⟩, .slice none 0 0, .int .i64 0, .int .i64 0, .int .i64 0, .int .i64 0, .bool false, .int .i64 0, .slice none 0 0, .int .i64 0, .slice none 0 0, .int .i64 0, .slice none 0 0, .slice none 0 0] 42) = B0 := hB0.symm
  have HB0 := Lib.hid hb0; have HPB := Lib.hid hpb; have HRB := Lib.hid hrb; have HPS := Lib.hid hps; have HPW := Lib.hid hP; have HGW := Lib.hid hgW
  have HK1 := Lib.hid hk1; have HI1 := Lib.hid hi1; have HSz := Lib.hid hsz
  have s0 : B0.heap.size = W.heap.size + 2 := by rw [hB0]; simp
  clear hB0 hb0 hpb hrb hps hP hgW hk1 hi1 hsz
  obtain ⟨a, ha⟩ : ∃ a, E.pl p = a := ⟨_, rfl⟩
  rw [ha]
  have HPL := place_calls HPS.out
  rw [ha] at HPL
  have HPL := Lib.hid HPL
  clear ha
  go_enter Tryz.func120, Tryz.ntmps120
  go_wp2_with fail
  clear hx
  (with_reducible refine HPL.out.mono ?_)
  rintro e W1 ⟨rfl, hb1⟩
  have hpc1a : ∀ o, (W1.alloc o).cell? ⟨W.heap.size, 0, none⟩ = some (.pointer (some ⟨E.g, 0, none⟩)) := fun o => blk_cell (blk_alloc ((hb1.block _ (blk_lt HPB.out)).trans HPB.out) o) 0
  go_wp2_with (with_reducible refine wpList_newX rfl rfl 3 (.tmp 8) rfl rfl rfl rfl (sclJ 3 a (.slice none 0 0) 0 0) rfl rfl rfl (by simp [Value.oneCell']) ?_)
  have hB1 : Below B0.heap.size B0 (W1.alloc (.cells (sclJ 3 a (.slice none 0 0) 0 0).toArray 42)) := hb1.alloc hb1.size _
  have hE1 := blk_new W1 (.cells (sclJ 3 a (.slice none 0 0) 0 0).toArray 42)
  have hs1 := hb1.size
  have hP1 := HPS.out.below hB1
  have hpc1 := hpc1a (.cells (sclJ 3 a (.slice none 0 0) 0 0).toArray 42)
  clear hpc1a
  obtain ⟨be, hbe⟩ : ∃ be, W1.heap.size = be := ⟨_, rfl⟩
  rw [hbe] at hE1 ⊢
  rw [hbe] at hs1
  have HNX := Lib.hid (next_calls hP1)
  have HP1 := Lib.hid hP1; have HB1 := Lib.hid hB1; have HE1 := Lib.hid hE1
  generalize hW1' : W1.alloc (.cells (sclJ 3 a (.slice none 0 0) 0 0).toArray 42) = W1' at hpc1 HNX HP1 HB1 HE1 ⊢
  clear hb1 hB1 hE1 hP1 hpc hbe hW1'
  obtain ⟨t, ht⟩ : ∃ t, E.tk p = t := ⟨_, rfl⟩
  rw [ht] at HNX HK1 HSz ⊢
  have hkk : (t.kind == 1) = true := by rw [beq_iff_eq]; exact HK1.out
  (with_reducible refine HNX.out.mono ?_)
  rintro e W2 ⟨rfl, hb2⟩
  have hpc2 := (hb2.cell (p := ⟨W.heap.size, 0, none⟩) (by have := HB1.out.size; show W.heap.size < _; omega)).trans hpc1
  have HP2 := Lib.hid (HP1.out.below hb2)
  have HB2 := Lib.hid (HB1.out.trans (hb2.mono HB1.out.size))
  have HE2 := Lib.hid ((hb2.block be (blk_lt HE1.out)).trans HE1.out)
  have HTk := token_calls HP2.out 1 HI1.out (by rw [ht]; exact HK1.out)
  rw [ht] at HTk
  have HTk := Lib.hid HTk
  have HT := Lib.hid ht
  clear hb2 hpc1 ht
  unfold ta
  have hfk := field_kind
  go_wp2_with fail
  clear hfk
  (with_reducible refine HTk.out.mono ?_)
  rintro e W3 ⟨rfl, hP3, hO3⟩
  have hpc3 := (World.cell?_of_block (a := ⟨W.heap.size, 0, none⟩) (hO3.block W.heap.size (by have := HB2.out.size; omega) (by have := HGW.out; omega))).trans hpc2
  have hE3 := (hO3.block be (blk_lt HE2.out) (by have := HGW.out; omega)).trans HE2.out
  have hs3 : be < W3.heap.size := blk_lt hE3
  have hOO3 : Only E.g W W3 := (Only.of HB0.out).trans ((Only.of HB2.out).trans hO3)
  have hR3 : W3.heap[W.heap.size + 1]? = some (.cells xz.toArray 42 (0, 0)) := (hO3.block _ (by have := HB2.out.size; omega) (by have := HGW.out; omega)).trans ((HB2.out.block _ (blk_lt HRB.out)).trans HRB.out)
  have he3 : W3.cell? ⟨be, 4, none⟩ = some (.slice none 0 0) := blk_cell hE3 4
  have hf3 : W3.frozen? ⟨be, 4, none⟩ = false := blk_frozen hE3 4
  have hpb3 : W3.heap[W.heap.size]? = some (.cells #[.pointer (some ⟨E.g, 0, none⟩)] 62 (0, 0)) := (hO3.block W.heap.size (by have := HB2.out.size; omega) (by have := HGW.out; omega)).trans ((HB2.out.block _ (blk_lt HPB.out)).trans HPB.out)
  have HPB3 := Lib.hid hpb3; clear hpb3
  have HP3 := Lib.hid hP3; have HE3 := Lib.hid hE3; have HO3 := Lib.hid hOO3; have HR3 := Lib.hid hR3
  have HS3 := Lib.hid hs3
  clear hP3 hO3 hpc2 hE3 hOO3 hR3
  unfold ta
  have hft := field_text
  go_wp2_with fail
  clear hft
  obtain ⟨bm, hbm⟩ : ∃ bm, W3.heap.size = bm := ⟨_, rfl⟩
  rw [hbm]
  have HBm := Lib.hid (show W.heap.size + 2 ≤ be ∧ be < bm from ⟨by omega, by have := HS3.out; omega⟩)
  have hz3 : (W3.setCell ⟨be, 4, none⟩ (.slice (some ⟨bm, 0, none⟩) 1 1)).heap.size = bm := by simp [World.setCell, hbm]
  obtain ⟨W4, hW4⟩ : ∃ W4, W4 = (W3.setCell ⟨be, 4, none⟩ (.slice (some ⟨bm, 0, none⟩) 1 1)).alloc (.cells #[.int .i64 1, .string ⟨#[95, 95, 110, 97, 109, 101, 95, 95]⟩, .string t.text] 157) := ⟨_, rfl⟩
  have hm4 : W4.heap[bm]? = some (.cells #[.int .i64 1, .string nmB, .string t.text] 157 (0, 0)) := by
    rw [hW4]
    have := blk_new (W3.setCell ⟨be, 4, none⟩ (.slice (some ⟨bm, 0, none⟩) 1 1)) (.cells #[.int .i64 1, .string ⟨#[95, 95, 110, 97, 109, 101, 95, 95]⟩, .string t.text] 157)
    rw [hz3] at this
    exact this
  have hE4 : W4.heap[be]? = some (.cells (sclJ 3 a (.slice (some ⟨bm, 0, none⟩) 1 1) 0 0).toArray 42 (0, 0)) := by rw [hW4]; exact blk_alloc (by rw [blk_set HE3.out]; rfl) _
  have hgb : E.g ≠ be := by have := HGW.out; have := s0; omega
  have hO4 : Only E.g W W4 := by rw [hW4]; exact (HO3.out.cell (p := ⟨be, 4, none⟩) (.inr (by show W.heap.size ≤ be; omega)) _).alloc _
  have hP4 : PS E W4 (p + 1) d := HPW.out.only hO4 HP3.out.at_ HP3.out.dp (by rw [hW4]; exact blk_alloc ((Below.heap_setCell _ ⟨be, 4, none⟩ _ _ hgb).trans HP3.out.box) _)
  have hR4 : W4.heap[W.heap.size + 1]? = some (.cells xz.toArray 42 (0, 0)) := by rw [hW4]; exact blk_alloc ((Below.heap_setCell _ ⟨be, 4, none⟩ _ _ (by show W.heap.size + 1 ≠ be; omega)).trans HR3.out) _
  have hpb4 : W4.heap[W.heap.size]? = some (.cells #[.pointer (some ⟨E.g, 0, none⟩)] 62 (0, 0)) := by
    have h3 : W3.heap[W.heap.size]? = some (.cells #[.pointer (some ⟨E.g, 0, none⟩)] 62 (0, 0)) := HPB3.out
    rw [hW4]; exact blk_alloc ((Below.heap_setCell _ ⟨be, 4, none⟩ _ _ (by show W.heap.size ≠ be; omega)).trans h3) _
  rw [← hW4]
  have hlt4 : bm < W4.heap.size := blk_lt hm4
  have HM4 := Lib.hid hm4; have HE4 := Lib.hid hE4; have HO4 := Lib.hid hO4; have HP4 := Lib.hid hP4; have HR4 := Lib.hid hR4; have HPB4 := Lib.hid hpb4
  clear hz3 hW4 hm4 hE4 hO4 hP4 hR4 hpb4 he3 hf3 hpc3
  (with_reducible refine (check1_calls HM4.out HSz.out).mono ?_)
  rintro e W5 ⟨rfl, hb5⟩
  have HB5 := Lib.hid hb5
  have hpc5 : W5.cell? ⟨W.heap.size, 0, none⟩ = some (.pointer (some ⟨E.g, 0, none⟩)) := blk_cell ((hb5.block _ (blk_lt HPB4.out)).trans HPB4.out) 0
  have hP5 := HP4.out.below hb5
  clear hb5
  go_wp2_with fail
  (with_reducible refine (is_calls hP5 _ false H1.out).mono ?_)
  rintro e W6 ⟨rfl, hb6⟩
  have hb46 := HB5.out.trans (hb6.mono HB5.out.size)
  have hpc6 : W6.cell? ⟨W.heap.size, 0, none⟩ = some (.pointer (some ⟨E.g, 0, none⟩)) := blk_cell ((hb46.block _ (blk_lt HPB4.out)).trans HPB4.out) 0
  have hP6 := HP4.out.below hb46
  have c56 := hP6.cells.2.2.2.2.2.1
  have hm6 : W6.cell? ⟨be, 4, none⟩ = some (.slice (some ⟨bm, 0, none⟩) 1 1) := blk_cell ((hb46.block _ (blk_lt HE4.out)).trans HE4.out) 4
  have hM6 := (hb46.block _ (blk_lt HM4.out)).trans HM4.out
  have HCk := Lib.hid (check1_calls hM6 HSz.out)
  have HB6 := Lib.hid hb46
  clear hb6 hb46 hpc5 hP5 hP6 hM6
  go_wp2_with fail
  (with_reducible refine HCk.out.mono ?_)
  rintro e W7 ⟨rfl, hb7⟩
  have hb47 := HB6.out.trans (hb7.mono HB6.out.size)
  have hpc7 : W7.cell? ⟨W.heap.size, 0, none⟩ = some (.pointer (some ⟨E.g, 0, none⟩)) := blk_cell ((hb47.block _ (blk_lt HPB4.out)).trans HPB4.out) 0
  have hP7 := HP4.out.below hb47
  have HP7 := Lib.hid hP7
  obtain ⟨c0, c1, -, -, -, -, -⟩ := hP7.cells
  have HB7 := Lib.hid hb47
  clear hb7 hb47 hpc6 hP7 c56 hm6
  go_wp2_with fail
  have HLt2 := Lib.hid (show (p + 1) + 1 < E.ts.length from HLtt.out)
  obtain ⟨q, hq⟩ : ∃ q, p + 1 = q := ⟨_, rfl⟩
  rw [show p + 3 = q + 2 by omega] at H4
  rw [hq] at c1 HP7 HP4 H1 H2 ⊢
  try rw [hq] at HLt2
  by_cases hp3 : q + 2 < E.ts.length
  · obtain ⟨b, o, cap, hv, -, hlt, hr⟩ := HP7.out.tok hp3
    rw [hv] at c0
    have k0 : W7.cell? ⟨b, o + (q + 2) * 5, none⟩ = some (.int .i64 (E.tk (q + 2)).kind) := hr 0 _ rfl
    have k1 : W7.cell? ⟨b, o + (q + 2) * 5 + 1, none⟩ = some (.int .i64 (E.tk (q + 2)).at_) := hr 1 _ rfl
    have k2 : W7.cell? ⟨b, o + (q + 2) * 5 + 2, none⟩ = some (.string (E.tk (q + 2)).text) := hr 2 _ rfl
    have k3 : W7.cell? ⟨b, o + (q + 2) * 5 + 3, none⟩ = some (.float .f64 (E.tk (q + 2)).v) := hr 3 _ rfl
    have k4 : W7.cell? ⟨b, o + (q + 2) * 5 + 4, none⟩ = some (.int .i64 (E.tk (q + 2)).n) := hr 4 _ rfl
    obtain ⟨n, hn⟩ : ∃ n, E.ts.length = n := ⟨_, rfl⟩
    obtain ⟨t2, ht2⟩ : ∃ t, E.tk (q + 2) = t := ⟨_, rfl⟩
    rw [hn] at hp3 c0 hlen
    rw [ht2] at k0 k1 k2 k3 k4 H4
    have HI := Lib.hid (isT_calls t2 _ false H4.out)
    have e1 : IntKind.i64.wrap ((q : Int) + 2) = (q : Int) + 2 := IntWalk.i64_in _ (by omega)
    have e2 : ((q : Int) + 2).toNat = q + 2 := by omega
    have e3 : (0 : Int) ≤ (q : Int) + 2 := by omega
    have e4 : (q : Int) + 2 < (n : Int) := by omega
    have HN := Lib.hid hn; have HQ := Lib.hid hq
    clear hr hv hn ht2 hlt hq
    refine QT.wp_region_qtail 23 (by kernel_rfl) (by kernel_rfl) (by kernel_rfl) ?_
    simp only [List.take_succ_cons, List.take_zero, List.drop_succ_cons, List.drop_zero]
    repeat (go_big_quiet_step (fail))
    refine wpQuiet_nil ?_
    clear e1 e2 e3 e4 k0 k1 k2 k3 k4 c0 c1
    go_wp2_with fail
    (with_reducible refine (HI.out _).mono ?_)
    rintro e W8 ⟨rfl, hb8⟩
    have hb78 : Below W7.heap.size W7 W8 := ((Below.refl _ _).drew).trans hb8
    have hpc8 : W8.cell? ⟨W.heap.size, 0, none⟩ = some (.pointer (some ⟨E.g, 0, none⟩)) := (hb78.cell (p := ⟨W.heap.size, 0, none⟩) (by have := blk_lt HPB4.out; have := HB7.out.size; show W.heap.size < _; omega)).trans hpc7
    have HB8 := Lib.hid (HB7.out.trans (hb78.mono HB7.out.size))
    clear hb8 hb78 hpc7
    go_wp2_with fail
    (with_reducible refine (takes_yes (HP4.out.below HB8.out) _ H2.out).mono ?_)
    rintro e W9 ⟨rfl, hP9, hO9⟩
    have hO49 : Only E.g W4 W9 := (Only.of HB8.out).trans hO9
    have hpb9 := (hO49.block _ (blk_lt HPB4.out) (by have := HGW.out; omega)).trans HPB4.out
    have hpc9 : W9.cell? ⟨W.heap.size, 0, none⟩ = some (.pointer (some ⟨E.g, 0, none⟩)) := blk_cell hpb9 0
    have hE9 := (hO49.block _ (blk_lt HE4.out) hgb.symm).trans HE4.out
    have hk9 : W9.cell? ⟨be, 0, none⟩ = some (.int .i64 3) := blk_cell hE9 0
    have hf9 : W9.frozen? ⟨be, 0, none⟩ = false := blk_frozen hE9 0
    have hbW := blk_lt hE9
    have hneb : ¬ be = W.heap.size := by omega
    have hneb2 : ¬ W.heap.size = be := by omega
    have hP9s : PS E (W9.setCell ⟨be, 0, none⟩ (.int .i64 4)) (q + 1) d := HPW.out.only ((HO4.out.trans hO49).cell (p := ⟨be, 0, none⟩) (.inr (by show W.heap.size ≤ be; omega)) _) hP9.at_ hP9.dp ((Below.heap_setCell _ ⟨be, 0, none⟩ _ _ hgb).trans hP9.box)
    have hE9s : (W9.setCell ⟨be, 0, none⟩ (.int .i64 4)).heap[be]? = some (.cells (sclJ 4 a (.slice (some ⟨bm, 0, none⟩) 1 1) 0 0).toArray 42 (0, 0)) := by rw [blk_set hE9]; rfl
    have HTk2 := token_calls hP9s 3 HLt2.out (by rw [← HQ.out]; exact HDur.out)
    have HTk2 := Lib.hid HTk2
    have hk : ∀ k, k < W4.heap.size → k ≠ E.g → k ≠ be → (W9.setCell ⟨be, 0, none⟩ (.int .i64 4)).heap[k]? = W4.heap[k]? := fun k h1 h2 h3 => (Below.heap_setCell _ ⟨be, 0, none⟩ _ _ h3).trans (hO49.block k h1 h2)
    have HPb9 := Lib.hid ((hk _ (blk_lt HPB4.out) (by have := HGW.out; omega) (by omega)).trans HPB4.out)
    have HRb9 := Lib.hid ((hk _ (blk_lt HR4.out) (by have := HGW.out; omega) (by omega)).trans HR4.out)
    have HMb9 := Lib.hid ((hk _ (blk_lt HM4.out) (by have := HGW.out; have := HBm.out; omega) (by have := HBm.out; omega)).trans HM4.out)
    have HO9 := Lib.hid ((HO4.out.trans hO49).cell (p := ⟨be, 0, none⟩) (.inr (by show W.heap.size ≤ be; omega)) (.int .i64 4))
    have HE9 := Lib.hid hE9s
    clear hP9 hO9 hO49 hpb9 hE9 hP9s hE9s hk hpc8
    go_wp2_with fail
    (with_reducible refine HTk2.out.mono ?_)
    rintro e W11 ⟨rfl, hP11, hO11⟩
    clear hk9 hf9 hpc9
    have hE11 := (hO11.block _ (blk_lt HE9.out) hgb.symm).trans HE9.out
    have hr11 : W11.cell? ⟨be, 5, none⟩ = some (.int .i64 0) := blk_cell hE11 5
    have hf11 : W11.frozen? ⟨be, 5, none⟩ = false := blk_frozen hE11 5
    have hpb11 := (hO11.block _ (blk_lt HPb9.out) (by have := HGW.out; omega)).trans HPb9.out
    have hpc11 : W11.cell? ⟨W.heap.size, 0, none⟩ = some (.pointer (some ⟨E.g, 0, none⟩)) := blk_cell hpb11 0
    obtain ⟨u, hu⟩ : ∃ u, E.tk (q + 1) = u := ⟨_, rfl⟩
    rw [hu]
    have hP11s : PS E (W11.setCell ⟨be, 5, none⟩ (.int .i64 u.n)) (q + 2) d := HPW.out.only ((HO9.out.trans hO11).cell (p := ⟨be, 5, none⟩) (.inr (by show W.heap.size ≤ be; omega)) _) hP11.at_ hP11.dp ((Below.heap_setCell _ ⟨be, 5, none⟩ _ _ hgb).trans hP11.box)
    have hE11s : (W11.setCell ⟨be, 5, none⟩ (.int .i64 u.n)).heap[be]? = some (.cells (sclJ 4 a (.slice (some ⟨bm, 0, none⟩) 1 1) u.n 0).toArray 42 (0, 0)) := by rw [blk_set hE11]; rfl
    have hk : ∀ k, k < (W9.setCell ⟨be, 0, none⟩ (.int .i64 4)).heap.size → k ≠ E.g → k ≠ be → (W11.setCell ⟨be, 5, none⟩ (.int .i64 u.n)).heap[k]? = (W9.setCell ⟨be, 0, none⟩ (.int .i64 4)).heap[k]? := fun k h1 h2 h3 => (Below.heap_setCell _ ⟨be, 5, none⟩ _ _ h3).trans (hO11.block k h1 h2)
    have HPb11 := Lib.hid ((hk _ (blk_lt HPb9.out) (by have := HGW.out; omega) (by omega)).trans HPb9.out)
    have HRb11 := Lib.hid ((hk _ (blk_lt HRb9.out) (by have := HGW.out; omega) (by omega)).trans HRb9.out)
    have HMb11 := Lib.hid ((hk _ (blk_lt HMb9.out) (by have := HGW.out; have := HBm.out; omega) (by have := HBm.out; omega)).trans HMb9.out)
    have HO11 := Lib.hid ((HO9.out.trans hO11).cell (p := ⟨be, 5, none⟩) (.inr (by show W.heap.size ≤ be; omega)) (.int .i64 u.n))
    have HE11 := Lib.hid hE11s
    have HW := want_calls hP11s ⟨#[93]⟩ (by rw [← HQ.out]; exact HKet.out)
    have HW := Lib.hid HW
    have HU := Lib.hid hu
    clear hP11 hO11 hE11 hpb11 hP11s hE11s hk hu
    unfold ta
    have hfn := field_n
    go_wp2_with fail
    clear hfn
    (with_reducible refine HW.out.mono ?_)
    rintro e W12 ⟨rfl, hP12, hO12⟩
    clear hr11 hf11 hpc11
    have hpb12 := (hO12.block _ (blk_lt HPb11.out) (by have := HGW.out; omega)).trans HPb11.out
    have hpc12 : W12.cell? ⟨W.heap.size, 0, none⟩ = some (.pointer (some ⟨E.g, 0, none⟩)) := blk_cell hpb12 0
    have HO := Lib.hid (offset_none hP12 (by rw [← HQ.out]; exact H3.out))
    have HP12 := Lib.hid hP12; have HO12 := Lib.hid hO12
    clear hP12 hO12 hpb12
    go_wp2_with fail
    (with_reducible refine HO.out.mono ?_)
    rintro e W10 ⟨rfl, hb10⟩
    have hO1012 : Only E.g (W11.setCell ⟨be, 5, none⟩ (.int .i64 u.n)) W10 := HO12.out.below hb10
    have hE10 := (hO1012.block _ (blk_lt HE11.out) hgb.symm).trans HE11.out
    have hR10 := (hO1012.block _ (blk_lt HRb11.out) (by have := HGW.out; omega)).trans HRb11.out
    have hM10 := (hO1012.block _ (blk_lt HMb11.out) (by have := HGW.out; have := HBm.out; omega)).trans HMb11.out
    have hP10 := HP12.out.below hb10
    have hO10 : Only E.g W W10 := HO11.out.trans hO1012
    clear hb10 hO1012 hpc12
    have he7 : W10.cell? ⟨be, 7, none⟩ = some (.int .i64 0) := blk_cell hE10 7
    have hf7 : W10.frozen? ⟨be, 7, none⟩ = false := blk_frozen hE10 7
    have hEF : (W10.setCell ⟨be, 7, none⟩ (.int .i64 0)).heap[be]? = some (.cells (sclJ 4 a (.slice (some ⟨bm, 0, none⟩) 1 1) u.n 0).toArray 42 (0, 0)) := by rw [blk_set hE10]; rfl
    have hRF : (W10.setCell ⟨be, 7, none⟩ (.int .i64 0)).heap[W.heap.size + 1]? = some (.cells xz.toArray 42 (0, 0)) := (Below.heap_setCell _ ⟨be, 7, none⟩ _ _ (by show W.heap.size + 1 ≠ be; omega)).trans hR10
    have HB10 := Lib.hid hO10; have HEF := Lib.hid hEF; have HRF := Lib.hid hRF; have HM10 := Lib.hid hM10; have HP10 := Lib.hid hP10
    clear hO10 hE10 hEF hRF hR10 hM10 hP10
    go_wp2_with (first | (with_reducible refine wpList_loadX rfl _ rfl be 0 rfl (sclJ 4 a (.slice (some ⟨bm, 0, none⟩) 1 1) u.n 0) (range_blk HEF.out) rfl ?_) | (with_reducible refine wpList_setX rfl _ _ rfl (W.heap.size + 1) xz (sclJ 4 a (.slice (some ⟨bm, 0, none⟩) 1 1) u.n 0) HRF.out rfl rfl rfl rfl (by simp [Value.oneCell']) ?_))
    refine bodyPost_ret_by (results_cell_row (p := 2) (ty := 42) rfl _ _ (W.heap.size + 1) 42 _ (0, 0) _ rfl (setRow_heap _ _ _ _ _ _ HRF.out) Tryz.underlying42 rfl (by rw [sizeX]; rfl)) rfl ?_
    have hOF : Only E.g W ((W10.setCell ⟨be, 7, none⟩ (.int .i64 0)).setRow (W.heap.size + 1) (sclJ 4 a (.slice (some ⟨bm, 0, none⟩) 1 1) u.n 0).toArray) := (HB10.out.cell (p := ⟨be, 7, none⟩) (.inr (by show W.heap.size ≤ be; omega)) _).row (.inr (Nat.le_succ _)) _
    have hq := HQ.out
    subst hq
    have ht := HT.out
    subst ht
    try (have hu2 := HU.out; subst hu2)
    have hbm2 := HBm.out
    refine ⟨_, rfl, selT_held ⟨rfl, some ⟨bm, 0, none⟩, 1, rfl, fun _ => ⟨bm, 0, by show W.heap.size ≤ bm; omega, rfl, ?_⟩⟩, HPW.out.only hOF HP10.out.at_ HP10.out.dp ?_, hOF⟩
    · refine range_blk (c := mcells [⟨1, nmB, (E.tk p).text⟩]) ((setRow_other _ _ _ _ ?_).trans ((Below.heap_setCell _ ⟨be, 7, none⟩ _ _ (by show bm ≠ be; omega)).trans HM10.out))
      omega
    · exact (setRow_other _ _ _ _ (by have := HGW.out; omega)).trans ((Below.heap_setCell _ ⟨be, 7, none⟩ _ _ hgb).trans HP10.out.box)
  · obtain ⟨ao, cap, hv⟩ := HP7.out.vt
    rw [hv] at c0
    obtain ⟨n, hn⟩ : ∃ n, E.ts.length = n := ⟨_, rfl⟩
    rw [hn] at hp3 c0 hlen
    have e1 : IntKind.i64.wrap ((q : Int) + 2) = (q : Int) + 2 := IntWalk.i64_in _ (by have := HP7.out.at_; omega)
    have e4 : decide ((q : Int) + 2 < (n : Int)) = false := decide_eq_false (by omega)
    have HN := Lib.hid hn; have HQ := Lib.hid hq
    clear hv hn hq
    go_quiet (fail)
    clear e1 e4 c0 c1
    have hb78 := Ir.below_drewN (Below.refl W7.heap.size W7) nq
    have hpc8 : (W7.drewN nq).cell? ⟨W.heap.size, 0, none⟩ = some (.pointer (some ⟨E.g, 0, none⟩)) := (hb78.cell (p := ⟨W.heap.size, 0, none⟩) (by have := blk_lt HPB4.out; have := HB7.out.size; show W.heap.size < _; omega)).trans hpc7
    have HB8 := Lib.hid (HB7.out.trans (hb78.mono HB7.out.size))
    generalize W7.drewN nq = W8 at hpc8 HB8 ⊢
    clear hb78 hpc7
    go_wp2_with fail
    (with_reducible refine (takes_yes (HP4.out.below HB8.out) _ H2.out).mono ?_)
    rintro e W9 ⟨rfl, hP9, hO9⟩
    have hO49 : Only E.g W4 W9 := (Only.of HB8.out).trans hO9
    have hpb9 := (hO49.block _ (blk_lt HPB4.out) (by have := HGW.out; omega)).trans HPB4.out
    have hpc9 : W9.cell? ⟨W.heap.size, 0, none⟩ = some (.pointer (some ⟨E.g, 0, none⟩)) := blk_cell hpb9 0
    have hE9 := (hO49.block _ (blk_lt HE4.out) hgb.symm).trans HE4.out
    have hk9 : W9.cell? ⟨be, 0, none⟩ = some (.int .i64 3) := blk_cell hE9 0
    have hf9 : W9.frozen? ⟨be, 0, none⟩ = false := blk_frozen hE9 0
    have hbW := blk_lt hE9
    have hneb : ¬ be = W.heap.size := by omega
    have hneb2 : ¬ W.heap.size = be := by omega
    have hP9s : PS E (W9.setCell ⟨be, 0, none⟩ (.int .i64 4)) (q + 1) d := HPW.out.only ((HO4.out.trans hO49).cell (p := ⟨be, 0, none⟩) (.inr (by show W.heap.size ≤ be; omega)) _) hP9.at_ hP9.dp ((Below.heap_setCell _ ⟨be, 0, none⟩ _ _ hgb).trans hP9.box)
    have hE9s : (W9.setCell ⟨be, 0, none⟩ (.int .i64 4)).heap[be]? = some (.cells (sclJ 4 a (.slice (some ⟨bm, 0, none⟩) 1 1) 0 0).toArray 42 (0, 0)) := by rw [blk_set hE9]; rfl
    have HTk2 := token_calls hP9s 3 HLt2.out (by rw [← HQ.out]; exact HDur.out)
    have HTk2 := Lib.hid HTk2
    have hk : ∀ k, k < W4.heap.size → k ≠ E.g → k ≠ be → (W9.setCell ⟨be, 0, none⟩ (.int .i64 4)).heap[k]? = W4.heap[k]? := fun k h1 h2 h3 => (Below.heap_setCell _ ⟨be, 0, none⟩ _ _ h3).trans (hO49.block k h1 h2)
    have HPb9 := Lib.hid ((hk _ (blk_lt HPB4.out) (by have := HGW.out; omega) (by omega)).trans HPB4.out)
    have HRb9 := Lib.hid ((hk _ (blk_lt HR4.out) (by have := HGW.out; omega) (by omega)).trans HR4.out)
    have HMb9 := Lib.hid ((hk _ (blk_lt HM4.out) (by have := HGW.out; have := HBm.out; omega) (by have := HBm.out; omega)).trans HM4.out)
    have HO9 := Lib.hid ((HO4.out.trans hO49).cell (p := ⟨be, 0, none⟩) (.inr (by show W.heap.size ≤ be; omega)) (.int .i64 4))
    have HE9 := Lib.hid hE9s
    clear hP9 hO9 hO49 hpb9 hE9 hP9s hE9s hk hpc8
    go_wp2_with fail
    (with_reducible refine HTk2.out.mono ?_)
    rintro e W11 ⟨rfl, hP11, hO11⟩
    clear hk9 hf9 hpc9
    have hE11 := (hO11.block _ (blk_lt HE9.out) hgb.symm).trans HE9.out
    have hr11 : W11.cell? ⟨be, 5, none⟩ = some (.int .i64 0) := blk_cell hE11 5
    have hf11 : W11.frozen? ⟨be, 5, none⟩ = false := blk_frozen hE11 5
    have hpb11 := (hO11.block _ (blk_lt HPb9.out) (by have := HGW.out; omega)).trans HPb9.out
    have hpc11 : W11.cell? ⟨W.heap.size, 0, none⟩ = some (.pointer (some ⟨E.g, 0, none⟩)) := blk_cell hpb11 0
    obtain ⟨u, hu⟩ : ∃ u, E.tk (q + 1) = u := ⟨_, rfl⟩
    rw [hu]
    have hP11s : PS E (W11.setCell ⟨be, 5, none⟩ (.int .i64 u.n)) (q + 2) d := HPW.out.only ((HO9.out.trans hO11).cell (p := ⟨be, 5, none⟩) (.inr (by show W.heap.size ≤ be; omega)) _) hP11.at_ hP11.dp ((Below.heap_setCell _ ⟨be, 5, none⟩ _ _ hgb).trans hP11.box)
    have hE11s : (W11.setCell ⟨be, 5, none⟩ (.int .i64 u.n)).heap[be]? = some (.cells (sclJ 4 a (.slice (some ⟨bm, 0, none⟩) 1 1) u.n 0).toArray 42 (0, 0)) := by rw [blk_set hE11]; rfl
    have hk : ∀ k, k < (W9.setCell ⟨be, 0, none⟩ (.int .i64 4)).heap.size → k ≠ E.g → k ≠ be → (W11.setCell ⟨be, 5, none⟩ (.int .i64 u.n)).heap[k]? = (W9.setCell ⟨be, 0, none⟩ (.int .i64 4)).heap[k]? := fun k h1 h2 h3 => (Below.heap_setCell _ ⟨be, 5, none⟩ _ _ h3).trans (hO11.block k h1 h2)
    have HPb11 := Lib.hid ((hk _ (blk_lt HPb9.out) (by have := HGW.out; omega) (by omega)).trans HPb9.out)
    have HRb11 := Lib.hid ((hk _ (blk_lt HRb9.out) (by have := HGW.out; omega) (by omega)).trans HRb9.out)
    have HMb11 := Lib.hid ((hk _ (blk_lt HMb9.out) (by have := HGW.out; have := HBm.out; omega) (by have := HBm.out; omega)).trans HMb9.out)
    have HO11 := Lib.hid ((HO9.out.trans hO11).cell (p := ⟨be, 5, none⟩) (.inr (by show W.heap.size ≤ be; omega)) (.int .i64 u.n))
    have HE11 := Lib.hid hE11s
    have HW := want_calls hP11s ⟨#[93]⟩ (by rw [← HQ.out]; exact HKet.out)
    have HW := Lib.hid HW
    have HU := Lib.hid hu
    clear hP11 hO11 hE11 hpb11 hP11s hE11s hk hu
    unfold ta
    have hfn := field_n
    go_wp2_with fail
    clear hfn
    (with_reducible refine HW.out.mono ?_)
    rintro e W12 ⟨rfl, hP12, hO12⟩
    clear hr11 hf11 hpc11
    have hpb12 := (hO12.block _ (blk_lt HPb11.out) (by have := HGW.out; omega)).trans HPb11.out
    have hpc12 : W12.cell? ⟨W.heap.size, 0, none⟩ = some (.pointer (some ⟨E.g, 0, none⟩)) := blk_cell hpb12 0
    have HO := Lib.hid (offset_none hP12 (by rw [← HQ.out]; exact H3.out))
    have HP12 := Lib.hid hP12; have HO12 := Lib.hid hO12
    clear hP12 hO12 hpb12
    go_wp2_with fail
    (with_reducible refine HO.out.mono ?_)
    rintro e W10 ⟨rfl, hb10⟩
    have hO1012 : Only E.g (W11.setCell ⟨be, 5, none⟩ (.int .i64 u.n)) W10 := HO12.out.below hb10
    have hE10 := (hO1012.block _ (blk_lt HE11.out) hgb.symm).trans HE11.out
    have hR10 := (hO1012.block _ (blk_lt HRb11.out) (by have := HGW.out; omega)).trans HRb11.out
    have hM10 := (hO1012.block _ (blk_lt HMb11.out) (by have := HGW.out; have := HBm.out; omega)).trans HMb11.out
    have hP10 := HP12.out.below hb10
    have hO10 : Only E.g W W10 := HO11.out.trans hO1012
    clear hb10 hO1012 hpc12
    have he7 : W10.cell? ⟨be, 7, none⟩ = some (.int .i64 0) := blk_cell hE10 7
    have hf7 : W10.frozen? ⟨be, 7, none⟩ = false := blk_frozen hE10 7
    have hEF : (W10.setCell ⟨be, 7, none⟩ (.int .i64 0)).heap[be]? = some (.cells (sclJ 4 a (.slice (some ⟨bm, 0, none⟩) 1 1) u.n 0).toArray 42 (0, 0)) := by rw [blk_set hE10]; rfl
    have hRF : (W10.setCell ⟨be, 7, none⟩ (.int .i64 0)).heap[W.heap.size + 1]? = some (.cells xz.toArray 42 (0, 0)) := (Below.heap_setCell _ ⟨be, 7, none⟩ _ _ (by show W.heap.size + 1 ≠ be; omega)).trans hR10
    have HB10 := Lib.hid hO10; have HEF := Lib.hid hEF; have HRF := Lib.hid hRF; have HM10 := Lib.hid hM10; have HP10 := Lib.hid hP10
    clear hO10 hE10 hEF hRF hR10 hM10 hP10
    go_wp2_with (first | (with_reducible refine wpList_loadX rfl _ rfl be 0 rfl (sclJ 4 a (.slice (some ⟨bm, 0, none⟩) 1 1) u.n 0) (range_blk HEF.out) rfl ?_) | (with_reducible refine wpList_setX rfl _ _ rfl (W.heap.size + 1) xz (sclJ 4 a (.slice (some ⟨bm, 0, none⟩) 1 1) u.n 0) HRF.out rfl rfl rfl rfl (by simp [Value.oneCell']) ?_))
    refine bodyPost_ret_by (results_cell_row (p := 2) (ty := 42) rfl _ _ (W.heap.size + 1) 42 _ (0, 0) _ rfl (setRow_heap _ _ _ _ _ _ HRF.out) Tryz.underlying42 rfl (by rw [sizeX]; rfl)) rfl ?_
    have hOF : Only E.g W ((W10.setCell ⟨be, 7, none⟩ (.int .i64 0)).setRow (W.heap.size + 1) (sclJ 4 a (.slice (some ⟨bm, 0, none⟩) 1 1) u.n 0).toArray) := (HB10.out.cell (p := ⟨be, 7, none⟩) (.inr (by show W.heap.size ≤ be; omega)) _).row (.inr (Nat.le_succ _)) _
    have hq := HQ.out
    subst hq
    have ht := HT.out
    subst ht
    try (have hu2 := HU.out; subst hu2)
    have hbm2 := HBm.out
    refine ⟨_, rfl, selT_held ⟨rfl, some ⟨bm, 0, none⟩, 1, rfl, fun _ => ⟨bm, 0, by show W.heap.size ≤ bm; omega, rfl, ?_⟩⟩, HPW.out.only hOF HP10.out.at_ HP10.out.dp ?_, hOF⟩
    · refine range_blk (c := mcells [⟨1, nmB, (E.tk p).text⟩]) ((setRow_other _ _ _ _ ?_).trans ((Below.heap_setCell _ ⟨be, 7, none⟩ _ _ (by show bm ≠ be; omega)).trans HM10.out))
      omega
    · exact (setRow_other _ _ _ _ (by have := HGW.out; omega)).trans ((Below.heap_setCell _ ⟨be, 7, none⟩ _ _ hgb).trans HP10.out.box)
end Go.Proofs.YtjddnchenhnemaaGreatDoor.Ps
