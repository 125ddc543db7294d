/-
  The reader of queries: operators between two primaries.
-/
import Derived.Test.YtjddnchenhnemaaGreatDoorPsO
namespace Go.Proofs.YtjddnchenhnemaaGreatDoor.Ps
open Go Go.RowKit Go.Proofs.YtjddnchenhnemaaGreatDoor.QT Go.Proofs.YtjddnchenhnemaaGreatDoor.Rg Go.Proofs.YtjddnchenhnemaaGreatDoor.Ma Go.Proofs.YtjddnchenhnemaaGreatDoor.Ir Go.Proofs.YtjddnchenhnemaaGreatDoor.Pm Go.Proofs.YtjddnchenhnemaaGreatDoor.Le
set_option maxHeartbeats 8000000
set_option maxRecDepth 100000
/-- What op answers at a token's number: none. -/
def OpNo (E : Env) (j d : Nat) (level : Int) : Prop := ∀ W, PS E W j d → Calls Tryz.prog 68 #[.pointer (some ⟨E.g, 0, none⟩), .int .i64 level] W (RetB (.int .i64 0) W)
def OpIs (E : Env) (j d : Nat) (level : Int) (x : Nat) : Prop := ∀ W, PS E W j d → Calls Tryz.prog 68 #[.pointer (some ⟨E.g, 0, none⟩), .int .i64 level] W (RetB (.int .i64 (x : Int)) W)
theorem binary_none {E : Env} {W : World} {p d : Nat} {n : Xn} {j : Nat} (hP : PS E W p d) (level : Int) (hO : OpNo E j d level)
    (hS : ∀ W, PS E W p d → Calls Tryz.prog 67 #[.pointer (some ⟨E.g, 0, none⟩)] W (ReadsTo E n j d W)) :
    Calls Tryz.prog 44 #[.pointer (some ⟨E.g, 0, none⟩), .int .i64 level] W (ReadsTo E n j d W) := by
  have HS := Lib.hid hS; have HO := Lib.hid hO; clear hS hO
  obtain ⟨B0, hB0⟩ : ∃ B0, B0 = W.alloc (.cells xz.toArray 42) := ⟨_, rfl⟩
  have hb0 : Below W.heap.size W B0 := by rw [hB0]; exact (Below.refl _ _).alloc (Nat.le_refl _) _
  have hrb : B0.heap[W.heap.size]? = some (.cells xz.toArray 42 (0, 0)) := by rw [hB0]; exact blk_new W _
  have hps : PS E B0 p d := hP.below hb0
  have hgW := hP.lt
  have s0 : B0.heap.size = W.heap.size + 1 := by rw [hB0]; simp
  have hx : W.alloc (.cells #[.int .i64 0, .int .i64 0, .float .f64 0, .string ⟨#[]⟩, .slice none 0 0, .int .i64 0, .int .i64 0, .int .i64 0, .int .i64 0, .bool false, .int .i64 0, .slice none 0 0, .int .i64 0, .slice none 0 0, .int .i64 0, .slice none 0 0, .slice none 0 0] 42) = B0 := hB0.symm
  have HB0 := Lib.hid hb0; have HRB := Lib.hid hrb; have HPS := Lib.hid hps; have HPW := Lib.hid hP; have HGW := Lib.hid hgW
  clear hB0 hb0 hrb hps hP hgW
  have HCall := Lib.hid (HS.out _ HPS.out)
  go_enter Tryz.func44, Tryz.ntmps44
  go_wp2_with fail
  refine wp_scope_laps 1 ?_
  rw [laps_succ]
  go_wp2_with fail
  clear hx
  (with_reducible refine HCall.out.mono ?_)
  rintro e W1 ⟨c, rfl, hn1, hp1, ho1⟩
  have hl1 := hn1.length
  have h11 := hn1.one
  have HN1 := Lib.hid hn1; have HO1 := Lib.hid ho1; have HP1 := Lib.hid hp1; have H11 := Lib.hid h11
  have hs1 := ho1.size
  clear hn1 ho1 hp1 h11
  go_wp2_with (with_reducible refine wpList_newX rfl rfl 5 (.tmp 9) rfl rfl rfl rfl c rfl rfl hl1 H11.out ?_)
  have hb2 : Below W1.heap.size W1 (W1.alloc (.cells c.toArray 42)) := (Below.refl _ _).alloc (Nat.le_refl _) _
  have HOp := Lib.hid (HO.out _ (HP1.out.below hb2))
  have he2 := blk_new W1 (.cells c.toArray 42)
  have HE2 := Lib.hid he2; have HB2 := Lib.hid hb2
  clear hb2 he2
  go_step3
  go_wp2_with fail
  (with_reducible refine HOp.out.mono ?_)
  rintro e WB ⟨rfl, hb3⟩
  have hb13 := HB2.out.trans (hb3.mono HB2.out.size)
  have hE3 := (hb3.block _ (blk_lt HE2.out)).trans HE2.out
  have HE3 := Lib.hid hE3
  have hrb4 := (hb13.block W.heap.size (by omega)).trans ((HO1.out.block _ (blk_lt HRB.out) (by have := HGW.out; omega)).trans HRB.out)
  have HRB4 := Lib.hid hrb4
  have HO4 := Lib.hid (((Only.of HB0.out).trans HO1.out).below hb13)
  have HP4 := Lib.hid (HP1.out.below hb13)
  have HN4 := Lib.hid (Xn.Held.keep (F1 := From B0.heap.size) (fun b hb hlt => ⟨hb13.block b hlt, hb⟩) n HN1.out)
  have HS30 := Lib.hid (show W.heap.size + 1 ≤ B0.heap.size by omega)
  have hl4 := hl1
  clear hb3 hb13 hE3 hrb4
  go_wp2_with (first | (with_reducible refine wpList_loadX rfl _ rfl W1.heap.size 0 rfl c (range_blk HE3.out) hl1 ?_) | (with_reducible refine wpList_setX rfl _ _ rfl W.heap.size xz c HRB4.out rfl rfl rfl hl4 H11.out ?_))
  rw [lap_ret]
  refine bodyPost_ret_by (results_cell_row (p := 4) (ty := 42) rfl _ _ (W.heap.size) 42 _ (0, 0) _ rfl (setRow_heap _ _ _ _ _ _ HRB4.out) Tryz.underlying42 rfl (by rw [sizeX]; simp [hl4])) rfl ?_
  have hOF : Only E.g W (WB.setRow (W.heap.size) c.toArray) := HO4.out.row (.inr (by omega)) _
  refine ⟨c, rfl, Xn.Held.keep (fun b hb _ => ⟨setRow_other _ _ _ _ (by have h := hb; unfold From at h; have := HS30.out; omega), by have h := hb; unfold From at h ⊢; have := HS30.out; omega⟩) _ HN4.out, HPW.out.only hOF HP4.out.at_ HP4.out.dp ?_, hOF⟩
  exact (setRow_other _ _ _ _ (by have := HGW.out; omega)).trans HP4.out.box
/-- An operator's node, as a tree. -/
def binT (a : Int) (x : Nat) (l : Xk) : Xn := .mk { kind := 7, at_ := a, op := (x : Int) } l
abbrev binJ (a : Int) (x : Nat) (v : Value) : List Value := [.int .i64 7, .int .i64 a, .float .f64 0, .string ⟨#[]⟩, .slice none 0 0, .int .i64 0, .int .i64 0, .int .i64 0, .int .i64 (x : Int), .bool false, .int .i64 0, .slice none 0 0, .int .i64 0, .slice none 0 0, .int .i64 0, .slice none 0 0, v]
theorem binT_held {W : World} {F : Nat → Prop} {a : Int} {x : Nat} {l : Xk} {ls : List Value} {v : Value} (hl : l.Held W F ls) (h : Row W F v l.len 17 ls) : (binT a x l).Held W F (binJ a x v) := by
  rw [binT, Xn.Held]
  exact ⟨.slice none 0 0, .slice none 0 0, .slice none 0 0, .slice none 0 0, v, ls, rfl, ⟨row_nil _ _ _, row_nil _ _ _, row_nil _ _ _, row_nil _ _ _⟩, hl, h⟩
theorem levelJ_bd (x : Nat) (h1 : 1 ≤ x) (h2 : x ≤ 13) : 1 ≤ levelJ (x : Int) ∧ levelJ (x : Int) ≤ 6 := by
  unfold levelJ
  (repeat' split) <;> omega
theorem binary_one {E : Env} {W : World} {p d : Nat} {n m : Xn} {j k : Nat} (hP : PS E W p d) (level : Int) (x : Nat) (hx1 : 1 ≤ x) (hx13 : x ≤ 13) (hj : j < E.ts.length) (hO : OpIs E j d level x) (hO2 : OpNo E k d level)
    (h1 : isB (E.tk (j + 1)) ⟨#[98, 111, 111, 108]⟩ = false) (h2 : isB (E.tk (j + 1)) ⟨#[111, 110]⟩ = false) (h3 : isB (E.tk (j + 1)) ⟨#[105, 103, 110, 111, 114, 105, 110, 103]⟩ = false)
    (hS : ∀ W, PS E W p d → Calls Tryz.prog 67 #[.pointer (some ⟨E.g, 0, none⟩)] W (ReadsTo E n j d W))
    (hR : ∀ W, PS E W (j + 1) d → Calls Tryz.prog 44 #[.pointer (some ⟨E.g, 0, none⟩), .int .i64 (levelJ x + 1)] W (ReadsTo E m k d W)) :
    Calls Tryz.prog 44 #[.pointer (some ⟨E.g, 0, none⟩), .int .i64 level] W (ReadsTo E (binT (E.pl j) x (.snoc (.snoc .nil n) m)) k d W) := by
  have HS := Lib.hid hS; have HO := Lib.hid hO; have HO2 := Lib.hid hO2; have HR := Lib.hid hR
  have H1 := Lib.hid h1; have H2 := Lib.hid h2; have H3 := Lib.hid h3
  have hlen := hP.len
  clear hS hO hO2 hR h1 h2 h3
  obtain ⟨B0, hB0⟩ : ∃ B0, B0 = W.alloc (.cells xz.toArray 42) := ⟨_, rfl⟩
  have hb0 : Below W.heap.size W B0 := by rw [hB0]; exact (Below.refl _ _).alloc (Nat.le_refl _) _
  have hrb : B0.heap[W.heap.size]? = some (.cells xz.toArray 42 (0, 0)) := by rw [hB0]; exact blk_new W _
  have hps : PS E B0 p d := hP.below hb0
  have hgW := hP.lt
  have s0 : B0.heap.size = W.heap.size + 1 := by rw [hB0]; simp
  have hx : W.alloc (.cells #[.int .i64 0, .int .i64 0, .float .f64 0, .string ⟨#[]⟩, .slice none 0 0, .int .i64 0, .int .i64 0, .int .i64 0, .int .i64 0, .bool false, .int .i64 0, .slice none 0 0, .int .i64 0, .slice none 0 0, .int .i64 0, .slice none 0 0, .slice none 0 0] 42) = B0 := hB0.symm
  have HB0 := Lib.hid hb0; have HRB := Lib.hid hrb; have HPS := Lib.hid hps; have HPW := Lib.hid hP; have HGW := Lib.hid hgW
  clear hB0 hb0 hrb hps hP hgW
  have HCall := Lib.hid (HS.out _ HPS.out)
  go_enter Tryz.func44, Tryz.ntmps44
  go_wp2_with fail
  refine wp_scope_laps 2 ?_
  rw [laps_succ]
  go_wp2_with fail
  clear hx
  (with_reducible refine HCall.out.mono ?_)
  rintro e W1 ⟨c, rfl, hn1, hp1, ho1⟩
  have hl1 := hn1.length
  have h11 := hn1.one
  have HN1 := Lib.hid hn1; have HO1 := Lib.hid ho1; have HP1 := Lib.hid hp1; have H11 := Lib.hid h11
  have hs1 := ho1.size
  clear hn1 ho1 hp1 h11
  go_wp2_with (with_reducible refine wpList_newX rfl rfl 5 (.tmp 9) rfl rfl rfl rfl c rfl rfl hl1 H11.out ?_)
  have hb2 : Below W1.heap.size W1 (W1.alloc (.cells c.toArray 42)) := (Below.refl _ _).alloc (Nat.le_refl _) _
  have HOp := Lib.hid (HO.out _ (HP1.out.below hb2))
  have he2 := blk_new W1 (.cells c.toArray 42)
  have HE2 := Lib.hid he2; have HB2 := Lib.hid hb2
  clear hb2 he2
  go_step3
  go_wp2_with fail
  (with_reducible refine HOp.out.mono ?_)
  rintro e W3 ⟨rfl, hb3⟩
  have hb13 := HB2.out.trans (hb3.mono HB2.out.size)
  have hE3 := (hb3.block _ (blk_lt HE2.out)).trans HE2.out
  have HP3 := Lib.hid (HP1.out.below hb13)
  have HE3 := Lib.hid hE3; have HB13 := Lib.hid hb13
  have hs3 := blk_lt hE3
  clear hb3 hb13 hE3
  obtain ⟨be, hbe⟩ : ∃ be, W1.heap.size = be := ⟨_, rfl⟩
  rw [hbe] at HE3 hs3 hs1 ⊢
  have t0 : ((x : Int) == 0) = false := by rw [beq_eq_false_iff_ne]; omega
  obtain ⟨a, ha⟩ : ∃ a, E.pl j = a := ⟨_, rfl⟩
  have hPl := place_calls HP3.out
  rw [ha] at hPl ⊢
  have HPl := Lib.hid hPl
  have HA := Lib.hid ha
  clear hPl ha
  go_wp2_with fail
  (with_reducible refine HPl.out.mono ?_)
  rintro e W4 ⟨rfl, hb4⟩
  have hP4 := HP3.out.below hb4
  have c1 := hP4.cells.2.1
  have f1 := blk_frozen hP4.box 1
  have hg4 := hP4.lt
  have hs4 := hb4.size
  have hE4 := (hb4.block _ (blk_lt HE3.out)).trans HE3.out
  have HP4 := Lib.hid hP4; have HB4 := Lib.hid hb4; have HE4 := Lib.hid hE4
  clear hP4 hb4 hE4
  go_wp2_with (with_reducible refine wpList_newX rfl rfl 7 (.tmp 19) rfl rfl rfl rfl (binJ a x (.slice none 0 0)) rfl rfl rfl (by simp [Value.oneCell']) ?_)
  obtain ⟨bn, hbn⟩ : ∃ bn, W4.heap.size = bn := ⟨_, rfl⟩
  have hpush : ((j + 1 : Nat) : Int) = (j : Int) + 1 := by omega
  have hP5 := (HP4.out.move (p' := j + 1) (by omega)).below ((Below.refl _ _).alloc (Nat.le_refl _) (.cells (binJ a x (.slice none 0 0)).toArray 42))
  have hN5 : ((W4.setCell ⟨E.g, 1, none⟩ (.int .i64 ((j + 1 : Nat) : Int))).alloc (.cells (binJ a x (.slice none 0 0)).toArray 42)).heap[bn]? = some (.cells (binJ a x (.slice none 0 0)).toArray 42 (0, 0)) := by
    have h := blk_new (W4.setCell ⟨E.g, 1, none⟩ (.int .i64 ((j + 1 : Nat) : Int))) (.cells (binJ a x (.slice none 0 0)).toArray 42)
    have hz : (W4.setCell ⟨E.g, 1, none⟩ (.int .i64 ((j + 1 : Nat) : Int))).heap.size = bn := by simp [World.setCell, hbn]
    rw [hz] at h; exact h
  have hO5 : Only E.g W1 ((W4.setCell ⟨E.g, 1, none⟩ (.int .i64 ((j + 1 : Nat) : Int))).alloc (.cells (binJ a x (.slice none 0 0)).toArray 42)) := ((Only.of (HB13.out.trans (HB4.out.mono HB13.out.size))).cell (p := ⟨E.g, 1, none⟩) (.inl rfl) _).alloc _
  rw [hpush] at hP5 hN5 hO5
  have hE5 : ((W4.setCell ⟨E.g, 1, none⟩ (.int .i64 ((j : Int) + 1))).alloc (.cells (binJ a x (.slice none 0 0)).toArray 42)).heap[be]? = some (.cells c.toArray 42 (0, 0)) := blk_alloc ((Below.heap_setCell _ ⟨E.g, 1, none⟩ _ _ (by show be ≠ E.g; have := HGW.out; omega)).trans HE4.out) _
  have hbb : be < bn := by rw [← hbn]; exact blk_lt HE4.out
  rw [hbn]
  have HM := Lib.hid (matching_none hP5 x hx13 H1.out H2.out H3.out)
  have HP5 := Lib.hid hP5; have HN5 := Lib.hid hN5; have HO5 := Lib.hid hO5; have HE5 := Lib.hid hE5
  clear hP5 hN5 hO5 hE5 hpush c1 f1
  generalize (W4.setCell ⟨E.g, 1, none⟩ (.int .i64 ((j : Int) + 1))).alloc (.cells (binJ a x (.slice none 0 0)).toArray 42) = W5 at HM HP5 HN5 HO5 HE5 ⊢
  (with_reducible refine HM.out.mono ?_)
  rintro e W6 ⟨rfl, hb6⟩
  have hN6 := (hb6.block _ (blk_lt HN5.out)).trans HN5.out
  have hE6 := (hb6.block _ (blk_lt HE5.out)).trans HE5.out
  have n9 : W6.cell? ⟨bn, 9, none⟩ = some (.bool false) := blk_cell hN6 9
  have n10 : W6.cell? ⟨bn, 10, none⟩ = some (.int .i64 0) := blk_cell hN6 10
  have n11 : W6.cell? ⟨bn, 11, none⟩ = some (.slice none 0 0) := blk_cell hN6 11
  have n12 : W6.cell? ⟨bn, 12, none⟩ = some (.int .i64 0) := blk_cell hN6 12
  have n13 : W6.cell? ⟨bn, 13, none⟩ = some (.slice none 0 0) := blk_cell hN6 13
  have z9 : W6.frozen? ⟨bn, 9, none⟩ = false := blk_frozen hN6 9
  have z10 : W6.frozen? ⟨bn, 10, none⟩ = false := blk_frozen hN6 10
  have z11 : W6.frozen? ⟨bn, 11, none⟩ = false := blk_frozen hN6 11
  have z12 : W6.frozen? ⟨bn, 12, none⟩ = false := blk_frozen hN6 12
  have z13 : W6.frozen? ⟨bn, 13, none⟩ = false := blk_frozen hN6 13
  have HP6 := Lib.hid (HP5.out.below hb6); have HN6 := Lib.hid hN6; have HE6 := Lib.hid hE6; have HO6 := Lib.hid (HO5.out.below hb6)
  clear hb6 hN6 hE6
  unfold mz
  go_wp2_with fail
  obtain ⟨W7, hW7⟩ : ∃ W7, W7 = (((((W6.setCell ⟨bn, 9, none⟩ (.bool false)).setCell ⟨bn, 10, none⟩ (.int .i64 0)).setCell ⟨bn, 11, none⟩ (.slice none 0 0)).setCell ⟨bn, 12, none⟩ (.int .i64 0)).setCell ⟨bn, 13, none⟩ (.slice none 0 0)) := ⟨_, rfl⟩
  rw [← hW7]
  have hN7 : W7.heap[bn]? = some (.cells (binJ a x (.slice none 0 0)).toArray 42 (0, 0)) := by
    rw [hW7, blk_set (blk_set (blk_set (blk_set (blk_set HN6.out 9 (.bool false)) 10 (.int .i64 0)) 11 (.slice none 0 0)) 12 (.int .i64 0)) 13 (.slice none 0 0)]
    rfl
  have hk7 : ∀ k, k ≠ bn → W7.heap[k]? = W6.heap[k]? := fun k hk => by
    rw [hW7]
    exact (Below.heap_setCell _ ⟨bn, 13, none⟩ _ k hk).trans ((Below.heap_setCell _ ⟨bn, 12, none⟩ _ k hk).trans ((Below.heap_setCell _ ⟨bn, 11, none⟩ _ k hk).trans ((Below.heap_setCell _ ⟨bn, 10, none⟩ _ k hk).trans (Below.heap_setCell _ ⟨bn, 9, none⟩ _ k hk))))
  have hgn : E.g ≠ bn := by have := HGW.out; omega
  have hO7 : Only E.g W1 W7 := by
    rw [hW7]
    have hge : W1.heap.size ≤ bn := by omega
    exact ((((HO6.out.cell (p := ⟨bn, 9, none⟩) (.inr hge) _).cell (p := ⟨bn, 10, none⟩) (.inr hge) _).cell (p := ⟨bn, 11, none⟩) (.inr hge) _).cell (p := ⟨bn, 12, none⟩) (.inr hge) _).cell (p := ⟨bn, 13, none⟩) (.inr hge) _
  have hP7 : PS E W7 (j + 1) d := HP1.out.only hO7 HP6.out.at_ HP6.out.dp ((hk7 _ hgn).trans HP6.out.box)
  have hE7 := (hk7 be (by omega)).trans HE6.out
  clear hW7 n9 n10 n11 n12 n13 z9 z10 z11 z12 z13
  have HN7 := Lib.hid hN7; have HO7 := Lib.hid hO7; have HP7 := Lib.hid hP7; have HE7 := Lib.hid hE7
  have hS7 : W7.drew.rangeAt be 0 c := range_blk (by exact hE7)
  clear hN7 hO7 hP7 hE7 hk7
  have hlv := levelJ_bd x hx1 hx13
  obtain ⟨lv, hlve⟩ : ∃ lv, levelJ (x : Int) = lv := ⟨_, rfl⟩
  have HLev := Lib.hid (level_calls x (by omega))
  rw [hlve] at hlv HR HLev
  have HLe := Lib.hid hlve; clear hlve
  have hw1 : IntKind.i64.wrap (lv + 1) = lv + 1 := IntWalk.i64_in _ (by omega)
  refine wp_region_held_drew (S := fun w => w.rangeAt be 0 c) (by kernel_rfl) hS7 (fun hHeld => ?_)
  clear hS7
  refine wpAnyH_take (i := 0) (v := .agg c.toArray) rfl (by kernel_rfl) (by kernel_rfl) (by kernel_rfl) (fun _ _ _ h => h) (yieldsIf_load_mid (by rfl) 42 (.tmp 5) rfl be 0 rfl c _ (fun w hw => hw) Tryz.underlying42 rfl (by rw [sizeX, hl1])) hHeld ?_
  try simp only [Act.put, List.getElem_toArray, List.getElem_cons_zero, List.getElem_cons_succ, List.setIfInBounds_toArray, List.set_cons_zero, List.set_cons_succ]
  refine wpAnyH_take (i := 1) (v := .pointer (some ⟨E.g, 0, none⟩)) rfl (by kernel_rfl) (by kernel_rfl) (by kernel_rfl) (fun _ _ _ h => h) (Or.inl ⟨by rfl, fun w hSw => by go_simp⟩) hHeld ?_
  try simp only [Act.put, List.getElem_toArray, List.getElem_cons_zero, List.getElem_cons_succ, List.setIfInBounds_toArray, List.set_cons_zero, List.set_cons_succ]
  refine wpAnyH_take (i := 2) (v := .int .i64 (x : Int)) rfl (by kernel_rfl) (by kernel_rfl) (by kernel_rfl) (fun _ _ _ h => h) (Or.inl ⟨by rfl, fun w hSw => by go_simp⟩) hHeld ?_
  try simp only [Act.put, List.getElem_toArray, List.getElem_cons_zero, List.getElem_cons_succ, List.setIfInBounds_toArray, List.set_cons_zero, List.set_cons_succ]
  refine wpAnyH_ready (rs := [3]) (by kernel_rfl) (by simp) (AllReadyH.cons rfl (fun K hK => ?_) AllReadyH.nil)
  rw [if_pos (by rfl)]
  go_simp
  go_at_call 70
  refine (HLev.out _).mono ?_
  rintro q W7d ⟨rfl, rfl⟩
  refine hK.out _ _ hHeld (fun hHeld => ?_)
  clear hK K
  try simp only [Act.put, List.getElem_toArray, List.getElem_cons_zero, List.getElem_cons_succ, List.setIfInBounds_toArray, List.set_cons_zero, List.set_cons_succ]
  refine wpAnyH_take (i := 4) (v := .int .i64 (lv + 1)) rfl (by kernel_rfl) (by kernel_rfl) (by kernel_rfl) (fun _ _ _ h => h) (Or.inl ⟨by rfl, fun w hSw => by go_simp⟩) hHeld ?_
  clear hw1
  try simp only [Act.put, List.getElem_toArray, List.getElem_cons_zero, List.getElem_cons_succ, List.setIfInBounds_toArray, List.set_cons_zero, List.set_cons_succ]
  refine wpAnyH_ready (rs := [5]) (by kernel_rfl) (by simp) (AllReadyH.cons rfl (fun K hK => ?_) AllReadyH.nil)
  rw [if_pos (by rfl)]
  go_simp
  go_at_call 44
  refine (HR.out _ (HP7.out.below (Below.refl _ _).drew)).mono ?_
  rintro q W8 ⟨c2, rfl, hn8, hp8, ho8⟩
  have hO8 : Only E.g W7 W8 := ((Only.refl E.g W7).drewN 1).trans ho8
  have hE8 := (hO8.block _ (blk_lt HE7.out) (by have := HGW.out; omega)).trans HE7.out
  have hl2 := hn8.length
  have h12 := hn8.one
  refine hK.out _ _ (range_blk hE8) (fun hHeld => ?_)
  clear hK K
  have HN8 := Lib.hid hn8; have HP8 := Lib.hid hp8; have HO8 := Lib.hid hO8; have HE8 := Lib.hid hE8; have H12 := Lib.hid h12
  have HNb8 := Lib.hid ((hO8.block _ (blk_lt HN7.out) hgn.symm).trans HN7.out)
  clear hn8 hp8 ho8 hO8 hE8 h12
  try simp only [Act.put, List.getElem_toArray, List.getElem_cons_zero, List.getElem_cons_succ, List.setIfInBounds_toArray, List.set_cons_zero, List.set_cons_succ]
  refine wpAnyH_ready (rs := [6]) (by kernel_rfl) (by simp) (AllReadyH.cons rfl (fun K hK => ?_) AllReadyH.nil)
  rw [if_pos (by rfl)]
  refine wp_slice2 40 42 17 _ (.tmp 35) (.tmp 40) (by rfl) c.toArray c2.toArray (by rfl) (by rfl) Tryz.underlying40 infoX (by decide) (by decide) (by decide) (by simp [hl1]) (by simp [hl2]) ?_
  obtain ⟨bk, hbk⟩ : ∃ bk, W8.heap.size = bk := ⟨_, rfl⟩
  have hK9 := blk_new W8 (.cells (c.toArray ++ c2.toArray) 42)
  have hb9 : Below W8.heap.size W8 (W8.alloc (.cells (c.toArray ++ c2.toArray) 42)) := (Below.refl _ _).alloc (Nat.le_refl _) _
  rw [hbk] at hK9 ⊢
  have hE9 := (hb9.block _ (blk_lt HE8.out)).trans HE8.out
  have hNb9 := (hb9.block _ (blk_lt HNb8.out)).trans HNb8.out
  refine hK.out _ _ (range_blk hE9) (fun hHeld => ?_)
  clear hK K
  have HK9 := Lib.hid hK9; have HB9 := Lib.hid hb9; have HE9 := Lib.hid hE9; have HNb9 := Lib.hid hNb9
  have hbk1 : bn < bk := by rw [← hbk]; exact blk_lt HNb8.out
  clear hK9 hb9 hE9 hNb9
  generalize W8.alloc (.cells (c.toArray ++ c2.toArray) 42) = W9 at HK9 HB9 HE9 HNb9 hHeld ⊢
  try simp only [Act.put, List.getElem_toArray, List.getElem_cons_zero, List.getElem_cons_succ, List.setIfInBounds_toArray, List.set_cons_zero, List.set_cons_succ]
  refine wpAnyH_take (i := 7) (v := .pointer (some ⟨bn, 16, none⟩)) rfl (by kernel_rfl) (by kernel_rfl) (by kernel_rfl) (fun _ _ _ h => h) (Or.inl ⟨by rfl, fun w hSw => by go_simp⟩) hHeld ?_
  try simp only [Act.put, List.getElem_toArray, List.getElem_cons_zero, List.getElem_cons_succ, List.setIfInBounds_toArray, List.set_cons_zero, List.set_cons_succ]
  have n16 : W9.cell? ⟨bn, 16, none⟩ = some (.slice none 0 0) := blk_cell HNb9.out 16
  have z16 : W9.frozen? ⟨bn, 16, none⟩ = false := blk_frozen HNb9.out 16
  refine wpAnyH_ready (rs := [8]) (by kernel_rfl) (by simp) (AllReadyH.cons rfl (fun K hK => ?_) AllReadyH.nil)
  rw [if_pos (by rfl)]
  go_simp
  have hk10 : ∀ k, k ≠ bn → (W9.setCell ⟨bn, 16, none⟩ (.slice (some ⟨bk, 0, none⟩) 2 2)).heap[k]? = W9.heap[k]? := fun k hk => Below.heap_setCell _ ⟨bn, 16, none⟩ _ k hk
  have hE10 := (hk10 be (by omega)).trans HE9.out
  have hN10 : (W9.setCell ⟨bn, 16, none⟩ (.slice (some ⟨bk, 0, none⟩) 2 2)).heap[bn]? = some (.cells (binJ a x (.slice (some ⟨bk, 0, none⟩) 2 2)).toArray 42 (0, 0)) := by rw [blk_set HNb9.out]; rfl
  refine hK.out _ _ (range_blk hE10) (fun hHeld => ?_)
  clear hK K hHeld n16 z16
  refine wpAnyH_done (by kernel_rfl) ?_ _
  have hO10 : Only E.g W1 (W9.setCell ⟨bn, 16, none⟩ (.slice (some ⟨bk, 0, none⟩) 2 2)) := ((HO7.out.trans HO8.out).below HB9.out).cell (p := ⟨bn, 16, none⟩) (.inr (by show W1.heap.size ≤ bn; omega)) _
  have hP10 : PS E (W9.setCell ⟨bn, 16, none⟩ (.slice (some ⟨bk, 0, none⟩) 2 2)) k d := HP1.out.only hO10 HP8.out.at_ HP8.out.dp ((hk10 _ hgn).trans ((HP8.out.below HB9.out).box))
  have hK10 := (hk10 bk (by omega)).trans HK9.out
  have hn10 : m.Held (W9.setCell ⟨bn, 16, none⟩ (.slice (some ⟨bk, 0, none⟩) 2 2)) (From W7.heap.size) c2 := Xn.Held.keep (fun b hb hlt => ⟨(hk10 b (by have h := hb; unfold From at h; have := blk_lt HN7.out; have h7 : W7.drew.heap.size = W7.heap.size := rfl; omega)).trans (HB9.out.block b hlt), hb⟩) m HN8.out
  have c5 := hP10.cells.2.2.2.2.2.1
  have HE10 := Lib.hid hE10; have HN10 := Lib.hid hN10; have HO10 := Lib.hid hO10; have HP10 := Lib.hid hP10; have HK10 := Lib.hid hK10; have Hn10 := Lib.hid hn10
  generalize W9.setCell ⟨bn, 16, none⟩ (.slice (some ⟨bk, 0, none⟩) 2 2) = W10 at c5 HE10 HN10 HO10 HP10 HK10 Hn10 ⊢
  clear hk10 hE10 hN10 hO10 hP10 hK10 hn10
  have n10 : W10.cell? ⟨bn, 10, none⟩ = some (.int .i64 0) := blk_cell HN10.out 10
  have n11 : W10.cell? ⟨bn, 11, none⟩ = some (.slice none 0 0) := blk_cell HN10.out 11
  have n12 : W10.cell? ⟨bn, 12, none⟩ = some (.int .i64 0) := blk_cell HN10.out 12
  have n13 : W10.cell? ⟨bn, 13, none⟩ = some (.slice none 0 0) := blk_cell HN10.out 13
  go_wp2_with fail
  (with_reducible refine (joinCheck_none _).mono ?_)
  rintro e W11 ⟨rfl, hb11⟩
  have hE11 := (hb11.block _ (blk_lt HE10.out)).trans HE10.out
  have hN11 := (hb11.block _ (blk_lt HN10.out)).trans HN10.out
  have HE11 := Lib.hid hE11; have HN11 := Lib.hid hN11; have HB11 := Lib.hid hb11
  have hcl : (binJ a x (.slice (some ⟨bk, 0, none⟩) 2 2)).length = 17 := rfl
  clear hb11 hE11 hN11 n10 n11 n12 n13 c5
  go_wp2_with (first | (with_reducible refine wpList_loadX rfl _ rfl bn 0 rfl (binJ a x (.slice (some ⟨bk, 0, none⟩) 2 2)) (range_blk HN11.out) rfl ?_) | (with_reducible refine wpList_setX rfl _ _ rfl be c (binJ a x (.slice (some ⟨bk, 0, none⟩) 2 2)) HE11.out hl1 rfl rfl rfl (by simp [Value.oneCell']) ?_))
  have hO12 : Only E.g W1 (W11.setRow be (binJ a x (.slice (some ⟨bk, 0, none⟩) 2 2)).toArray) := (HO10.out.below HB11.out).row (.inr (by omega)) _
  have hP12 : PS E (W11.setRow be (binJ a x (.slice (some ⟨bk, 0, none⟩) 2 2)).toArray) k d := HP1.out.only hO12 HP10.out.at_ HP10.out.dp ((setRow_other _ _ _ _ (by have := HGW.out; omega)).trans ((HP10.out.below HB11.out).box))
  have hE12 := setRow_heap W11 be c.toArray (binJ a x (.slice (some ⟨bk, 0, none⟩) 2 2)).toArray 42 (0, 0) HE11.out
  have HOp2 := Lib.hid (HO2.out _ hP12)
  have HP12 := Lib.hid hP12; have HE12 := Lib.hid hE12
  clear hP12 hE12 hO12
  go_step3
  try rw [thenGoto]
  refine lap_goto rfl ?_
  rw [laps_succ]
  go_wp2_with fail
  (with_reducible refine HOp2.out.mono ?_)
  rintro e WB ⟨rfl, hb13⟩
  have hO1112 : Only E.g W1 (W11.setRow be (binJ a x (.slice (some ⟨bk, 0, none⟩) 2 2)).toArray) := (HO10.out.below HB11.out).row (.inr (by omega)) _
  have hO1B := hO1112.below hb13
  have hk12 : ∀ k, k ≠ be → (W11.setRow be (binJ a x (.slice (some ⟨bk, 0, none⟩) 2 2)).toArray).heap[k]? = W11.heap[k]? := fun k hk => setRow_other _ _ _ _ hk
  have hsz12 : (W11.setRow be (binJ a x (.slice (some ⟨bk, 0, none⟩) 2 2)).toArray).heap.size = W11.heap.size := by simp
  have hB : ∀ k, k < W10.heap.size → k ≠ be → WB.heap[k]? = W10.heap[k]? := fun k hk hne => (hb13.block k (by rw [hsz12]; have := HB11.out.size; omega)).trans ((hk12 k hne).trans (HB11.out.block k hk))
  have hE13 := (hb13.block _ (blk_lt HE12.out)).trans HE12.out
  have HE13 := Lib.hid hE13
  have hrb4 := (hO1B.block W.heap.size (by omega) (by have := HGW.out; omega)).trans ((HO1.out.block _ (blk_lt HRB.out) (by have := HGW.out; omega)).trans HRB.out)
  have HRB4 := Lib.hid hrb4
  have HO4 := Lib.hid (((Only.of HB0.out).trans HO1.out).trans hO1B)
  have HO1B := Lib.hid hO1B
  have HP4' := Lib.hid (HP12.out.below hb13)
  have HBk := Lib.hid hB
  have hs10 := HO10.out.size
  clear hb13 hO1112 hO1B hE13 hrb4 hk12 hsz12 hB
  go_wp2_with (first | (with_reducible refine wpList_loadX rfl _ rfl be 0 rfl (binJ a x (.slice (some ⟨bk, 0, none⟩) 2 2)) (range_blk HE13.out) rfl ?_) | (with_reducible refine wpList_setX rfl _ _ rfl W.heap.size xz (binJ a x (.slice (some ⟨bk, 0, none⟩) 2 2)) HRB4.out rfl rfl rfl rfl (by simp [Value.oneCell']) ?_))
  rw [lap_ret]
  refine bodyPost_ret_by (results_cell_row (p := 4) (ty := 42) rfl _ _ W.heap.size 42 _ (0, 0) _ rfl (setRow_heap _ _ _ _ _ _ HRB4.out) Tryz.underlying42 rfl (by rw [sizeX]; rfl)) rfl ?_
  have hOF : Only E.g W (WB.setRow W.heap.size (binJ a x (.slice (some ⟨bk, 0, none⟩) 2 2)).toArray) := HO4.out.row (.inr (Nat.le_refl _)) _
  have h7 := blk_lt HN7.out
  have hnF : n.Held (WB.setRow W.heap.size (binJ a x (.slice (some ⟨bk, 0, none⟩) 2 2)).toArray) (From W.heap.size) c := Xn.Held.keep (fun b hb hlt => ⟨(setRow_other _ _ _ _ (by have h := hb; unfold From at h; omega)).trans (HO1B.out.block b hlt (by have h := hb; unfold From at h; have := HGW.out; omega)), by have h := hb; unfold From at h ⊢; omega⟩) n HN1.out
  have hmF : m.Held (WB.setRow W.heap.size (binJ a x (.slice (some ⟨bk, 0, none⟩) 2 2)).toArray) (From W.heap.size) c2 := Xn.Held.keep (fun b hb hlt => ⟨(setRow_other _ _ _ _ (by have h := hb; unfold From at h; omega)).trans (HBk.out b hlt (by have h := hb; unfold From at h; omega)), by have h := hb; unfold From at h ⊢; omega⟩) m Hn10.out
  have hkF := (setRow_other WB W.heap.size bk (binJ a x (.slice (some ⟨bk, 0, none⟩) 2 2)).toArray (by omega)).trans ((HBk.out bk (blk_lt HK10.out) (by omega)).trans HK10.out)
  have ha := HA.out
  subst ha
  refine ⟨_, rfl, binT_held (l := .snoc (.snoc .nil n) m) (ls := c ++ c2) ?_ ⟨by rw [List.length_append, hl1, hl2]; rfl, _, 2, rfl, fun _ => ⟨bk, 0, by show W.heap.size ≤ bk; omega, rfl, range_blk (c := c ++ c2) (by simpa using hkF)⟩⟩, HPW.out.only hOF HP4'.out.at_ HP4'.out.dp ?_, hOF⟩
  · rw [Xk.Held]
    exact ⟨c, c2, rfl, hl2, by rw [Xk.Held]; exact ⟨[], c, rfl, hl1, rfl, hnF⟩, hmF⟩
  · exact (setRow_other _ _ _ _ (by have := HGW.out; omega)).trans HP4'.out.box
end Go.Proofs.YtjddnchenhnemaaGreatDoor.Ps
