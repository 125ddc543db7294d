/-
  The reader of queries: primaries, with nothing ahead and nothing behind.
-/
import Derived.Test.YtjddnchenhnemaaGreatDoorPsK
namespace Go.Proofs.YtjddnchenhnemaaGreatDoor.Ps
open Go Go.RowKit Go.Proofs.YtjddnchenhnemaaGreatDoor.QT Go.Proofs.YtjddnchenhnemaaGreatDoor.Rg Go.Proofs.YtjddnchenhnemaaGreatDoor.Ma Go.Proofs.YtjddnchenhnemaaGreatDoor.Ir Go.Proofs.YtjddnchenhnemaaGreatDoor.Pm Go.Proofs.YtjddnchenhnemaaGreatDoor.Le
set_option maxHeartbeats 8000000
set_option maxRecDepth 100000
/-- The result of the callee is the caller's own. -/
theorem primary_word {E : Env} {W : World} {p d : Nat} {n : Xn} {j : Nat} (hP : PS E W p d) (hk : (E.tk p).kind = 1)
    (hS : ∀ W, PS E W p d → Calls Tryz.prog 119 #[.pointer (some ⟨E.g, 0, none⟩), .agg (ta (E.tk p))] W (ReadsTo E n j d W)) :
    Calls Tryz.prog 106 #[.pointer (some ⟨E.g, 0, none⟩)] W (ReadsTo E n j d W) := by
  have HS := Lib.hid hS; clear hS
  obtain ⟨B0, hB0⟩ : ∃ B0, B0 = W.alloc (.cells xz.toArray 42) := ⟨_, rfl⟩
  have hb0 : Below W.heap.size W B0 := by rw [hB0]; exact (Below.refl _ _).alloc (Nat.le_refl _) _
  have hrb : B0.heap[W.heap.size]? = some (.cells xz.toArray 42 (0, 0)) := by rw [hB0]; exact blk_new W _
  have hps : PS E B0 p d := hP.below hb0
  have hgW := hP.lt
  have s0 : B0.heap.size = W.heap.size + 1 := by rw [hB0]; simp
  have hx : W.alloc (.cells #[.int .i64 0, .int .i64 0, .float .f64 0, .string ⟨#[]⟩, .slice none 0 0, .int .i64 0, .int .i64 0, .int .i64 0, .int .i64 0, .bool false, .int .i64 0, .slice none 0 0, .int .i64 0, .slice none 0 0, .int .i64 0, .slice none 0 0, .slice none 0 0] 42) = B0 := hB0.symm
  have HB0 := Lib.hid hb0; have HRB := Lib.hid hrb; have HPS := Lib.hid hps; have HPW := Lib.hid hP; have HGW := Lib.hid hgW
  clear hB0 hb0 hrb hps hP hgW
  obtain ⟨a, ha⟩ : ∃ a, E.pl p = a := ⟨_, rfl⟩
  have HPL := place_calls HPS.out
  rw [ha] at HPL
  have HPl := Lib.hid HPL
  clear HPL
  go_enter Tryz.func106, Tryz.ntmps106
  go_wp2_with fail
  clear hx
  (with_reducible refine HPl.out.mono ?_)
  rintro e W1 ⟨rfl, hb1⟩
  have HN1 := Lib.hid (next_calls (HPS.out.below hb1))
  have HB1 := Lib.hid hb1
  have hs1 := hb1.size
  clear hb1
  go_wp2_with fail
  (with_reducible refine HN1.out.mono ?_)
  rintro e W2 ⟨rfl, hb2⟩
  have HB2 := Lib.hid (HB1.out.trans (hb2.mono HB1.out.size))
  have hs2 := HB2.out.size
  clear hb2
  obtain ⟨t, ht⟩ : ∃ t, E.tk p = t := ⟨_, rfl⟩
  rw [ht] at hk ⊢
  have t2 : (t.kind == 2) = false := by rw [hk]; rfl
  have t4 : (t.kind == 4) = false := by rw [hk]; rfl
  have t1 : (t.kind == 1) = true := by rw [hk]; rfl
  have HT := Lib.hid ht
  clear ht hk
  have hB3 : Below B0.heap.size B0 (W2.alloc (.cells (ta t) 86)) := HB2.out.alloc hs2 _
  have hCall := HS.out _ (HPS.out.below hB3)
  rw [HT.out] at hCall
  have HCall := Lib.hid hCall
  have HOA := Lib.hid (Only.of (g := E.g) hB3)
  clear hB3 hCall
  have hst := run_store_float
  go_wp2_with fail
  clear hst
  unfold ta at HCall HOA
  generalize hWA : W2.alloc (.cells #[.int .i64 t.kind, .int .i64 t.at_, .string t.text, .float .f64 t.v, .int .i64 t.n] 86) = WA at HCall HOA ⊢
  (with_reducible refine HCall.out.mono ?_)
  rintro e WB ⟨c, rfl, hn4, hp4, ho4⟩
  have ho04 : Only E.g B0 WB := HOA.out.trans ho4
  have hrb4 := (ho04.block _ (blk_lt HRB.out) (by have := HGW.out; omega)).trans HRB.out
  have hl4 := hn4.length
  have h14 := hn4.one
  have HN4 := Lib.hid hn4; have HP4 := Lib.hid hp4; have HO4 := Lib.hid ((Only.of HB0.out).trans ho04); have HRB4 := Lib.hid hrb4; have H14 := Lib.hid h14
  have HS30 := Lib.hid (show W.heap.size + 1 ≤ WA.heap.size by have := HOA.out.size; omega)
  clear hn4 hp4 ho4 ho04 hrb4 h14
  go_wp2_with (with_reducible refine wpList_setX rfl _ _ rfl W.heap.size xz c HRB4.out rfl rfl rfl hl4 H14.out ?_)
  refine bodyPost_ret_by (results_cell_row (p := 2) (ty := 42) rfl _ _ (W.heap.size) 42 _ (0, 0) _ rfl (setRow_heap _ _ _ _ _ _ HRB4.out) Tryz.underlying42 rfl (by rw [sizeX]; simp [hl4])) rfl ?_
  have hOF : Only E.g W (WB.setRow (W.heap.size) c.toArray) := HO4.out.row (.inr (by omega)) _
  refine ⟨c, rfl, Xn.Held.keep (fun b hb _ => ⟨setRow_other _ _ _ _ (by have h := hb; unfold From at h; have := HS30.out; omega), by have h := hb; unfold From at h ⊢; have := HS30.out; omega⟩) _ HN4.out, HPW.out.only hOF HP4.out.at_ HP4.out.dp ?_, hOF⟩
  exact (setRow_other _ _ _ _ (by have := HGW.out; omega)).trans HP4.out.box
/-- A number, as a tree. -/
def numT (a : Int) (v : Nat) : Xn := .mk { kind := 1, at_ := a, num := v } .nil
abbrev numJ (a : Int) (v : Nat) : List Value := [.int .i64 1, .int .i64 a, .float .f64 v, .string ⟨#[]⟩, .slice none 0 0, .int .i64 0, .int .i64 0, .int .i64 0, .int .i64 0, .bool false, .int .i64 0, .slice none 0 0, .int .i64 0, .slice none 0 0, .int .i64 0, .slice none 0 0, .slice none 0 0]
theorem numT_held {W : World} {F : Nat → Prop} {a : Int} {v : Nat} : (numT a v).Held W F (numJ a v) := by
  rw [numT, Xn.Held]
  exact ⟨.slice none 0 0, .slice none 0 0, .slice none 0 0, .slice none 0 0, .slice none 0 0, [], rfl, ⟨row_nil _ _ _, row_nil _ _ _, row_nil _ _ _, row_nil _ _ _⟩, rfl, row_nil _ _ _⟩
theorem primary_num {E : Env} {W : World} {p d : Nat} (hP : PS E W p d) (hp : p < E.ts.length) (hk : (E.tk p).kind = 2) :
    Calls Tryz.prog 106 #[.pointer (some ⟨E.g, 0, none⟩)] W (ReadsTo E (numT (E.pl p) (E.tk p).v) (p + 1) d W) := by
  have hlen := hP.len
  obtain ⟨B0, hB0⟩ : ∃ B0, B0 = W.alloc (.cells xz.toArray 42) := ⟨_, rfl⟩
  have hb0 : Below W.heap.size W B0 := by rw [hB0]; exact (Below.refl _ _).alloc (Nat.le_refl _) _
  have hrb : B0.heap[W.heap.size]? = some (.cells xz.toArray 42 (0, 0)) := by rw [hB0]; exact blk_new W _
  have hps : PS E B0 p d := hP.below hb0
  have hgW := hP.lt
  have s0 : B0.heap.size = W.heap.size + 1 := by rw [hB0]; simp
  have hx : W.alloc (.cells #[.int .i64 0, .int .i64 0, .float .f64 0, .string ⟨#[]⟩, .slice none 0 0, .int .i64 0, .int .i64 0, .int .i64 0, .int .i64 0, .bool false, .int .i64 0, .slice none 0 0, .int .i64 0, .slice none 0 0, .int .i64 0, .slice none 0 0, .slice none 0 0] 42) = B0 := hB0.symm
  have HB0 := Lib.hid hb0; have HRB := Lib.hid hrb; have HPS := Lib.hid hps; have HPW := Lib.hid hP; have HGW := Lib.hid hgW
  clear hB0 hb0 hrb hps hP hgW
  obtain ⟨a, ha⟩ : ∃ a, E.pl p = a := ⟨_, rfl⟩
  have HPL := place_calls HPS.out
  rw [ha] at HPL
  have HPl := Lib.hid HPL
  clear HPL
  go_enter Tryz.func106, Tryz.ntmps106
  go_wp2_with fail
  clear hx
  (with_reducible refine HPl.out.mono ?_)
  rintro e W1 ⟨rfl, hb1⟩
  have HN1 := Lib.hid (next_calls (HPS.out.below hb1))
  have HB1 := Lib.hid hb1
  have hs1 := hb1.size
  clear hb1
  go_wp2_with fail
  (with_reducible refine HN1.out.mono ?_)
  rintro e W2 ⟨rfl, hb2⟩
  have HB2 := Lib.hid (HB1.out.trans (hb2.mono HB1.out.size))
  have hs2 := HB2.out.size
  clear hb2
  obtain ⟨t, ht⟩ : ∃ t, E.tk p = t := ⟨_, rfl⟩
  rw [ht] at hk ⊢
  have t2 : (t.kind == 2) = true := by rw [hk]; rfl
  have t4 : (t.kind == 4) = false := by rw [hk]; rfl
  have t1 : (t.kind == 1) = false := by rw [hk]; rfl
  have HT := Lib.hid ht
  clear ht hk
  have hP2 := HPS.out.below HB2.out
  have c1 := hP2.cells.2.1
  have f1 := blk_frozen hP2.box 1
  have hgl := hP2.lt
  have hP3 := hP2.move (p' := p + 1) (by omega)
  have hP4 := hP3.below ((Below.refl _ _).alloc (Nat.le_refl _) (.cells (ta t) 86))
  have hO4 := ((Only.of (g := E.g) HB2.out).cell (p := ⟨E.g, 1, none⟩) (.inl rfl) (.int .i64 ((p + 1 : Nat) : Int))).alloc (.cells (ta t) 86)
  have hrb4 := (hO4.block _ (blk_lt HRB.out) (by have := HGW.out; omega)).trans HRB.out
  have hpush : ((p + 1 : Nat) : Int) = (p : Int) + 1 := by omega
  have hP5 := hP4.box
  rw [hpush] at hP5 hO4 hrb4
  unfold ta at hP5 hO4 hrb4
  have HP4 := Lib.hid hP5; have HRB4 := Lib.hid hrb4
  have HO4 := Lib.hid ((Only.of HB0.out).trans hO4)
  clear hP3 hP2 hP4 hP5 hO4 hrb4 hpush
  have hst := run_store_float
  go_wp2_with (with_reducible refine wpList_setX rfl _ _ rfl W.heap.size xz (numJ a t.v) HRB4.out rfl rfl rfl rfl (by simp [Value.oneCell']) ?_)
  refine bodyPost_ret_by (results_cell_row (p := 2) (ty := 42) rfl _ _ W.heap.size 42 _ (0, 0) _ rfl (setRow_heap _ _ _ _ _ _ HRB4.out) Tryz.underlying42 rfl (by rw [sizeX]; rfl)) rfl ?_
  have hOF := HO4.out.row (b := W.heap.size) (.inr (Nat.le_refl _)) (numJ a t.v).toArray
  have ht := HT.out
  subst ht
  subst ha
  refine ⟨_, rfl, numT_held, HPW.out.only hOF (by omega) HPW.out.dp ?_, hOF⟩
  have hpush : ((p + 1 : Nat) : Int) = (p : Int) + 1 := by omega
  rw [hpush]
  exact (setRow_other _ _ _ _ (by have := HGW.out; omega)).trans HP4.out
theorem postfix_none {E : Env} {W : World} {p d : Nat} {n : Xn} {j : Nat} (hP : PS E W p d) (h1 : isB (E.tk j) ⟨#[91]⟩ = false)
    (hS : ∀ W, PS E W p d → Calls Tryz.prog 106 #[.pointer (some ⟨E.g, 0, none⟩)] W (ReadsTo E n j d W)) :
    Calls Tryz.prog 85 #[.pointer (some ⟨E.g, 0, none⟩)] W (ReadsTo E n j d W) := by
  have HS := Lib.hid hS; clear hS
  have H1 := Lib.hid h1; clear h1
  obtain ⟨B0, hB0⟩ : ∃ B0, B0 = W.alloc (.cells xz.toArray 42) := ⟨_, rfl⟩
  have hb0 : Below W.heap.size W B0 := by rw [hB0]; exact (Below.refl _ _).alloc (Nat.le_refl _) _
  have hrb : B0.heap[W.heap.size]? = some (.cells xz.toArray 42 (0, 0)) := by rw [hB0]; exact blk_new W _
  have hps : PS E B0 p d := hP.below hb0
  have hgW := hP.lt
  have s0 : B0.heap.size = W.heap.size + 1 := by rw [hB0]; simp
  have hx : W.alloc (.cells #[.int .i64 0, .int .i64 0, .float .f64 0, .string ⟨#[]⟩, .slice none 0 0, .int .i64 0, .int .i64 0, .int .i64 0, .int .i64 0, .bool false, .int .i64 0, .slice none 0 0, .int .i64 0, .slice none 0 0, .int .i64 0, .slice none 0 0, .slice none 0 0] 42) = B0 := hB0.symm
  have HB0 := Lib.hid hb0; have HRB := Lib.hid hrb; have HPS := Lib.hid hps; have HPW := Lib.hid hP; have HGW := Lib.hid hgW
  clear hB0 hb0 hrb hps hP hgW
  have HCall := Lib.hid (HS.out _ HPS.out)
  go_enter Tryz.func85, Tryz.ntmps85
  go_wp2_with fail
  clear hx
  (with_reducible refine HCall.out.mono ?_)
  rintro e W1 ⟨c, rfl, hn1, hp1, ho1⟩
  have hl1 := hn1.length
  have h11 := hn1.one
  have HN1 := Lib.hid hn1; have HO1 := Lib.hid ho1; have HP1 := Lib.hid hp1; have H11 := Lib.hid h11
  have hs1 := ho1.size
  clear hn1 ho1 hp1 h11
  go_wp2_with (with_reducible refine wpList_newX rfl rfl 3 (.tmp 6) rfl rfl rfl rfl c rfl rfl hl1 H11.out ?_)
  refine wp_loop_rounds 1 ?_
  rw [rounds_succ]
  have hb2 : Below W1.heap.size W1 (W1.alloc (.cells c.toArray 42)) := (Below.refl _ _).alloc (Nat.le_refl _) _
  have HI := Lib.hid (is_calls (HP1.out.below hb2) _ false H1.out)
  have he2 := blk_new W1 (.cells c.toArray 42)
  have HE2 := Lib.hid he2; have HB2 := Lib.hid hb2
  clear hb2 he2
  go_wp2_with fail
  (with_reducible refine HI.out.mono ?_)
  rintro e WB ⟨rfl, hb3⟩
  have hb13 := HB2.out.trans (hb3.mono HB2.out.size)
  have hE3 := (hb3.block _ (blk_lt HE2.out)).trans HE2.out
  have HE3 := Lib.hid hE3
  have hrb4 := (hb13.block W.heap.size (by omega)).trans ((HO1.out.block _ (blk_lt HRB.out) (by have := HGW.out; omega)).trans HRB.out)
  have HRB4 := Lib.hid hrb4
  have HO4 := Lib.hid (((Only.of HB0.out).trans HO1.out).below hb13)
  have HP4 := Lib.hid (HP1.out.below hb13)
  have HN4 := Lib.hid (Xn.Held.keep (F1 := From B0.heap.size) (fun b hb hlt => ⟨hb13.block b hlt, hb⟩) n HN1.out)
  have HS30 := Lib.hid (show W.heap.size + 1 ≤ B0.heap.size by omega)
  have hl4 := hl1
  clear hb3 hb13 hE3 hrb4
  go_wp2_with (first | (with_reducible refine wpList_loadX rfl _ rfl W1.heap.size 0 rfl c (range_blk HE3.out) hl1 ?_) | (with_reducible refine wpList_setX rfl _ _ rfl W.heap.size xz c HRB4.out rfl rfl rfl hl4 H11.out ?_))
  refine bodyPost_ret_by (results_cell_row (p := 2) (ty := 42) rfl _ _ (W.heap.size) 42 _ (0, 0) _ rfl (setRow_heap _ _ _ _ _ _ HRB4.out) Tryz.underlying42 rfl (by rw [sizeX]; simp [hl4])) rfl ?_
  have hOF : Only E.g W (WB.setRow (W.heap.size) c.toArray) := HO4.out.row (.inr (by omega)) _
  refine ⟨c, rfl, Xn.Held.keep (fun b hb _ => ⟨setRow_other _ _ _ _ (by have h := hb; unfold From at h; have := HS30.out; omega), by have h := hb; unfold From at h ⊢; have := HS30.out; omega⟩) _ HN4.out, HPW.out.only hOF HP4.out.at_ HP4.out.dp ?_, hOF⟩
  exact (setRow_other _ _ _ _ (by have := HGW.out; omega)).trans HP4.out.box
theorem unary_none {E : Env} {W : World} {p d : Nat} {n : Xn} {j : Nat} (hP : PS E W p d) (h1 : isB (E.tk p) ⟨#[45]⟩ = false)
    (hS : ∀ W, PS E W p d → Calls Tryz.prog 85 #[.pointer (some ⟨E.g, 0, none⟩)] W (ReadsTo E n j d W)) :
    Calls Tryz.prog 67 #[.pointer (some ⟨E.g, 0, none⟩)] W (ReadsTo E n j d W) := by
  have HS := Lib.hid hS; clear hS
  have H1 := Lib.hid h1; clear h1
  obtain ⟨B0, hB0⟩ : ∃ B0, B0 = W.alloc (.cells xz.toArray 42) := ⟨_, rfl⟩
  have hb0 : Below W.heap.size W B0 := by rw [hB0]; exact (Below.refl _ _).alloc (Nat.le_refl _) _
  have hrb : B0.heap[W.heap.size]? = some (.cells xz.toArray 42 (0, 0)) := by rw [hB0]; exact blk_new W _
  have hps : PS E B0 p d := hP.below hb0
  have hgW := hP.lt
  have s0 : B0.heap.size = W.heap.size + 1 := by rw [hB0]; simp
  have hx : W.alloc (.cells #[.int .i64 0, .int .i64 0, .float .f64 0, .string ⟨#[]⟩, .slice none 0 0, .int .i64 0, .int .i64 0, .int .i64 0, .int .i64 0, .bool false, .int .i64 0, .slice none 0 0, .int .i64 0, .slice none 0 0, .int .i64 0, .slice none 0 0, .slice none 0 0] 42) = B0 := hB0.symm
  have HB0 := Lib.hid hb0; have HRB := Lib.hid hrb; have HPS := Lib.hid hps; have HPW := Lib.hid hP; have HGW := Lib.hid hgW
  clear hB0 hb0 hrb hps hP hgW
  have HI := Lib.hid (is_calls HPS.out _ false H1.out)
  go_enter Tryz.func67, Tryz.ntmps67
  go_wp2_with fail
  clear hx
  (with_reducible refine HI.out.mono ?_)
  rintro e WA ⟨rfl, hb1⟩
  have HCall := Lib.hid (HS.out _ (HPS.out.below hb1))
  have HOA := Lib.hid (Only.of (g := E.g) hb1)
  clear hb1
  go_wp2_with fail
  (with_reducible refine HCall.out.mono ?_)
  rintro e WB ⟨c, rfl, hn4, hp4, ho4⟩
  have ho04 : Only E.g B0 WB := HOA.out.trans ho4
  have hrb4 := (ho04.block _ (blk_lt HRB.out) (by have := HGW.out; omega)).trans HRB.out
  have hl4 := hn4.length
  have h14 := hn4.one
  have HN4 := Lib.hid hn4; have HP4 := Lib.hid hp4; have HO4 := Lib.hid ((Only.of HB0.out).trans ho04); have HRB4 := Lib.hid hrb4; have H14 := Lib.hid h14
  have HS30 := Lib.hid (show W.heap.size + 1 ≤ WA.heap.size by have := HOA.out.size; omega)
  clear hn4 hp4 ho4 ho04 hrb4 h14
  go_wp2_with (with_reducible refine wpList_setX rfl _ _ rfl W.heap.size xz c HRB4.out rfl rfl rfl hl4 H14.out ?_)
  refine bodyPost_ret_by (results_cell_row (p := 2) (ty := 42) rfl _ _ (W.heap.size) 42 _ (0, 0) _ rfl (setRow_heap _ _ _ _ _ _ HRB4.out) Tryz.underlying42 rfl (by rw [sizeX]; simp [hl4])) rfl ?_
  have hOF : Only E.g W (WB.setRow (W.heap.size) c.toArray) := HO4.out.row (.inr (by omega)) _
  refine ⟨c, rfl, Xn.Held.keep (fun b hb _ => ⟨setRow_other _ _ _ _ (by have h := hb; unfold From at h; have := HS30.out; omega), by have h := hb; unfold From at h ⊢; have := HS30.out; omega⟩) _ HN4.out, HPW.out.only hOF HP4.out.at_ HP4.out.dp ?_, hOF⟩
  exact (setRow_other _ _ _ _ (by have := HGW.out; omega)).trans HP4.out.box
theorem query_two {E : Env} {W : World} {p d : Nat} {n : Xn} {j : Nat} (hP : PS E W p d) (hm : E.mo = false)
    (hS : ∀ W, PS E W p d → Calls Tryz.prog 44 #[.pointer (some ⟨E.g, 0, none⟩), .int .i64 2] W (ReadsTo E n j d W)) :
    Calls Tryz.prog 23 #[.pointer (some ⟨E.g, 0, none⟩)] W (ReadsTo E n j d W) := by
  have HS := Lib.hid hS; clear hS
  obtain ⟨B0, hB0⟩ : ∃ B0, B0 = W.alloc (.cells xz.toArray 42) := ⟨_, rfl⟩
  have hb0 : Below W.heap.size W B0 := by rw [hB0]; exact (Below.refl _ _).alloc (Nat.le_refl _) _
  have hrb : B0.heap[W.heap.size]? = some (.cells xz.toArray 42 (0, 0)) := by rw [hB0]; exact blk_new W _
  have hps : PS E B0 p d := hP.below hb0
  have hgW := hP.lt
  have s0 : B0.heap.size = W.heap.size + 1 := by rw [hB0]; simp
  have hx : W.alloc (.cells #[.int .i64 0, .int .i64 0, .float .f64 0, .string ⟨#[]⟩, .slice none 0 0, .int .i64 0, .int .i64 0, .int .i64 0, .int .i64 0, .bool false, .int .i64 0, .slice none 0 0, .int .i64 0, .slice none 0 0, .int .i64 0, .slice none 0 0, .slice none 0 0] 42) = B0 := hB0.symm
  have HB0 := Lib.hid hb0; have HRB := Lib.hid hrb; have HPS := Lib.hid hps; have HPW := Lib.hid hP; have HGW := Lib.hid hgW
  clear hB0 hb0 hrb hps hP hgW
  have c3 := HPS.out.cells.2.2.2.1
  rw [hm] at c3
  have HCall := Lib.hid (HS.out _ HPS.out)
  have HOA := Lib.hid (Only.refl E.g B0)
  clear hm
  go_enter Tryz.func23, Tryz.ntmps23
  go_wp2_with fail
  clear hx
  (with_reducible refine HCall.out.mono ?_)
  rintro e WB ⟨c, rfl, hn4, hp4, ho4⟩
  have ho04 : Only E.g B0 WB := HOA.out.trans ho4
  have hrb4 := (ho04.block _ (blk_lt HRB.out) (by have := HGW.out; omega)).trans HRB.out
  have hl4 := hn4.length
  have h14 := hn4.one
  have HN4 := Lib.hid hn4; have HP4 := Lib.hid hp4; have HO4 := Lib.hid ((Only.of HB0.out).trans ho04); have HRB4 := Lib.hid hrb4; have H14 := Lib.hid h14
  have HS30 := Lib.hid (show W.heap.size + 1 ≤ B0.heap.size by have := HOA.out.size; omega)
  clear hn4 hp4 ho4 ho04 hrb4 h14
  go_wp2_with (with_reducible refine wpList_setX rfl _ _ rfl W.heap.size xz c HRB4.out rfl rfl rfl hl4 H14.out ?_)
  refine bodyPost_ret_by (results_cell_row (p := 2) (ty := 42) rfl _ _ (W.heap.size) 42 _ (0, 0) _ rfl (setRow_heap _ _ _ _ _ _ HRB4.out) Tryz.underlying42 rfl (by rw [sizeX]; simp [hl4])) rfl ?_
  have hOF : Only E.g W (WB.setRow (W.heap.size) c.toArray) := HO4.out.row (.inr (by omega)) _
  refine ⟨c, rfl, Xn.Held.keep (fun b hb _ => ⟨setRow_other _ _ _ _ (by have h := hb; unfold From at h; have := HS30.out; omega), by have h := hb; unfold From at h ⊢; have := HS30.out; omega⟩) _ HN4.out, HPW.out.only hOF HP4.out.at_ HP4.out.dp ?_, hOF⟩
  exact (setRow_other _ _ _ _ (by have := HGW.out; omega)).trans HP4.out.box
end Go.Proofs.YtjddnchenhnemaaGreatDoor.Ps
