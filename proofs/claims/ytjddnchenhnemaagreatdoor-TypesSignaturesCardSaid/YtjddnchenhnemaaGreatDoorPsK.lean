/-
  The reader of queries: what begins with a word.
-/
import Derived.Test.YtjddnchenhnemaaGreatDoorPsJ
namespace Go.Proofs.YtjddnchenhnemaaGreatDoor.Ps
open Go Go.RowKit Go.Proofs.YtjddnchenhnemaaGreatDoor.QT Go.Proofs.YtjddnchenhnemaaGreatDoor.Rg Go.Proofs.YtjddnchenhnemaaGreatDoor.Ma Go.Proofs.YtjddnchenhnemaaGreatDoor.Ir Go.Proofs.YtjddnchenhnemaaGreatDoor.Pm Go.Proofs.YtjddnchenhnemaaGreatDoor.Le
set_option maxHeartbeats 8000000
set_option maxRecDepth 100000
/-- A word that is no aggregation, nor a word of the operators. -/
structure Free (s : ByteArray) : Prop where
  agg : ixS aggL s 0 < 1
  res : resB s = false
  op : ixS joinL s 0 < 1
  inf : (s.toList == [73, 110, 102]) = false
  nan : (s.toList == [78, 97, 78]) = false
theorem named_sel {E : Env} {W : World} {p d : Nat} {n : Xn} {j : Nat} (t : Tk) (hP : PS E W p d) (hF : Free t.text) (hpar : isB (E.tk (p + 1)) ⟨#[40]⟩ = false)
    (hS : ∀ W, PS E W p d → Calls Tryz.prog 120 #[.pointer (some ⟨E.g, 0, none⟩)] W (ReadsTo E n j d W)) :
    Calls Tryz.prog 119 #[.pointer (some ⟨E.g, 0, none⟩), .agg (ta t)] W (ReadsTo E n j d W) := by
  have HS := Lib.hid hS; clear hS
  obtain ⟨B0, hB0⟩ : ∃ B0, B0 = (W.alloc (.cells #[.int .i64 t.kind, .int .i64 t.at_, .string t.text, .float .f64 t.v, .int .i64 t.n] 86)).alloc (.cells xz.toArray 42) := ⟨_, rfl⟩
  have hb0 : Below W.heap.size W B0 := by rw [hB0]; exact ((Below.refl _ _).alloc (Nat.le_refl _) _).alloc (by simp) _
  have htb : B0.heap[W.heap.size]? = some (.cells (ta t) 86 (0, 0)) := by rw [hB0]; exact blk_alloc (blk_new W _) _
  have hrb : B0.heap[W.heap.size + 1]? = some (.cells xz.toArray 42 (0, 0)) := by rw [hB0]; exact blk_new2 W _ _
  have hps : PS E B0 p d := hP.below hb0
  have hgW := hP.lt
  have ht2 : B0.cell? ⟨W.heap.size, 2, none⟩ = some (.string t.text) := blk_cell htb 2
  have hx : (W.alloc (.cells #[.int .i64 t.kind, .int .i64 t.at_, .string t.text, .float .f64 t.v, .int .i64 t.n] 86)).alloc (.cells #[.int .i64 0, .int .i64 0, .float .f64 0, .string ⟨#[]⟩, .slice none 0 0, .int .i64 0, .int .i64 0, .int .i64 0, .int .i64 0, .bool false, .int .i64 0, .slice none 0 0, .int .i64 0, .slice none 0 0, .int .i64 0, .slice none 0 0, .slice none 0 0] 42) = B0 := hB0.symm
  have HB0 := Lib.hid hb0; have HTB := Lib.hid htb; have HRB := Lib.hid hrb; have HPS := Lib.hid hps; have HPW := Lib.hid hP; have HGW := Lib.hid hgW
  have hi := hF.inf; have hn := hF.nan
  have HA := aggNamed_calls t.text _ rfl B0
  rw [if_pos hF.agg, show decide (1 ≤ ixS aggL t.text 0) = false from decide_eq_false (by have := hF.agg; omega)] at HA
  have HA := Lib.hid HA
  have HRes := Lib.hid (reserved_no t.text hF.res _ rfl hF.op)
  have s0 : B0.heap.size = W.heap.size + 2 := by rw [hB0]; simp
  clear hB0 hb0 htb hrb hps hP hgW hF
  go_enter Tryz.func119, Tryz.ntmps119
  go_wp2_with fail
  clear hx
  (with_reducible refine HA.out.mono ?_)
  rintro e W1 ⟨rfl, hb1⟩
  have ht1 : W1.cell? ⟨W.heap.size, 2, none⟩ = some (.string t.text) := (hb1.cell (p := ⟨W.heap.size, 2, none⟩) (blk_lt HTB.out)).trans ht2
  have HB1 := Lib.hid hb1
  clear hb1 ht2
  go_wp2_with fail
  (with_reducible refine (HRes.out _).mono ?_)
  rintro e W2 ⟨rfl, hb2⟩
  have hb02 := HB1.out.trans (hb2.mono HB1.out.size)
  have ht2 : W2.cell? ⟨W.heap.size, 2, none⟩ = some (.string t.text) := (hb02.cell (p := ⟨W.heap.size, 2, none⟩) (blk_lt HTB.out)).trans (blk_cell HTB.out 2)
  have hAf := after_calls (HPS.out.below hb02) ⟨#[40]⟩ _ hpar
  have HAf := Lib.hid hAf
  have HB2 := Lib.hid hb02
  clear hb2 hb02 ht1 hAf
  go_wp2_with fail
  (with_reducible refine HAf.out.mono ?_)
  rintro e W3 ⟨rfl, hb3⟩
  have hb03 := HB2.out.trans (hb3.mono HB2.out.size)
  clear ht2 hb3
  have ht3 : W3.cell? ⟨W.heap.size, 2, none⟩ = some (.string t.text) := (hb03.cell (p := ⟨W.heap.size, 2, none⟩) (blk_lt HTB.out)).trans (blk_cell HTB.out 2)
  have HS3 := Lib.hid (HS.out _ (HPS.out.below hb03))
  have HB3 := Lib.hid hb03; clear hb03
  go_wp2_with fail
  (with_reducible refine HS3.out.mono ?_)
  rintro e W4 ⟨c, rfl, hn4, hp4, ho4⟩
  have ho04 : Only E.g B0 W4 := (Only.of HB3.out).trans ho4
  have hrb4 := (ho04.block _ (blk_lt HRB.out) (by have := HGW.out; omega)).trans HRB.out
  have hl4 := hn4.length
  have h14 := hn4.one
  have HN4 := Lib.hid hn4; have HP4 := Lib.hid hp4; have HO4 := Lib.hid ((Only.of HB0.out).trans ho04); have HRB4 := Lib.hid hrb4; have H14 := Lib.hid h14
  have HS30 := Lib.hid (show W.heap.size + 2 ≤ W3.heap.size by have := HB3.out.size; omega)
  clear hn4 hp4 ho4 ho04 hrb4 h14 ht3
  go_wp2_with (with_reducible refine wpList_setX rfl _ _ rfl (W.heap.size + 1) xz c HRB4.out rfl rfl rfl hl4 H14.out ?_)
  refine bodyPost_ret_by (results_cell_row (p := 4) (ty := 42) rfl _ _ (W.heap.size + 1) 42 _ (0, 0) _ rfl (setRow_heap _ _ _ _ _ _ HRB4.out) Tryz.underlying42 rfl (by rw [sizeX]; simp [hl4])) rfl ?_
  have hOF : Only E.g W (W4.setRow (W.heap.size + 1) c.toArray) := HO4.out.row (.inr (Nat.le_succ _)) _
  refine ⟨c, rfl, Xn.Held.keep (fun b hb _ => ⟨setRow_other _ _ _ _ (by have : W3.heap.size ≤ b := hb; have := HS30.out; omega), by have : W3.heap.size ≤ b := hb; have := HS30.out; show W.heap.size ≤ b; omega⟩) n HN4.out, HPW.out.only hOF HP4.out.at_ HP4.out.dp ?_, hOF⟩
  exact (setRow_other _ _ _ _ (by have := HGW.out; omega)).trans HP4.out.box
/-- A call, as a tree. -/
def callT (a : Int) (nm : ByteArray) (l : Xk) : Xn := .mk { kind := 6, at_ := a, name := nm } l
abbrev callJ (a : Int) (nm : ByteArray) (v : Value) : List Value := [.int .i64 6, .int .i64 a, .float .f64 0, .string nm, .slice none 0 0, .int .i64 0, .int .i64 0, .int .i64 0, .int .i64 0, .bool false, .int .i64 0, .slice none 0 0, .int .i64 0, .slice none 0 0, .int .i64 0, .slice none 0 0, v]
theorem callT_held {W : World} {F : Nat → Prop} {a : Int} {nm : ByteArray} {l : Xk} {ls : List Value} {v : Value} (hl : l.Held W F ls) (h : Row W F v l.len 17 ls) : (callT a nm l).Held W F (callJ a nm v) := by
  rw [callT, Xn.Held]
  exact ⟨.slice none 0 0, .slice none 0 0, .slice none 0 0, .slice none 0 0, v, ls, rfl, ⟨row_nil _ _ _, row_nil _ _ _, row_nil _ _ _, row_nil _ _ _⟩, hl, h⟩
theorem named_call {E : Env} {W : World} {p d : Nat} {n : Xn} {j : Nat} (t : Tk) (hP : PS E W p d) (hF : Free t.text) (hpar : isB (E.tk (p + 1)) ⟨#[40]⟩ = true)
    (hS : ∀ W, PS E W (p + 1) d → Calls Tryz.prog 130 #[.pointer (some ⟨E.g, 0, none⟩)] W (KidsPost E n j d W)) :
    Calls Tryz.prog 119 #[.pointer (some ⟨E.g, 0, none⟩), .agg (ta t)] W (ReadsTo E (callT t.at_ t.text (.snoc .nil n)) j d W) := by
  have HS := Lib.hid hS; clear hS
  have hlen := hP.len
  have hp1 := isB_lt hpar
  obtain ⟨B0, hB0⟩ : ∃ B0, B0 = (W.alloc (.cells #[.int .i64 t.kind, .int .i64 t.at_, .string t.text, .float .f64 t.v, .int .i64 t.n] 86)).alloc (.cells xz.toArray 42) := ⟨_, rfl⟩
  have hb0 : Below W.heap.size W B0 := by rw [hB0]; exact ((Below.refl _ _).alloc (Nat.le_refl _) _).alloc (by simp) _
  have htb : B0.heap[W.heap.size]? = some (.cells (ta t) 86 (0, 0)) := by rw [hB0]; exact blk_alloc (blk_new W _) _
  have hrb : B0.heap[W.heap.size + 1]? = some (.cells xz.toArray 42 (0, 0)) := by rw [hB0]; exact blk_new2 W _ _
  have hps : PS E B0 p d := hP.below hb0
  have hgW := hP.lt
  have ht2 : B0.cell? ⟨W.heap.size, 2, none⟩ = some (.string t.text) := blk_cell htb 2
  have hx : (W.alloc (.cells #[.int .i64 t.kind, .int .i64 t.at_, .string t.text, .float .f64 t.v, .int .i64 t.n] 86)).alloc (.cells #[.int .i64 0, .int .i64 0, .float .f64 0, .string ⟨#[]⟩, .slice none 0 0, .int .i64 0, .int .i64 0, .int .i64 0, .int .i64 0, .bool false, .int .i64 0, .slice none 0 0, .int .i64 0, .slice none 0 0, .int .i64 0, .slice none 0 0, .slice none 0 0] 42) = B0 := hB0.symm
  have HB0 := Lib.hid hb0; have HTB := Lib.hid htb; have HRB := Lib.hid hrb; have HPS := Lib.hid hps; have HPW := Lib.hid hP; have HGW := Lib.hid hgW
  have hi := hF.inf; have hn := hF.nan
  have HA := aggNamed_calls t.text _ rfl B0
  rw [if_pos hF.agg, show decide (1 ≤ ixS aggL t.text 0) = false from decide_eq_false (by have := hF.agg; omega)] at HA
  have HA := Lib.hid HA
  have HRes := Lib.hid (reserved_no t.text hF.res _ rfl hF.op)
  have s0 : B0.heap.size = W.heap.size + 2 := by rw [hB0]; simp
  clear hB0 hb0 htb hrb hps hP hgW hF
  go_enter Tryz.func119, Tryz.ntmps119
  go_wp2_with fail
  clear hx
  (with_reducible refine HA.out.mono ?_)
  rintro e W1 ⟨rfl, hb1⟩
  have ht1 : W1.cell? ⟨W.heap.size, 2, none⟩ = some (.string t.text) := (hb1.cell (p := ⟨W.heap.size, 2, none⟩) (blk_lt HTB.out)).trans ht2
  have HB1 := Lib.hid hb1
  clear hb1 ht2
  go_wp2_with fail
  (with_reducible refine (HRes.out _).mono ?_)
  rintro e W2 ⟨rfl, hb2⟩
  have hb02 := HB1.out.trans (hb2.mono HB1.out.size)
  have ht2 : W2.cell? ⟨W.heap.size, 2, none⟩ = some (.string t.text) := (hb02.cell (p := ⟨W.heap.size, 2, none⟩) (blk_lt HTB.out)).trans (blk_cell HTB.out 2)
  have hAf := after_calls (HPS.out.below hb02) ⟨#[40]⟩ _ hpar
  have HAf := Lib.hid hAf
  have HB2 := Lib.hid hb02
  clear hb2 hb02 ht1 hAf
  go_wp2_with fail
  (with_reducible refine HAf.out.mono ?_)
  rintro e W3 ⟨rfl, hb3⟩
  have hb03 := HB2.out.trans (hb3.mono HB2.out.size)
  clear ht2 hb3
  have hP3 := HPS.out.below hb03
  have c1 := hP3.cells.2.1
  have f1 := blk_frozen hP3.box 1
  have hP3s := hP3.move (p' := p + 1) (by omega)
  have htb3 := (hb03.block _ (blk_lt HTB.out)).trans HTB.out
  have hne : ¬ E.g = W.heap.size := by have := HGW.out; omega
  have hne2 : ¬ W.heap.size = E.g := by have := HGW.out; omega
  have htb3s : (W3.setCell ⟨E.g, 1, none⟩ (.int .i64 ((p + 1 : Nat) : Int))).heap[W.heap.size]? = some (.cells (ta t) 86 (0, 0)) := (Below.heap_setCell _ ⟨E.g, 1, none⟩ _ _ hne2).trans htb3
  have hO3s : Only E.g B0 (W3.setCell ⟨E.g, 1, none⟩ (.int .i64 ((p + 1 : Nat) : Int))) := (Only.of hb03).cell (p := ⟨E.g, 1, none⟩) (.inl rfl) _
  have HS3 := Lib.hid (HS.out _ (hP3s.below (Below.refl _ _).drew))
  have HTB3 := Lib.hid htb3s; have HO3 := Lib.hid hO3s
  have HP3 := Lib.hid hP3s
  clear hb03 hP3 htb3 htb3s hO3s hP3s
  go_wp2_with fail
  clear c1 f1
  have hpush : ((p + 1 : Nat) : Int) = (p : Int) + 1 := by omega
  rw [hpush] at HS3 HTB3 HO3 HP3
  generalize W3.setCell ⟨E.g, 1, none⟩ (.int .i64 ((p : Int) + 1)) = W5 at HS3 HTB3 HO3 HP3 ⊢
  clear hpush
  have hc1 : W5.cell? ⟨W.heap.size, 1, none⟩ = some (.int .i64 t.at_) := blk_cell HTB3.out 1
  have hc2 : W5.cell? ⟨W.heap.size, 2, none⟩ = some (.string t.text) := blk_cell HTB3.out 2
  refine wp_region_held_drew (S := fun w => w.cell? ⟨W.heap.size, 1, none⟩ = some (.int .i64 t.at_) ∧ w.cell? ⟨W.heap.size, 2, none⟩ = some (.string t.text)) (by kernel_rfl) ⟨hc1, hc2⟩ (fun hHeld => ?_)
  refine wpAnyH_take (i := 0) (v := .pointer (some ⟨W.heap.size, 1, none⟩)) rfl (by kernel_rfl) (by kernel_rfl) (by kernel_rfl) (fun _ _ _ h => h) (Or.inl ⟨by rfl, fun w hSw => by go_simp⟩) hHeld ?_
  try simp only [Act.put, List.getElem_toArray, List.getElem_cons_zero, List.getElem_cons_succ, List.setIfInBounds_toArray, List.set_cons_zero, List.set_cons_succ]
  refine wpAnyH_take (i := 1) (v := .int .i64 t.at_) rfl (by kernel_rfl) (by kernel_rfl) (by kernel_rfl) (fun _ _ _ h => h) (Or.inl ⟨by rfl, fun w hSw => by obtain ⟨h1, h2⟩ := hSw; go_simp⟩) hHeld ?_
  try simp only [Act.put, List.getElem_toArray, List.getElem_cons_zero, List.getElem_cons_succ, List.setIfInBounds_toArray, List.set_cons_zero, List.set_cons_succ]
  refine wpAnyH_take (i := 2) (v := .pointer (some ⟨W.heap.size, 2, none⟩)) rfl (by kernel_rfl) (by kernel_rfl) (by kernel_rfl) (fun _ _ _ h => h) (Or.inl ⟨by rfl, fun w hSw => by go_simp⟩) hHeld ?_
  try simp only [Act.put, List.getElem_toArray, List.getElem_cons_zero, List.getElem_cons_succ, List.setIfInBounds_toArray, List.set_cons_zero, List.set_cons_succ]
  refine wpAnyH_take (i := 3) (v := .string t.text) rfl (by kernel_rfl) (by kernel_rfl) (by kernel_rfl) (fun _ _ _ h => h) (Or.inl ⟨by rfl, fun w hSw => by obtain ⟨h1, h2⟩ := hSw; go_simp⟩) hHeld ?_
  try simp only [Act.put, List.getElem_toArray, List.getElem_cons_zero, List.getElem_cons_succ, List.setIfInBounds_toArray, List.set_cons_zero, List.set_cons_succ]
  refine wpAnyH_take (i := 4) (v := .pointer (some ⟨E.g, 0, none⟩)) rfl (by kernel_rfl) (by kernel_rfl) (by kernel_rfl) (fun _ _ _ h => h) (Or.inl ⟨by rfl, fun w hSw => by go_simp⟩) hHeld ?_
  try simp only [Act.put, List.getElem_toArray, List.getElem_cons_zero, List.getElem_cons_succ, List.setIfInBounds_toArray, List.set_cons_zero, List.set_cons_succ]
  refine wpAnyH_ready (rs := [5]) (by kernel_rfl) (by simp) (AllReadyH.cons rfl (fun K hK => ?_) AllReadyH.nil)
  rw [if_pos (by rfl)]
  go_simp
  go_at_call 130
  refine HS3.out.mono ?_
  rintro q W6 ⟨v, ls, rfl, hp6, ho6, hh6, hr6⟩
  have ho06 : Only E.g B0 W6 := HO3.out.trans (((Only.refl E.g W5).drewN 1).trans ho6)
  have htb6 := (ho06.block _ (blk_lt HTB.out) (by have := HGW.out; omega)).trans HTB.out
  have hrb6 := (ho06.block _ (blk_lt HRB.out) (by have := HGW.out; omega)).trans HRB.out
  refine hK.out _ _ ⟨blk_cell htb6 1, blk_cell htb6 2⟩ (fun hHeld => ?_)
  clear hK K
  have hs5 : W.heap.size + 2 ≤ W5.heap.size := by have := HO3.out.size; omega
  have HO6 := Lib.hid ((Only.of HB0.out).trans ho06); have HRB6 := Lib.hid hrb6; have HP6 := Lib.hid hp6; have HH6 := Lib.hid hh6; have HR6 := Lib.hid hr6; have HS5 := Lib.hid hs5
  have hv1 := row_one hr6
  clear hp6 ho6 hh6 hr6 ho06 htb6 hrb6 hc1 hc2
  obtain ⟨_, ao, cap, rfl, _⟩ := id HR6.out
  try simp only [Act.put, List.getElem_toArray, List.getElem_cons_zero, List.getElem_cons_succ, List.setIfInBounds_toArray, List.set_cons_zero, List.set_cons_succ]
  refine wpAnyH_ready (rs := [6]) (by kernel_rfl) (by simp) (AllReadyH.cons rfl (fun K hK => ?_) AllReadyH.nil)
  rw [if_pos (by rfl)]
  go_simp
  refine hK.out _ _ hHeld (fun hHeld => ?_)
  clear hK K
  try simp only [Act.put, List.getElem_toArray, List.getElem_cons_zero, List.getElem_cons_succ, List.setIfInBounds_toArray, List.set_cons_zero, List.set_cons_succ]
  refine wpAnyH_ready (rs := [7]) (by kernel_rfl) (by simp) (AllReadyH.cons rfl (fun K hK => ?_) AllReadyH.nil)
  rw [if_pos (by rfl)]
  refine wp_setX (.tmp 4) (.tmp 57) (by rfl) (W.heap.size + 1) xz (callJ t.at_ t.text (.slice ao 1 cap)) HRB6.out rfl (by rfl) (by rfl) rfl (by simp [Value.oneCell']) ?_
  have hk : ∀ k, k ≠ W.heap.size + 1 → (W6.setRow (W.heap.size + 1) (callJ t.at_ t.text (.slice ao 1 cap)).toArray).heap[k]? = W6.heap[k]? := fun k h => setRow_other _ _ _ _ h
  refine hK.out _ _ ⟨(World.cell?_of_block (a := ⟨W.heap.size, 1, none⟩) (hk W.heap.size (by omega))).trans hHeld.1, (World.cell?_of_block (a := ⟨W.heap.size, 2, none⟩) (hk W.heap.size (by omega))).trans hHeld.2⟩ (fun _ => ?_)
  clear hK K hHeld
  refine wpAnyH_done (by kernel_rfl) ?_ _
  go_wp2_with fail
  refine bodyPost_ret_by (results_cell_row (p := 4) (ty := 42) rfl _ _ (W.heap.size + 1) 42 _ (0, 0) _ rfl (setRow_heap _ _ _ _ _ _ HRB6.out) Tryz.underlying42 rfl (by rw [sizeX]; rfl)) rfl ?_
  have hOF : Only E.g W (W6.setRow (W.heap.size + 1) (callJ t.at_ t.text (.slice ao 1 cap)).toArray) := HO6.out.row (.inr (Nat.le_succ _)) _
  have hKp : Keeps W6 (W6.setRow (W.heap.size + 1) (callJ t.at_ t.text (.slice ao 1 cap)).toArray) (From W5.drew.heap.size) (From W.heap.size) := fun b hb _ => ⟨hk b (by have : W5.heap.size ≤ b := hb; have := HS5.out; omega), by have : W5.heap.size ≤ b := hb; have := HS5.out; show W.heap.size ≤ b; omega⟩
  refine ⟨_, rfl, callT_held (Xk.Held.keep hKp _ HH6.out) (HR6.out.keep (by decide) hKp), HPW.out.only hOF HP6.out.at_ HP6.out.dp ?_, hOF⟩
  exact (hk _ (by have := HGW.out; omega)).trans HP6.out.box
end Go.Proofs.YtjddnchenhnemaaGreatDoor.Ps
