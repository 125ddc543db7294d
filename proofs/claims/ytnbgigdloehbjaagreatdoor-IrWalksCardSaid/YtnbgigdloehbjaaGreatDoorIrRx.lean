/-
  Copies of rows of matchers, of texts (slices.Clone); groupings told apart (ir.group).
  Plans without what their kinds do not have (ir.Clean): a window of one matcher.
  Slices of one element of several cells.
  A node in the making: a variable whose kids are put one by one.
  Plans without what their kinds do not have (ir.Clean): an aggregation of that window.
-/
import Derived.Test.YtnbgigdloehbjaaGreatDoorIrQ
import Derived.WalkSpells
import Derived.LoopN
import Derived.Test.YtnbgigdloehbjaaGreatDoorBaA
import Derived.Great.BuildSlice
import Derived.Deep.RegionHeld3
namespace Go.Proofs.YtnbgigdloehbjaaGreatDoor.Ir
open Go Go.RowKit Go.Proofs.YtnbgigdloehbjaaGreatDoor.Rg Go.Proofs.YtnbgigdloehbjaaGreatDoor.Ma
set_option maxHeartbeats 4000000
set_option maxRecDepth 100000

theorem infoMt : (Tryz.prog.info? 48).map (fun i => (i.zero, i.size, i.bytes)) = some (some (.agg #[.int .i64 0, .string ⟨#[]⟩, .string ⟨#[]⟩]), 3, 40) := by kernel_rfl
theorem infoStr : (Tryz.prog.info? 9).map (fun i => (i.zero, i.size, i.bytes)) = some (some (.string ⟨#[]⟩), 1, 16) := by kernel_rfl
theorem mcells_one (l : List Mr) : ∀ u ∈ mcells l, u.oneCell' = true := by
  intro u hu
  simp only [mcells, List.mem_flatMap] at hu
  obtain ⟨m, _, hm⟩ := hu
  simp at hm
  rcases hm with rfl | rfl | rfl <;> rfl
theorem scells_one (l : List ByteArray) : ∀ u ∈ scells l, u.oneCell' = true := by
  intro u hu
  simp only [scells, List.mem_map] at hu
  obtain ⟨b, _, rfl⟩ := hu
  rfl
/-- Blocks from one on. -/
def From (k : Nat) : Nat → Prop := fun b => k ≤ b
theorem row_from {W : World} {base e size n : Nat} {v : Value} {xs : List Value} (h : W.ownsRow base e size v n xs) : Row W (From base) v n size xs := by
  obtain ⟨hl, ao, cap, rfl, hc⟩ := row_own h
  refine ⟨hl, ao, cap, rfl, fun h0 => ?_⟩
  obtain ⟨b, o, _, rfl, hr⟩ := hc h0
  refine ⟨b, o, ?_, rfl, hr⟩
  rcases h.2 with ⟨hv, _⟩ | ⟨g, cap', cur, hv, hg, _⟩
  · cases hv
  · cases hv
    exact hg
theorem Keeps.from {W W1 : World} {k k1 : Nat} (hk : k1 ≤ k) (h : ∀ b, k ≤ b → b < W.heap.size → W1.heap[b]? = W.heap[b]?) : Keeps W W1 (From k) (From k1) := fun b hb hlt => ⟨h b hb hlt, Nat.le_trans hk hb⟩
theorem Row.any {W : World} {F : Nat → Prop} {v : Value} {n sz : Nat} {cs : List Value} (h : Row W F v n sz cs) (hsz : 0 < sz) : Row W Any v n sz cs := h.keep hsz fun _ _ _ => ⟨rfl, trivial⟩
/-- A copy of a row. -/
def RetR (n sz : Nat) (cs : List Value) (W : World) (e : Ending) (W' : World) : Prop := ∃ v', e = .returned v' ∧ Row W' (From W.heap.size) v' n sz cs ∧ Below W.heap.size W W'
theorem cloneM_calls (v : Value) (n : Nat) (cs : List Value) (h1 : ∀ u ∈ cs, u.oneCell' = true) (W : World) (hR : Row W Any v n 3 cs) (hl : n ≤ 100000) : Calls Tryz.prog 61 #[v] W (RetR n 3 cs W) := by
  obtain ⟨i0, hi0, hz0, hz1, hz2⟩ := info_parts infoMt
  obtain ⟨hlen, ao, cap, rfl, hc⟩ := hR
  have hen := Lib.run_eql_slice_nil (P := Tryz.prog)
  cases ao with
  | none =>
    have hn0 : n = 0 := by
      rcases Nat.eq_zero_or_pos n with h | h
      · exact h
      · obtain ⟨_, _, _, e, _⟩ := hc h; cases e
    subst hn0
    clear hc
    go_enter Tryz.func61, Tryz.ntmps61
    go_wp2_with fail
    go_ret
    exact ⟨_, rfl, ⟨hlen, none, 0, rfl, fun h => by omega⟩, Below.refl _ _⟩
  | some a =>
    have hown0 : (W.alloc (.cells #[] 48)).ownsRow W.heap.size 48 3 (.slice (some ⟨W.heap.size, 0, none⟩) 0 0) 0 [] := World.ownsRow_lit W #[] 0 (Nat.le_refl _) (by unfold maxLen; omega) rfl
    have HOwn := Lib.hid hown0; clear hown0
    by_cases h0 : n = 0
    · subst h0
      clear hc
      go_enter Tryz.func61, Tryz.ntmps61
      go_wp2_with fail
      go_ret
      exact ⟨_, rfl, ⟨hlen, _, 0, rfl, fun h => by omega⟩, (Below.refl _ _).alloc (Nat.le_refl _) _⟩
    · obtain ⟨b, o, _, e, hr⟩ := hc (by omega)
      cases e
      have hnews : ∀ j u, cs[j]? = some u → (W.alloc (.cells #[] 48)).cell? ((⟨b, o, none⟩ : Addr).add j) = some u := fun j u hu => by
        rw [Addr.add_mid]
        have := hr j u hu
        exact (((Below.refl W.heap.size W).alloc (Nat.le_refl _) _).cell (p := ⟨b, o + j, none⟩) (World.block_lt_of_cell? W _ this)).trans this
      have HNews := Lib.hid hnews; clear hnews hc hr
      go_enter Tryz.func61, Tryz.ntmps61
      go_wp2_with (at_builtin; refine wpList_append_lies _ rfl (.tmp 5) (.tmp 6) 23 rfl W.heap.size 48 i0 (.agg #[.int .i64 0, .string ⟨#[]⟩, .string ⟨#[]⟩]) 3 40 Tryz.underlying23 hi0 hz0 hz1 hz2 rfl (by decide) (.slice (some ⟨W.heap.size, 0, none⟩) 0 0) 0 [] rfl HOwn.out ⟨b, o, none⟩ n cap cs rfl hlen HNews.out h1 (by omega) (by unfold maxLen; omega) (by omega) (by simp) (W.heap.size + 1) (by simp) ?_; intro g2 cap2 w2 hown2 hgrow2 hat2 hlt2; have hb2 := ((Below.refl W.heap.size W).alloc (Nat.le_refl _) (.cells #[] 48)).grown hgrow2 (by simp) (fun k hk => by simp [Value.ownBlock] at hk; omega); rw [Nat.zero_add, List.nil_append] at hown2; have HR2 := Lib.hid (row_from hown2); have HB2 := Lib.hid hb2; clear hown2 hgrow2 hat2 hlt2 hb2)
      go_ret
      exact ⟨_, rfl, by simpa using HR2.out, HB2.out⟩
theorem cloneS_calls (v : Value) (n : Nat) (cs : List Value) (h1 : ∀ u ∈ cs, u.oneCell' = true) (W : World) (hR : Row W Any v n 1 cs) (hl : n ≤ 100000) : Calls Tryz.prog 63 #[v] W (RetR n 1 cs W) := by
  obtain ⟨i0, hi0, hz0, hz1, hz2⟩ := info_parts infoStr
  obtain ⟨hlen, ao, cap, rfl, hc⟩ := hR
  have hen := Lib.run_eql_slice_nil (P := Tryz.prog)
  cases ao with
  | none =>
    have hn0 : n = 0 := by
      rcases Nat.eq_zero_or_pos n with h | h
      · exact h
      · obtain ⟨_, _, _, e, _⟩ := hc h; cases e
    subst hn0
    clear hc
    go_enter Tryz.func63, Tryz.ntmps63
    go_wp2_with fail
    go_ret
    exact ⟨_, rfl, ⟨hlen, none, 0, rfl, fun h => by omega⟩, Below.refl _ _⟩
  | some a =>
    have hown0 : (W.alloc (.cells #[] 9)).ownsRow W.heap.size 9 1 (.slice (some ⟨W.heap.size, 0, none⟩) 0 0) 0 [] := World.ownsRow_lit W #[] 0 (Nat.le_refl _) (by unfold maxLen; omega) rfl
    have HOwn := Lib.hid hown0; clear hown0
    by_cases h0 : n = 0
    · subst h0
      clear hc
      go_enter Tryz.func63, Tryz.ntmps63
      go_wp2_with fail
      go_ret
      exact ⟨_, rfl, ⟨hlen, _, 0, rfl, fun h => by omega⟩, (Below.refl _ _).alloc (Nat.le_refl _) _⟩
    · obtain ⟨b, o, _, e, hr⟩ := hc (by omega)
      cases e
      have hnews : ∀ j u, cs[j]? = some u → (W.alloc (.cells #[] 9)).cell? ((⟨b, o, none⟩ : Addr).add j) = some u := fun j u hu => by
        rw [Addr.add_mid]
        have := hr j u hu
        exact (((Below.refl W.heap.size W).alloc (Nat.le_refl _) _).cell (p := ⟨b, o + j, none⟩) (World.block_lt_of_cell? W _ this)).trans this
      have HNews := Lib.hid hnews; clear hnews hc hr
      go_enter Tryz.func63, Tryz.ntmps63
      go_wp2_with (at_builtin; refine wpList_append_lies _ rfl (.tmp 5) (.tmp 6) 24 rfl W.heap.size 9 i0 (.string ⟨#[]⟩) 1 16 Tryz.underlying24 hi0 hz0 hz1 hz2 rfl (by decide) (.slice (some ⟨W.heap.size, 0, none⟩) 0 0) 0 [] rfl HOwn.out ⟨b, o, none⟩ n cap cs rfl hlen HNews.out h1 (by omega) (by unfold maxLen; omega) (by omega) (by simp) (W.heap.size + 1) (by simp) ?_; intro g2 cap2 w2 hown2 hgrow2 hat2 hlt2; have hb2 := ((Below.refl W.heap.size W).alloc (Nat.le_refl _) (.cells #[] 9)).grown hgrow2 (by simp) (fun k hk => by simp [Value.ownBlock] at hk; omega); rw [Nat.zero_add, List.nil_append] at hown2; have HR2 := Lib.hid (row_from hown2); have HB2 := Lib.hid hb2; clear hown2 hgrow2 hat2 hlt2 hb2)
      go_ret
      exact ⟨_, rfl, by simpa using HR2.out, HB2.out⟩
def RetG (how : Int) (n : Nat) (cs : List Value) (W : World) (e : Ending) (W' : World) : Prop := ∃ v', e = .returned (.agg #[.int .i64 how, v']) ∧ Row W' (From W.heap.size) v' n 1 cs ∧ Below W.heap.size W W'
theorem sizeGp : (Tryz.prog.info? 26).map (·.size) = some 2 := by kernel_rfl
theorem group_calls (how : Int) (v : Value) (n : Nat) (cs : List Value) (h1 : ∀ u ∈ cs, u.oneCell' = true) (W : World) (hR : Row W Any v n 1 cs) (hl : n ≤ 100000) : Calls Tryz.prog 62 #[.agg #[.int .i64 how, v]] W (RetG how n cs W) := by
  obtain ⟨_, ao, cap, rfl, _⟩ := id hR
  have HC := Lib.hid (fun W' (hb : Below W.heap.size W W') => cloneS_calls (.slice ao n cap) n cs h1 W' (hR.keep (by decide) (Keeps.below hb)) hl)
  clear hR
  go_enter Tryz.func62, Tryz.ntmps62
  go_wp2_with fail
  go_region_with (first | (go_at_call 63; refine (HC.out _ (((Below.refl _ _).alloc (Nat.le_refl _) _).alloc (by simp) _).drew).mono ?_; rintro e W1 ⟨v', rfl, hr1, hb1⟩; obtain ⟨_, ao2, cap2, rfl, _⟩ := id hr1; have a0 : W1.cell? ⟨W.heap.size, 0, none⟩ = some (.int .i64 how) := (hb1.cell (p := ⟨W.heap.size, 0, none⟩) (by simp; omega)).trans (blk_cell (blk_alloc (blk_new W _) _) 0); have c0 : W1.cell? ⟨W.heap.size + 1, 0, none⟩ = some (.int .i64 0) := (hb1.cell (p := ⟨W.heap.size + 1, 0, none⟩) (by simp)).trans (blk_cell (blk_new2 W _ _) 0); have c1 : W1.cell? ⟨W.heap.size + 1, 1, none⟩ = some (.slice none 0 0) := (hb1.cell (p := ⟨W.heap.size + 1, 1, none⟩) (by simp)).trans (blk_cell (blk_new2 W _ _) 1); have d0 : W1.frozen? ⟨W.heap.size + 1, 0, none⟩ = false := (hb1.frozen (p := ⟨W.heap.size + 1, 0, none⟩) (by simp)).trans (blk_frozen (blk_new2 W _ _) 0); have d1 : W1.frozen? ⟨W.heap.size + 1, 1, none⟩ = false := (hb1.frozen (p := ⟨W.heap.size + 1, 1, none⟩) (by simp)).trans (blk_frozen (blk_new2 W _ _) 1); have e0 : (W.heap.size + 1 : Nat) < W1.heap.size := (by have := hb1.size; simp at this; omega); have g0 := (hb1.block (W.heap.size + 1) (by simp)).trans (blk_new2 W _ _); have HR1 := Lib.hid hr1; have HB1 := Lib.hid hb1; clear hr1 hb1))
  all_goals
    go_wp2_with fail
    refine bodyPost_ret_by (results_cell_row (p := 2) (ty := 26) rfl _ _ (W.heap.size + 1) 26 _ (0, 0) _ rfl (blk_set (blk_set g0 0 _) 1 _) Tryz.underlying26 rfl (by rw [sizeGp]; rfl)) rfl ?_
    refine ⟨.slice ao2 n cap2, rfl, HR1.out.keep (by decide) (Keeps.from (by simp; omega) fun b hb hlt => ?_), ?_⟩
    · simp at hb
      simp [World.setCell, Array.getElem?_modify]
      rw [if_neg (by omega), if_neg (by omega)]
    · have hw : Below W.heap.size W W1 := ((((Below.refl _ _).alloc (Nat.le_refl _) _).alloc (by simp) _).drew).trans (HB1.out.mono (by simp; omega))
      exact (hw.setCell (by simp) _).setCell (by simp) _
end Go.Proofs.YtnbgigdloehbjaaGreatDoor.Ir
namespace Go.Proofs.YtnbgigdloehbjaaGreatDoor.Ir
open Go Go.RowKit Go.Proofs.YtnbgigdloehbjaaGreatDoor.Rg Go.Proofs.YtnbgigdloehbjaaGreatDoor.Ma
set_option maxHeartbeats 8000000
set_option maxRecDepth 100000

/-- A whole node into a variable that holds one. -/
theorem wpList_setNd {ops : Array Oper} {rest : List Oper} {op : Oper} {a : Act} {w : World} {Q : Exit → Act → World → Prop} (hgd : op.guard = none) (x y : Operand) (ho : op.op = .store 31 x y)
    (b : Nat) (old c : List Value) (hb : w.heap[b]? = some (.cells old.toArray 31 (0, 0))) (hol : old.length = 17) (hx : a.eval x = .pointer (some ⟨b, 0, none⟩)) (hy : a.eval y = .agg c.toArray) (hl : c.length = 17) (hone : ∀ u ∈ c, u.oneCell' = true)
    (h : wpList Tryz.prog ops Q rest (a.put op.dst undef) (w.setRow b c.toArray)) : wpList Tryz.prog ops Q (op :: rest) a w :=
  wpList_plain hgd fun _ hK => by
    unfold Oper.wp execOp
    simp only [ho, hx, hy, Instr.storeAt, Instr.sureAddr, Sem.run_bind, Sem.run_pure, Result.andThen_ok, run_storeVar_row w b 31 31 old.toArray c.toArray hb (by rw [sizeNd]; simp [hl]) (by simp [hl, hol]) (all_oneCell_toArray hone)]
    exact hK _ _ h
theorem below_row {B : Nat} {W W1 : World} (h : Below B W W1) {b : Nat} (hb : B ≤ b) (cs : Array Value) : Below B W (W1.setRow b cs) :=
  ⟨h.os, h.tape, h.output, by have := h.size; simp; omega, fun k hk => (setRow_other _ _ _ _ (by omega)).trans (h.block k hk)⟩
/-- The window of what is known. -/
def m1 : Mr := ⟨1, ⟨#[97]⟩, ⟨#[49]⟩⟩
def fW : Fd := ⟨4, 0, 9, [m1], 60000, 0, 0, 0, [], 0, [], 0, [], false, ⟨#[]⟩, ⟨#[]⟩⟩
abbrev wcl (vM : Value) : List Value := [.int .i64 4, .float .f64 0, .int .i64 9, vM, .int .i64 60000, .int .i64 0, .int .i64 0, .int .i64 0, .slice none 0 0, .int .i64 0, .slice none 0 0, .int .i64 0, .slice none 0 0, .bool false, .string ⟨#[]⟩, .string ⟨#[]⟩, .slice none 0 0]
abbrev oclW (f : Int) (vM : Value) (r : Int) : List Value := [.int .i64 4, .float .f64 0, .int .i64 f, vM, .int .i64 r, .int .i64 0, .int .i64 0, .int .i64 0, .slice none 0 0, .int .i64 0, .slice none 0 0, .int .i64 0, .slice none 0 0, .bool false, .string ⟨#[]⟩, .string ⟨#[]⟩, .slice none 0 0]
/-- A node comes back, in new memory. -/
def RetT (n : Nd) (W : World) (e : Ending) (W' : World) : Prop := ∃ c : List Value, e = .returned (.agg c.toArray) ∧ n.Held W' (From W.heap.size) c ∧ Below W.heap.size W W'
abbrev wNd : Nd := .mk fW .nil
theorem row_nil (W : World) (F : Nat → Prop) (sz : Nat) : Row W F (.slice none 0 0) 0 sz [] := ⟨by simp, none, 0, rfl, fun h => by omega⟩
theorem wcl_held {W : World} {F : Nat → Prop} {v : Value} (h : Row W F v 1 3 (mcells [m1])) : wNd.Held W F (wcl v) := by
  rw [Nd.Held]
  exact ⟨v, .slice none 0 0, .slice none 0 0, .slice none 0 0, .slice none 0 0, [], rfl, ⟨h, row_nil _ _ _, row_nil _ _ _, row_nil _ _ _⟩, rfl, row_nil _ _ _⟩
theorem clean_w (cs : List Value) (W : World) (hH : wNd.Held W Any cs) : Calls Tryz.prog 33 #[.agg cs.toArray] W (RetT wNd W) := by
  obtain ⟨vM, vG, vX, vI, aK, capK, ls, hcs, hf, _, _⟩ := hH.open
  have hM : Row W Any vM 1 3 (mcells [m1]) := hf.m
  have hl17 : cs.length = 17 := hH.length
  clear hH hf
  obtain ⟨_, aM, capM, rfl, _⟩ := id hM
  have k0 : cs[0]? = some (.int .i64 4) := by rw [hcs]; rfl
  have k2 : cs[2]? = some (.int .i64 9) := by rw [hcs]; rfl
  have k3 : cs[3]? = some (.slice aM 1 capM) := by rw [hcs]; rfl
  have k4 : cs[4]? = some (.int .i64 60000) := by rw [hcs]; rfl
  have k6 : cs[6]? = some (.int .i64 0) := by rw [hcs]; rfl
  have k16 : cs[16]? = some (.slice aK 0 capK) := by rw [hcs]; rfl
  clear hcs
  obtain ⟨B0, hB0⟩ : ∃ B0, B0 = (W.alloc (.cells cs.toArray 31)).alloc (.cells zcl.toArray 31) := ⟨_, rfl⟩
  have HO := Lib.hid (of_calls 4 9 cs k0 k2 B0)
  have eV : hasV 4 9 = [.bool false, .bool true, .bool true, .bool true, .bool false, .bool true, .bool false, .bool false, .bool false, .int .i64 0] := rfl
  have eK : isK 4 = true := rfl
  rw [eV, eK] at HO
  clear eV eK
  have hb0 : Below W.heap.size W B0 := by rw [hB0]; exact ((Below.refl _ _).alloc (Nat.le_refl _) _).alloc (by simp) _
  have hs0 : B0.heap.size = W.heap.size + 2 := by rw [hB0]; simp
  have hx0 : B0.heap[W.heap.size]? = some (.cells cs.toArray 31 (0, 0)) := by rw [hB0]; exact blk_alloc (blk_new W _) _
  have hr0 : B0.heap[W.heap.size + 1]? = some (.cells zcl.toArray 31 (0, 0)) := by rw [hB0]; exact blk_new2 W _ _
  have HB0 := Lib.hid hb0; have HX0 := Lib.hid hx0; have HR0 := Lib.hid hr0
  have HM := Lib.hid (hM.keep (by decide) (Keeps.below hb0)); clear hM hb0 hx0 hr0
  have hx : (W.alloc (.cells cs.toArray 31)).alloc (.cells #[.int .i64 0, .float .f64 0, .int .i64 0, .slice none 0 0, .int .i64 0, .int .i64 0, .int .i64 0, .int .i64 0, .slice none 0 0, .int .i64 0, .slice none 0 0, .int .i64 0, .slice none 0 0, .bool false, .string ⟨#[]⟩, .string ⟨#[]⟩, .slice none 0 0] 31) = B0 := hB0.symm
  clear hB0
  go_enter Tryz.func33, Tryz.ntmps33
  go_wp2_with (with_reducible refine wpList_loadNd rfl _ rfl W.heap.size 0 rfl cs (range_blk HX0.out) hl17 ?_)
  clear hx
  (with_reducible refine HO.out.mono ?_)
  rintro e W1 ⟨rfl, hb1⟩
  have hs1 : W.heap.size + 2 ≤ W1.heap.size := by have := hb1.size; omega
  have hx1 : W1.heap[W.heap.size]? = some (.cells cs.toArray 31 (0, 0)) := (hb1.block _ (by omega)).trans HX0.out
  have HX1 := Lib.hid hx1; have HR1 := Lib.hid ((hb1.block (W.heap.size + 1) (by omega)).trans HR0.out)
  have HB1 := Lib.hid (HB0.out.trans (hb1.mono (by omega)))
  have HM1 := Lib.hid (HM.out.keep (by decide) (Keeps.below hb1))
  have n0 : ∀ o, (W1.alloc o).cell? ⟨W.heap.size, 0, none⟩ = some (.int .i64 4) := fun o => (blk_cell (blk_alloc hx1 o) 0).trans (by simpa using k0)
  have n2 : ∀ o o2, ((W1.alloc o).alloc o2).cell? ⟨W.heap.size, 2, none⟩ = some (.int .i64 9) := fun o o2 => (blk_cell (blk_alloc (blk_alloc hx1 o) o2) 2).trans (by simpa using k2)
  have n3 : ∀ o o2, ((W1.alloc o).alloc o2).cell? ⟨W.heap.size, 3, none⟩ = some (.slice aM 1 capM) := fun o o2 => (blk_cell (blk_alloc (blk_alloc hx1 o) o2) 3).trans (by simpa using k3)
  clear hb1 hx1
  go_wp2_with (with_reducible refine wpList_newNd rfl rfl 5 (.tmp 15) rfl rfl rfl rfl (oclW 0 (.slice none 0 0) 0) rfl rfl rfl (by simp [Value.oneCell']) ?_)
  have hbx : Below W1.heap.size W1 ((W1.alloc (.cells #[.bool false, .bool true, .bool true, .bool true, .bool false, .bool true, .bool false, .bool false, .bool false, .int .i64 0] 60)).alloc (.cells (oclW 9 (.slice none 0 0) 0).toArray 31)) := ((Below.refl _ _).alloc (Nat.le_refl _) _).alloc (by simp) _
  refine (cloneM_calls _ 1 (mcells [m1]) (mcells_one _) _ ((HM1.out.keep (by decide) (Keeps.below hbx))) (by decide)).mono ?_
  rintro e W2 ⟨v', rfl, hr2, hb2⟩
  obtain ⟨_, ao2, cap2, rfl, _⟩ := id hr2
  have hs2 : W1.heap.size + 2 ≤ W2.heap.size := by have := hb2.size; simpa using this
  have g5 : W2.heap[W1.heap.size + 1]? = some (.cells (oclW 9 (.slice none 0 0) 0).toArray 31 (0, 0)) := (hb2.block _ (by simp)).trans (blk_new2 W1 _ _)
  have gh : W2.heap[W1.heap.size]? = some (.cells #[.bool false, .bool true, .bool true, .bool true, .bool false, .bool true, .bool false, .bool false, .bool false, .int .i64 0] 60 (0, 0)) := (hb2.block _ (by simp; omega)).trans (blk_alloc (blk_new W1 _) _)
  have gx : W2.heap[W.heap.size]? = some (.cells cs.toArray 31 (0, 0)) := (hb2.block _ (by simp; omega)).trans ((hbx.block _ (by omega)).trans HX1.out)
  have gr : W2.heap[W.heap.size + 1]? = some (.cells zcl.toArray 31 (0, 0)) := (hb2.block _ (by simp; omega)).trans ((hbx.block _ (by omega)).trans HR1.out)
  have h3 := blk_cell gh 3
  have h4 := blk_cell gh 4
  have h5 := blk_cell gh 5
  have h6 := blk_cell gh 6
  have h7 := blk_cell gh 7
  have h8 := blk_cell gh 8
  have n4 := (blk_cell gx 4).trans ((List.getElem?_toArray ..).trans k4)
  have n6 := (blk_cell gx 6).trans ((List.getElem?_toArray ..).trans k6)
  have n16 := (blk_cell gx 16).trans ((List.getElem?_toArray ..).trans k16)
  have x3 := blk_cell g5 3
  have x4 := blk_cell g5 4
  have x6 := blk_cell g5 6
  have z3 := blk_frozen g5 3
  have z4 := blk_frozen g5 4
  have z6 := blk_frozen g5 6
  have HR2 := Lib.hid hr2
  have HB2 := Lib.hid (HB1.out.trans ((hbx.trans (hb2.mono (by simp; omega))).mono (by omega)))
  have HG5 := Lib.hid g5; have HGr := Lib.hid gr; have Hs2 := Lib.hid hs2; have Hs1 := Lib.hid hs1
  have p1 : ¬ W.heap.size = W1.heap.size + 1 := by omega
  have p2 : ¬ W1.heap.size + 1 = W.heap.size := by omega
  clear hr2 hb2 g5 gh gx gr n0 n2 n3 hbx
  go_wp2_with fail
  refine wp_loop_rounds 1 ?_
  rw [rounds_succ]
  obtain ⟨w3, hw3⟩ : ∃ w3, w3 = ((W2.setCell ⟨W1.heap.size + 1, 3, none⟩ (.slice ao2 1 cap2)).setCell ⟨W1.heap.size + 1, 4, none⟩ (.int .i64 60000)).setCell ⟨W1.heap.size + 1, 6, none⟩ (.int .i64 0) := ⟨_, rfl⟩
  have hg6 : w3.heap[W1.heap.size + 1]? = some (.cells (wcl (.slice ao2 1 cap2)).toArray 31 (0, 0)) := by rw [hw3]; exact blk_set (blk_set (blk_set HG5.out 3 _) 4 _) 6 _
  have hg7 : w3.heap[W.heap.size + 1]? = some (.cells zcl.toArray 31 (0, 0)) := by rw [hw3]; exact blk_far (blk_far (blk_far HGr.out (by have := Hs1.out; simp; omega) _) (by have := Hs1.out; simp; omega) _) (by have := Hs1.out; simp; omega) _
  have hbw : Below W.heap.size W w3 := by rw [hw3]; exact ((HB2.out.setCell (by simp; omega) _).setCell (by simp; omega) _).setCell (by simp; omega) _
  have hrw : Row w3 (From (W1.heap.size + 2)) (.slice ao2 1 cap2) 1 3 (mcells [m1]) := HR2.out.keep (by decide) (Keeps.from (by simp) fun b hb hlt => by
    simp at hb
    rw [hw3]
    simp [World.setCell, Array.getElem?_modify]
    rw [if_neg (by omega), if_neg (by omega), if_neg (by omega)])
  have HG6 := Lib.hid hg6; have HG7 := Lib.hid hg7; have HBw := Lib.hid hbw; have HRw := Lib.hid hrw
  replace hw3 := hw3.symm
  clear hg6 hg7 hbw hrw
  go_wp2_with (first | (with_reducible refine wpList_loadNd rfl _ rfl (W1.heap.size + 1) 0 rfl (wcl (.slice ao2 1 cap2)) (range_blk HG6.out) rfl ?_) | (with_reducible refine wpList_setNd rfl _ _ rfl (W.heap.size + 1) zcl (wcl (.slice ao2 1 cap2)) HG7.out rfl rfl rfl rfl (by simp [Value.oneCell']) ?_))
  refine bodyPost_ret_by (results_cell_row (p := 2) (ty := 31) rfl _ _ (W.heap.size + 1) 31 _ (0, 0) _ rfl (setRow_heap _ _ _ _ _ _ HG7.out) Tryz.underlying31 rfl (by rw [sizeNd]; rfl)) rfl ?_
  refine ⟨_, rfl, wcl_held (HRw.out.keep (by decide) (Keeps.from (by have := Hs1.out; omega) fun b hb _ => setRow_other _ _ _ _ (by have := Hs1.out; omega))), below_row HBw.out (by omega) _⟩
end Go.Proofs.YtnbgigdloehbjaaGreatDoor.Ir
namespace Go.Proofs.YtnbgigdloehbjaaGreatDoor.Sl
open Go Go.RowKit

theorem fill_one (s : Nat) (hs : 0 < s) (zero cs : Array Value) (hz : zero.size = s) (hc : cs.size = s) : Instr.fill (fun i => some (i * s, s)) zero [(0, .agg cs)] = some cs := by
  obtain ⟨r, hr, h1, h2⟩ := Great.fill_dense hs [.agg cs] 0 zero (fun v hv => by rw [List.mem_singleton] at hv; subst hv; exact hc) (by simp [hz])
  have e : (([Value.agg cs].zipIdx 0).map fun x => (x.2, x.1)) = [(0, .agg cs)] := rfl
  rw [e] at hr
  rw [hr]
  congr 1
  apply Array.ext_getElem?
  intro k
  rw [h2 k]
  by_cases hk : k < s
  · rw [if_pos (by simp; omega)]
    simp [Nat.div_eq_of_lt hk, Nat.mod_eq_of_lt hk, Value.cells]
  · rw [if_neg (by simp; omega), Array.getElem?_eq_none (by omega), Array.getElem?_eq_none (by omega)]

/-- A slice of one element that is laid out by its cells. -/
theorem wp_slice1 {P : Program} {o : Oper} {a : Act} {w : World} {K : Act → World → Prop} {Q : Exit → Act → World → Prop} (t e : TypeId) (s : Nat) (z : Value) (x : Operand) (ho : o.op = .buildSlice t 1 #[(0, x)])
    (cs : Array Value) (hx : a.eval x = .agg cs) (hu : P.underlying t = some (.slice e)) (hi : (P.info? e).map (fun i => (i.zero, i.size)) = some (some z, s)) (hs : 0 < s) (hs2 : s ≤ 2 ^ 24) (hc : cs.size = s)
    (h : K (a.put o.dst (.slice (some ⟨w.heap.size, 0, none⟩) 1 1)) (w.alloc (.cells cs e))) : o.wp P a w K Q := by
  cases hie : P.info? e with
  | none => simp [hie] at hi
  | some ie =>
    simp only [hie, Option.map_some, Option.some.injEq, Prod.mk.injEq] at hi
    obtain ⟨hz, hsz⟩ := hi
    refine wp_buildSlice t e 1 #[(0, x)] ho cs ie z hu hie hz (by rw [hsz]; omega) (by rw [hsz]; omega) ?_ h
    have e1 : (#[(0, x)].map fun (i, x) => (i, a.eval x)).toList = [(0, .agg cs)] := by simp [hx]
    rw [e1, hsz]
    exact fill_one s hs _ cs (by simp) hc
end Go.Proofs.YtnbgigdloehbjaaGreatDoor.Sl
namespace Go.Proofs.YtnbgigdloehbjaaGreatDoor.Ir
open Go Go.RowKit Go.Proofs.YtnbgigdloehbjaaGreatDoor.Rg Go.Proofs.YtnbgigdloehbjaaGreatDoor.Ma
set_option maxHeartbeats 4000000
set_option maxRecDepth 100000

/-- Blocks from one on, but for the row's and the variable's. -/
def Off (B : Nat) (v : Value) (m : Nat) : Nat → Prop := fun j => B ≤ j ∧ v.ownBlock ≠ some j ∧ j ≠ m
structure MkN (T : TypeId) (B : Nat) (w : World) (m : Nat) (f : Fd) (vM vG vX vI v : Value) (l : Kd) (ls : List Value) : Prop where
  box : w.heap[m]? = some (.cells (ncl f vM vG vX vI v).toArray T (0, 0))
  own : w.ownsRow B T 17 v l.len ls
  ne : v.ownBlock ≠ some m
  flds : Flds w (Off B v m) f vM vG vX vI
  held : l.Held w (Off B v m) ls
theorem Off.lt_own {W : World} {B e size n : Nat} {v : Value} {xs : List Value} (h : W.ownsRow B e size v n xs) {k : Nat} (hk : v.ownBlock = some k) : B ≤ k ∧ k < W.heap.size := h.lt k hk
theorem MkN.below {T : TypeId} {B : Nat} {w w1 : World} {m : Nat} {f : Fd} {vM vG vX vI v : Value} {l : Kd} {ls : List Value} (h : MkN T B w m f vM vG vX vI v l ls) (hb : Below w.heap.size w w1) : MkN T B w1 m f vM vG vX vI v l ls :=
  ⟨(hb.block m (blk_lt h.box)).trans h.box, own_below h.own hb, h.ne, h.flds.keep fun b hF hlt => ⟨hb.block b hlt, hF⟩, Kd.Held.keep (fun b hF hlt => ⟨hb.block b hlt, hF⟩) l h.held⟩
theorem MkN.c16 {T : TypeId} {B : Nat} {w : World} {m : Nat} {f : Fd} {vM vG vX vI v : Value} {l : Kd} {ls : List Value} (h : MkN T B w m f vM vG vX vI v l ls) : w.cell? ⟨m, 16, none⟩ = some v := blk_cell h.box 16
theorem ncl_set16 (f : Fd) (vM vG vX vI v v' : Value) : (ncl f vM vG vX vI v).toArray.setIfInBounds 16 v' = (ncl f vM vG vX vI v').toArray := rfl
theorem own_set' {w : World} {base e size n : Nat} {v : Value} {xs : List Value} (h : w.ownsRow base e size v n xs) {a : Addr} (hne : v.ownBlock ≠ some a.block) (u : Value) : (w.setCell a u).ownsRow base e size v n xs := ownsRow_setCell_other h hne u
/-- A kid is put. -/
theorem MkN.put {T : TypeId} {B : Nat} {w8 w9 : World} {m : Nat} {f : Fd} {vM vG vX vI v : Value} {l : Kd} {ls : List Value} (hM : MkN T B w8 m f vM vG vX vI v l ls)
    {n2 : Nd} {cs2 : List Value} {N4 : Nat} {o : Obj} {gg cap2 : Nat} (hm : m < N4) (hv : ∀ k, v.ownBlock = some k → k < N4) (h2 : n2.Held w8 (From N4) cs2) (hB : B ≤ N4)
    (hown : w9.ownsRow B T 17 (.slice (some ⟨gg, 0, none⟩) (l.len + 1) cap2) (l.len + 1) (ls ++ cs2)) (hgrow : (w8.alloc o).grownBy w9 v.ownBlock) (hat : v.ownBlock = some gg ∨ gg = w8.heap.size + 1) :
    MkN T B (w9.setCell ⟨m, 16, none⟩ (.slice (some ⟨gg, 0, none⟩) (l.len + 1) cap2)) m f vM vG vX vI (.slice (some ⟨gg, 0, none⟩) (l.len + 1) cap2) (.snoc l n2) (ls ++ cs2) := by
  have hlm := blk_lt hM.box
  have hggm : gg ≠ m := by
    rcases hat with h | h
    · intro e; exact hM.ne (e ▸ h)
    · omega
  have hkeep : ∀ j, j < w8.heap.size → v.ownBlock ≠ some j → j ≠ m → (w9.setCell ⟨m, 16, none⟩ (.slice (some ⟨gg, 0, none⟩) (l.len + 1) cap2)).heap[j]? = w8.heap[j]? := fun j hj h1 h2 =>
    (Below.heap_setCell _ _ _ _ h2).trans ((hgrow.block j (by simp; omega) (fun e => h1 e.symm)).trans (Below.heap_alloc _ _ _ hj))
  have hbox : w9.heap[m]? = w8.heap[m]? := (hgrow.block m (by simp; omega) (fun e => hM.ne e.symm)).trans (Below.heap_alloc _ _ _ hlm)
  have hF : ∀ j, j < w8.heap.size → Off B v m j → Off B (.slice (some ⟨gg, 0, none⟩) (l.len + 1) cap2) m j := fun j hj ⟨h1, h2, h3⟩ => ⟨h1, fun e => by
    have e' : gg = j := by simpa [Value.ownBlock] using e
    subst e'
    rcases hat with h | h
    · exact h2 h
    · omega, h3⟩
  refine ⟨?_, own_set' hown (fun e => hggm (by simpa [Value.ownBlock] using e)) _, fun e => hggm (by simpa [Value.ownBlock] using e), hM.flds.keep fun b hO hlt => ⟨hkeep b hlt hO.2.1 hO.2.2, hF b hlt hO⟩, ls, cs2, rfl, h2.length, Kd.Held.keep (fun b hO hlt => ⟨hkeep b hlt hO.2.1 hO.2.2, hF b hlt hO⟩) l hM.held, Nd.Held.keep (fun b hO hlt => ?_) n2 h2⟩
  · rw [blk_set (hbox.trans hM.box), ncl_set16]
  · have hO' : N4 ≤ b := hO
    have hv1 : v.ownBlock ≠ some b := fun e => by have := hv b e; omega
    exact ⟨hkeep b hlt hv1 (by omega), hF b hlt ⟨by omega, hv1, by omega⟩⟩
theorem row_blk {W : World} {base e size n : Nat} {v : Value} {xs : List Value} (h : W.ownsRow base e size v n xs) : Row W (fun b => base ≤ b ∧ v.ownBlock = some b) v n size xs := by
  obtain ⟨hl, ao, cap, rfl, hc⟩ := row_from h
  refine ⟨hl, ao, cap, rfl, fun h0 => ?_⟩
  obtain ⟨b, o, hF, rfl, hr⟩ := hc h0
  exact ⟨b, o, ⟨hF, rfl⟩, rfl, hr⟩
/-- Done: the node, anywhere. -/
theorem MkN.done {T : TypeId} {B : Nat} {w w1 : World} {m : Nat} {f : Fd} {vM vG vX vI v : Value} {l : Kd} {ls : List Value} (h : MkN T B w m f vM vG vX vI v l ls) (hk : ∀ b, B ≤ b → b < w.heap.size → b ≠ m → w1.heap[b]? = w.heap[b]?) :
    (Nd.mk f l).Held w1 (From B) (ncl f vM vG vX vI v) := by
  rw [Nd.Held]
  have hK : Keeps w w1 (Off B v m) (From B) := fun b hO hlt => ⟨hk b hO.1 hlt hO.2.2, hO.1⟩
  refine ⟨vM, vG, vX, vI, v, ls, rfl, h.flds.keep hK, Kd.Held.keep hK l h.held, ?_⟩
  exact (row_blk h.own).keep (by decide) fun b hO hlt => ⟨hk b hO.1 hlt fun e => h.ne (by rw [hO.2, e]), hO.1⟩
theorem range_set {w : World} {b o m j : Nat} {c : List Value} {u : Value} (h : w.rangeAt b o c) (hne : b ≠ m) : (w.setCell ⟨m, j, none⟩ u).rangeAt b o c := fun i v hv =>
  (World.cell?_of_block (Below.heap_setCell w _ u _ hne)).trans (h i v hv)
theorem infoNd3 : (Tryz.prog.info? 31).map (fun i => (i.zero, i.size, i.bytes)) = some (some (.agg zcl.toArray), 17, 232) := by kernel_rfl
theorem infoNdS : (Tryz.prog.info? 31).map (fun i => (i.zero, i.size)) = some (some (.agg zcl.toArray), 17) := infoNd
/-- A slice of one element, at a step of a region that draws. -/
theorem step_slice1 {P : Program} {ops : Array Oper} {o : Oper} {a : Act} {w : World} {K : Act → World → Prop} {Q : Exit → Act → World → Prop} {E : Prop} (hgd : o.guard = none) (t e : TypeId) (s : Nat) (z : Value) (x : Operand) (ho : o.op = .buildSlice t 1 #[(0, x)])
    (cs : Array Value) (hx : a.eval x = .agg cs) (hu : P.underlying t = some (.slice e)) (hi : (P.info? e).map (fun i => (i.zero, i.size)) = some (some z, s)) (hs : 0 < s) (hs2 : s ≤ 2 ^ 24) (hc : cs.size = s)
    (h : K (a.put o.dst (.slice (some ⟨w.heap.size, 0, none⟩) 1 1)) (w.alloc (.cells cs e))) : if Region.wanted o (yielded ops a.tmps) = true then Oper.wp P o a w K Q else E := by
  have hw : Region.wanted o (yielded ops a.tmps) = true := by simp [Region.wanted, hgd]
  rw [if_pos hw]
  exact Sl.wp_slice1 t e s z x ho cs hx hu hi hs hs2 hc h
end Go.Proofs.YtnbgigdloehbjaaGreatDoor.Ir
namespace Go.Proofs.YtnbgigdloehbjaaGreatDoor.Ir
open Go Go.RowKit Go.Proofs.YtnbgigdloehbjaaGreatDoor.Rg Go.Proofs.YtnbgigdloehbjaaGreatDoor.Ma
set_option maxHeartbeats 8000000
set_option maxRecDepth 100000

def fA : Fd := ⟨8, 0, 1, [], 0, 0, 0, 0, [], 0, [], 0, [], false, ⟨#[]⟩, ⟨#[]⟩⟩
abbrev nNd : Nd := .mk fA (.snoc .nil wNd)
abbrev acl (k : Int) (g : Value) : List Value := [.int .i64 8, .float .f64 0, .int .i64 k, .slice none 0 0, .int .i64 0, .int .i64 0, .int .i64 0, .int .i64 0, g, .int .i64 0, .slice none 0 0, .int .i64 0, .slice none 0 0, .bool false, .string ⟨#[]⟩, .string ⟨#[]⟩, .slice none 0 0]
theorem clean_n (cs : List Value) (W : World) (hH : nNd.Held W Any cs) : Calls Tryz.prog 33 #[.agg cs.toArray] W (RetT nNd W) := by
  obtain ⟨vM, vG, vX, vI, aK, capK, ls, hcs, hf, hl, hK⟩ := hH.open
  have hG : Row W Any vG 0 1 [] := hf.g
  have hl17 : cs.length = 17 := hH.length
  clear hH hf
  obtain ⟨_, aG, capG, rfl, _⟩ := id hG
  have k0 : cs[0]? = some (.int .i64 8) := by rw [hcs]; rfl
  have k2 : cs[2]? = some (.int .i64 1) := by rw [hcs]; rfl
  have k7 : cs[7]? = some (.int .i64 0) := by rw [hcs]; rfl
  have k8 : cs[8]? = some (.slice aG 0 capG) := by rw [hcs]; rfl
  have k16 : cs[16]? = some (.slice aK 1 capK) := by rw [hcs]; rfl
  clear hcs
  obtain ⟨B0, hB0⟩ : ∃ B0, B0 = (W.alloc (.cells cs.toArray 31)).alloc (.cells zcl.toArray 31) := ⟨_, rfl⟩
  have HO := Lib.hid (of_calls 8 1 cs k0 k2 B0)
  have eV : hasV 8 1 = [.bool false, .bool true, .bool false, .bool false, .bool false, .bool false, .bool true, .bool false, .bool false, .int .i64 1] := rfl
  have eK : isK 8 = true := rfl
  rw [eV, eK] at HO
  clear eV eK
  have hb0 : Below W.heap.size W B0 := by rw [hB0]; exact ((Below.refl _ _).alloc (Nat.le_refl _) _).alloc (by simp) _
  have hs0 : B0.heap.size = W.heap.size + 2 := by rw [hB0]; simp
  have hx0 : B0.heap[W.heap.size]? = some (.cells cs.toArray 31 (0, 0)) := by rw [hB0]; exact blk_alloc (blk_new W _) _
  have hr0 : B0.heap[W.heap.size + 1]? = some (.cells zcl.toArray 31 (0, 0)) := by rw [hB0]; exact blk_new2 W _ _
  have HB0 := Lib.hid hb0; have HX0 := Lib.hid hx0; have HR0 := Lib.hid hr0
  have HL := Lib.hid hl; have HK := Lib.hid hK; have HG := Lib.hid hG; clear hl hK hG hb0 hx0 hr0
  have hx : (W.alloc (.cells cs.toArray 31)).alloc (.cells #[.int .i64 0, .float .f64 0, .int .i64 0, .slice none 0 0, .int .i64 0, .int .i64 0, .int .i64 0, .int .i64 0, .slice none 0 0, .int .i64 0, .slice none 0 0, .int .i64 0, .slice none 0 0, .bool false, .string ⟨#[]⟩, .string ⟨#[]⟩, .slice none 0 0] 31) = B0 := hB0.symm
  clear hB0
  go_enter Tryz.func33, Tryz.ntmps33
  go_wp2_with (with_reducible refine wpList_loadNd rfl _ rfl W.heap.size 0 rfl cs (range_blk HX0.out) hl17 ?_)
  clear hx
  (with_reducible refine HO.out.mono ?_)
  rintro e W1 ⟨rfl, hb1⟩
  have hs1 : W.heap.size + 2 ≤ W1.heap.size := by have := hb1.size; omega
  have hx1 : W1.heap[W.heap.size]? = some (.cells cs.toArray 31 (0, 0)) := (hb1.block _ (by omega)).trans HX0.out
  have HX1 := Lib.hid hx1; have HR1 := Lib.hid ((hb1.block (W.heap.size + 1) (by omega)).trans HR0.out)
  have HB1 := Lib.hid (HB0.out.trans (hb1.mono (by omega)))
  have n0 : ∀ o, (W1.alloc o).cell? ⟨W.heap.size, 0, none⟩ = some (.int .i64 8) := fun o => (blk_cell (blk_alloc hx1 o) 0).trans (by simpa using k0)
  have n2 : ∀ o o2, ((W1.alloc o).alloc o2).cell? ⟨W.heap.size, 2, none⟩ = some (.int .i64 1) := fun o o2 => (blk_cell (blk_alloc (blk_alloc hx1 o) o2) 2).trans (by simpa using k2)
  have n7 : ∀ o o2, ((W1.alloc o).alloc o2).cell? ⟨W.heap.size, 7, none⟩ = some (.int .i64 0) := fun o o2 => (blk_cell (blk_alloc (blk_alloc hx1 o) o2) 7).trans (by simpa using k7)
  have n8 : ∀ o o2, ((W1.alloc o).alloc o2).cell? ⟨W.heap.size, 8, none⟩ = some (.slice aG 0 capG) := fun o o2 => (blk_cell (blk_alloc (blk_alloc hx1 o) o2) 8).trans (by simpa using k8)
  clear hb1 hx1
  go_wp2_with (with_reducible refine wpList_newNd rfl rfl 5 (.tmp 15) rfl rfl rfl rfl (acl 0 (.slice none 0 0)) rfl rfl rfl (by simp [Value.oneCell']) ?_)
  have hbx : Below W1.heap.size W1 ((W1.alloc (.cells #[.bool false, .bool true, .bool false, .bool false, .bool false, .bool false, .bool true, .bool false, .bool false, .int .i64 1] 60)).alloc (.cells (acl 1 (.slice none 0 0)).toArray 31)) := ((Below.refl _ _).alloc (Nat.le_refl _) _).alloc (by simp) _
  refine (group_calls 0 (.slice aG 0 capG) 0 [] (by simp) _ (HG.out.keep (by decide) (Keeps.below (HB1.out.trans (hbx.mono (by omega))))) (by decide)).mono ?_
  rintro e W2 ⟨v', rfl, hr2, hb2⟩
  obtain ⟨_, ao2, cap2, rfl, _⟩ := id hr2
  have hs2 : W1.heap.size + 2 ≤ W2.heap.size := by have := hb2.size; simpa using this
  have g5 : W2.heap[W1.heap.size + 1]? = some (.cells (acl 1 (.slice none 0 0)).toArray 31 (0, 0)) := (hb2.block _ (by simp)).trans (blk_new2 W1 _ _)
  have gh : W2.heap[W1.heap.size]? = some (.cells #[.bool false, .bool true, .bool false, .bool false, .bool false, .bool false, .bool true, .bool false, .bool false, .int .i64 1] 60 (0, 0)) := (hb2.block _ (by simp; omega)).trans (blk_alloc (blk_new W1 _) _)
  have gx : W2.heap[W.heap.size]? = some (.cells cs.toArray 31 (0, 0)) := (hb2.block _ (by simp; omega)).trans ((hbx.block _ (by omega)).trans HX1.out)
  have gr : W2.heap[W.heap.size + 1]? = some (.cells zcl.toArray 31 (0, 0)) := (hb2.block _ (by simp; omega)).trans ((hbx.block _ (by omega)).trans HR1.out)
  have hbw2 := HB1.out.trans ((hbx.trans (hb2.mono (by simp; omega))).mono (by omega))
  have x7 := blk_cell g5 7
  have x8 := blk_cell g5 8
  have z7 := blk_frozen g5 7
  have z8 := blk_frozen g5 8
  have p1 : ¬ W.heap.size = W1.heap.size + 1 := by omega
  have p2 : ¬ W1.heap.size + 1 = W.heap.size := by omega
  obtain ⟨w3, hw3⟩ : ∃ w3, w3 = (W2.setCell ⟨W1.heap.size + 1, 7, none⟩ (.int .i64 0)).setCell ⟨W1.heap.size + 1, 8, none⟩ (.slice ao2 0 cap2) := ⟨_, rfl⟩
  have hg6 : w3.heap[W1.heap.size + 1]? = some (.cells (acl 1 (.slice ao2 0 cap2)).toArray 31 (0, 0)) := by rw [hw3]; exact blk_set (blk_set g5 7 _) 8 _
  have hg7 : w3.heap[W.heap.size + 1]? = some (.cells zcl.toArray 31 (0, 0)) := by rw [hw3]; exact blk_far (blk_far gr (by simp; omega) _) (by simp; omega) _
  have hg8 : w3.heap[W.heap.size]? = some (.cells cs.toArray 31 (0, 0)) := by rw [hw3]; exact blk_far (blk_far gx (by simp; omega) _) (by simp; omega) _
  have hg9 : w3.heap[W1.heap.size]? = some (.cells #[.bool false, .bool true, .bool false, .bool false, .bool false, .bool false, .bool true, .bool false, .bool false, .int .i64 1] 60 (0, 0)) := by rw [hw3]; exact blk_far (blk_far gh (by simp) _) (by simp) _
  have hbw : Below W.heap.size W w3 := by rw [hw3]; exact (hbw2.setCell (by simp; omega) _).setCell (by simp; omega) _
  have hsw : W1.heap.size + 2 ≤ w3.heap.size := by rw [hw3]; simpa using hs2
  have hg6 := Lib.hid hg6; have HG6 := hg6; have HG7 := Lib.hid hg7; have HBw := Lib.hid hbw
  have h7 := blk_cell hg9 7
  have h8 := blk_cell hg9 8
  have n16 := (blk_cell hg8 16).trans ((List.getElem?_toArray ..).trans k16)
  have HG9 := Lib.hid hg9
  replace hw3 := hw3.symm
  have h6 := blk_cell gh 6
  clear hg6 hg7 hg8 hg9 hbw hr2 hb2 g5 gh gx gr n0 n2 n7 n8 hbx hbw2
  go_wp2_with fail
  have hkw := HBw.out
  obtain ⟨b, o, ha, nk, c, hn1, hat, hH1⟩ := kid_at (HL.out.keep (Keeps.below hkw)) (HK.out.keep (by decide) (Keeps.below hkw)) (k := 0) (by decide)
  subst ha
  have hnk : wNd = nk := by simpa [Kd.kids] using hn1
  subst hnk
  have hl1 := hH1.length
  rw [Nat.zero_mul, Nat.add_zero] at hat
  have HAt := Lib.hid hat
  have HOne := Lib.hid hH1.one
  have HH1 := Lib.hid hH1
  have h9 : ∀ o, (w3.alloc o).cell? ⟨W1.heap.size, 9, none⟩ = some (.int .i64 1) := fun o => blk_cell (blk_alloc HG9.out o) 9
  clear hn1 hat hH1 hkw
  refine wp_loop_rounds 2 ?_
  rw [rounds_succ]
  go_wp2_with (first | (with_reducible refine wpList_loadNd rfl _ rfl b o rfl c HAt.out hl1 ?_) | (with_reducible refine wpList_newNd rfl rfl 7 (.tmp 89) rfl rfl rfl rfl c rfl rfl hl1 HOne.out ?_))
  obtain ⟨w4, hw4⟩ : ∃ w4, w4 = w3.alloc (.cells c.toArray 31) := ⟨_, rfl⟩
  have hb4 : Below w3.heap.size w3 w4 := by rw [hw4]; exact (Below.refl _ _).alloc (Nat.le_refl _) _
  have hk4 : w4.heap[w3.heap.size]? = some (.cells c.toArray 31 (0, 0)) := by rw [hw4]; exact blk_new w3 _
  have hM3 : MkN 31 (W.heap.size + 2) w3 (W1.heap.size + 1) fA (.slice none 0 0) (.slice ao2 0 cap2) (.slice none 0 0) (.slice none 0 0) (.slice none 0 0) .nil [] := by
    refine ⟨HG6.out, World.ownsRow_nil _ _ _ _, by simp [Value.ownBlock], ⟨row_nil _ _ _, ⟨rfl, ao2, cap2, rfl, fun h => by exact absurd h (by decide)⟩, row_nil _ _ _, row_nil _ _ _⟩, rfl⟩
  have hM4 := hM3.below hb4
  have HM4d := Lib.hid (hM4.below (Below.refl w4.heap.size w4).drew)
  have hs4 : w4.heap.size = w3.heap.size + 1 := by rw [hw4]; simp
  have hg74 : w4.heap[W.heap.size + 1]? = some (.cells zcl.toArray 31 (0, 0)) := (hb4.block _ (blk_lt HG7.out)).trans HG7.out
  have HG74 := Lib.hid hg74
  have hbw4 := HBw.out.trans (hb4.mono HBw.out.size)
  have HBw4 := Lib.hid hbw4
  have hrk : w4.drew.rangeAt w3.heap.size 0 c := range_blk (t := 31) (fr := (0, 0)) hk4
  have HRk := Lib.hid hrk
  have HCall := Lib.hid (clean_w c w4.drew (HH1.out.below (hb4.trans (by have := (Below.refl w4.heap.size w4).drew; exact this.mono hb4.size))))
  have HV4 : Hid (∀ k, (Value.slice none 0 0).ownBlock = some k → k < w3.heap.size) := Lib.hid fun k hk => by cases hk
  have HS4 : Hid (W.heap.size + 2 ≤ w3.heap.size) := Lib.hid (by omega)
  have hMK : W1.heap.size + 1 < w3.heap.size := by omega
  obtain ⟨i0, hi0, hz0, hz1, hz2⟩ := info_parts infoNd3
  rw [← hw4]
  have hcell4 : w4.drew.cell? ⟨W1.heap.size + 1, 16, none⟩ = some (.slice none 0 0) := HM4d.out.c16
  have hdw : w4.drew.heap.size = w4.heap.size := rfl
  clear hw4 hM3 hM4 hg74 hbw4 hrk hk4 hb4 hw3 h7 h8 h6 h9 n16 x7 x8 z7 z8
  refine wp_region_held_drew (S := fun w' => w'.rangeAt w3.heap.size 0 c) (by kernel_rfl) HRk.out (fun hHeld => ?_)
  refine wpAnyH_take (i := 0) (v := .pointer (some ⟨W1.heap.size + 1, 16, none⟩)) rfl (by kernel_rfl) (by kernel_rfl) (by kernel_rfl) (fun _ _ _ h => h) (Or.inl ⟨by rfl, fun w hSw => by go_simp⟩) hHeld ?_
  simp only [Act.put, List.getElem_toArray, List.getElem_cons_zero, List.setIfInBounds_toArray, List.set_cons_zero, List.set_cons_succ]
  refine wpAnyH_take (i := 2) (v := .agg c.toArray) rfl (by kernel_rfl) (by kernel_rfl) (by kernel_rfl) (fun _ _ _ h => h) (yieldsIf_load_mid (by rfl) 31 (.tmp 7) rfl (w3.heap.size) 0 rfl c _ (fun w hw => hw) Tryz.underlying31 rfl (by rw [sizeNd, hl1])) hHeld ?_
  simp only [Act.put, List.getElem_toArray, List.getElem_cons_zero, List.getElem_cons_succ, List.setIfInBounds_toArray, List.set_cons_zero, List.set_cons_succ]
  refine wpAnyH_ready (rs := [1, 3]) (by kernel_rfl) (by simp) (AllReadyH.cons rfl (fun K hK => ?_) (AllReadyH.cons rfl (fun K hK => ?_) AllReadyH.nil))
  · rw [if_pos (by rfl)]
    go_simp
    refine hK.out _ _ hHeld (fun hHeld => ?_)
    clear hK K
    refine wpAnyH_ready (rs := [3]) (by kernel_rfl) (by simp) (AllReadyH.cons rfl (fun K hK => ?_) AllReadyH.nil)
    rw [if_pos (by rfl)]
    go_simp
    go_at_call 33
    refine HCall.out.mono ?_
    rintro q w7 ⟨c2, rfl, hN7, hb7⟩
    have hM7 := HM4d.out.below hb7
    have hcell7 := hM7.c16
    have hlen7 := hN7.length
    have hone7 := hN7.one
    have hS7 : w7.rangeAt w3.heap.size 0 c := range_keep hHeld fun h => hb7.block _ h
    have HN7 := Lib.hid hN7; clear hN7
    have HM7 := Lib.hid hM7; clear hM7
    have HOne7 := Lib.hid hone7; clear hone7
    have HB7 := Lib.hid hb7; clear hb7
    refine hK.out _ _ hS7 (fun hHeld => ?_)
    clear hK K
    refine wpAnyH_ready (rs := [4]) (by kernel_rfl) (by simp) (AllReadyH.cons rfl (fun K hK => ?_) AllReadyH.nil)
    refine step_slice1 (by rfl) 29 31 17 _ (.tmp 96) (by rfl) c2.toArray (by rfl) Tryz.underlying29 infoNdS (by decide) (by decide) (by simp [hlen7]) ?_
    have hcell8 : (w7.alloc (.cells c2.toArray 31)).cell? ⟨W1.heap.size + 1, 16, none⟩ = some (Value.slice none 0 0) := (World.cell?_of_block (Below.heap_alloc _ _ _ (blk_lt HM7.out.box))).trans hcell7
    refine hK.out _ _ (range_keep hHeld fun h => Below.heap_alloc _ _ _ h) (fun hHeld => ?_)
    clear hK K
    refine wpAnyH_ready (rs := [5]) (by kernel_rfl) (by simp) (AllReadyH.cons rfl (fun K hK => ?_) AllReadyH.nil)
    refine step_append_lies _ (by rfl) (.tmp 94) (.tmp 97) 29 (by rfl) (W.heap.size + 2) 31 i0 (.agg zcl.toArray) 17 232 Tryz.underlying29 hi0 hz0 hz1 hz2 (by rfl) (by decide) (Value.slice none 0 0) 0 [] (by rfl) (HM7.out.own.alloc _) ⟨w7.heap.size, 0, none⟩ 1 1 c2 (by rfl) (by rw [hlen7]) (World.news_of_block (cs := c2.toArray) (t := 31) (fr := (0, 0)) (blk_new _ _)) HOne7.out (by decide) (by unfold maxLen; omega) (by omega) (by have := HB7.out.size; have := HS4.out; simp; omega) (w7.heap.size + 1) (by simp) ?_
    intro gg cap9 w9 hown9 hgrow9 hat9 hlt9
    have hkl7 : w3.heap.size < w7.heap.size := by have := HB7.out.size; omega
    have hbk : w9.heap[W1.heap.size + 1]? = w7.heap[W1.heap.size + 1]? := (hgrow9.block _ (by have := blk_lt HM7.out.box; simp; omega) (fun e => HM7.out.ne e.symm)).trans (Below.heap_alloc _ _ _ (blk_lt HM7.out.box))
    have hcell9 : w9.cell? ⟨W1.heap.size + 1, 16, none⟩ = some (Value.slice none 0 0) := (World.cell?_of_block hbk).trans hcell7
    have hf9 : w9.frozen? ⟨W1.heap.size + 1, 16, none⟩ = false := (World.frozen?_of_block hbk).trans (blk_frozen HM7.out.box 16)
    clear hbk
    have hkb9 : w9.heap[w3.heap.size]? = w7.heap[w3.heap.size]? := (hgrow9.block _ (by simp; omega) (fun e => by have := HV4.out _ e.symm; omega)).trans (Below.heap_alloc _ _ _ hkl7)
    have hS9 : w9.rangeAt w3.heap.size 0 c := fun j v hv => (World.cell?_of_block hkb9).trans ((World.cell?_of_block (w' := w7.alloc (.cells c2.toArray 31)) (w := w7) (a := ⟨w3.heap.size, 0 + j, none⟩) (Below.heap_alloc _ _ _ hkl7)).symm.trans (hHeld j v hv))
    have HAp := Lib.hid (And.intro hown9 (And.intro hgrow9 (And.intro hat9 hlt9)))
    clear hown9 hgrow9 hat9 hlt9
    refine hK.out _ _ hS9 (fun hHeld => ?_)
    clear hK K hkb9
    refine wpAnyH_take (i := 6) (v := .pointer (some ⟨W1.heap.size + 1, 16, none⟩)) rfl (by kernel_rfl) (by kernel_rfl) (by kernel_rfl) (fun _ _ _ h => h) (Or.inl ⟨by rfl, fun w hSw => by go_simp⟩) hHeld ?_
    simp only [Act.put, List.getElem_toArray, List.getElem_cons_zero, List.getElem_cons_succ, List.setIfInBounds_toArray, List.set_cons_zero, List.set_cons_succ]
    refine wpAnyH_ready (rs := [7]) (by kernel_rfl) (by simp) (AllReadyH.cons rfl (fun K hK => ?_) AllReadyH.nil)
    rw [if_pos (by rfl)]
    go_simp
    refine hK.out _ _ (range_set hHeld (by omega)) (fun hHeld => ?_)
    clear hK K
    refine wpAnyH_done (by kernel_rfl) ?_ _
    obtain ⟨hown9, hgrow9, hat9, hlt9⟩ := HAp.out
    have h7s := HB7.out.size
    have h7s' : w4.heap.size ≤ w7.heap.size := by omega
    have hM10 : MkN 31 (W.heap.size + 2) (w9.setCell ⟨W1.heap.size + 1, 16, none⟩ (.slice (some ⟨gg, 0, none⟩) 1 cap9)) (W1.heap.size + 1) fA (.slice none 0 0) (.slice ao2 0 cap2) (.slice none 0 0) (.slice none 0 0) (.slice (some ⟨gg, 0, none⟩) 1 cap9) (.snoc .nil wNd) ([] ++ c2) := HM7.out.put (N4 := w4.heap.size) (by omega) (fun k hk => by have := HV4.out k hk; omega) HN7.out (by have := HS4.out; omega) hown9 hgrow9 hat9
    have hg70 : (w9.setCell ⟨W1.heap.size + 1, 16, none⟩ (.slice (some ⟨gg, 0, none⟩) 1 cap9)).heap[W.heap.size + 1]? = some (.cells zcl.toArray 31 (0, 0)) := by
      refine blk_far ((hgrow9.block _ (by simp; omega) (by simp [Value.ownBlock])).trans ((Below.heap_alloc _ _ _ (by omega)).trans ((HB7.out.block _ (by have := blk_lt HG74.out; simpa using this)).trans HG74.out))) (by simp; omega) _
    have hbw7 : Below W.heap.size W w7 := HBw4.out.trans (((Below.refl w4.heap.size w4).drew.trans (HB7.out.mono (by simp))).mono HBw4.out.size)
    have hbw9 : Below W.heap.size W w9 := (hbw7.alloc hbw7.size _).grown hgrow9 (by simp; omega) (fun k hk => by cases hk)
    have hbw10 : Below W.heap.size W (w9.setCell ⟨W1.heap.size + 1, 16, none⟩ (.slice (some ⟨gg, 0, none⟩) 1 cap9)) := hbw9.setCell (by simp; omega) _
    have HM10 := Lib.hid hM10; have HG70 := Lib.hid hg70; have HBw10 := Lib.hid hbw10
    clear hown9 hgrow9 hat9 hlt9 hM10 hg70 hbw7 hbw9 hbw10 hcell9 hf9
    go_wp2_with fail
    generalize w9.setCell ⟨W1.heap.size + 1, 16, none⟩ (.slice (some ⟨gg, 0, none⟩) 1 cap9) = w10 at HM10 HG70 HBw10 ⊢
    rw [rounds_succ]
    go_wp2_with (first | (with_reducible refine wpList_loadNd rfl _ rfl (W1.heap.size + 1) 0 rfl (ncl fA (.slice none 0 0) (.slice ao2 0 cap2) (.slice none 0 0) (.slice none 0 0) (.slice (some ⟨gg, 0, none⟩) 1 cap9)) (range_blk HM10.out.box) rfl ?_) | (with_reducible refine wpList_setNd rfl _ _ rfl (W.heap.size + 1) zcl (ncl fA (.slice none 0 0) (.slice ao2 0 cap2) (.slice none 0 0) (.slice none 0 0) (.slice (some ⟨gg, 0, none⟩) 1 cap9)) HG70.out rfl rfl rfl rfl (by simp [Value.oneCell']) ?_))
    refine bodyPost_ret_by (results_cell_row (p := 2) (ty := 31) rfl _ _ (W.heap.size + 1) 31 _ (0, 0) _ rfl (setRow_heap _ _ _ _ _ _ HG70.out) Tryz.underlying31 rfl (by rw [sizeNd]; rfl)) rfl ?_
    refine ⟨_, rfl, Nd.Held.keep (Keeps.from (by omega) fun b _ _ => rfl) _ (HM10.out.done fun b hb hlt _ => setRow_other _ _ _ _ (by omega)), below_row HBw10.out (by omega) _⟩
  · rw [if_pos (by rfl)]
    go_simp
    go_at_call 33
    refine HCall.out.mono ?_
    rintro q w7 ⟨c2, rfl, hN7, hb7⟩
    have hM7 := HM4d.out.below hb7
    have hcell7 := hM7.c16
    have hlen7 := hN7.length
    have hone7 := hN7.one
    have hS7 : w7.rangeAt w3.heap.size 0 c := range_keep hHeld fun h => hb7.block _ h
    have HN7 := Lib.hid hN7; clear hN7
    have HM7 := Lib.hid hM7; clear hM7
    have HOne7 := Lib.hid hone7; clear hone7
    have HB7 := Lib.hid hb7; clear hb7
    refine hK.out _ _ hS7 (fun hHeld => ?_)
    clear hK K
    refine wpAnyH_ready (rs := [1, 4]) (by kernel_rfl) (by simp) (AllReadyH.cons rfl (fun K hK => ?_) (AllReadyH.cons rfl (fun K hK => ?_) AllReadyH.nil))
    · rw [if_pos (by rfl)]
      go_simp
      refine hK.out _ _ hHeld (fun hHeld => ?_)
      clear hK K
      refine wpAnyH_ready (rs := [4]) (by kernel_rfl) (by simp) (AllReadyH.cons rfl (fun K hK => ?_) AllReadyH.nil)
      refine step_slice1 (by rfl) 29 31 17 _ (.tmp 96) (by rfl) c2.toArray (by rfl) Tryz.underlying29 infoNdS (by decide) (by decide) (by simp [hlen7]) ?_
      have hcell8 : (w7.alloc (.cells c2.toArray 31)).cell? ⟨W1.heap.size + 1, 16, none⟩ = some (Value.slice none 0 0) := (World.cell?_of_block (Below.heap_alloc _ _ _ (blk_lt HM7.out.box))).trans hcell7
      refine hK.out _ _ (range_keep hHeld fun h => Below.heap_alloc _ _ _ h) (fun hHeld => ?_)
      clear hK K
      refine wpAnyH_ready (rs := [5]) (by kernel_rfl) (by simp) (AllReadyH.cons rfl (fun K hK => ?_) AllReadyH.nil)
      refine step_append_lies _ (by rfl) (.tmp 94) (.tmp 97) 29 (by rfl) (W.heap.size + 2) 31 i0 (.agg zcl.toArray) 17 232 Tryz.underlying29 hi0 hz0 hz1 hz2 (by rfl) (by decide) (Value.slice none 0 0) 0 [] (by rfl) (HM7.out.own.alloc _) ⟨w7.heap.size, 0, none⟩ 1 1 c2 (by rfl) (by rw [hlen7]) (World.news_of_block (cs := c2.toArray) (t := 31) (fr := (0, 0)) (blk_new _ _)) HOne7.out (by decide) (by unfold maxLen; omega) (by omega) (by have := HB7.out.size; have := HS4.out; simp; omega) (w7.heap.size + 1) (by simp) ?_
      intro gg cap9 w9 hown9 hgrow9 hat9 hlt9
      have hkl7 : w3.heap.size < w7.heap.size := by have := HB7.out.size; omega
      have hbk : w9.heap[W1.heap.size + 1]? = w7.heap[W1.heap.size + 1]? := (hgrow9.block _ (by have := blk_lt HM7.out.box; simp; omega) (fun e => HM7.out.ne e.symm)).trans (Below.heap_alloc _ _ _ (blk_lt HM7.out.box))
      have hcell9 : w9.cell? ⟨W1.heap.size + 1, 16, none⟩ = some (Value.slice none 0 0) := (World.cell?_of_block hbk).trans hcell7
      have hf9 : w9.frozen? ⟨W1.heap.size + 1, 16, none⟩ = false := (World.frozen?_of_block hbk).trans (blk_frozen HM7.out.box 16)
      clear hbk
      have hkb9 : w9.heap[w3.heap.size]? = w7.heap[w3.heap.size]? := (hgrow9.block _ (by simp; omega) (fun e => by have := HV4.out _ e.symm; omega)).trans (Below.heap_alloc _ _ _ hkl7)
      have hS9 : w9.rangeAt w3.heap.size 0 c := fun j v hv => (World.cell?_of_block hkb9).trans ((World.cell?_of_block (w' := w7.alloc (.cells c2.toArray 31)) (w := w7) (a := ⟨w3.heap.size, 0 + j, none⟩) (Below.heap_alloc _ _ _ hkl7)).symm.trans (hHeld j v hv))
      have HAp := Lib.hid (And.intro hown9 (And.intro hgrow9 (And.intro hat9 hlt9)))
      clear hown9 hgrow9 hat9 hlt9
      refine hK.out _ _ hS9 (fun hHeld => ?_)
      clear hK K hkb9
      refine wpAnyH_take (i := 6) (v := .pointer (some ⟨W1.heap.size + 1, 16, none⟩)) rfl (by kernel_rfl) (by kernel_rfl) (by kernel_rfl) (fun _ _ _ h => h) (Or.inl ⟨by rfl, fun w hSw => by go_simp⟩) hHeld ?_
      simp only [Act.put, List.getElem_toArray, List.getElem_cons_zero, List.getElem_cons_succ, List.setIfInBounds_toArray, List.set_cons_zero, List.set_cons_succ]
      refine wpAnyH_ready (rs := [7]) (by kernel_rfl) (by simp) (AllReadyH.cons rfl (fun K hK => ?_) AllReadyH.nil)
      rw [if_pos (by rfl)]
      go_simp
      refine hK.out _ _ (range_set hHeld (by omega)) (fun hHeld => ?_)
      clear hK K
      refine wpAnyH_done (by kernel_rfl) ?_ _
      obtain ⟨hown9, hgrow9, hat9, hlt9⟩ := HAp.out
      have h7s := HB7.out.size
      have h7s' : w4.heap.size ≤ w7.heap.size := by omega
      have hM10 : MkN 31 (W.heap.size + 2) (w9.setCell ⟨W1.heap.size + 1, 16, none⟩ (.slice (some ⟨gg, 0, none⟩) 1 cap9)) (W1.heap.size + 1) fA (.slice none 0 0) (.slice ao2 0 cap2) (.slice none 0 0) (.slice none 0 0) (.slice (some ⟨gg, 0, none⟩) 1 cap9) (.snoc .nil wNd) ([] ++ c2) := HM7.out.put (N4 := w4.heap.size) (by omega) (fun k hk => by have := HV4.out k hk; omega) HN7.out (by have := HS4.out; omega) hown9 hgrow9 hat9
      have hg70 : (w9.setCell ⟨W1.heap.size + 1, 16, none⟩ (.slice (some ⟨gg, 0, none⟩) 1 cap9)).heap[W.heap.size + 1]? = some (.cells zcl.toArray 31 (0, 0)) := by
        refine blk_far ((hgrow9.block _ (by simp; omega) (by simp [Value.ownBlock])).trans ((Below.heap_alloc _ _ _ (by omega)).trans ((HB7.out.block _ (by have := blk_lt HG74.out; simpa using this)).trans HG74.out))) (by simp; omega) _
      have hbw7 : Below W.heap.size W w7 := HBw4.out.trans (((Below.refl w4.heap.size w4).drew.trans (HB7.out.mono (by simp))).mono HBw4.out.size)
      have hbw9 : Below W.heap.size W w9 := (hbw7.alloc hbw7.size _).grown hgrow9 (by simp; omega) (fun k hk => by cases hk)
      have hbw10 : Below W.heap.size W (w9.setCell ⟨W1.heap.size + 1, 16, none⟩ (.slice (some ⟨gg, 0, none⟩) 1 cap9)) := hbw9.setCell (by simp; omega) _
      have HM10 := Lib.hid hM10; have HG70 := Lib.hid hg70; have HBw10 := Lib.hid hbw10
      clear hown9 hgrow9 hat9 hlt9 hM10 hg70 hbw7 hbw9 hbw10 hcell9 hf9
      go_wp2_with fail
      generalize w9.setCell ⟨W1.heap.size + 1, 16, none⟩ (.slice (some ⟨gg, 0, none⟩) 1 cap9) = w10 at HM10 HG70 HBw10 ⊢
      rw [rounds_succ]
      go_wp2_with (first | (with_reducible refine wpList_loadNd rfl _ rfl (W1.heap.size + 1) 0 rfl (ncl fA (.slice none 0 0) (.slice ao2 0 cap2) (.slice none 0 0) (.slice none 0 0) (.slice (some ⟨gg, 0, none⟩) 1 cap9)) (range_blk HM10.out.box) rfl ?_) | (with_reducible refine wpList_setNd rfl _ _ rfl (W.heap.size + 1) zcl (ncl fA (.slice none 0 0) (.slice ao2 0 cap2) (.slice none 0 0) (.slice none 0 0) (.slice (some ⟨gg, 0, none⟩) 1 cap9)) HG70.out rfl rfl rfl rfl (by simp [Value.oneCell']) ?_))
      refine bodyPost_ret_by (results_cell_row (p := 2) (ty := 31) rfl _ _ (W.heap.size + 1) 31 _ (0, 0) _ rfl (setRow_heap _ _ _ _ _ _ HG70.out) Tryz.underlying31 rfl (by rw [sizeNd]; rfl)) rfl ?_
      refine ⟨_, rfl, Nd.Held.keep (Keeps.from (by omega) fun b _ _ => rfl) _ (HM10.out.done fun b hb hlt _ => setRow_other _ _ _ _ (by omega)), below_row HBw10.out (by omega) _⟩
    · refine step_slice1 (by rfl) 29 31 17 _ (.tmp 96) (by rfl) c2.toArray (by rfl) Tryz.underlying29 infoNdS (by decide) (by decide) (by simp [hlen7]) ?_
      have hcell8 : (w7.alloc (.cells c2.toArray 31)).cell? ⟨W1.heap.size + 1, 16, none⟩ = some (Value.slice none 0 0) := (World.cell?_of_block (Below.heap_alloc _ _ _ (blk_lt HM7.out.box))).trans hcell7
      refine hK.out _ _ (range_keep hHeld fun h => Below.heap_alloc _ _ _ h) (fun hHeld => ?_)
      clear hK K
      refine wpAnyH_ready (rs := [1]) (by kernel_rfl) (by simp) (AllReadyH.cons rfl (fun K hK => ?_) AllReadyH.nil)
      rw [if_pos (by rfl)]
      go_simp
      refine hK.out _ _ hHeld (fun hHeld => ?_)
      clear hK K
      refine wpAnyH_ready (rs := [5]) (by kernel_rfl) (by simp) (AllReadyH.cons rfl (fun K hK => ?_) AllReadyH.nil)
      refine step_append_lies _ (by rfl) (.tmp 94) (.tmp 97) 29 (by rfl) (W.heap.size + 2) 31 i0 (.agg zcl.toArray) 17 232 Tryz.underlying29 hi0 hz0 hz1 hz2 (by rfl) (by decide) (Value.slice none 0 0) 0 [] (by rfl) (HM7.out.own.alloc _) ⟨w7.heap.size, 0, none⟩ 1 1 c2 (by rfl) (by rw [hlen7]) (World.news_of_block (cs := c2.toArray) (t := 31) (fr := (0, 0)) (blk_new _ _)) HOne7.out (by decide) (by unfold maxLen; omega) (by omega) (by have := HB7.out.size; have := HS4.out; simp; omega) (w7.heap.size + 1) (by simp) ?_
      intro gg cap9 w9 hown9 hgrow9 hat9 hlt9
      have hkl7 : w3.heap.size < w7.heap.size := by have := HB7.out.size; omega
      have hbk : w9.heap[W1.heap.size + 1]? = w7.heap[W1.heap.size + 1]? := (hgrow9.block _ (by have := blk_lt HM7.out.box; simp; omega) (fun e => HM7.out.ne e.symm)).trans (Below.heap_alloc _ _ _ (blk_lt HM7.out.box))
      have hcell9 : w9.cell? ⟨W1.heap.size + 1, 16, none⟩ = some (Value.slice none 0 0) := (World.cell?_of_block hbk).trans hcell7
      have hf9 : w9.frozen? ⟨W1.heap.size + 1, 16, none⟩ = false := (World.frozen?_of_block hbk).trans (blk_frozen HM7.out.box 16)
      clear hbk
      have hkb9 : w9.heap[w3.heap.size]? = w7.heap[w3.heap.size]? := (hgrow9.block _ (by simp; omega) (fun e => by have := HV4.out _ e.symm; omega)).trans (Below.heap_alloc _ _ _ hkl7)
      have hS9 : w9.rangeAt w3.heap.size 0 c := fun j v hv => (World.cell?_of_block hkb9).trans ((World.cell?_of_block (w' := w7.alloc (.cells c2.toArray 31)) (w := w7) (a := ⟨w3.heap.size, 0 + j, none⟩) (Below.heap_alloc _ _ _ hkl7)).symm.trans (hHeld j v hv))
      have HAp := Lib.hid (And.intro hown9 (And.intro hgrow9 (And.intro hat9 hlt9)))
      clear hown9 hgrow9 hat9 hlt9
      refine hK.out _ _ hS9 (fun hHeld => ?_)
      clear hK K hkb9
      refine wpAnyH_take (i := 6) (v := .pointer (some ⟨W1.heap.size + 1, 16, none⟩)) rfl (by kernel_rfl) (by kernel_rfl) (by kernel_rfl) (fun _ _ _ h => h) (Or.inl ⟨by rfl, fun w hSw => by go_simp⟩) hHeld ?_
      simp only [Act.put, List.getElem_toArray, List.getElem_cons_zero, List.getElem_cons_succ, List.setIfInBounds_toArray, List.set_cons_zero, List.set_cons_succ]
      refine wpAnyH_ready (rs := [7]) (by kernel_rfl) (by simp) (AllReadyH.cons rfl (fun K hK => ?_) AllReadyH.nil)
      rw [if_pos (by rfl)]
      go_simp
      refine hK.out _ _ (range_set hHeld (by omega)) (fun hHeld => ?_)
      clear hK K
      refine wpAnyH_done (by kernel_rfl) ?_ _
      obtain ⟨hown9, hgrow9, hat9, hlt9⟩ := HAp.out
      have h7s := HB7.out.size
      have h7s' : w4.heap.size ≤ w7.heap.size := by omega
      have hM10 : MkN 31 (W.heap.size + 2) (w9.setCell ⟨W1.heap.size + 1, 16, none⟩ (.slice (some ⟨gg, 0, none⟩) 1 cap9)) (W1.heap.size + 1) fA (.slice none 0 0) (.slice ao2 0 cap2) (.slice none 0 0) (.slice none 0 0) (.slice (some ⟨gg, 0, none⟩) 1 cap9) (.snoc .nil wNd) ([] ++ c2) := HM7.out.put (N4 := w4.heap.size) (by omega) (fun k hk => by have := HV4.out k hk; omega) HN7.out (by have := HS4.out; omega) hown9 hgrow9 hat9
      have hg70 : (w9.setCell ⟨W1.heap.size + 1, 16, none⟩ (.slice (some ⟨gg, 0, none⟩) 1 cap9)).heap[W.heap.size + 1]? = some (.cells zcl.toArray 31 (0, 0)) := by
        refine blk_far ((hgrow9.block _ (by simp; omega) (by simp [Value.ownBlock])).trans ((Below.heap_alloc _ _ _ (by omega)).trans ((HB7.out.block _ (by have := blk_lt HG74.out; simpa using this)).trans HG74.out))) (by simp; omega) _
      have hbw7 : Below W.heap.size W w7 := HBw4.out.trans (((Below.refl w4.heap.size w4).drew.trans (HB7.out.mono (by simp))).mono HBw4.out.size)
      have hbw9 : Below W.heap.size W w9 := (hbw7.alloc hbw7.size _).grown hgrow9 (by simp; omega) (fun k hk => by cases hk)
      have hbw10 : Below W.heap.size W (w9.setCell ⟨W1.heap.size + 1, 16, none⟩ (.slice (some ⟨gg, 0, none⟩) 1 cap9)) := hbw9.setCell (by simp; omega) _
      have HM10 := Lib.hid hM10; have HG70 := Lib.hid hg70; have HBw10 := Lib.hid hbw10
      clear hown9 hgrow9 hat9 hlt9 hM10 hg70 hbw7 hbw9 hbw10 hcell9 hf9
      go_wp2_with fail
      generalize w9.setCell ⟨W1.heap.size + 1, 16, none⟩ (.slice (some ⟨gg, 0, none⟩) 1 cap9) = w10 at HM10 HG70 HBw10 ⊢
      rw [rounds_succ]
      go_wp2_with (first | (with_reducible refine wpList_loadNd rfl _ rfl (W1.heap.size + 1) 0 rfl (ncl fA (.slice none 0 0) (.slice ao2 0 cap2) (.slice none 0 0) (.slice none 0 0) (.slice (some ⟨gg, 0, none⟩) 1 cap9)) (range_blk HM10.out.box) rfl ?_) | (with_reducible refine wpList_setNd rfl _ _ rfl (W.heap.size + 1) zcl (ncl fA (.slice none 0 0) (.slice ao2 0 cap2) (.slice none 0 0) (.slice none 0 0) (.slice (some ⟨gg, 0, none⟩) 1 cap9)) HG70.out rfl rfl rfl rfl (by simp [Value.oneCell']) ?_))
      refine bodyPost_ret_by (results_cell_row (p := 2) (ty := 31) rfl _ _ (W.heap.size + 1) 31 _ (0, 0) _ rfl (setRow_heap _ _ _ _ _ _ HG70.out) Tryz.underlying31 rfl (by rw [sizeNd]; rfl)) rfl ?_
      refine ⟨_, rfl, Nd.Held.keep (Keeps.from (by omega) fun b _ _ => rfl) _ (HM10.out.done fun b hb hlt _ => setRow_other _ _ _ _ (by omega)), below_row HBw10.out (by omega) _⟩
end Go.Proofs.YtnbgigdloehbjaaGreatDoor.Ir
