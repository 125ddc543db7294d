/-
  What is known of plans (known of isobarlaw12).
-/
import Derived.Test.YtnbgigdloehbjaaGreatDoorIrVx
import Derived.Test.YtnbgigdloehbjaaGreatDoorTzX
namespace Go.Proofs.YtnbgigdloehbjaaGreatDoor.Ir
open Go Go.RowKit Go.Proofs.YtnbgigdloehbjaaGreatDoor.Rg Go.Proofs.YtnbgigdloehbjaaGreatDoor.Ma
set_option maxHeartbeats 8000000
set_option maxRecDepth 100000

def fT : Fd := ⟨2, 0, 0, [], 0, 0, 0, 0, [], 0, [], 0, [], false, ⟨#[]⟩, ⟨#[]⟩⟩
abbrev tNd : Nd := .mk fT .nil
abbrev bNd : Nd := .mk fA (.snoc .nil tNd)
theorem fT_sml : Sml fT := ⟨by decide, by simp [fT], by decide, by simp [fT], by decide, by simp [fT], by decide, by simp [fT], by decide, by decide⟩
theorem bNd_sm : bNd.Sm := ⟨fA_sml, trivial, fT_sml, trivial⟩
theorem errM_m1 : errM [m1] = 0 := by decide +kernel
theorem n_check : nNd.check = (2, 0) := by decide +kernel
theorem b_check : bNd.check = (0, 3) := by decide +kernel
/-- A slice of one node. -/
theorem wpList_sliceNd {ops : Array Oper} {rest : List Oper} {op : Oper} {a : Act} {w : World} {Q : Exit → Act → World → Prop} (hgd : op.guard = none) (x : Operand) (ho : op.op = .buildSlice 29 1 #[(0, x)])
    (c : List Value) (hx : a.eval x = .agg c.toArray) (hl : c.length = 17) (h : wpList Tryz.prog ops Q rest (a.put op.dst (.slice (some ⟨w.heap.size, 0, none⟩) 1 1)) (w.alloc (.cells c.toArray 31))) : wpList Tryz.prog ops Q (op :: rest) a w :=
  wpList_plain hgd fun _ hK => Sl.wp_slice1 29 31 17 _ x ho c.toArray hx Tryz.underlying29 infoNdS (by decide) (by decide) (by simp [hl]) (hK _ _ h)
abbrev akl (b : Nat) : List Value := ncl fA (.slice none 0 0) (.slice none 0 0) (.slice none 0 0) (.slice none 0 0) (.slice (some ⟨b, 0, none⟩) 1 1)
theorem agg_held {W : World} {n : Nd} {b : Nat} {c : List Value} (hk : n.Held W Any c) (hc : W.rangeAt b 0 c) : (Nd.mk fA (.snoc .nil n)).Held W Any (akl b) := by
  rw [Nd.Held]
  exact ⟨.slice none 0 0, .slice none 0 0, .slice none 0 0, .slice none 0 0, _, c, rfl, ⟨row_nil _ _ _, row_nil _ _ _, row_nil _ _ _, row_nil _ _ _⟩, ⟨[], c, rfl, hk.length, rfl, hk⟩, ⟨by rw [hk.length]; rfl, _, 1, rfl, fun _ => ⟨b, 0, trivial, rfl, hc⟩⟩⟩
theorem tim_held (W : World) : tNd.Held W Any Tz.tcl := by
  rw [Nd.Held]
  exact ⟨.slice none 0 0, .slice none 0 0, .slice none 0 0, .slice none 0 0, .slice none 0 0, [], rfl, ⟨row_nil _ _ _, row_nil _ _ _, row_nil _ _ _, row_nil _ _ _⟩, rfl, row_nil _ _ _⟩
theorem n_tot : nNd.tot = 2 := rfl
theorem n_dep : nNd.dep = 2 := rfl
theorem calls_at {P : Program} {f : FuncId} {args : Array Value} {Q : Ending → World → Prop} {w : World} (F : World → Prop) (h : F w) (k : ∀ w', F w' → Calls P f args w' Q) : Calls P f args w Q := k w h
theorem blk_new3 (w : World) (o1 o2 o3 : Obj) : (((w.alloc o1).alloc o2).alloc o3).heap[w.heap.size + 1 + 1]? = some o3 := by
  have e : ((w.alloc o1).alloc o2).heap.size = w.heap.size + 1 + 1 := by simp
  rw [← e]; exact blk_new _ _
theorem blk_new4 (w : World) (o1 o2 o3 o4 : Obj) : ((((w.alloc o1).alloc o2).alloc o3).alloc o4).heap[w.heap.size + 1 + 1 + 1]? = some o4 := by
  have e : (((w.alloc o1).alloc o2).alloc o3).heap.size = w.heap.size + 1 + 1 + 1 := by simp
  rw [← e]; exact blk_new _ _
theorem m1_row {W : World} {b : Nat} {t : TypeId} {fr : Nat × Nat} (h : W.heap[b]? = some (.cells #[.int .i64 1, .string ⟨#[97]⟩, .string ⟨#[49]⟩] t fr)) : Row W Any (.slice (some ⟨b, 0, none⟩) 1 1) 1 3 (mcells [m1]) :=
  ⟨rfl, _, 1, rfl, fun _ => ⟨b, 0, trivial, rfl, range_blk (c := [.int .i64 1, .string ⟨#[97]⟩, .string ⟨#[49]⟩]) h⟩⟩
/-- What lies in memory when known goes on. -/
structure Kn (W w : World) : Prop where
  hn : nNd.Held w Any (akl (W.heap.size + 1 + 1))
  hw : wNd.Held w Any (wcl (.slice (some ⟨W.heap.size, 0, none⟩) 1 1))
  r1 : w.rangeAt (W.heap.size + 1) 0 (wcl (.slice (some ⟨W.heap.size, 0, none⟩) 1 1))
  r2 : w.rangeAt (W.heap.size + 1 + 1 + 1) 0 (akl (W.heap.size + 1 + 1))
  b : Below W.heap.size W w
theorem Kn.below {W w w1 : World} (h : Kn W w) (hb : Below w.heap.size w w1) : Kn W w1 := ⟨h.hn.below hb, h.hw.below hb, range_keep h.r1 fun hl => hb.block _ hl, range_keep h.r2 fun hl => hb.block _ hl, h.b.trans (hb.mono h.b.size)⟩
theorem known_calls (W : World) : Calls Tryz.prog 5 #[] W (RetB (.bool true) W) := by
  have hlw : (wcl (.slice (some ⟨W.heap.size, 0, none⟩) 1 1)).length = 17 := rfl
  have hla : (akl (W.heap.size + 1 + 1)).length = 17 := rfl
  have how : ∀ u ∈ (wcl (.slice (some ⟨W.heap.size, 0, none⟩) 1 1)), u.oneCell' = true := by simp [Value.oneCell']
  have hoa : ∀ u ∈ (akl (W.heap.size + 1 + 1)), u.oneCell' = true := by simp [Value.oneCell']
  have HOw := Lib.hid how; have HOa := Lib.hid hoa; have HLw := Lib.hid hlw; have HLa := Lib.hid hla
  clear how hoa hlw hla
  go_enter Tryz.func5, Tryz.ntmps5
  go_wp2_with (first | ((with_reducible refine wpList_newNd rfl rfl 1 (.tmp 9) rfl rfl rfl rfl (wcl (.slice (some ⟨W.heap.size, 0, none⟩) 1 1)) rfl ?_ HLw.out HOw.out ?_); (exact rfl)) | ((with_reducible refine wpList_newNd rfl rfl 2 (.tmp 12) rfl rfl rfl rfl (akl (W.heap.size + 1 + 1)) rfl ?_ HLa.out HOa.out ?_); (exact rfl)))
  refine calls_at (Kn W) ?_ ?_
  · have h1 : ∀ o1 o2 o3 : Obj, ((((W.alloc (.cells #[.int .i64 1, .string ⟨#[97]⟩, .string ⟨#[49]⟩] 48)).alloc o1).alloc o2).alloc o3).heap[W.heap.size]? = some (.cells #[.int .i64 1, .string ⟨#[97]⟩, .string ⟨#[49]⟩] 48 (0, 0)) := fun o1 o2 o3 => blk_alloc (blk_alloc (blk_alloc (blk_new W _) _) _) _
    have hw := wcl_held (m1_row (h1 (.cells (wcl (.slice (some ⟨W.heap.size, 0, none⟩) 1 1)).toArray 31) (.cells (wcl (.slice (some ⟨W.heap.size, 0, none⟩) 1 1)).toArray 31) (.cells (akl (W.heap.size + 1 + 1)).toArray 31)))
    exact ⟨agg_held hw (range_blk (blk_alloc (blk_new3 W _ _ _) _)), hw, range_blk (blk_alloc (blk_alloc (blk_new2 W _ _) _) _), range_blk (blk_new4 W _ _ _ _), (((Below.refl _ _).alloc (Nat.le_refl _) _).alloc (by simp) _).alloc (by simp; omega) _ |>.alloc (by simp; omega) _⟩
  intro w5 hk
  have HK := Lib.hid hk
  clear hk
  refine (Check_calls nNd (by decide) nNd_sm w5 (akl (W.heap.size + 1 + 1)) HK.out.hn).mono ?_
  rintro e w6 ⟨t6, e6, rfl, he, hb⟩
  rw [n_check, Prod.mk.injEq] at he
  obtain ⟨rfl, rfl⟩ := he
  replace HK := Lib.hid (HK.out.below hb)
  clear hb
  go_wp2_with fail
  refine (Check_calls bNd (by decide) bNd_sm _ (akl w6.heap.size) (agg_held (c := Tz.tcl) (tim_held _) (range_blk (c := Tz.tcl) (t := 31) (fr := (0, 0)) (blk_new w6 _)))).mono ?_
  rintro e w7 ⟨t7, e7, rfl, he, hb⟩
  rw [b_check, Prod.mk.injEq] at he
  obtain ⟨rfl, rfl⟩ := he
  replace HK := Lib.hid ((HK.out.below ((Below.refl _ _).alloc (Nat.le_refl _) _)).below hb)
  clear hb
  go_wp2_with (first | (with_reducible refine wpList_loadNdW (.tmp 2) rfl (W.heap.size + 1 + 1 + 1) 0 rfl (akl (W.heap.size + 1 + 1)) HK.out.r2 HLa.out (by simp [Region.wanted, yielded, Act.put]) ?_) | (with_reducible refine wpList_loadNdW (.tmp 1) rfl (W.heap.size + 1) 0 rfl (wcl (.slice (some ⟨W.heap.size, 0, none⟩) 1 1)) HK.out.r1 HLw.out (by simp [Region.wanted, yielded, Act.put]) ?_))
  refine (Size_calls nNd (by decide) w7 _ HK.out.hn).mono ?_
  rintro e w8 ⟨r, rfl, hr, hb⟩
  obtain rfl : r = 2 := hr
  replace HK := Lib.hid (HK.out.below hb)
  clear hb
  go_wp2_with (first | (with_reducible refine wpList_loadNdW (.tmp 2) rfl (W.heap.size + 1 + 1 + 1) 0 rfl (akl (W.heap.size + 1 + 1)) HK.out.r2 HLa.out (by simp [Region.wanted, yielded, Act.put]) ?_) | (with_reducible refine wpList_loadNdW (.tmp 1) rfl (W.heap.size + 1) 0 rfl (wcl (.slice (some ⟨W.heap.size, 0, none⟩) 1 1)) HK.out.r1 HLw.out (by simp [Region.wanted, yielded, Act.put]) ?_))
  refine (Depth_calls nNd (by decide) w8 _ HK.out.hn).mono ?_
  rintro e w9 ⟨r, rfl, hr, hb⟩
  obtain rfl : r = 2 := hr
  replace HK := Lib.hid (HK.out.below hb)
  clear hb
  go_wp2_with (first | (with_reducible refine wpList_loadNdW (.tmp 2) rfl (W.heap.size + 1 + 1 + 1) 0 rfl (akl (W.heap.size + 1 + 1)) HK.out.r2 HLa.out (by simp [Region.wanted, yielded]) ?_) | (with_reducible refine wpList_loadNdW (.tmp 1) rfl (W.heap.size + 1) 0 rfl (wcl (.slice (some ⟨W.heap.size, 0, none⟩) 1 1)) HK.out.r1 HLw.out (by simp [Region.wanted, yielded]) ?_))
  refine (Tz.time_text w9).mono ?_
  rintro e w10 ⟨rfl, hb⟩
  replace HK := Lib.hid (HK.out.below hb)
  clear hb
  go_wp2_with (first | (with_reducible refine wpList_loadNdW (.tmp 2) rfl (W.heap.size + 1 + 1 + 1) 0 rfl (akl (W.heap.size + 1 + 1)) HK.out.r2 HLa.out (by simp [Region.wanted, yielded, Act.put]) ?_) | (with_reducible refine wpList_loadNdW (.tmp 1) rfl (W.heap.size + 1) 0 rfl (wcl (.slice (some ⟨W.heap.size, 0, none⟩) 1 1)) HK.out.r1 HLw.out (by simp [Region.wanted, yielded, Act.put]) ?_))
  refine (Same_nn w10 _ _ HK.out.hn HK.out.hn).mono ?_
  rintro e w11 ⟨rfl, hb⟩
  replace HK := Lib.hid (HK.out.below hb)
  clear hb
  go_wp2_with (first | (with_reducible refine wpList_loadNdW (.tmp 2) rfl (W.heap.size + 1 + 1 + 1) 0 rfl (akl (W.heap.size + 1 + 1)) HK.out.r2 HLa.out (by simp [Region.wanted, yielded, Act.put]) ?_) | (with_reducible refine wpList_loadNdW (.tmp 1) rfl (W.heap.size + 1) 0 rfl (wcl (.slice (some ⟨W.heap.size, 0, none⟩) 1 1)) HK.out.r1 HLw.out (by simp [Region.wanted, yielded, Act.put]) ?_))
  refine (Same_nw w11 _ _ HK.out.hn HK.out.hw).mono ?_
  rintro e w12 ⟨rfl, hb⟩
  replace HK := Lib.hid (HK.out.below hb)
  clear hb
  go_wp2_with fail
  go_ret
  exact ⟨rfl, HK.out.b⟩
end Go.Proofs.YtnbgigdloehbjaaGreatDoor.Ir
