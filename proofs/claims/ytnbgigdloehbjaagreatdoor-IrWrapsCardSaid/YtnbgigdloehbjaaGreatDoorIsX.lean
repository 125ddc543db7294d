/-
  Plans that are wrapped: in plain Lean.
  A plan that is wrapped (IrWraps): its walk.
-/
import Derived.Test.YtnbgigdloehbjaaGreatDoorIrZ
import Derived.Test.YtnbgigdloehbjaaGreatDoorIsA
import Derived.Deep.Cut
import Derived.Deep.CutRange
import Derived.Deep.CutBlock
namespace Go.Proofs.YtnbgigdloehbjaaGreatDoor.Ir
open Go Go.RowKit Go.Proofs.YtnbgigdloehbjaaGreatDoor.Rg Go.Proofs.YtnbgigdloehbjaaGreatDoor.Ma

structure Wrapper (f : Fd) : Prop where
  own : f.own = 1
  fe : fieldsE f 1 = 0
  ty : typT f [2] = 2
  sm : Sml f
def fMap : Fd := ⟨6, 0, 1, [], 0, 0, 0, 0, [], 0, [], 0, [], false, ⟨#[]⟩, ⟨#[]⟩⟩
def fLab : Fd := ⟨11, 0, 0, [], 0, 0, 0, 0, [], 0, [], 0, [], false, ⟨#[97]⟩, ⟨#[49]⟩⟩
theorem wr_map : Wrapper fMap := ⟨by decide +kernel, by decide +kernel, by decide +kernel, ⟨by decide, by simp [fMap], by decide, by simp [fMap], by decide, by simp [fMap], by decide, by simp [fMap], by decide, by decide⟩⟩
theorem wr_agg : Wrapper fA := ⟨by decide +kernel, by decide +kernel, by decide +kernel, fA_sml⟩
theorem wr_lab : Wrapper fLab := ⟨by decide +kernel, by decide +kernel, by decide +kernel, ⟨by decide, by simp [fLab], by decide, by simp [fLab], by decide, by simp [fLab], by decide, by simp [fLab], by decide, by decide⟩⟩
abbrev wrapN (f : Fd) (x : Nd) : Nd := .mk f (.snoc .nil x)
/-- So often wrapped. -/
structure Wp (n x : Nd) (k : Nat) : Prop where
  tot : x.tot = n.tot + k
  dep : x.dep = n.dep + k
  prod : x.prod = n.prod
  sm : x.Sm
  chk : x.chk = (2, 0)
theorem Wp.wrap {n x : Nd} {k : Nat} (h : Wp n x k) {f : Fd} (hf : Wrapper f) : Wp n (wrapN f x) (k + 1) := by
  have hp : 1 ≤ n.prod := by
    rw [← h.prod]
    obtain ⟨g, l⟩ := x
    rw [Nd.prod]
    have h1 := l.prod_pos
    have h2 : 1 ≤ g.own := by unfold Fd.own; split <;> omega
    exact Nat.mul_pos h2 h1
  refine ⟨?_, ?_, ?_, ⟨hf.sm, trivial, h.sm⟩, ?_⟩
  · rw [Nd.tot, Kd.tot, Kd.tot, h.tot]; omega
  · rw [Nd.dep, Kd.dep, Kd.dep, h.dep]; omega
  · rw [Nd.prod, hf.own, Kd.prod, Kd.prod, h.prod, Nat.one_mul]; omega
  · have hl : Kd.len (.snoc .nil x) = 1 := rfl
    rw [Nd.chk, Kd.chks, Kd.chks]
    simp only [h.chk, hl, List.nil_append]
    rw [if_neg (by decide)]
    simp only [hf.fe, hf.ty]
    decide
theorem check_yes {n : Nd} (h : n.check = (2, 0)) : n.tot ≤ 400 ∧ n.dep ≤ 40 ∧ n.prod ≤ 4096 ∧ n.chk = (2, 0) := by
  rw [Nd.check] at h
  by_cases hc : 400 < n.tot ∨ 40 < n.dep ∨ 4096 < n.prod
  · rw [if_pos hc] at h; cases h
  · rw [if_neg hc] at h
    exact ⟨by omega, by omega, by omega, h⟩
theorem Wp.deep {n x : Nd} {k : Nat} (h : Wp n x k) (hd : 40 < n.dep + k) : x.check = (0, 6) := by
  rw [Nd.check, if_pos (by rw [h.dep]; omega)]
theorem Wp.flat {n x : Nd} {k : Nat} (h : Wp n x k) (ht : n.tot + k ≤ 400) (hd : n.dep + k ≤ 40) (hp : n.prod ≤ 4096) : x.check = (2, 0) := by
  rw [Nd.check, if_neg (by rw [h.dep, h.tot, h.prod]; omega), h.chk]
end Go.Proofs.YtnbgigdloehbjaaGreatDoor.Ir
namespace Go.Proofs.YtnbgigdloehbjaaGreatDoor.Ir
open Go Go.RowKit Go.Proofs.YtnbgigdloehbjaaGreatDoor.Rg Go.Proofs.YtnbgigdloehbjaaGreatDoor.Ma
set_option maxHeartbeats 16000000
set_option maxRecDepth 100000

/-- What lies in memory while a plan is wrapped. -/
structure Wm (W w : World) (n x : Nd) (cs cx : List Value) (xb k : Nat) : Prop where
  hx : w.heap[xb]? = some (.cells cx.toArray 31 (0, 0))
  hh : x.Held w (fun b => b ≠ xb) cx
  hb : w.heap[W.heap.size]? = some (.cells cs.toArray 31 (0, 0))
  bel : Below W.heap.size W w
  wp : Wp n x k
theorem Wm.below {W w w1 : World} {n x : Nd} {cs cx : List Value} {xb k : Nat} (h : Wm W w n x cs cx xb k) (hb : Below w.heap.size w w1) : Wm W w1 n x cs cx xb k :=
  ⟨(hb.block _ (blk_lt h.hx)).trans h.hx, Nd.Held.keep (fun b hF hlt => ⟨hb.block b hlt, hF⟩) x h.hh, (hb.block _ (blk_lt h.hb)).trans h.hb, h.bel.trans (hb.mono h.bel.size), h.wp⟩
abbrev wfl (f : Fd) (v : Value) : List Value := ncl f (.slice none 0 0) (.slice none 0 0) (.slice none 0 0) (.slice none 0 0) v
theorem wfl_len (f : Fd) (v : Value) : (wfl f v).length = 17 := rfl
theorem wfl_one (f : Fd) (v : Value) (h : v.oneCell' = true) : ∀ u ∈ wfl f v, u.oneCell' = true := by
  intro u hu
  simp only [wfl, ncl, List.mem_cons, List.not_mem_nil, or_false] at hu
  rcases hu with rfl | rfl | rfl | rfl | rfl | rfl | rfl | rfl | rfl | rfl | rfl | rfl | rfl | rfl | rfl | rfl | rfl
  all_goals first | rfl | exact h
/-- A whole node into the newest variable. -/
theorem wpList_setTopNd {ops : Array Oper} {rest : List Oper} {op : Oper} {a : Act} {w : World} {Q : Exit → Act → World → Prop} (hgd : op.guard = none) (x y : Operand) (ho : op.op = .store 31 x y)
    (old c : List Value) (hol : old.length = 17) (hx : a.eval x = .pointer (some ⟨w.heap.size, 0, none⟩)) (hy : a.eval y = .agg c.toArray) (hl : c.length = 17) (hone : ∀ u ∈ c, u.oneCell' = true)
    (h : wpList Tryz.prog ops Q rest (a.put op.dst undef) (w.alloc (.cells c.toArray 31))) : wpList Tryz.prog ops Q (op :: rest) a (w.alloc (.cells old.toArray 31)) :=
  wpList_setNd hgd x y ho w.heap.size old c (blk_new w _) hol hx hy hl hone (by rw [World.setRow_alloc_new]; exact h)
abbrev stepW (wr : World) (xb : Nat) (f : Fd) (cx : List Value) : World := ((wr.alloc (.cells (wfl f (.slice (some ⟨wr.heap.size + 1, 0, none⟩) 1 1)).toArray 31)).alloc (.cells cx.toArray 31)).setRow xb (wfl f (.slice (some ⟨wr.heap.size + 1, 0, none⟩) 1 1)).toArray
theorem Wm.step {W wr : World} {n x : Nd} {cs cx : List Value} {xb k : Nat} (h : Wm W wr n x cs cx xb k) {f : Fd} (hf : Wrapper f) (hxw : W.heap.size < xb) (e1 : f.m = []) (e2 : f.gn = []) (e3 : f.xn = []) (e4 : f.incl = []) :
    Wm W (stepW wr xb f cx) n (wrapN f x) cs (wfl f (.slice (some ⟨wr.heap.size + 1, 0, none⟩) 1 1)) xb (k + 1) := by
  have hlx := blk_lt h.hx
  have hl17 := h.hh.length
  have hkeep : ∀ b, b < wr.heap.size → b ≠ xb → (stepW wr xb f cx).heap[b]? = wr.heap[b]? := fun b hb hne => (setRow_other _ _ _ _ hne).trans ((Below.heap_alloc _ _ _ (by simp; omega)).trans (Below.heap_alloc _ _ _ hb))
  have hnew : (stepW wr xb f cx).heap[wr.heap.size + 1]? = some (.cells cx.toArray 31 (0, 0)) := (setRow_other _ _ _ _ (by omega)).trans (blk_new2 wr _ _)
  refine ⟨setRow_heap _ _ _ _ _ _ (blk_alloc (blk_alloc h.hx _) _), ?_, (hkeep _ (blk_lt h.hb) (by omega)).trans h.hb, ?_, h.wp.wrap hf⟩
  · rw [Nd.Held]
    refine ⟨.slice none 0 0, .slice none 0 0, .slice none 0 0, .slice none 0 0, _, cx, rfl, ⟨by rw [e1]; exact row_nil _ _ _, by rw [e2]; exact row_nil _ _ _, by rw [e3]; exact row_nil _ _ _, by rw [e4]; exact row_nil _ _ _⟩, ⟨[], cx, rfl, hl17, rfl, Nd.Held.keep (fun b hF hlt => ⟨hkeep b hlt hF, hF⟩) x h.hh⟩, ⟨by rw [hl17]; rfl, _, 1, rfl, fun _ => ⟨wr.heap.size + 1, 0, by omega, rfl, range_blk hnew⟩⟩⟩
  · exact below_row ((h.bel.alloc h.bel.size _).alloc (by have := h.bel.size; simp; omega) _) (by omega) _
theorem wraps_calls (n : Nd) (W : World) (cs : List Value) (hH : n.Held W Any cs) (tm kd : Int) : Calls Tryz.prog 3 #[.agg cs.toArray, .int .i64 tm, .int .i64 kd] W (RetB (.bool true) W) := by
  have hl17 := hH.length
  have HOne := Lib.hid hH.one
  obtain ⟨B, hB⟩ : ∃ B, B = W.alloc (.cells cs.toArray 31) := ⟨_, rfl⟩
  have hbB : Below W.heap.size W B := by rw [hB]; exact (Below.refl _ _).alloc (Nat.le_refl _) _
  have hsB : B.heap.size = W.heap.size + 1 := by rw [hB]; simp
  have hg : B.heap[W.heap.size]? = some (.cells cs.toArray 31 (0, 0)) := by rw [hB]; exact blk_new W _
  have hx := hB.symm
  have HbB := Lib.hid hbB; have Hg := Lib.hid hg; have HH := Lib.hid hH
  clear hB hbB hg hH
  go_enter Tryz.func3, Tryz.ntmps3
  go_wp2_with fail
  clear hx
  refine (known_calls B).mono ?_
  rintro e W1 ⟨rfl, hb1⟩
  have hs1 : W.heap.size + 1 ≤ W1.heap.size := by have := hb1.size; omega
  have Hg1 := Lib.hid ((hb1.block W.heap.size (by omega)).trans Hg.out)
  have Hb1 := Lib.hid (HbB.out.trans (hb1.mono (by omega)))
  clear hb1 HbB Hg hsB
  have hr1 : W1.rangeAt W.heap.size 0 cs := range_blk Hg1.out
  have HR1 := Lib.hid hr1; clear hr1
  go_wp2_with (first | (with_reducible refine wpList_loadNd rfl (.tmp 3) rfl W.heap.size 0 rfl cs HR1.out hl17 ?_) | (with_reducible refine wpList_loadNdW (.tmp 3) rfl W.heap.size 0 rfl cs HR1.out hl17 (by simp [Region.wanted, yielded]) ?_))
  refine (few_calls n W1 cs (Nd.Held.keep (Keeps.below Hb1.out) n HH.out)).mono ?_
  rintro e W2 ⟨fw, rfl, hfw, hb2⟩
  have hs2 : W.heap.size + 1 ≤ W2.heap.size := by have := hb2.size; omega
  have Hg2 := Lib.hid ((hb2.block W.heap.size (by omega)).trans Hg1.out)
  have Hb2 := Lib.hid (Hb1.out.trans (hb2.mono (by omega)))
  have hr2 : W2.rangeAt W.heap.size 0 cs := range_blk Hg2.out
  have HR2 := Lib.hid hr2; clear hr2 hb2 Hg1 Hb1 HR1
  cases fw with
  | false =>
    clear hfw
    go_wp2_with fail
    go_ret
    exact ⟨rfl, Hb2.out⟩
  | true =>
  obtain ⟨hsm, htot⟩ := hfw rfl
  have HSm := Lib.hid hsm
  clear hsm hfw
  by_cases c1 : tm < 1
  · go_wp2_with fail
    go_ret
    exact ⟨rfl, Hb2.out⟩
  by_cases c2 : 60 < tm
  · go_wp2_with fail
    go_ret
    exact ⟨rfl, Hb2.out⟩
  obtain ⟨T, rfl⟩ : ∃ T : Nat, tm = (T : Int) := ⟨tm.toNat, by omega⟩
  go_wp2_with (first | (with_reducible refine wpList_loadNd rfl (.tmp 3) rfl W.heap.size 0 rfl cs HR2.out hl17 ?_) | (with_reducible refine wpList_loadNdW (.tmp 3) rfl W.heap.size 0 rfl cs HR2.out hl17 (by simp [Region.wanted, yielded]) ?_))
  refine (Check_calls n (by omega) HSm.out W2 cs (Nd.Held.keep (Keeps.below Hb2.out) n HH.out)).mono ?_
  rintro e W3 ⟨t3, e3, rfl, hck, hb3⟩
  have hs3 : W.heap.size + 1 ≤ W3.heap.size := by have := hb3.size; omega
  have Hg3 := Lib.hid ((hb3.block W.heap.size (by omega)).trans Hg2.out)
  have Hb3 := Lib.hid (Hb2.out.trans (hb3.mono (by omega)))
  have hr3 : W3.rangeAt W.heap.size 0 cs := range_blk Hg3.out
  have HR3 := Lib.hid hr3; clear hr3 hb3 Hg2 Hb2 HR2
  by_cases c3 : e3 = 0
  rotate_left
  · have q3 : ((e3 : Int) != 0) = true := by rw [bne_iff_ne]; omega
    have q4 : ((e3 : Int) == 0) = false := by rw [beq_eq_false_iff_ne]; omega
    clear c3 hck
    go_wp2_with fail
    go_ret
    exact ⟨rfl, Hb3.out⟩
  subst c3
  by_cases c4 : t3 = 2
  rotate_left
  · have q3 : ((t3 : Int) != 2) = true := by rw [bne_iff_ne]; omega
    have q4 : ((t3 : Int) == 2) = false := by rw [beq_eq_false_iff_ne]; omega
    clear c4 hck
    go_wp2_with fail
    go_ret
    exact ⟨rfl, Hb3.out⟩
  subst c4
  obtain ⟨y1, y2, y3, y4⟩ := check_yes hck
  have Hy3 := Lib.hid y3; have Hy4 := Lib.hid y4
  clear hck y3 y4
  go_wp2_with (first | (with_reducible refine wpList_loadNd rfl (.tmp 3) rfl W.heap.size 0 rfl cs HR3.out hl17 ?_) | (with_reducible refine wpList_loadNdW (.tmp 3) rfl W.heap.size 0 rfl cs HR3.out hl17 (by simp [Region.wanted, yielded, Act.put]) ?_))
  refine (Size_calls n (by omega) W3 cs (Nd.Held.keep (Keeps.below Hb3.out) n HH.out)).mono ?_
  rintro e W4 ⟨r4, rfl, hr, hb4⟩
  have hr4 : r4 = n.tot := by rw [hr]; omega
  have hs4 : W.heap.size + 1 ≤ W4.heap.size := by have := hb4.size; omega
  have Hg4 := Lib.hid ((hb4.block W.heap.size (by omega)).trans Hg3.out)
  have Hb4 := Lib.hid (Hb3.out.trans (hb4.mono (by omega)))
  have hrr : W4.rangeAt W.heap.size 0 cs := range_blk Hg4.out
  have HR4 := Lib.hid hrr; clear hrr hb4 Hg3 Hb3 HR3 hr
  have hT : T ≤ 60 := by omega
  have hr4b : r4 ≤ 400 := by omega
  by_cases c5 : 400 < r4 + T
  · have q5 : (400 : Int) < (r4 : Int) + (T : Int) := by omega
    clear hr4
    go_wp2_with fail
    go_ret
    exact ⟨rfl, Hb4.out⟩
  have q5 : ¬ (400 : Int) < (r4 : Int) + (T : Int) := by omega
  go_wp2_with (first | (with_reducible refine wpList_loadNd rfl (.tmp 3) rfl W.heap.size 0 rfl cs HR4.out hl17 ?_) | (with_reducible refine wpList_loadNdW (.tmp 3) rfl W.heap.size 0 rfl cs HR4.out hl17 (by simp [Region.wanted, yielded]) ?_))
  refine (Depth_calls n (by omega) W4 cs (Nd.Held.keep (Keeps.below Hb4.out) n HH.out)).mono ?_
  rintro e W5 ⟨r5, rfl, hr, hb5⟩
  have hr5 : r5 = n.dep := by rw [hr]; omega
  have hr5b : r5 ≤ 40 := by omega
  have hs5 : W.heap.size + 1 ≤ W5.heap.size := by have := hb5.size; omega
  have Hg5 := Lib.hid ((hb5.block W.heap.size (by omega)).trans Hg4.out)
  have Hb5 := Lib.hid (Hb4.out.trans (hb5.mono (by omega)))
  have hrr : W5.rangeAt W.heap.size 0 cs := range_blk Hg5.out
  have HR5 := Lib.hid hrr; clear hrr hb5 Hg4 Hb4 HR4 hr
  go_wp2_with (first | (with_reducible refine wpList_loadNd rfl (.tmp 3) rfl W.heap.size 0 rfl cs HR5.out hl17 ?_) | (with_reducible refine wpList_newNd rfl rfl 10 (.tmp 48) rfl rfl rfl rfl cs rfl rfl hl17 HOne.out ?_))
  have hxw : W.heap.size < W5.heap.size := by omega
  have hm0 : Wm W (W5.alloc (.cells cs.toArray 31)) n n cs cs W5.heap.size 0 := by
    have hbb : Below W5.heap.size W5 (W5.alloc (.cells cs.toArray 31)) := (Below.refl _ _).alloc (Nat.le_refl _) _
    refine ⟨blk_new W5 _, ?_, (hbb.block _ (blk_lt Hg5.out)).trans Hg5.out, Hb5.out.alloc Hb5.out.size _, ⟨by omega, by omega, rfl, HSm.out, Hy4.out⟩⟩
    refine Nd.Held.keep (fun b _ hlt => ?_) n HH.out
    have h1 := Hb5.out.block b hlt
    exact ⟨(Below.heap_alloc _ _ _ (by omega)).trans h1, by omega⟩
  have HM0 := Lib.hid hm0
  clear hm0
  clear Hg5 Hb5 HR5
  go_loopw [11] (fun i wr => ∃ (k : Nat) (x : Nd) (cx : List Value), k ≤ T ∧ i = .int .i64 (k : Int) ∧ Wm W wr n x cs cx W5.heap.size k) (fun i _ => T - (intOf i).toNat)
  case atStart => exact ⟨0, n, cs, Nat.zero_le _, rfl, HM0.out⟩
  case round =>
    obtain ⟨k, x, cx, hk, rfl, hm⟩ := hrel
    have HM := Lib.hid hm
    clear hm
    by_cases hkl : k < T
    · go_upto_block 2 with ((with_reducible refine wpList_newNd rfl rfl 12 (.tmp 54) rfl rfl rfl rfl (wfl fMap (.slice none 0 0)) rfl ?_ (wfl_len _ _) (wfl_one _ _ rfl) ?_); (exact rfl))
      have hwx := blk_lt HM.out.hx
      have hc17 := HM.out.hh.length
      have HCone := Lib.hid HM.out.hh.one
      go_cut [] from 49 to 68 (fun wx => ∃ F, Wrapper F ∧ (F.m = [] ∧ F.gn = [] ∧ F.xn = [] ∧ F.incl = []) ∧ wx = wr.alloc (.cells (wfl F (.slice none 0 0)).toArray 31))
      case first =>
        generalize bits BinOp.and IntKind.i64 _ 3 = z
        by_cases z1 : z = 1
        · subst z1
          go_wp2_with (first | ((with_reducible refine wpList_setTopNd rfl (.tmp 12) (.tmp 61) rfl (wfl fMap (.slice none 0 0)) (wfl fA (.slice none 0 0)) (wfl_len _ _) rfl ?_ (wfl_len _ _) (wfl_one _ _ rfl) ?_); (exact rfl)) | ((with_reducible refine wpList_setTopNd rfl (.tmp 12) (.tmp 64) rfl (wfl fMap (.slice none 0 0)) (wfl fA (.slice none 0 0)) (wfl_len _ _) rfl ?_ (wfl_len _ _) (wfl_one _ _ rfl) ?_); (exact rfl)))
          go_meet
          case rel => exact ⟨fA, wr_agg, ⟨rfl, rfl, rfl, rfl⟩, rfl⟩
        have z1' : (z == 1) = false := by rw [beq_eq_false_iff_ne]; exact z1
        by_cases z2 : z = 2
        · subst z2
          clear z1
          go_wp2_with (first | ((with_reducible refine wpList_setTopNd rfl (.tmp 12) (.tmp 61) rfl (wfl fMap (.slice none 0 0)) (wfl fLab (.slice none 0 0)) (wfl_len _ _) rfl ?_ (wfl_len _ _) (wfl_one _ _ rfl) ?_); (exact rfl)) | ((with_reducible refine wpList_setTopNd rfl (.tmp 12) (.tmp 64) rfl (wfl fMap (.slice none 0 0)) (wfl fLab (.slice none 0 0)) (wfl_len _ _) rfl ?_ (wfl_len _ _) (wfl_one _ _ rfl) ?_); (exact rfl)))
          go_meet
          case rel => exact ⟨fLab, wr_lab, ⟨rfl, rfl, rfl, rfl⟩, rfl⟩
        have z2' : (z == 2) = false := by rw [beq_eq_false_iff_ne]; exact z2
        clear z1 z2
        go_wp2_with (first | ((with_reducible refine wpList_setTopNd rfl (.tmp 12) (.tmp 61) rfl (wfl fMap (.slice none 0 0)) (wfl fMap (.slice none 0 0)) (wfl_len _ _) rfl ?_ (wfl_len _ _) (wfl_one _ _ rfl) ?_); (exact rfl)) | ((with_reducible refine wpList_setTopNd rfl (.tmp 12) (.tmp 64) rfl (wfl fMap (.slice none 0 0)) (wfl fMap (.slice none 0 0)) (wfl_len _ _) rfl ?_ (wfl_len _ _) (wfl_one _ _ rfl) ?_); (exact rfl)))
        go_meet
        case rel => exact ⟨fMap, wr_map, ⟨rfl, rfl, rfl, rfl⟩, rfl⟩
      case rest =>
        obtain ⟨F, hF, ⟨e1, e2, e3, e4⟩, rfl⟩ := hcut
        have HF := Lib.hid hF; clear hF
        have hrx : (wr.alloc (.cells (wfl F (.slice none 0 0)).toArray 31)).rangeAt W5.heap.size 0 cx := range_blk (blk_alloc HM.out.hx _)
        have HRx := Lib.hid hrx; clear hrx
        go_wp2_with (first | (with_reducible refine wpList_loadNd rfl (.tmp 10) rfl W5.heap.size 0 rfl cx HRx.out hc17 ?_) | (with_reducible refine wpList_sliceNd rfl (.tmp 65) rfl cx rfl hc17 ?_) | ((with_reducible refine wpList_setNd rfl (.tmp 10) (.tmp 68) rfl W5.heap.size cx (wfl F (.slice (some ⟨wr.heap.size + 1, 0, none⟩) 1 1)) (blk_alloc (blk_alloc HM.out.hx _) _) hc17 rfl ?_ (wfl_len _ _) (wfl_one _ _ rfl) ?_); (exact rfl)))
        go_roundw
        case rel => exact ⟨k + 1, wrapN F x, _, by omega, by go_num, HM.out.step HF.out hxw e1 e2 e3 e4⟩
        case measure => (simp [intOf] <;> omega)
    · have hkT : k = T := by omega
      subst hkT
      have hwp := HM.out.wp
      have hc17 := HM.out.hh.length
      have htx : x.tot = n.tot + k := hwp.tot
      have hdx : x.dep = n.dep + k := hwp.dep
      have hrx : wr.rangeAt W5.heap.size 0 cx := range_blk HM.out.hx
      have HRx := Lib.hid hrx; clear hrx
      have HCk := Lib.hid (Check_calls x (by omega) hwp.sm wr cx HM.out.hh.any)
      have hdeep := fun h => hwp.deep h
      have hflat := hwp.flat (by omega)
      have HDp := Lib.hid hdeep; have HFl := Lib.hid hflat
      clear hwp hdeep hflat
      go_wp2_with (with_reducible refine wpList_loadNd rfl (.tmp 10) rfl W5.heap.size 0 rfl cx HRx.out hc17 ?_)
      refine HCk.out.mono ?_
      rintro e W6 ⟨t6, e6, rfl, hck, hb6⟩
      have HM6 := Lib.hid (HM.out.below hb6)
      clear hb6 HCk
      by_cases hdp : 40 < n.dep + k
      · rw [HDp.out hdp, Prod.mk.injEq] at hck
        obtain ⟨rfl, rfl⟩ := hck
        have q6 : (40 : Int) < (n.dep : Int) + (k : Int) := by omega
        clear HDp HFl htx hdx
        go_wp2_with fail
        go_ret
        exact ⟨rfl, HM6.out.bel⟩
      · rw [HFl.out (by omega) Hy3.out, Prod.mk.injEq] at hck
        obtain ⟨rfl, rfl⟩ := hck
        have q6 : ¬ (40 : Int) < (n.dep : Int) + (k : Int) := by omega
        clear HDp HFl
        go_wp2_with fail
        have hS : W6.drew.rangeAt W5.heap.size 0 cx ∧ W6.drew.rangeAt W.heap.size 0 cs := ⟨range_blk (t := 31) (fr := (0, 0)) HM6.out.hx, range_blk (t := 31) (fr := (0, 0)) HM6.out.hb⟩
        have HM7 := Lib.hid (HM6.out.below (Below.refl W6.heap.size W6).drew)
        refine wp_region_held_drew (S := fun w' => w'.rangeAt W5.heap.size 0 cx ∧ w'.rangeAt W.heap.size 0 cs) (by kernel_rfl) hS (fun hS => ?_)
        refine wpAnyH_take (i := 0) (v := .int .i64 2) rfl (by kernel_rfl) (by kernel_rfl) (by kernel_rfl) (fun _ _ _ h => h) (Or.inl ⟨by rfl, fun w hSw => by go_simp⟩) hS ?_
        simp only [Act.put, List.getElem_toArray, List.getElem_cons_zero, List.setIfInBounds_toArray, List.set_cons_zero, List.set_cons_succ]
        refine wpAnyH_take (i := 1) (v := .bool true) rfl (by kernel_rfl) (by kernel_rfl) (by kernel_rfl) (fun _ _ _ h => h) (Or.inl ⟨by rfl, fun w hSw => by go_simp⟩) hS ?_
        simp only [Act.put, List.getElem_toArray, List.getElem_cons_zero, List.getElem_cons_succ, List.setIfInBounds_toArray, List.set_cons_zero, List.set_cons_succ]
        refine wpAnyH_take (i := 2) (v := .bool true) rfl (by kernel_rfl) (by kernel_rfl) (by kernel_rfl) (fun _ _ _ h => h) (Or.inl ⟨by rfl, fun w hSw => by go_simp⟩) hS ?_
        simp only [Act.put, List.getElem_toArray, List.getElem_cons_zero, List.getElem_cons_succ, List.setIfInBounds_toArray, List.set_cons_zero, List.set_cons_succ]
        refine wpAnyH_take (i := 3) (v := .int .i64 0) rfl (by kernel_rfl) (by kernel_rfl) (by kernel_rfl) (fun _ _ _ h => h) (Or.inl ⟨by rfl, fun w hSw => by go_simp⟩) hS ?_
        simp only [Act.put, List.getElem_toArray, List.getElem_cons_zero, List.getElem_cons_succ, List.setIfInBounds_toArray, List.set_cons_zero, List.set_cons_succ]
        refine wpAnyH_take (i := 4) (v := .bool true) rfl (by kernel_rfl) (by kernel_rfl) (by kernel_rfl) (fun _ _ _ h => h) (Or.inl ⟨by rfl, fun w hSw => by go_simp⟩) hS ?_
        simp only [Act.put, List.getElem_toArray, List.getElem_cons_zero, List.getElem_cons_succ, List.setIfInBounds_toArray, List.set_cons_zero, List.set_cons_succ]
        refine wpAnyH_take (i := 5) (v := .bool true) rfl (by kernel_rfl) (by kernel_rfl) (by kernel_rfl) (fun _ _ _ h => h) (Or.inl ⟨by rfl, fun w hSw => by go_simp⟩) hS ?_
        simp only [Act.put, List.getElem_toArray, List.getElem_cons_zero, List.getElem_cons_succ, List.setIfInBounds_toArray, List.set_cons_zero, List.set_cons_succ]
        refine wpAnyH_take (i := 6) (v := .bool true) rfl (by kernel_rfl) (by kernel_rfl) (by kernel_rfl) (fun _ _ _ h => h) (Or.inl ⟨by rfl, fun w hSw => by go_simp⟩) hS ?_
        simp only [Act.put, List.getElem_toArray, List.getElem_cons_zero, List.getElem_cons_succ, List.setIfInBounds_toArray, List.set_cons_zero, List.set_cons_succ]
        refine wpAnyH_take (i := 7) (v := .agg cx.toArray) rfl (by kernel_rfl) (by kernel_rfl) (by kernel_rfl) (fun _ _ _ h => h) (yieldsIf_load_mid (by rfl) 31 (.tmp 10) rfl (W5.heap.size) 0 rfl cx _ (fun w hw => hw.1) Tryz.underlying31 rfl (by rw [sizeNd, hc17])) hS ?_
        simp only [Act.put, List.getElem_toArray, List.getElem_cons_zero, List.getElem_cons_succ, List.setIfInBounds_toArray, List.set_cons_zero, List.set_cons_succ]
        refine wpAnyH_take (i := 9) (v := .agg cs.toArray) rfl (by kernel_rfl) (by kernel_rfl) (by kernel_rfl) (fun _ _ _ h => h) (yieldsIf_load_mid (by rfl) 31 (.tmp 3) rfl (W.heap.size) 0 rfl cs _ (fun w hw => hw.2) Tryz.underlying31 rfl (by rw [sizeNd, hl17])) hS ?_
        simp only [Act.put, List.getElem_toArray, List.getElem_cons_zero, List.getElem_cons_succ, List.setIfInBounds_toArray, List.set_cons_zero, List.set_cons_succ]
        refine wpAnyH_take (i := 11) (v := .int .i64 (k : Int)) rfl (by kernel_rfl) (by kernel_rfl) (by kernel_rfl) (fun _ _ _ h => h) (Or.inl ⟨by rfl, fun w hSw => by go_simp⟩) hS ?_
        simp only [Act.put, List.getElem_toArray, List.getElem_cons_zero, List.getElem_cons_succ, List.setIfInBounds_toArray, List.set_cons_zero, List.set_cons_succ]
        refine wpAnyH_ready (rs := [8]) (by kernel_rfl) (by simp) (AllReadyH.cons rfl (fun K hK => ?_) AllReadyH.nil)
        rw [if_pos (by rfl)]
        go_simp
        go_at_call 8
        refine (Size_calls x (by omega) _ cx HM7.out.hh.any).mono ?_
        rintro e w8 ⟨p, rfl, hp, hb8⟩
        have hp' : p = n.tot + k := by omega
        clear hp
        have HM8 := Lib.hid (HM7.out.below hb8)
        refine hK.out _ _ ⟨range_keep hS.1 fun h => hb8.block _ h, range_keep hS.2 fun h => hb8.block _ h⟩ (fun hS => ?_)
        clear hK K hb8
        refine wpAnyH_ready (rs := [10]) (by kernel_rfl) (by simp) (AllReadyH.cons rfl (fun K hK => ?_) AllReadyH.nil)
        rw [if_pos (by rfl)]
        go_simp
        go_at_call 8
        refine (Size_calls n (by omega) _ cs (Nd.Held.keep (Keeps.below HM8.out.bel) n HH.out)).mono ?_
        rintro e w9 ⟨q, rfl, hq, hb9⟩
        have hq' : q = n.tot := by omega
        clear hq
        have HM9 := Lib.hid (HM8.out.below hb9)
        refine hK.out _ _ ⟨range_keep hS.1 fun h => hb9.block _ h, range_keep hS.2 fun h => hb9.block _ h⟩ (fun hS => ?_)
        clear hK K hb9
        have hpq : ((p : Int) == (q : Int) + (k : Int)) = true := by rw [beq_iff_eq]; omega
        have hqb : q ≤ 400 := by omega
        have hw1 : IntKind.i64.wrap ((q : Int) + (k : Int)) = (q : Int) + (k : Int) := IntWalk.i64_in _ (by omega)
        have hw2 : IntKind.i64.wrap ((n.dep : Int) + (k : Int)) = (n.dep : Int) + (k : Int) := IntWalk.i64_in _ (by omega)
        have hqI : (n.tot : Int) = (q : Int) := by omega
        clear hp' hq'
        refine wpAnyH_take (i := 12) (v := .int .i64 ((q : Int) + (k : Int))) rfl (by kernel_rfl) (by kernel_rfl) (by kernel_rfl) (fun _ _ _ h => h) (Or.inl ⟨by rfl, fun w hSw => by go_simp⟩) hS ?_
        simp only [Act.put, List.getElem_toArray, List.getElem_cons_zero, List.getElem_cons_succ, List.setIfInBounds_toArray, List.set_cons_zero, List.set_cons_succ]
        refine wpAnyH_take (i := 13) (v := .bool true) rfl (by kernel_rfl) (by kernel_rfl) (by kernel_rfl) (fun _ _ _ h => h) (Or.inl ⟨by rfl, fun w hSw => by go_simp⟩) hS ?_
        simp only [Act.put, List.getElem_toArray, List.getElem_cons_zero, List.getElem_cons_succ, List.setIfInBounds_toArray, List.set_cons_zero, List.set_cons_succ]
        refine wpAnyH_take (i := 14) (v := .bool true) rfl (by kernel_rfl) (by kernel_rfl) (by kernel_rfl) (fun _ _ _ h => h) (Or.inl ⟨by rfl, fun w hSw => by go_simp⟩) hS ?_
        simp only [Act.put, List.getElem_toArray, List.getElem_cons_zero, List.getElem_cons_succ, List.setIfInBounds_toArray, List.set_cons_zero, List.set_cons_succ]
        refine wpAnyH_take (i := 15) (v := .bool true) rfl (by kernel_rfl) (by kernel_rfl) (by kernel_rfl) (fun _ _ _ h => h) (Or.inl ⟨by rfl, fun w hSw => by go_simp⟩) hS ?_
        simp only [Act.put, List.getElem_toArray, List.getElem_cons_zero, List.getElem_cons_succ, List.setIfInBounds_toArray, List.set_cons_zero, List.set_cons_succ]
        refine wpAnyH_take (i := 16) (v := .agg cx.toArray) rfl (by kernel_rfl) (by kernel_rfl) (by kernel_rfl) (fun _ _ _ h => h) (yieldsIf_load_mid (by rfl) 31 (.tmp 10) rfl (W5.heap.size) 0 rfl cx _ (fun w hw => hw.1) Tryz.underlying31 rfl (by rw [sizeNd, hc17])) hS ?_
        simp only [Act.put, List.getElem_toArray, List.getElem_cons_zero, List.getElem_cons_succ, List.setIfInBounds_toArray, List.set_cons_zero, List.set_cons_succ]
        refine wpAnyH_take (i := 18) (v := .int .i64 (n.dep : Int)) rfl (by kernel_rfl) (by kernel_rfl) (by kernel_rfl) (fun _ _ _ h => h) (Or.inl ⟨by rfl, fun w hSw => by go_simp⟩) hS ?_
        simp only [Act.put, List.getElem_toArray, List.getElem_cons_zero, List.getElem_cons_succ, List.setIfInBounds_toArray, List.set_cons_zero, List.set_cons_succ]
        refine wpAnyH_take (i := 19) (v := .int .i64 (k : Int)) rfl (by kernel_rfl) (by kernel_rfl) (by kernel_rfl) (fun _ _ _ h => h) (Or.inl ⟨by rfl, fun w hSw => by go_simp⟩) hS ?_
        simp only [Act.put, List.getElem_toArray, List.getElem_cons_zero, List.getElem_cons_succ, List.setIfInBounds_toArray, List.set_cons_zero, List.set_cons_succ]
        refine wpAnyH_take (i := 20) (v := .int .i64 ((n.dep : Int) + (k : Int))) rfl (by kernel_rfl) (by kernel_rfl) (by kernel_rfl) (fun _ _ _ h => h) (Or.inl ⟨by rfl, fun w hSw => by go_simp⟩) hS ?_
        simp only [Act.put, List.getElem_toArray, List.getElem_cons_zero, List.getElem_cons_succ, List.setIfInBounds_toArray, List.set_cons_zero, List.set_cons_succ]
        refine wpAnyH_ready (rs := [17]) (by kernel_rfl) (by simp) (AllReadyH.cons rfl (fun K hK => ?_) AllReadyH.nil)
        rw [if_pos (by rfl)]
        go_simp
        go_at_call 9
        refine (Depth_calls x (by omega) _ cx HM9.out.hh.any).mono ?_
        rintro e w10 ⟨r, rfl, hr, hb10⟩
        have hr' : r = n.dep + k := by omega
        clear hr
        have HM10 := Lib.hid (HM9.out.below hb10)
        refine hK.out _ _ ⟨range_keep hS.1 fun h => hb10.block _ h, range_keep hS.2 fun h => hb10.block _ h⟩ (fun hS => ?_)
        clear hK K hb10
        have hrr : ((r : Int) == (n.dep : Int) + (k : Int)) = true := by rw [beq_iff_eq]; omega
        clear hr'
        refine wpAnyH_take (i := 21) (v := .bool true) rfl (by kernel_rfl) (by kernel_rfl) (by kernel_rfl) (fun _ _ _ h => h) (Or.inl ⟨by rfl, fun w hSw => by go_simp⟩) hS ?_
        simp only [Act.put, List.getElem_toArray, List.getElem_cons_zero, List.getElem_cons_succ, List.setIfInBounds_toArray, List.set_cons_zero, List.set_cons_succ]
        refine wpAnyH_take (i := 22) (v := .bool true) rfl (by kernel_rfl) (by kernel_rfl) (by kernel_rfl) (fun _ _ _ h => h) (Or.inl ⟨by rfl, fun w hSw => by go_simp⟩) hS ?_
        simp only [Act.put, List.getElem_toArray, List.getElem_cons_zero, List.getElem_cons_succ, List.setIfInBounds_toArray, List.set_cons_zero, List.set_cons_succ]
        refine wpAnyH_ready (rs := [23]) (by kernel_rfl) (by simp) (AllReadyH.cons rfl (fun K hK => ?_) AllReadyH.nil)
        rw [if_pos (by rfl)]
        go_simp
        refine hK.out _ _ hS (fun hS => ?_)
        clear hK K
        refine wpAnyH_done (by kernel_rfl) ?_ _
        go_wp2_with fail
        go_ret
        exact ⟨rfl, HM10.out.bel⟩
end Go.Proofs.YtnbgigdloehbjaaGreatDoor.Ir
