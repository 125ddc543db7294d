/-
  What is wrong with a node by itself (ir.fields): kinds without fields of their own.
  What is wrong with a node by itself (ir.fields): kinds of maps.
  What is wrong with a node by itself (ir.fields): kinds of aggregations.
  What is wrong with a node by itself (ir.fields): kinds of operators.
  What is wrong with a node by itself (ir.fields): kinds of labels.
  What is wrong with a node by itself (ir.fields): kinds of Subs.
  What is wrong with a node by itself (ir.fields): kinds of windows.
  What is wrong with a node by itself (ir.fields): kinds of selections.
  What is wrong with a node by itself (ir.fields): kinds of Absent.
  What is wrong with a node by itself (ir.fields): kinds that are none.
-/
import Derived.Test.YtnbgigdloehbjaaGreatDoorIrL
namespace Go.Proofs.YtnbgigdloehbjaaGreatDoor.Ir
open Go Go.RowKit Go.Proofs.YtnbgigdloehbjaaGreatDoor.Rg Go.Proofs.YtnbgigdloehbjaaGreatDoor.Ma
set_option maxHeartbeats 8000000
set_option maxRecDepth 100000

theorem fields_1 (f : Fd) (l : Kd) (cs : List Value) (W : World) (hk : f.kind = 1) (_hll : l.len ≤ 100000) (hS : Sml f) (hH : (Nd.mk f l).Held W Any cs) :
    Calls Tryz.prog 37 #[.agg cs.toArray] W (RetB (.int .i64 (fieldsE f l.len : Nat)) W) := by
  obtain ⟨vM, vG, vX, vI, ao, cap, ls, hcs, hf, hl, hK⟩ := hH.open
  have hl17 := hH.length
  have k0 : cs[0]? = some (.int .i64 1) := by rw [hcs, ← hk]; rfl
  have k2 : cs[2]? = some (.int .i64 f.fn) := by rw [hcs]; rfl
  have k16 : cs[16]? = some (.slice ao l.len cap) := by rw [hcs]; rfl
  have HO := Lib.hid (of_calls 1 f.fn cs k0 k2 (W.alloc (.cells cs.toArray 31)))
  have HFl := Lib.hid hf
  have HS := Lib.hid hS
  clear hH hf hl hK hcs hS
  have eV : hasV 1 f.fn = [.bool true, .bool false, .bool false, .bool false, .bool false, .bool false, .bool false, .bool false, .bool false, .int .i64 0] := by rfl
  have eK : isK 1 = true := rfl
  rw [eV, eK] at HO
  clear eV eK
  go_enter Tryz.func37, Tryz.ntmps37
  go_wp2_with (with_reducible refine wpList_loadNd rfl _ rfl W.heap.size 0 rfl cs (range_blk (blk_new W _)) hl17 ?_)
  (with_reducible refine HO.out.mono ?_)
  rintro e W1 ⟨rfl, hb1⟩
  have hs2 : W.heap.size < W1.heap.size := by have := hb1.size; simp at this; omega
  have n0 := box_far (o := .cells #[.bool true, .bool false, .bool false, .bool false, .bool false, .bool false, .bool false, .bool false, .bool false, .int .i64 0] 60) hb1 0 k0
  have n16 := box_far (o := .cells #[.bool true, .bool false, .bool false, .bool false, .bool false, .bool false, .bool false, .bool false, .bool false, .int .i64 0] 60) hb1 16 k16
  have HB1 := Lib.hid (after1 (Below.refl _ _) hb1)
  have hs1 := HB1.out.size
  clear hb1
  by_cases h1 : l.len ≠ 0
  · have hfin : fieldsE f l.len = 1 := by rw [fieldsE, if_pos]; rw [hk]; simp [kidsOf]; omega
    have HF := Lib.hid hfin; clear hfin
    have q : ((l.len : Int) == 0) = false := by rw [beq_eq_false_iff_ne]; omega
    go_wp2_with fail
    go_ret
    exact ⟨by rw [HF.out]; rfl, HB1.out.alloc hs1 _⟩
  replace h1 : l.len = 0 := by omega
  have q : ((l.len : Int) == 0) = true := by rw [h1]; rfl
  have hfin : fieldsE f l.len = 0 := by simp [fieldsE, hk, kidsOf, h1]
  have HF := Lib.hid hfin; clear hfin
  go_wp2_with fail
  go_quiet (fail)
  go_wp2_with fail
  go_ret
  exact ⟨by rw [HF.out]; rfl, below_drewN (HB1.out.alloc hs1 _) nq⟩
theorem fields_2 (f : Fd) (l : Kd) (cs : List Value) (W : World) (hk : f.kind = 2) (_hll : l.len ≤ 100000) (hS : Sml f) (hH : (Nd.mk f l).Held W Any cs) :
    Calls Tryz.prog 37 #[.agg cs.toArray] W (RetB (.int .i64 (fieldsE f l.len : Nat)) W) := by
  obtain ⟨vM, vG, vX, vI, ao, cap, ls, hcs, hf, hl, hK⟩ := hH.open
  have hl17 := hH.length
  have k0 : cs[0]? = some (.int .i64 2) := by rw [hcs, ← hk]; rfl
  have k2 : cs[2]? = some (.int .i64 f.fn) := by rw [hcs]; rfl
  have k16 : cs[16]? = some (.slice ao l.len cap) := by rw [hcs]; rfl
  have HO := Lib.hid (of_calls 2 f.fn cs k0 k2 (W.alloc (.cells cs.toArray 31)))
  have HFl := Lib.hid hf
  have HS := Lib.hid hS
  clear hH hf hl hK hcs hS
  have eV : hasV 2 f.fn = [.bool false, .bool false, .bool false, .bool false, .bool false, .bool false, .bool false, .bool false, .bool false, .int .i64 0] := by rfl
  have eK : isK 2 = true := rfl
  rw [eV, eK] at HO
  clear eV eK
  go_enter Tryz.func37, Tryz.ntmps37
  go_wp2_with (with_reducible refine wpList_loadNd rfl _ rfl W.heap.size 0 rfl cs (range_blk (blk_new W _)) hl17 ?_)
  (with_reducible refine HO.out.mono ?_)
  rintro e W1 ⟨rfl, hb1⟩
  have hs2 : W.heap.size < W1.heap.size := by have := hb1.size; simp at this; omega
  have n0 := box_far (o := .cells #[.bool false, .bool false, .bool false, .bool false, .bool false, .bool false, .bool false, .bool false, .bool false, .int .i64 0] 60) hb1 0 k0
  have n16 := box_far (o := .cells #[.bool false, .bool false, .bool false, .bool false, .bool false, .bool false, .bool false, .bool false, .bool false, .int .i64 0] 60) hb1 16 k16
  have HB1 := Lib.hid (after1 (Below.refl _ _) hb1)
  have hs1 := HB1.out.size
  clear hb1
  by_cases h1 : l.len ≠ 0
  · have hfin : fieldsE f l.len = 1 := by rw [fieldsE, if_pos]; rw [hk]; simp [kidsOf]; omega
    have HF := Lib.hid hfin; clear hfin
    have q : ((l.len : Int) == 0) = false := by rw [beq_eq_false_iff_ne]; omega
    go_wp2_with fail
    go_ret
    exact ⟨by rw [HF.out]; rfl, HB1.out.alloc hs1 _⟩
  replace h1 : l.len = 0 := by omega
  have q : ((l.len : Int) == 0) = true := by rw [h1]; rfl
  have hfin : fieldsE f l.len = 0 := by simp [fieldsE, hk, kidsOf, h1]
  have HF := Lib.hid hfin; clear hfin
  go_wp2_with fail
  go_quiet (fail)
  go_wp2_with fail
  go_ret
  exact ⟨by rw [HF.out]; rfl, below_drewN (HB1.out.alloc hs1 _) nq⟩
theorem fields_13 (f : Fd) (l : Kd) (cs : List Value) (W : World) (hk : f.kind = 13) (_hll : l.len ≤ 100000) (hS : Sml f) (hH : (Nd.mk f l).Held W Any cs) :
    Calls Tryz.prog 37 #[.agg cs.toArray] W (RetB (.int .i64 (fieldsE f l.len : Nat)) W) := by
  obtain ⟨vM, vG, vX, vI, ao, cap, ls, hcs, hf, hl, hK⟩ := hH.open
  have hl17 := hH.length
  have k0 : cs[0]? = some (.int .i64 13) := by rw [hcs, ← hk]; rfl
  have k2 : cs[2]? = some (.int .i64 f.fn) := by rw [hcs]; rfl
  have k16 : cs[16]? = some (.slice ao l.len cap) := by rw [hcs]; rfl
  have HO := Lib.hid (of_calls 13 f.fn cs k0 k2 (W.alloc (.cells cs.toArray 31)))
  have HFl := Lib.hid hf
  have HS := Lib.hid hS
  clear hH hf hl hK hcs hS
  have eV : hasV 13 f.fn = [.bool false, .bool false, .bool false, .bool false, .bool false, .bool false, .bool false, .bool false, .bool false, .int .i64 0] := by rfl
  have eK : isK 13 = true := rfl
  rw [eV, eK] at HO
  clear eV eK
  go_enter Tryz.func37, Tryz.ntmps37
  go_wp2_with (with_reducible refine wpList_loadNd rfl _ rfl W.heap.size 0 rfl cs (range_blk (blk_new W _)) hl17 ?_)
  (with_reducible refine HO.out.mono ?_)
  rintro e W1 ⟨rfl, hb1⟩
  have hs2 : W.heap.size < W1.heap.size := by have := hb1.size; simp at this; omega
  have n0 := box_far (o := .cells #[.bool false, .bool false, .bool false, .bool false, .bool false, .bool false, .bool false, .bool false, .bool false, .int .i64 0] 60) hb1 0 k0
  have n16 := box_far (o := .cells #[.bool false, .bool false, .bool false, .bool false, .bool false, .bool false, .bool false, .bool false, .bool false, .int .i64 0] 60) hb1 16 k16
  have HB1 := Lib.hid (after1 (Below.refl _ _) hb1)
  have hs1 := HB1.out.size
  clear hb1
  by_cases h1 : l.len ≠ 0
  · have hfin : fieldsE f l.len = 1 := by rw [fieldsE, if_pos]; rw [hk]; simp [kidsOf]; omega
    have HF := Lib.hid hfin; clear hfin
    have q : ((l.len : Int) == 0) = false := by rw [beq_eq_false_iff_ne]; omega
    go_wp2_with fail
    go_ret
    exact ⟨by rw [HF.out]; rfl, HB1.out.alloc hs1 _⟩
  replace h1 : l.len = 0 := by omega
  have q : ((l.len : Int) == 0) = true := by rw [h1]; rfl
  have hfin : fieldsE f l.len = 0 := by simp [fieldsE, hk, kidsOf, h1]
  have HF := Lib.hid hfin; clear hfin
  go_wp2_with fail
  go_quiet (fail)
  go_wp2_with fail
  go_ret
  exact ⟨by rw [HF.out]; rfl, below_drewN (HB1.out.alloc hs1 _) nq⟩
theorem fields_9 (f : Fd) (l : Kd) (cs : List Value) (W : World) (hk : f.kind = 9) (_hll : l.len ≤ 100000) (hS : Sml f) (hH : (Nd.mk f l).Held W Any cs) :
    Calls Tryz.prog 37 #[.agg cs.toArray] W (RetB (.int .i64 (fieldsE f l.len : Nat)) W) := by
  obtain ⟨vM, vG, vX, vI, ao, cap, ls, hcs, hf, hl, hK⟩ := hH.open
  have hl17 := hH.length
  have k0 : cs[0]? = some (.int .i64 9) := by rw [hcs, ← hk]; rfl
  have k2 : cs[2]? = some (.int .i64 f.fn) := by rw [hcs]; rfl
  have k16 : cs[16]? = some (.slice ao l.len cap) := by rw [hcs]; rfl
  have HO := Lib.hid (of_calls 9 f.fn cs k0 k2 (W.alloc (.cells cs.toArray 31)))
  have HFl := Lib.hid hf
  have HS := Lib.hid hS
  clear hH hf hl hK hcs hS
  have eV : hasV 9 f.fn = [.bool false, .bool false, .bool false, .bool false, .bool false, .bool false, .bool false, .bool false, .bool false, .int .i64 1] := by rfl
  have eK : isK 9 = true := rfl
  rw [eV, eK] at HO
  clear eV eK
  go_enter Tryz.func37, Tryz.ntmps37
  go_wp2_with (with_reducible refine wpList_loadNd rfl _ rfl W.heap.size 0 rfl cs (range_blk (blk_new W _)) hl17 ?_)
  (with_reducible refine HO.out.mono ?_)
  rintro e W1 ⟨rfl, hb1⟩
  have hs2 : W.heap.size < W1.heap.size := by have := hb1.size; simp at this; omega
  have n0 := box_far (o := .cells #[.bool false, .bool false, .bool false, .bool false, .bool false, .bool false, .bool false, .bool false, .bool false, .int .i64 1] 60) hb1 0 k0
  have n16 := box_far (o := .cells #[.bool false, .bool false, .bool false, .bool false, .bool false, .bool false, .bool false, .bool false, .bool false, .int .i64 1] 60) hb1 16 k16
  have HB1 := Lib.hid (after1 (Below.refl _ _) hb1)
  have hs1 := HB1.out.size
  clear hb1
  by_cases h1 : l.len ≠ 1
  · have hfin : fieldsE f l.len = 1 := by rw [fieldsE, if_pos]; rw [hk]; simp [kidsOf]; omega
    have HF := Lib.hid hfin; clear hfin
    have q : ((l.len : Int) == 1) = false := by rw [beq_eq_false_iff_ne]; omega
    go_wp2_with fail
    go_ret
    exact ⟨by rw [HF.out]; rfl, HB1.out.alloc hs1 _⟩
  replace h1 : l.len = 1 := by omega
  have q : ((l.len : Int) == 1) = true := by rw [h1]; rfl
  have hfin : fieldsE f l.len = 0 := by simp [fieldsE, hk, kidsOf, h1]
  have HF := Lib.hid hfin; clear hfin
  go_wp2_with fail
  go_quiet (fail)
  go_wp2_with fail
  go_ret
  exact ⟨by rw [HF.out]; rfl, below_drewN (HB1.out.alloc hs1 _) nq⟩
theorem fields_10 (f : Fd) (l : Kd) (cs : List Value) (W : World) (hk : f.kind = 10) (_hll : l.len ≤ 100000) (hS : Sml f) (hH : (Nd.mk f l).Held W Any cs) :
    Calls Tryz.prog 37 #[.agg cs.toArray] W (RetB (.int .i64 (fieldsE f l.len : Nat)) W) := by
  obtain ⟨vM, vG, vX, vI, ao, cap, ls, hcs, hf, hl, hK⟩ := hH.open
  have hl17 := hH.length
  have k0 : cs[0]? = some (.int .i64 10) := by rw [hcs, ← hk]; rfl
  have k2 : cs[2]? = some (.int .i64 f.fn) := by rw [hcs]; rfl
  have k16 : cs[16]? = some (.slice ao l.len cap) := by rw [hcs]; rfl
  have HO := Lib.hid (of_calls 10 f.fn cs k0 k2 (W.alloc (.cells cs.toArray 31)))
  have HFl := Lib.hid hf
  have HS := Lib.hid hS
  clear hH hf hl hK hcs hS
  have eV : hasV 10 f.fn = [.bool false, .bool false, .bool false, .bool false, .bool false, .bool false, .bool false, .bool false, .bool false, .int .i64 1] := by rfl
  have eK : isK 10 = true := rfl
  rw [eV, eK] at HO
  clear eV eK
  go_enter Tryz.func37, Tryz.ntmps37
  go_wp2_with (with_reducible refine wpList_loadNd rfl _ rfl W.heap.size 0 rfl cs (range_blk (blk_new W _)) hl17 ?_)
  (with_reducible refine HO.out.mono ?_)
  rintro e W1 ⟨rfl, hb1⟩
  have hs2 : W.heap.size < W1.heap.size := by have := hb1.size; simp at this; omega
  have n0 := box_far (o := .cells #[.bool false, .bool false, .bool false, .bool false, .bool false, .bool false, .bool false, .bool false, .bool false, .int .i64 1] 60) hb1 0 k0
  have n16 := box_far (o := .cells #[.bool false, .bool false, .bool false, .bool false, .bool false, .bool false, .bool false, .bool false, .bool false, .int .i64 1] 60) hb1 16 k16
  have HB1 := Lib.hid (after1 (Below.refl _ _) hb1)
  have hs1 := HB1.out.size
  clear hb1
  by_cases h1 : l.len ≠ 1
  · have hfin : fieldsE f l.len = 1 := by rw [fieldsE, if_pos]; rw [hk]; simp [kidsOf]; omega
    have HF := Lib.hid hfin; clear hfin
    have q : ((l.len : Int) == 1) = false := by rw [beq_eq_false_iff_ne]; omega
    go_wp2_with fail
    go_ret
    exact ⟨by rw [HF.out]; rfl, HB1.out.alloc hs1 _⟩
  replace h1 : l.len = 1 := by omega
  have q : ((l.len : Int) == 1) = true := by rw [h1]; rfl
  have hfin : fieldsE f l.len = 0 := by simp [fieldsE, hk, kidsOf, h1]
  have HF := Lib.hid hfin; clear hfin
  go_wp2_with fail
  go_quiet (fail)
  go_wp2_with fail
  go_ret
  exact ⟨by rw [HF.out]; rfl, below_drewN (HB1.out.alloc hs1 _) nq⟩
end Go.Proofs.YtnbgigdloehbjaaGreatDoor.Ir
namespace Go.Proofs.YtnbgigdloehbjaaGreatDoor.Ir
open Go Go.RowKit Go.Proofs.YtnbgigdloehbjaaGreatDoor.Rg Go.Proofs.YtnbgigdloehbjaaGreatDoor.Ma
set_option maxHeartbeats 8000000
set_option maxRecDepth 100000

theorem fields_6 (f : Fd) (l : Kd) (cs : List Value) (W : World) (hk : f.kind = 6) (_hll : l.len ≤ 100000) (hS : Sml f) (hH : (Nd.mk f l).Held W Any cs) :
    Calls Tryz.prog 37 #[.agg cs.toArray] W (RetB (.int .i64 (fieldsE f l.len : Nat)) W) := by
  obtain ⟨vM, vG, vX, vI, ao, cap, ls, hcs, hf, hl, hK⟩ := hH.open
  have hl17 := hH.length
  have k0 : cs[0]? = some (.int .i64 6) := by rw [hcs, ← hk]; rfl
  have k2 : cs[2]? = some (.int .i64 f.fn) := by rw [hcs]; rfl
  have k16 : cs[16]? = some (.slice ao l.len cap) := by rw [hcs]; rfl
  have HO := Lib.hid (of_calls 6 f.fn cs k0 k2 (W.alloc (.cells cs.toArray 31)))
  have HFl := Lib.hid hf
  have HS := Lib.hid hS
  clear hH hf hl hK hcs hS
  obtain ⟨x, hx⟩ : ∃ x, hasNum 6 f.fn = x := ⟨_, rfl⟩
  have eV : hasV 6 f.fn = [.bool x, .bool true, .bool false, .bool false, .bool false, .bool false, .bool false, .bool false, .bool false, .int .i64 1] := by rw [← hx]; rfl
  have eK : isK 6 = true := rfl
  rw [eV, eK] at HO
  clear eV eK hx
  go_enter Tryz.func37, Tryz.ntmps37
  go_wp2_with (with_reducible refine wpList_loadNd rfl _ rfl W.heap.size 0 rfl cs (range_blk (blk_new W _)) hl17 ?_)
  (with_reducible refine HO.out.mono ?_)
  rintro e W1 ⟨rfl, hb1⟩
  have hs2 : W.heap.size < W1.heap.size := by have := hb1.size; simp at this; omega
  have n0 := box_far (o := .cells #[.bool x, .bool true, .bool false, .bool false, .bool false, .bool false, .bool false, .bool false, .bool false, .int .i64 1] 60) hb1 0 k0
  have n16 := box_far (o := .cells #[.bool x, .bool true, .bool false, .bool false, .bool false, .bool false, .bool false, .bool false, .bool false, .int .i64 1] 60) hb1 16 k16
  have n2 := box_far (o := .cells #[.bool x, .bool true, .bool false, .bool false, .bool false, .bool false, .bool false, .bool false, .bool false, .int .i64 1] 60) hb1 2 k2
  have HB1 := Lib.hid (after1 (Below.refl _ _) hb1)
  have hs1 := HB1.out.size
  clear hb1
  by_cases h1 : l.len ≠ 1
  · have hfin : fieldsE f l.len = 1 := by rw [fieldsE, if_pos]; rw [hk]; simp [kidsOf]; omega
    have HF := Lib.hid hfin; clear hfin
    have q : ((l.len : Int) == 1) = false := by rw [beq_eq_false_iff_ne]; omega
    go_wp2_with fail
    go_ret
    exact ⟨by rw [HF.out]; rfl, HB1.out.alloc hs1 _⟩
  replace h1 : l.len = 1 := by omega
  have q : ((l.len : Int) == 1) = true := by rw [h1]; rfl
  obtain ⟨y, hy⟩ : ∃ y, inB f.fn 1 (mostFn 6) = y := ⟨_, rfl⟩
  have HFn := Lib.hid hy
  cases y
  · have hfin : fieldsE f l.len = 1 := by simp [fieldsE, hk, kidsOf, h1, hy]
    have HF := Lib.hid hfin; clear hfin hy
    go_wp2_with fail
    go_quiet (first | (go_at_call 66; refine quiet_eq (functions_calls 6 _)) | (go_at_call 34; refine quiet_eq (between_calls f.fn 1 (mostFn 6) _ HFn.out _)))
    go_wp2_with fail
    go_ret
    exact ⟨by rw [HF.out]; rfl, below_drewN (HB1.out.alloc hs1 _) nq⟩
  · have hfin : fieldsE f l.len = 0 := by simp [fieldsE, hk, kidsOf, h1, hy]
    have HF := Lib.hid hfin; clear hfin hy
    go_wp2_with fail
    go_quiet (first | (go_at_call 66; refine quiet_eq (functions_calls 6 _)) | (go_at_call 34; refine quiet_eq (between_calls f.fn 1 (mostFn 6) _ HFn.out _)))
    go_wp2_with fail
    go_ret
    exact ⟨by rw [HF.out]; rfl, below_drewN (HB1.out.alloc hs1 _) nq⟩
end Go.Proofs.YtnbgigdloehbjaaGreatDoor.Ir
namespace Go.Proofs.YtnbgigdloehbjaaGreatDoor.Ir
open Go Go.RowKit Go.Proofs.YtnbgigdloehbjaaGreatDoor.Rg Go.Proofs.YtnbgigdloehbjaaGreatDoor.Ma
set_option maxHeartbeats 8000000
set_option maxRecDepth 100000

theorem fields_8 (f : Fd) (l : Kd) (cs : List Value) (W : World) (hk : f.kind = 8) (_hll : l.len ≤ 100000) (hS : Sml f) (hH : (Nd.mk f l).Held W Any cs) :
    Calls Tryz.prog 37 #[.agg cs.toArray] W (RetB (.int .i64 (fieldsE f l.len : Nat)) W) := by
  obtain ⟨vM, vG, vX, vI, ao, cap, ls, hcs, hf, hl, hK⟩ := hH.open
  have hl17 := hH.length
  have k0 : cs[0]? = some (.int .i64 8) := by rw [hcs, ← hk]; rfl
  have k2 : cs[2]? = some (.int .i64 f.fn) := by rw [hcs]; rfl
  have k16 : cs[16]? = some (.slice ao l.len cap) := by rw [hcs]; rfl
  have k7 : cs[7]? = some (.int .i64 f.ghow) := by rw [hcs]; rfl
  have k8 : cs[8]? = some (vG) := by rw [hcs]; rfl
  have HO := Lib.hid (of_calls 8 f.fn cs k0 k2 (W.alloc (.cells cs.toArray 31)))
  have HFl := Lib.hid hf
  have HS := Lib.hid hS
  clear hH hf hl hK hcs hS
  obtain ⟨x, hx⟩ : ∃ x, hasNum 8 f.fn = x := ⟨_, rfl⟩
  have eV : hasV 8 f.fn = [.bool x, .bool true, .bool false, .bool false, .bool false, .bool false, .bool true, .bool false, .bool false, .int .i64 1] := by rw [← hx]; rfl
  have eK : isK 8 = true := rfl
  rw [eV, eK] at HO
  clear eV eK hx
  go_enter Tryz.func37, Tryz.ntmps37
  go_wp2_with (with_reducible refine wpList_loadNd rfl _ rfl W.heap.size 0 rfl cs (range_blk (blk_new W _)) hl17 ?_)
  (with_reducible refine HO.out.mono ?_)
  rintro e W1 ⟨rfl, hb1⟩
  have hs2 : W.heap.size < W1.heap.size := by have := hb1.size; simp at this; omega
  have n0 := box_far (o := .cells #[.bool x, .bool true, .bool false, .bool false, .bool false, .bool false, .bool true, .bool false, .bool false, .int .i64 1] 60) hb1 0 k0
  have n16 := box_far (o := .cells #[.bool x, .bool true, .bool false, .bool false, .bool false, .bool false, .bool true, .bool false, .bool false, .int .i64 1] 60) hb1 16 k16
  have n2 := box_far (o := .cells #[.bool x, .bool true, .bool false, .bool false, .bool false, .bool false, .bool true, .bool false, .bool false, .int .i64 1] 60) hb1 2 k2
  have n7 := box_far (o := .cells #[.bool x, .bool true, .bool false, .bool false, .bool false, .bool false, .bool true, .bool false, .bool false, .int .i64 1] 60) hb1 7 k7
  have n8 := box_far (o := .cells #[.bool x, .bool true, .bool false, .bool false, .bool false, .bool false, .bool true, .bool false, .bool false, .int .i64 1] 60) hb1 8 k8
  have HB1 := Lib.hid (after1 (Below.refl _ _) hb1)
  have hs1 := HB1.out.size
  clear hb1
  by_cases h1 : l.len ≠ 1
  · have hfin : fieldsE f l.len = 1 := by rw [fieldsE, if_pos]; rw [hk]; simp [kidsOf]; omega
    have HF := Lib.hid hfin; clear hfin
    have q : ((l.len : Int) == 1) = false := by rw [beq_eq_false_iff_ne]; omega
    go_wp2_with fail
    go_ret
    exact ⟨by rw [HF.out]; rfl, HB1.out.alloc hs1 _⟩
  replace h1 : l.len = 1 := by omega
  have q : ((l.len : Int) == 1) = true := by rw [h1]; rfl
  obtain ⟨y, hy⟩ : ∃ y, inB f.fn 1 (mostFn 8) = y := ⟨_, rfl⟩
  have HFn := Lib.hid hy
  cases y
  · have hfin : fieldsE f l.len = 1 := by simp [fieldsE, hk, kidsOf, h1, hy]
    have HF := Lib.hid hfin; clear hfin hy
    go_wp2_with fail
    go_quiet (first | (go_at_call 66; refine quiet_eq (functions_calls 8 _)) | (go_at_call 34; refine quiet_eq (between_calls f.fn 1 (mostFn 8) _ HFn.out _)))
    go_wp2_with fail
    go_ret
    exact ⟨by rw [HF.out]; rfl, below_drewN (HB1.out.alloc hs1 _) nq⟩
  have hfin : fieldsE f l.len = aggE f.ghow f.gn := by simp [fieldsE, hk, kidsOf, h1, hy]
  have HF := Lib.hid hfin; clear hfin hy
  go_wp2_with fail
  go_quiet (first | (go_at_call 66; refine quiet_eq (functions_calls 8 _)) | (go_at_call 34; refine quiet_eq (between_calls f.fn 1 (mostFn 8) _ HFn.out _)))
  have hbq := below_drewN (HB1.out.alloc hs1 (.cells #[.bool x, .bool true, .bool false, .bool false, .bool false, .bool false, .bool true, .bool false, .bool false, .int .i64 1] 60)) nq
  have HBq := Lib.hid hbq; clear hbq
  go_wp2_with fail
  (with_reducible refine (aggCheck_calls f.ghow vG f.gn _ (HFl.out.g.keep (by decide) (Keeps.below HBq.out)) HS.out.g HS.out.gs).mono ?_)
  rintro e W2 ⟨rfl, hb2⟩
  have HB2 := Lib.hid (HBq.out.trans (hb2.mono HBq.out.size)); clear hb2
  go_wp2_with fail
  go_ret
  exact ⟨by rw [HF.out]; rfl, HB2.out⟩
end Go.Proofs.YtnbgigdloehbjaaGreatDoor.Ir
namespace Go.Proofs.YtnbgigdloehbjaaGreatDoor.Ir
open Go Go.RowKit Go.Proofs.YtnbgigdloehbjaaGreatDoor.Rg Go.Proofs.YtnbgigdloehbjaaGreatDoor.Ma
set_option maxHeartbeats 8000000
set_option maxRecDepth 100000

theorem fields_7 (f : Fd) (l : Kd) (cs : List Value) (W : World) (hk : f.kind = 7) (_hll : l.len ≤ 100000) (hS : Sml f) (hH : (Nd.mk f l).Held W Any cs) :
    Calls Tryz.prog 37 #[.agg cs.toArray] W (RetB (.int .i64 (fieldsE f l.len : Nat)) W) := by
  obtain ⟨vM, vG, vX, vI, ao, cap, ls, hcs, hf, hl, hK⟩ := hH.open
  have hl17 := hH.length
  have k0 : cs[0]? = some (.int .i64 7) := by rw [hcs, ← hk]; rfl
  have k2 : cs[2]? = some (.int .i64 f.fn) := by rw [hcs]; rfl
  have k16 : cs[16]? = some (.slice ao l.len cap) := by rw [hcs]; rfl
  have k9 : cs[9]? = some (.int .i64 f.xhow) := by rw [hcs]; rfl
  have k10 : cs[10]? = some (vX) := by rw [hcs]; rfl
  have k11 : cs[11]? = some (.int .i64 f.card) := by rw [hcs]; rfl
  have k12 : cs[12]? = some (vI) := by rw [hcs]; rfl
  have HO := Lib.hid (of_calls 7 f.fn cs k0 k2 (W.alloc (.cells cs.toArray 31)))
  have HFl := Lib.hid hf
  have HS := Lib.hid hS
  clear hH hf hl hK hcs hS
  have eV : hasV 7 f.fn = [.bool false, .bool true, .bool false, .bool false, .bool false, .bool false, .bool false, .bool true, .bool false, .int .i64 2] := by rfl
  have eK : isK 7 = true := rfl
  rw [eV, eK] at HO
  clear eV eK
  go_enter Tryz.func37, Tryz.ntmps37
  go_wp2_with (with_reducible refine wpList_loadNd rfl _ rfl W.heap.size 0 rfl cs (range_blk (blk_new W _)) hl17 ?_)
  (with_reducible refine HO.out.mono ?_)
  rintro e W1 ⟨rfl, hb1⟩
  have hs2 : W.heap.size < W1.heap.size := by have := hb1.size; simp at this; omega
  have n0 := box_far (o := .cells #[.bool false, .bool true, .bool false, .bool false, .bool false, .bool false, .bool false, .bool true, .bool false, .int .i64 2] 60) hb1 0 k0
  have n16 := box_far (o := .cells #[.bool false, .bool true, .bool false, .bool false, .bool false, .bool false, .bool false, .bool true, .bool false, .int .i64 2] 60) hb1 16 k16
  have n2 := box_far (o := .cells #[.bool false, .bool true, .bool false, .bool false, .bool false, .bool false, .bool false, .bool true, .bool false, .int .i64 2] 60) hb1 2 k2
  have n9 := box_far (o := .cells #[.bool false, .bool true, .bool false, .bool false, .bool false, .bool false, .bool false, .bool true, .bool false, .int .i64 2] 60) hb1 9 k9
  have n10 := box_far (o := .cells #[.bool false, .bool true, .bool false, .bool false, .bool false, .bool false, .bool false, .bool true, .bool false, .int .i64 2] 60) hb1 10 k10
  have n11 := box_far (o := .cells #[.bool false, .bool true, .bool false, .bool false, .bool false, .bool false, .bool false, .bool true, .bool false, .int .i64 2] 60) hb1 11 k11
  have n12 := box_far (o := .cells #[.bool false, .bool true, .bool false, .bool false, .bool false, .bool false, .bool false, .bool true, .bool false, .int .i64 2] 60) hb1 12 k12
  have HB1 := Lib.hid (after1 (Below.refl _ _) hb1)
  have hs1 := HB1.out.size
  clear hb1
  by_cases h1 : l.len ≠ 2
  · have hfin : fieldsE f l.len = 1 := by rw [fieldsE, if_pos]; rw [hk]; simp [kidsOf]; omega
    have HF := Lib.hid hfin; clear hfin
    have q : ((l.len : Int) == 2) = false := by rw [beq_eq_false_iff_ne]; omega
    go_wp2_with fail
    go_ret
    exact ⟨by rw [HF.out]; rfl, HB1.out.alloc hs1 _⟩
  replace h1 : l.len = 2 := by omega
  have q : ((l.len : Int) == 2) = true := by rw [h1]; rfl
  obtain ⟨y, hy⟩ : ∃ y, inB f.fn 1 (mostFn 7) = y := ⟨_, rfl⟩
  have HFn := Lib.hid hy
  cases y
  · have hfin : fieldsE f l.len = 1 := by simp [fieldsE, hk, kidsOf, h1, hy]
    have HF := Lib.hid hfin; clear hfin hy
    go_wp2_with fail
    go_quiet (first | (go_at_call 66; refine quiet_eq (functions_calls 7 _)) | (go_at_call 34; refine quiet_eq (between_calls f.fn 1 (mostFn 7) _ HFn.out _)))
    go_wp2_with fail
    go_ret
    exact ⟨by rw [HF.out]; rfl, below_drewN (HB1.out.alloc hs1 _) nq⟩
  have hfin : fieldsE f l.len = joinE f := by simp [fieldsE, hk, kidsOf, h1, hy]
  have HF := Lib.hid hfin; clear hfin hy
  go_wp2_with fail
  go_quiet (first | (go_at_call 66; refine quiet_eq (functions_calls 7 _)) | (go_at_call 34; refine quiet_eq (between_calls f.fn 1 (mostFn 7) _ HFn.out _)))
  have hbq := below_drewN (HB1.out.alloc hs1 (.cells #[.bool false, .bool true, .bool false, .bool false, .bool false, .bool false, .bool false, .bool true, .bool false, .int .i64 2] 60)) nq
  have HBq := Lib.hid hbq; clear hbq
  go_wp2_with fail
  (with_reducible refine (joinCheck_calls f vX vI _ (HFl.out.x.keep (by decide) (Keeps.below HBq.out)) (HFl.out.i.keep (by decide) (Keeps.below HBq.out)) HS.out.x HS.out.i HS.out.xs HS.out.is).mono ?_)
  rintro e W2 ⟨rfl, hb2⟩
  have HB2 := Lib.hid (HBq.out.trans (hb2.mono HBq.out.size)); clear hb2
  go_wp2_with fail
  go_ret
  exact ⟨by rw [HF.out]; rfl, HB2.out⟩
end Go.Proofs.YtnbgigdloehbjaaGreatDoor.Ir
namespace Go.Proofs.YtnbgigdloehbjaaGreatDoor.Ir
open Go Go.RowKit Go.Proofs.YtnbgigdloehbjaaGreatDoor.Rg Go.Proofs.YtnbgigdloehbjaaGreatDoor.Ma
set_option maxHeartbeats 8000000
set_option maxRecDepth 100000

theorem fields_11 (f : Fd) (l : Kd) (cs : List Value) (W : World) (hk : f.kind = 11) (_hll : l.len ≤ 100000) (hS : Sml f) (hH : (Nd.mk f l).Held W Any cs) :
    Calls Tryz.prog 37 #[.agg cs.toArray] W (RetB (.int .i64 (fieldsE f l.len : Nat)) W) := by
  obtain ⟨vM, vG, vX, vI, ao, cap, ls, hcs, hf, hl, hK⟩ := hH.open
  have hl17 := hH.length
  have k0 : cs[0]? = some (.int .i64 11) := by rw [hcs, ← hk]; rfl
  have k2 : cs[2]? = some (.int .i64 f.fn) := by rw [hcs]; rfl
  have k16 : cs[16]? = some (.slice ao l.len cap) := by rw [hcs]; rfl
  have k14 : cs[14]? = some (.string f.name) := by rw [hcs]; rfl
  have k15 : cs[15]? = some (.string f.value) := by rw [hcs]; rfl
  have HO := Lib.hid (of_calls 11 f.fn cs k0 k2 (W.alloc (.cells cs.toArray 31)))
  have HFl := Lib.hid hf
  have HS := Lib.hid hS
  clear hH hf hl hK hcs hS
  have eV : hasV 11 f.fn = [.bool false, .bool false, .bool false, .bool false, .bool false, .bool false, .bool false, .bool false, .bool true, .int .i64 1] := by rfl
  have eK : isK 11 = true := rfl
  rw [eV, eK] at HO
  clear eV eK
  go_enter Tryz.func37, Tryz.ntmps37
  go_wp2_with (with_reducible refine wpList_loadNd rfl _ rfl W.heap.size 0 rfl cs (range_blk (blk_new W _)) hl17 ?_)
  (with_reducible refine HO.out.mono ?_)
  rintro e W1 ⟨rfl, hb1⟩
  have hs2 : W.heap.size < W1.heap.size := by have := hb1.size; simp at this; omega
  have n0 := box_far (o := .cells #[.bool false, .bool false, .bool false, .bool false, .bool false, .bool false, .bool false, .bool false, .bool true, .int .i64 1] 60) hb1 0 k0
  have n16 := box_far (o := .cells #[.bool false, .bool false, .bool false, .bool false, .bool false, .bool false, .bool false, .bool false, .bool true, .int .i64 1] 60) hb1 16 k16
  have n14 := box_far (o := .cells #[.bool false, .bool false, .bool false, .bool false, .bool false, .bool false, .bool false, .bool false, .bool true, .int .i64 1] 60) hb1 14 k14
  have n15 := box_far (o := .cells #[.bool false, .bool false, .bool false, .bool false, .bool false, .bool false, .bool false, .bool false, .bool true, .int .i64 1] 60) hb1 15 k15
  have HB1 := Lib.hid (after1 (Below.refl _ _) hb1)
  have hs1 := HB1.out.size
  clear hb1
  by_cases h1 : l.len ≠ 1
  · have hfin : fieldsE f l.len = 1 := by rw [fieldsE, if_pos]; rw [hk]; simp [kidsOf]; omega
    have HF := Lib.hid hfin; clear hfin
    have q : ((l.len : Int) == 1) = false := by rw [beq_eq_false_iff_ne]; omega
    go_wp2_with fail
    go_ret
    exact ⟨by rw [HF.out]; rfl, HB1.out.alloc hs1 _⟩
  replace h1 : l.len = 1 := by omega
  have q : ((l.len : Int) == 1) = true := by rw [h1]; rfl
  obtain ⟨y, hy⟩ : ∃ y, nameB f.name = y := ⟨_, rfl⟩
  have HNm := Lib.hid hy
  cases y
  · have hfin : fieldsE f l.len = 1 := by simp [fieldsE, hk, kidsOf, h1, hy]
    have HF := Lib.hid hfin; clear hfin hy
    go_wp2_with ((with_reducible refine (name_calls f.name (by have := HS.out.n; unfold maxLen; omega) _ HNm.out _).mono ?_); rintro e w9 ⟨rfl, rfl⟩)
    go_quiet (fail)
    go_wp2_with ((with_reducible refine (name_calls f.name (by have := HS.out.n; unfold maxLen; omega) _ HNm.out _).mono ?_); rintro e w9 ⟨rfl, rfl⟩)
    go_ret
    exact ⟨by rw [HF.out]; rfl, below_drewN (HB1.out.alloc hs1 _) nq⟩
  by_cases h2 : 256 < f.value.size
  · have hfin : fieldsE f l.len = 1 := by simp [fieldsE, hk, kidsOf, h1, hy, h2]
    have HF := Lib.hid hfin; clear hfin hy
    go_wp2_with ((with_reducible refine (name_calls f.name (by have := HS.out.n; unfold maxLen; omega) _ HNm.out _).mono ?_); rintro e w9 ⟨rfl, rfl⟩)
    go_quiet (fail)
    go_wp2_with ((with_reducible refine (name_calls f.name (by have := HS.out.n; unfold maxLen; omega) _ HNm.out _).mono ?_); rintro e w9 ⟨rfl, rfl⟩)
    go_ret
    exact ⟨by rw [HF.out]; rfl, below_drewN (HB1.out.alloc hs1 _) nq⟩
  have hfin : fieldsE f l.len = 0 := by simp [fieldsE, hk, kidsOf, h1, hy, h2]
  have HF := Lib.hid hfin; clear hfin hy
  go_wp2_with ((with_reducible refine (name_calls f.name (by have := HS.out.n; unfold maxLen; omega) _ HNm.out _).mono ?_); rintro e w9 ⟨rfl, rfl⟩)
  go_quiet (fail)
  go_wp2_with ((with_reducible refine (name_calls f.name (by have := HS.out.n; unfold maxLen; omega) _ HNm.out _).mono ?_); rintro e w9 ⟨rfl, rfl⟩)
  go_ret
  exact ⟨by rw [HF.out]; rfl, below_drewN (HB1.out.alloc hs1 _) nq⟩
end Go.Proofs.YtnbgigdloehbjaaGreatDoor.Ir
namespace Go.Proofs.YtnbgigdloehbjaaGreatDoor.Ir
open Go Go.RowKit Go.Proofs.YtnbgigdloehbjaaGreatDoor.Rg Go.Proofs.YtnbgigdloehbjaaGreatDoor.Ma
set_option maxHeartbeats 8000000
set_option maxRecDepth 100000

theorem fields_5 (f : Fd) (l : Kd) (cs : List Value) (W : World) (hk : f.kind = 5) (_hll : l.len ≤ 100000) (hS : Sml f) (hH : (Nd.mk f l).Held W Any cs) :
    Calls Tryz.prog 37 #[.agg cs.toArray] W (RetB (.int .i64 (fieldsE f l.len : Nat)) W) := by
  obtain ⟨vM, vG, vX, vI, ao, cap, ls, hcs, hf, hl, hK⟩ := hH.open
  have hl17 := hH.length
  have k0 : cs[0]? = some (.int .i64 5) := by rw [hcs, ← hk]; rfl
  have k2 : cs[2]? = some (.int .i64 f.fn) := by rw [hcs]; rfl
  have k16 : cs[16]? = some (.slice ao l.len cap) := by rw [hcs]; rfl
  have k4 : cs[4]? = some (.int .i64 f.range) := by rw [hcs]; rfl
  have k5 : cs[5]? = some (.int .i64 f.step) := by rw [hcs]; rfl
  have k6 : cs[6]? = some (.int .i64 f.offset) := by rw [hcs]; rfl
  have HO := Lib.hid (of_calls 5 f.fn cs k0 k2 (W.alloc (.cells cs.toArray 31)))
  have HFl := Lib.hid hf
  have HS := Lib.hid hS
  clear hH hf hl hK hcs hS
  have eV : hasV 5 f.fn = [.bool false, .bool true, .bool false, .bool true, .bool true, .bool true, .bool false, .bool false, .bool false, .int .i64 1] := by rfl
  have eK : isK 5 = true := rfl
  rw [eV, eK] at HO
  clear eV eK
  go_enter Tryz.func37, Tryz.ntmps37
  go_wp2_with (with_reducible refine wpList_loadNd rfl _ rfl W.heap.size 0 rfl cs (range_blk (blk_new W _)) hl17 ?_)
  (with_reducible refine HO.out.mono ?_)
  rintro e W1 ⟨rfl, hb1⟩
  have hs2 : W.heap.size < W1.heap.size := by have := hb1.size; simp at this; omega
  have n0 := box_far (o := .cells #[.bool false, .bool true, .bool false, .bool true, .bool true, .bool true, .bool false, .bool false, .bool false, .int .i64 1] 60) hb1 0 k0
  have n16 := box_far (o := .cells #[.bool false, .bool true, .bool false, .bool true, .bool true, .bool true, .bool false, .bool false, .bool false, .int .i64 1] 60) hb1 16 k16
  have n2 := box_far (o := .cells #[.bool false, .bool true, .bool false, .bool true, .bool true, .bool true, .bool false, .bool false, .bool false, .int .i64 1] 60) hb1 2 k2
  have n4 := box_far (o := .cells #[.bool false, .bool true, .bool false, .bool true, .bool true, .bool true, .bool false, .bool false, .bool false, .int .i64 1] 60) hb1 4 k4
  have n5 := box_far (o := .cells #[.bool false, .bool true, .bool false, .bool true, .bool true, .bool true, .bool false, .bool false, .bool false, .int .i64 1] 60) hb1 5 k5
  have n6 := box_far (o := .cells #[.bool false, .bool true, .bool false, .bool true, .bool true, .bool true, .bool false, .bool false, .bool false, .int .i64 1] 60) hb1 6 k6
  have HB1 := Lib.hid (after1 (Below.refl _ _) hb1)
  have hs1 := HB1.out.size
  clear hb1
  by_cases h1 : l.len ≠ 1
  · have hfin : fieldsE f l.len = 1 := by rw [fieldsE, if_pos]; rw [hk]; simp [kidsOf]; omega
    have HF := Lib.hid hfin; clear hfin
    have q : ((l.len : Int) == 1) = false := by rw [beq_eq_false_iff_ne]; omega
    go_wp2_with fail
    go_ret
    exact ⟨by rw [HF.out]; rfl, HB1.out.alloc hs1 _⟩
  replace h1 : l.len = 1 := by omega
  have q : ((l.len : Int) == 1) = true := by rw [h1]; rfl
  obtain ⟨yo, hyo⟩ : ∃ z, inB f.offset (-1125899906842624) 1125899906842624 = z := ⟨_, rfl⟩
  have HOf := Lib.hid hyo
  obtain ⟨yr, hyr⟩ : ∃ z, inB f.range 1 1125899906842624 = z := ⟨_, rfl⟩
  have HRa := Lib.hid hyr
  obtain ⟨ys, hys⟩ : ∃ z, inB f.step 1 1125899906842624 = z := ⟨_, rfl⟩
  have HSt := Lib.hid hys
  cases yo
  · have hfin : fieldsE f l.len = 1 := by simp [fieldsE, hk, kidsOf, h1, hyo]
    have HF := Lib.hid hfin; clear hfin hyo
    go_wp2_with (first | ((with_reducible refine (between_calls f.offset (-1125899906842624) 1125899906842624 _ HOf.out _).mono ?_); rintro e w9 ⟨rfl, rfl⟩))
    go_ret
    exact ⟨by rw [HF.out]; rfl, HB1.out.alloc hs1 _⟩
  cases yr
  · have hfin : fieldsE f l.len = 1 := by simp [fieldsE, hk, kidsOf, h1, hyo, hyr]
    have HF := Lib.hid hfin; clear hfin hyo hyr
    go_wp2_with (first | ((with_reducible refine (between_calls f.offset (-1125899906842624) 1125899906842624 _ HOf.out _).mono ?_); rintro e w9 ⟨rfl, rfl⟩) | ((with_reducible refine (between_calls f.range 1 1125899906842624 _ HRa.out _).mono ?_); rintro e w9 ⟨rfl, rfl⟩))
    go_ret
    exact ⟨by rw [HF.out]; rfl, HB1.out.alloc hs1 _⟩
  cases ys
  · have hfin : fieldsE f l.len = 1 := by simp [fieldsE, hk, kidsOf, h1, hyo, hyr, hys]
    have HF := Lib.hid hfin; clear hfin hyo hyr hys
    go_wp2_with (first | ((with_reducible refine (between_calls f.offset (-1125899906842624) 1125899906842624 _ HOf.out _).mono ?_); rintro e w9 ⟨rfl, rfl⟩) | ((with_reducible refine (between_calls f.range 1 1125899906842624 _ HRa.out _).mono ?_); rintro e w9 ⟨rfl, rfl⟩) | ((with_reducible refine (between_calls f.step 1 1125899906842624 _ HSt.out _).mono ?_); rintro e w9 ⟨rfl, rfl⟩))
    go_ret
    exact ⟨by rw [HF.out]; rfl, HB1.out.alloc hs1 _⟩
  have hr := hyr; have hst := hys
  simp only [inB, Bool.and_eq_true, decide_eq_true_eq] at hr hst
  obtain ⟨u, hu⟩ : ∃ u : Nat, f.range.tdiv f.step = (u : Int) ∧ f.range / f.step = (u : Int) ∧ u ≤ 1125899906842624 := by
    have e1 := Int.tdiv_eq_ediv_of_nonneg (b := f.step) (show 0 ≤ f.range by omega)
    have e2 := Int.ediv_nonneg (show 0 ≤ f.range by omega) (show 0 ≤ f.step by omega)
    have e3 := Int.tdiv_le_self f.step (show 0 ≤ f.range by omega)
    refine ⟨(f.range / f.step).toNat, by rw [e1]; omega, by omega, ?_⟩
    rw [e1] at e3
    omega
  obtain ⟨hu1, hu2, hu3⟩ := hu
  have s0 : (f.step == 0) = false := by rw [beq_eq_false_iff_ne]; omega
  have s1 : ¬ f.step = 0 := by omega
  have hwu : wrap64 (u : Int) = u := by unfold wrap64; omega
  clear hr hst
  by_cases h6 : 1000 < u
  · have hfin : fieldsE f l.len = 6 := by simp [fieldsE, hk, kidsOf, h1, hyo, hyr, hys, hu2]; omega
    have HF := Lib.hid hfin; clear hfin hyo hyr hys hu2
    go_wp2_with (first | ((with_reducible refine (between_calls f.offset (-1125899906842624) 1125899906842624 _ HOf.out _).mono ?_); rintro e w9 ⟨rfl, rfl⟩) | ((with_reducible refine (between_calls f.range 1 1125899906842624 _ HRa.out _).mono ?_); rintro e w9 ⟨rfl, rfl⟩) | ((with_reducible refine (between_calls f.step 1 1125899906842624 _ HSt.out _).mono ?_); rintro e w9 ⟨rfl, rfl⟩))
    go_ret
    exact ⟨by rw [HF.out]; rfl, HB1.out.alloc hs1 _⟩
  have hu4 : ¬ (1000 : Int) < (u : Int) := by omega
  obtain ⟨y, hy⟩ : ∃ y, inB f.fn 1 (mostFn 5) = y := ⟨_, rfl⟩
  have HFn := Lib.hid hy
  cases y
  · have hfin : fieldsE f l.len = 1 := by simp [fieldsE, hk, kidsOf, h1, hyo, hyr, hys, hu2, hu4, hy]
    have HF := Lib.hid hfin; clear hfin hyo hyr hys hu2 hy
    go_wp2_with (first | ((with_reducible refine (between_calls f.offset (-1125899906842624) 1125899906842624 _ HOf.out _).mono ?_); rintro e w9 ⟨rfl, rfl⟩) | ((with_reducible refine (between_calls f.range 1 1125899906842624 _ HRa.out _).mono ?_); rintro e w9 ⟨rfl, rfl⟩) | ((with_reducible refine (between_calls f.step 1 1125899906842624 _ HSt.out _).mono ?_); rintro e w9 ⟨rfl, rfl⟩))
    go_quiet (first | (go_at_call 66; refine quiet_eq (functions_calls 5 _)) | (go_at_call 34; refine quiet_eq (between_calls f.fn 1 (mostFn 5) _ HFn.out _)))
    go_wp2_with fail
    go_ret
    exact ⟨by rw [HF.out]; rfl, below_drewN (HB1.out.alloc hs1 _) nq⟩
  have hfin : fieldsE f l.len = 0 := by simp [fieldsE, hk, kidsOf, h1, hyo, hyr, hys, hu2, hu4, hy]
  have HF := Lib.hid hfin; clear hfin hyo hyr hys hu2 hy
  go_wp2_with (first | ((with_reducible refine (between_calls f.offset (-1125899906842624) 1125899906842624 _ HOf.out _).mono ?_); rintro e w9 ⟨rfl, rfl⟩) | ((with_reducible refine (between_calls f.range 1 1125899906842624 _ HRa.out _).mono ?_); rintro e w9 ⟨rfl, rfl⟩) | ((with_reducible refine (between_calls f.step 1 1125899906842624 _ HSt.out _).mono ?_); rintro e w9 ⟨rfl, rfl⟩))
  go_quiet (first | (go_at_call 66; refine quiet_eq (functions_calls 5 _)) | (go_at_call 34; refine quiet_eq (between_calls f.fn 1 (mostFn 5) _ HFn.out _)))
  go_wp2_with fail
  go_ret
  exact ⟨by rw [HF.out]; rfl, below_drewN (HB1.out.alloc hs1 _) nq⟩
end Go.Proofs.YtnbgigdloehbjaaGreatDoor.Ir
namespace Go.Proofs.YtnbgigdloehbjaaGreatDoor.Ir
open Go Go.RowKit Go.Proofs.YtnbgigdloehbjaaGreatDoor.Rg Go.Proofs.YtnbgigdloehbjaaGreatDoor.Ma
set_option maxHeartbeats 8000000
set_option maxRecDepth 100000

theorem fields_4 (f : Fd) (l : Kd) (cs : List Value) (W : World) (hk : f.kind = 4) (_hll : l.len ≤ 100000) (hS : Sml f) (hH : (Nd.mk f l).Held W Any cs) :
    Calls Tryz.prog 37 #[.agg cs.toArray] W (RetB (.int .i64 (fieldsE f l.len : Nat)) W) := by
  obtain ⟨vM, vG, vX, vI, ao, cap, ls, hcs, hf, hl, hK⟩ := hH.open
  have hl17 := hH.length
  have k0 : cs[0]? = some (.int .i64 4) := by rw [hcs, ← hk]; rfl
  have k2 : cs[2]? = some (.int .i64 f.fn) := by rw [hcs]; rfl
  have k16 : cs[16]? = some (.slice ao l.len cap) := by rw [hcs]; rfl
  have k3 : cs[3]? = some (vM) := by rw [hcs]; rfl
  have k4 : cs[4]? = some (.int .i64 f.range) := by rw [hcs]; rfl
  have k6 : cs[6]? = some (.int .i64 f.offset) := by rw [hcs]; rfl
  have HO := Lib.hid (of_calls 4 f.fn cs k0 k2 (W.alloc (.cells cs.toArray 31)))
  have HFl := Lib.hid hf
  have HS := Lib.hid hS
  clear hH hf hl hK hcs hS
  have eV : hasV 4 f.fn = [.bool false, .bool true, .bool true, .bool true, .bool false, .bool true, .bool false, .bool false, .bool false, .int .i64 0] := by rfl
  have eK : isK 4 = true := rfl
  rw [eV, eK] at HO
  clear eV eK
  go_enter Tryz.func37, Tryz.ntmps37
  go_wp2_with (with_reducible refine wpList_loadNd rfl _ rfl W.heap.size 0 rfl cs (range_blk (blk_new W _)) hl17 ?_)
  (with_reducible refine HO.out.mono ?_)
  rintro e W1 ⟨rfl, hb1⟩
  have hs2 : W.heap.size < W1.heap.size := by have := hb1.size; simp at this; omega
  have n0 := box_far (o := .cells #[.bool false, .bool true, .bool true, .bool true, .bool false, .bool true, .bool false, .bool false, .bool false, .int .i64 0] 60) hb1 0 k0
  have n16 := box_far (o := .cells #[.bool false, .bool true, .bool true, .bool true, .bool false, .bool true, .bool false, .bool false, .bool false, .int .i64 0] 60) hb1 16 k16
  have n2 := box_far (o := .cells #[.bool false, .bool true, .bool true, .bool true, .bool false, .bool true, .bool false, .bool false, .bool false, .int .i64 0] 60) hb1 2 k2
  have n3 := box_far (o := .cells #[.bool false, .bool true, .bool true, .bool true, .bool false, .bool true, .bool false, .bool false, .bool false, .int .i64 0] 60) hb1 3 k3
  have n4 := box_far (o := .cells #[.bool false, .bool true, .bool true, .bool true, .bool false, .bool true, .bool false, .bool false, .bool false, .int .i64 0] 60) hb1 4 k4
  have n6 := box_far (o := .cells #[.bool false, .bool true, .bool true, .bool true, .bool false, .bool true, .bool false, .bool false, .bool false, .int .i64 0] 60) hb1 6 k6
  have HB1 := Lib.hid (after1 (Below.refl _ _) hb1)
  have hs1 := HB1.out.size
  clear hb1
  by_cases h1 : l.len ≠ 0
  · have hfin : fieldsE f l.len = 1 := by rw [fieldsE, if_pos]; rw [hk]; simp [kidsOf]; omega
    have HF := Lib.hid hfin; clear hfin
    have q : ((l.len : Int) == 0) = false := by rw [beq_eq_false_iff_ne]; omega
    go_wp2_with fail
    go_ret
    exact ⟨by rw [HF.out]; rfl, HB1.out.alloc hs1 _⟩
  replace h1 : l.len = 0 := by omega
  have q : ((l.len : Int) == 0) = true := by rw [h1]; rfl
  obtain ⟨_, aM, capM, rfl, _⟩ := id HFl.out.m
  have hbh := HB1.out.alloc hs1 (.cells #[.bool false, .bool true, .bool true, .bool true, .bool false, .bool true, .bool false, .bool false, .bool false, .int .i64 0] 60)
  have HBh := Lib.hid hbh; clear hbh
  have HMC := Lib.hid (check_calls _ f.m _ (rowM_of (HFl.out.m.keep (by decide) (Keeps.below HBh.out))) HS.out.m HS.out.ms)
  go_wp2_with fail
  (with_reducible refine HMC.out.mono ?_)
  rintro e W2 ⟨rfl, hb2⟩
  have HB2 := Lib.hid (HBh.out.trans (hb2.mono HBh.out.size))
  replace n0 := (hb2.cell (p := ⟨W.heap.size, 0, none⟩) (by simp; omega)).trans n0
  replace n2 := (hb2.cell (p := ⟨W.heap.size, 2, none⟩) (by simp; omega)).trans n2
  replace n4 := (hb2.cell (p := ⟨W.heap.size, 4, none⟩) (by simp; omega)).trans n4
  replace n6 := (hb2.cell (p := ⟨W.heap.size, 6, none⟩) (by simp; omega)).trans n6
  have g0 : W2.cell? ⟨W1.heap.size, 0, none⟩ = some (.bool false) := (hb2.cell (p := ⟨W1.heap.size, 0, none⟩) (by simp)).trans (blk_cell (blk_new W1 _) 0)
  have g1 : W2.cell? ⟨W1.heap.size, 1, none⟩ = some (.bool true) := (hb2.cell (p := ⟨W1.heap.size, 1, none⟩) (by simp)).trans (blk_cell (blk_new W1 _) 1)
  have g3 : W2.cell? ⟨W1.heap.size, 3, none⟩ = some (.bool true) := (hb2.cell (p := ⟨W1.heap.size, 3, none⟩) (by simp)).trans (blk_cell (blk_new W1 _) 3)
  have g4 : W2.cell? ⟨W1.heap.size, 4, none⟩ = some (.bool false) := (hb2.cell (p := ⟨W1.heap.size, 4, none⟩) (by simp)).trans (blk_cell (blk_new W1 _) 4)
  have g5 : W2.cell? ⟨W1.heap.size, 5, none⟩ = some (.bool true) := (hb2.cell (p := ⟨W1.heap.size, 5, none⟩) (by simp)).trans (blk_cell (blk_new W1 _) 5)
  have g6 : W2.cell? ⟨W1.heap.size, 6, none⟩ = some (.bool false) := (hb2.cell (p := ⟨W1.heap.size, 6, none⟩) (by simp)).trans (blk_cell (blk_new W1 _) 6)
  have g7 : W2.cell? ⟨W1.heap.size, 7, none⟩ = some (.bool false) := (hb2.cell (p := ⟨W1.heap.size, 7, none⟩) (by simp)).trans (blk_cell (blk_new W1 _) 7)
  have g8 : W2.cell? ⟨W1.heap.size, 8, none⟩ = some (.bool false) := (hb2.cell (p := ⟨W1.heap.size, 8, none⟩) (by simp)).trans (blk_cell (blk_new W1 _) 8)
  have g9 : W2.cell? ⟨W1.heap.size, 9, none⟩ = some (.int .i64 0) := (hb2.cell (p := ⟨W1.heap.size, 9, none⟩) (by simp)).trans (blk_cell (blk_new W1 _) 9)
  clear hb2 HMC
  by_cases h0 : errM f.m ≠ 0
  · have hfin : fieldsE f l.len = errM f.m := by simp [fieldsE, hk, kidsOf, h1, h0]
    have HF := Lib.hid hfin; clear hfin
    have hne : ((errM f.m : Int) != 0) = true := by rw [bne_iff_ne]; omega
    clear h0
    go_wp2_with fail
    go_ret
    exact ⟨by rw [HF.out]; rfl, HB2.out⟩
  replace h0 : errM f.m = 0 := by omega
  rw [h0]
  obtain ⟨yo, hyo⟩ : ∃ z, inB f.offset (-1125899906842624) 1125899906842624 = z := ⟨_, rfl⟩
  have HOf := Lib.hid hyo
  obtain ⟨yr, hyr⟩ : ∃ z, inB f.range 1 1125899906842624 = z := ⟨_, rfl⟩
  have HRa := Lib.hid hyr
  cases yo
  · have hfin : fieldsE f l.len = 1 := by simp [fieldsE, hk, kidsOf, h1, h0, hyo]
    have HF := Lib.hid hfin; clear hfin hyo
    go_wp2_with (first | ((with_reducible refine (between_calls f.offset (-1125899906842624) 1125899906842624 _ HOf.out _).mono ?_); rintro e w9 ⟨rfl, rfl⟩))
    go_ret
    exact ⟨by rw [HF.out]; rfl, HB2.out⟩
  cases yr
  · have hfin : fieldsE f l.len = 1 := by simp [fieldsE, hk, kidsOf, h1, h0, hyo, hyr]
    have HF := Lib.hid hfin; clear hfin hyo hyr
    go_wp2_with (first | ((with_reducible refine (between_calls f.offset (-1125899906842624) 1125899906842624 _ HOf.out _).mono ?_); rintro e w9 ⟨rfl, rfl⟩) | ((with_reducible refine (between_calls f.range 1 1125899906842624 _ HRa.out _).mono ?_); rintro e w9 ⟨rfl, rfl⟩))
    go_ret
    exact ⟨by rw [HF.out]; rfl, HB2.out⟩
  obtain ⟨y, hy⟩ : ∃ y, inB f.fn 1 (mostFn 4) = y := ⟨_, rfl⟩
  have HFn := Lib.hid hy
  cases y
  · have hfin : fieldsE f l.len = 1 := by simp [fieldsE, hk, kidsOf, h1, h0, hyo, hyr, hy]
    have HF := Lib.hid hfin; clear hfin hyo hyr hy
    go_wp2_with (first | ((with_reducible refine (between_calls f.offset (-1125899906842624) 1125899906842624 _ HOf.out _).mono ?_); rintro e w9 ⟨rfl, rfl⟩) | ((with_reducible refine (between_calls f.range 1 1125899906842624 _ HRa.out _).mono ?_); rintro e w9 ⟨rfl, rfl⟩))
    go_quiet (first | (go_at_call 66; refine quiet_eq (functions_calls 4 _)) | (go_at_call 34; refine quiet_eq (between_calls f.fn 1 (mostFn 4) _ HFn.out _)))
    go_wp2_with fail
    go_ret
    exact ⟨by rw [HF.out]; rfl, below_drewN HB2.out nq⟩
  have hfin : fieldsE f l.len = 0 := by simp [fieldsE, hk, kidsOf, h1, h0, hyo, hyr, hy]
  have HF := Lib.hid hfin; clear hfin hyo hyr hy
  go_wp2_with (first | ((with_reducible refine (between_calls f.offset (-1125899906842624) 1125899906842624 _ HOf.out _).mono ?_); rintro e w9 ⟨rfl, rfl⟩) | ((with_reducible refine (between_calls f.range 1 1125899906842624 _ HRa.out _).mono ?_); rintro e w9 ⟨rfl, rfl⟩))
  go_quiet (first | (go_at_call 66; refine quiet_eq (functions_calls 4 _)) | (go_at_call 34; refine quiet_eq (between_calls f.fn 1 (mostFn 4) _ HFn.out _)))
  go_wp2_with fail
  go_ret
  exact ⟨by rw [HF.out]; rfl, below_drewN HB2.out nq⟩
end Go.Proofs.YtnbgigdloehbjaaGreatDoor.Ir
namespace Go.Proofs.YtnbgigdloehbjaaGreatDoor.Ir
open Go Go.RowKit Go.Proofs.YtnbgigdloehbjaaGreatDoor.Rg Go.Proofs.YtnbgigdloehbjaaGreatDoor.Ma
set_option maxHeartbeats 8000000
set_option maxRecDepth 100000

theorem fields_3 (f : Fd) (l : Kd) (cs : List Value) (W : World) (hk : f.kind = 3) (_hll : l.len ≤ 100000) (hS : Sml f) (hH : (Nd.mk f l).Held W Any cs) :
    Calls Tryz.prog 37 #[.agg cs.toArray] W (RetB (.int .i64 (fieldsE f l.len : Nat)) W) := by
  obtain ⟨vM, vG, vX, vI, ao, cap, ls, hcs, hf, hl, hK⟩ := hH.open
  have hl17 := hH.length
  have k0 : cs[0]? = some (.int .i64 3) := by rw [hcs, ← hk]; rfl
  have k2 : cs[2]? = some (.int .i64 f.fn) := by rw [hcs]; rfl
  have k16 : cs[16]? = some (.slice ao l.len cap) := by rw [hcs]; rfl
  have k3 : cs[3]? = some (vM) := by rw [hcs]; rfl
  have k6 : cs[6]? = some (.int .i64 f.offset) := by rw [hcs]; rfl
  have HO := Lib.hid (of_calls 3 f.fn cs k0 k2 (W.alloc (.cells cs.toArray 31)))
  have HFl := Lib.hid hf
  have HS := Lib.hid hS
  clear hH hf hl hK hcs hS
  have eV : hasV 3 f.fn = [.bool false, .bool false, .bool true, .bool false, .bool false, .bool true, .bool false, .bool false, .bool false, .int .i64 0] := by rfl
  have eK : isK 3 = true := rfl
  rw [eV, eK] at HO
  clear eV eK
  go_enter Tryz.func37, Tryz.ntmps37
  go_wp2_with (with_reducible refine wpList_loadNd rfl _ rfl W.heap.size 0 rfl cs (range_blk (blk_new W _)) hl17 ?_)
  (with_reducible refine HO.out.mono ?_)
  rintro e W1 ⟨rfl, hb1⟩
  have hs2 : W.heap.size < W1.heap.size := by have := hb1.size; simp at this; omega
  have n0 := box_far (o := .cells #[.bool false, .bool false, .bool true, .bool false, .bool false, .bool true, .bool false, .bool false, .bool false, .int .i64 0] 60) hb1 0 k0
  have n16 := box_far (o := .cells #[.bool false, .bool false, .bool true, .bool false, .bool false, .bool true, .bool false, .bool false, .bool false, .int .i64 0] 60) hb1 16 k16
  have n3 := box_far (o := .cells #[.bool false, .bool false, .bool true, .bool false, .bool false, .bool true, .bool false, .bool false, .bool false, .int .i64 0] 60) hb1 3 k3
  have n6 := box_far (o := .cells #[.bool false, .bool false, .bool true, .bool false, .bool false, .bool true, .bool false, .bool false, .bool false, .int .i64 0] 60) hb1 6 k6
  have HB1 := Lib.hid (after1 (Below.refl _ _) hb1)
  have hs1 := HB1.out.size
  clear hb1
  by_cases h1 : l.len ≠ 0
  · have hfin : fieldsE f l.len = 1 := by rw [fieldsE, if_pos]; rw [hk]; simp [kidsOf]; omega
    have HF := Lib.hid hfin; clear hfin
    have q : ((l.len : Int) == 0) = false := by rw [beq_eq_false_iff_ne]; omega
    go_wp2_with fail
    go_ret
    exact ⟨by rw [HF.out]; rfl, HB1.out.alloc hs1 _⟩
  replace h1 : l.len = 0 := by omega
  have q : ((l.len : Int) == 0) = true := by rw [h1]; rfl
  obtain ⟨_, aM, capM, rfl, _⟩ := id HFl.out.m
  have hbh := HB1.out.alloc hs1 (.cells #[.bool false, .bool false, .bool true, .bool false, .bool false, .bool true, .bool false, .bool false, .bool false, .int .i64 0] 60)
  have HBh := Lib.hid hbh; clear hbh
  have HMC := Lib.hid (check_calls _ f.m _ (rowM_of (HFl.out.m.keep (by decide) (Keeps.below HBh.out))) HS.out.m HS.out.ms)
  go_wp2_with fail
  (with_reducible refine HMC.out.mono ?_)
  rintro e W2 ⟨rfl, hb2⟩
  have HB2 := Lib.hid (HBh.out.trans (hb2.mono HBh.out.size))
  replace n6 := (hb2.cell (p := ⟨W.heap.size, 6, none⟩) (by simp; omega)).trans n6
  have g0 : W2.cell? ⟨W1.heap.size, 0, none⟩ = some (.bool false) := (hb2.cell (p := ⟨W1.heap.size, 0, none⟩) (by simp)).trans (blk_cell (blk_new W1 _) 0)
  have g1 : W2.cell? ⟨W1.heap.size, 1, none⟩ = some (.bool false) := (hb2.cell (p := ⟨W1.heap.size, 1, none⟩) (by simp)).trans (blk_cell (blk_new W1 _) 1)
  have g3 : W2.cell? ⟨W1.heap.size, 3, none⟩ = some (.bool false) := (hb2.cell (p := ⟨W1.heap.size, 3, none⟩) (by simp)).trans (blk_cell (blk_new W1 _) 3)
  have g4 : W2.cell? ⟨W1.heap.size, 4, none⟩ = some (.bool false) := (hb2.cell (p := ⟨W1.heap.size, 4, none⟩) (by simp)).trans (blk_cell (blk_new W1 _) 4)
  have g5 : W2.cell? ⟨W1.heap.size, 5, none⟩ = some (.bool true) := (hb2.cell (p := ⟨W1.heap.size, 5, none⟩) (by simp)).trans (blk_cell (blk_new W1 _) 5)
  have g6 : W2.cell? ⟨W1.heap.size, 6, none⟩ = some (.bool false) := (hb2.cell (p := ⟨W1.heap.size, 6, none⟩) (by simp)).trans (blk_cell (blk_new W1 _) 6)
  have g7 : W2.cell? ⟨W1.heap.size, 7, none⟩ = some (.bool false) := (hb2.cell (p := ⟨W1.heap.size, 7, none⟩) (by simp)).trans (blk_cell (blk_new W1 _) 7)
  have g8 : W2.cell? ⟨W1.heap.size, 8, none⟩ = some (.bool false) := (hb2.cell (p := ⟨W1.heap.size, 8, none⟩) (by simp)).trans (blk_cell (blk_new W1 _) 8)
  have g9 : W2.cell? ⟨W1.heap.size, 9, none⟩ = some (.int .i64 0) := (hb2.cell (p := ⟨W1.heap.size, 9, none⟩) (by simp)).trans (blk_cell (blk_new W1 _) 9)
  clear hb2 HMC
  by_cases h0 : errM f.m ≠ 0
  · have hfin : fieldsE f l.len = errM f.m := by simp [fieldsE, hk, kidsOf, h1, h0]
    have HF := Lib.hid hfin; clear hfin
    have hne : ((errM f.m : Int) != 0) = true := by rw [bne_iff_ne]; omega
    clear h0
    go_wp2_with fail
    go_ret
    exact ⟨by rw [HF.out]; rfl, HB2.out⟩
  replace h0 : errM f.m = 0 := by omega
  rw [h0]
  obtain ⟨yo, hyo⟩ : ∃ z, inB f.offset (-1125899906842624) 1125899906842624 = z := ⟨_, rfl⟩
  have HOf := Lib.hid hyo
  cases yo
  · have hfin : fieldsE f l.len = 1 := by simp [fieldsE, hk, kidsOf, h1, h0, hyo]
    have HF := Lib.hid hfin; clear hfin hyo
    go_wp2_with (first | ((with_reducible refine (between_calls f.offset (-1125899906842624) 1125899906842624 _ HOf.out _).mono ?_); rintro e w9 ⟨rfl, rfl⟩))
    go_ret
    exact ⟨by rw [HF.out]; rfl, HB2.out⟩
  have hfin : fieldsE f l.len = 0 := by simp [fieldsE, hk, kidsOf, h1, h0, hyo]
  have HF := Lib.hid hfin; clear hfin hyo
  go_wp2_with (first | ((with_reducible refine (between_calls f.offset (-1125899906842624) 1125899906842624 _ HOf.out _).mono ?_); rintro e w9 ⟨rfl, rfl⟩))
  go_quiet (fail)
  go_wp2_with (first | ((with_reducible refine (between_calls f.offset (-1125899906842624) 1125899906842624 _ HOf.out _).mono ?_); rintro e w9 ⟨rfl, rfl⟩))
  go_ret
  exact ⟨by rw [HF.out]; rfl, below_drewN (HB2.out) nq⟩
end Go.Proofs.YtnbgigdloehbjaaGreatDoor.Ir
namespace Go.Proofs.YtnbgigdloehbjaaGreatDoor.Ir
open Go Go.RowKit Go.Proofs.YtnbgigdloehbjaaGreatDoor.Rg Go.Proofs.YtnbgigdloehbjaaGreatDoor.Ma
set_option maxHeartbeats 8000000
set_option maxRecDepth 100000

theorem fields_12 (f : Fd) (l : Kd) (cs : List Value) (W : World) (hk : f.kind = 12) (_hll : l.len ≤ 100000) (hS : Sml f) (hH : (Nd.mk f l).Held W Any cs) :
    Calls Tryz.prog 37 #[.agg cs.toArray] W (RetB (.int .i64 (fieldsE f l.len : Nat)) W) := by
  obtain ⟨vM, vG, vX, vI, ao, cap, ls, hcs, hf, hl, hK⟩ := hH.open
  have hl17 := hH.length
  have k0 : cs[0]? = some (.int .i64 12) := by rw [hcs, ← hk]; rfl
  have k2 : cs[2]? = some (.int .i64 f.fn) := by rw [hcs]; rfl
  have k16 : cs[16]? = some (.slice ao l.len cap) := by rw [hcs]; rfl
  have k3 : cs[3]? = some (vM) := by rw [hcs]; rfl
  have HO := Lib.hid (of_calls 12 f.fn cs k0 k2 (W.alloc (.cells cs.toArray 31)))
  have HFl := Lib.hid hf
  have HS := Lib.hid hS
  clear hH hf hl hK hcs hS
  have eV : hasV 12 f.fn = [.bool false, .bool false, .bool true, .bool false, .bool false, .bool false, .bool false, .bool false, .bool false, .int .i64 1] := by rfl
  have eK : isK 12 = true := rfl
  rw [eV, eK] at HO
  clear eV eK
  go_enter Tryz.func37, Tryz.ntmps37
  go_wp2_with (with_reducible refine wpList_loadNd rfl _ rfl W.heap.size 0 rfl cs (range_blk (blk_new W _)) hl17 ?_)
  (with_reducible refine HO.out.mono ?_)
  rintro e W1 ⟨rfl, hb1⟩
  have hs2 : W.heap.size < W1.heap.size := by have := hb1.size; simp at this; omega
  have n0 := box_far (o := .cells #[.bool false, .bool false, .bool true, .bool false, .bool false, .bool false, .bool false, .bool false, .bool false, .int .i64 1] 60) hb1 0 k0
  have n16 := box_far (o := .cells #[.bool false, .bool false, .bool true, .bool false, .bool false, .bool false, .bool false, .bool false, .bool false, .int .i64 1] 60) hb1 16 k16
  have n3 := box_far (o := .cells #[.bool false, .bool false, .bool true, .bool false, .bool false, .bool false, .bool false, .bool false, .bool false, .int .i64 1] 60) hb1 3 k3
  have HB1 := Lib.hid (after1 (Below.refl _ _) hb1)
  have hs1 := HB1.out.size
  clear hb1
  by_cases h1 : l.len ≠ 1
  · have hfin : fieldsE f l.len = 1 := by rw [fieldsE, if_pos]; rw [hk]; simp [kidsOf]; omega
    have HF := Lib.hid hfin; clear hfin
    have q : ((l.len : Int) == 1) = false := by rw [beq_eq_false_iff_ne]; omega
    go_wp2_with fail
    go_ret
    exact ⟨by rw [HF.out]; rfl, HB1.out.alloc hs1 _⟩
  replace h1 : l.len = 1 := by omega
  have q : ((l.len : Int) == 1) = true := by rw [h1]; rfl
  obtain ⟨_, aM, capM, rfl, _⟩ := id HFl.out.m
  have hbh := HB1.out.alloc hs1 (.cells #[.bool false, .bool false, .bool true, .bool false, .bool false, .bool false, .bool false, .bool false, .bool false, .int .i64 1] 60)
  have HBh := Lib.hid hbh; clear hbh
  have HMC := Lib.hid (check_calls _ f.m _ (rowM_of (HFl.out.m.keep (by decide) (Keeps.below HBh.out))) HS.out.m HS.out.ms)
  go_wp2_with fail
  (with_reducible refine HMC.out.mono ?_)
  rintro e W2 ⟨rfl, hb2⟩
  have HB2 := Lib.hid (HBh.out.trans (hb2.mono HBh.out.size))
  have g0 : W2.cell? ⟨W1.heap.size, 0, none⟩ = some (.bool false) := (hb2.cell (p := ⟨W1.heap.size, 0, none⟩) (by simp)).trans (blk_cell (blk_new W1 _) 0)
  have g1 : W2.cell? ⟨W1.heap.size, 1, none⟩ = some (.bool false) := (hb2.cell (p := ⟨W1.heap.size, 1, none⟩) (by simp)).trans (blk_cell (blk_new W1 _) 1)
  have g3 : W2.cell? ⟨W1.heap.size, 3, none⟩ = some (.bool false) := (hb2.cell (p := ⟨W1.heap.size, 3, none⟩) (by simp)).trans (blk_cell (blk_new W1 _) 3)
  have g4 : W2.cell? ⟨W1.heap.size, 4, none⟩ = some (.bool false) := (hb2.cell (p := ⟨W1.heap.size, 4, none⟩) (by simp)).trans (blk_cell (blk_new W1 _) 4)
  have g5 : W2.cell? ⟨W1.heap.size, 5, none⟩ = some (.bool false) := (hb2.cell (p := ⟨W1.heap.size, 5, none⟩) (by simp)).trans (blk_cell (blk_new W1 _) 5)
  have g6 : W2.cell? ⟨W1.heap.size, 6, none⟩ = some (.bool false) := (hb2.cell (p := ⟨W1.heap.size, 6, none⟩) (by simp)).trans (blk_cell (blk_new W1 _) 6)
  have g7 : W2.cell? ⟨W1.heap.size, 7, none⟩ = some (.bool false) := (hb2.cell (p := ⟨W1.heap.size, 7, none⟩) (by simp)).trans (blk_cell (blk_new W1 _) 7)
  have g8 : W2.cell? ⟨W1.heap.size, 8, none⟩ = some (.bool false) := (hb2.cell (p := ⟨W1.heap.size, 8, none⟩) (by simp)).trans (blk_cell (blk_new W1 _) 8)
  have g9 : W2.cell? ⟨W1.heap.size, 9, none⟩ = some (.int .i64 1) := (hb2.cell (p := ⟨W1.heap.size, 9, none⟩) (by simp)).trans (blk_cell (blk_new W1 _) 9)
  clear hb2 HMC
  by_cases h0 : errM f.m ≠ 0
  · have hfin : fieldsE f l.len = errM f.m := by simp [fieldsE, hk, kidsOf, h1, h0]
    have HF := Lib.hid hfin; clear hfin
    have hne : ((errM f.m : Int) != 0) = true := by rw [bne_iff_ne]; omega
    clear h0
    go_wp2_with fail
    go_ret
    exact ⟨by rw [HF.out]; rfl, HB2.out⟩
  replace h0 : errM f.m = 0 := by omega
  rw [h0]
  have hfin : fieldsE f l.len = 0 := by simp [fieldsE, hk, kidsOf, h1, h0]
  have HF := Lib.hid hfin; clear hfin
  go_wp2_with fail
  go_quiet (fail)
  go_wp2_with fail
  go_ret
  exact ⟨by rw [HF.out]; rfl, below_drewN (HB2.out) nq⟩
end Go.Proofs.YtnbgigdloehbjaaGreatDoor.Ir
namespace Go.Proofs.YtnbgigdloehbjaaGreatDoor.Ir
open Go Go.RowKit Go.Proofs.YtnbgigdloehbjaaGreatDoor.Rg Go.Proofs.YtnbgigdloehbjaaGreatDoor.Ma
set_option maxHeartbeats 8000000
set_option maxRecDepth 100000

theorem fields_no (f : Fd) (l : Kd) (cs : List Value) (W : World) (hk : isK f.kind = false) (hll : l.len ≤ 100000) (hH : (Nd.mk f l).Held W Any cs) :
    Calls Tryz.prog 37 #[.agg cs.toArray] W (RetB (.int .i64 (fieldsE f l.len : Nat)) W) := by
  obtain ⟨vM, vG, vX, vI, ao, cap, ls, hcs, hf, hl, hK⟩ := hH.open
  have hl17 := hH.length
  have k0 : cs[0]? = some (.int .i64 f.kind) := by rw [hcs]; rfl
  have k2 : cs[2]? = some (.int .i64 f.fn) := by rw [hcs]; rfl
  have HO := Lib.hid (of_calls f.kind f.fn cs k0 k2 (W.alloc (.cells cs.toArray 31)))
  have hfin : fieldsE f l.len = 1 := by
    have hk2 := hk
    simp only [isK, decide_eq_false_iff_not] at hk2
    have : kidsOf f.kind = -1 := by
      unfold kidsOf
      rw [if_neg (by omega), if_neg (by omega), if_neg (by omega)]
    rw [fieldsE, if_pos]; rw [this]; omega
  have HF := Lib.hid hfin; clear hfin
  clear hH hf hl hK hcs
  obtain ⟨b0, b1, b2, b3, b4, b5, b6, b7, b8, i9, hv⟩ : ∃ (b0 b1 b2 b3 b4 b5 b6 b7 b8 : Bool) (i9 : Int), hasV f.kind f.fn = [.bool b0, .bool b1, .bool b2, .bool b3, .bool b4, .bool b5, .bool b6, .bool b7, .bool b8, .int .i64 i9] := ⟨_, _, _, _, _, _, _, _, _, _, rfl⟩
  rw [hv, hk] at HO
  clear hv
  go_enter Tryz.func37, Tryz.ntmps37
  go_wp2_with (with_reducible refine wpList_loadNd rfl _ rfl W.heap.size 0 rfl cs (range_blk (blk_new W _)) hl17 ?_)
  (with_reducible refine HO.out.mono ?_)
  rintro e W1 ⟨rfl, hb1⟩
  have HB1 := Lib.hid (after1 (Below.refl _ _) hb1)
  have hs1 := HB1.out.size
  clear hb1
  go_wp2_with fail
  go_ret
  exact ⟨by rw [HF.out]; rfl, HB1.out.alloc hs1 _⟩
end Go.Proofs.YtnbgigdloehbjaaGreatDoor.Ir
