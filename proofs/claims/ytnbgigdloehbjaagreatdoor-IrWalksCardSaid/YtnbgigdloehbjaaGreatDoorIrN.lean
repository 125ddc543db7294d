/-
  A node's type by its kids' (ir.typed).
-/
import Derived.Test.YtnbgigdloehbjaaGreatDoorIrK
import Derived.StillTailTactics
namespace Go.Proofs.YtnbgigdloehbjaaGreatDoor.Ir
open Go Go.RowKit Go.Proofs.YtnbgigdloehbjaaGreatDoor.Rg Go.Proofs.YtnbgigdloehbjaaGreatDoor.Ma
set_option maxHeartbeats 8000000
set_option maxRecDepth 100000

def ivals (ks : List Nat) : List Value := ks.map fun (v : Nat) => .int .i64 (v : Int)
theorem ivals_length (ks : List Nat) : (ivals ks).length = ks.length := by simp [ivals]
theorem own_below {W W1 : World} {base e size n : Nat} {v : Value} {xs : List Value} (h : W.ownsRow base e size v n xs) (hb : Below W.heap.size W W1) : W1.ownsRow base e size v n xs := by
  refine ⟨h.1, ?_⟩
  rcases h.2 with hn | ⟨g, cap, cur, hv, hg, hh, hr⟩
  · exact .inl hn
  · exact .inr ⟨g, cap, cur, hv, hg, (hb.block g (blk_lt hh)).trans hh, hr⟩
theorem row_own {W : World} {base e size n : Nat} {v : Value} {xs : List Value} (h : W.ownsRow base e size v n xs) : Row W Any v n size xs := by
  refine ⟨h.1, ?_⟩
  obtain ⟨ao, cap, rfl⟩ := own_any h
  refine ⟨ao, cap, rfl, fun h0 => ?_⟩
  rcases h.2 with ⟨_, hn⟩ | ⟨g, cap, cur, hv, hg, hh, hr⟩
  · omega
  · simp only [Value.slice.injEq, true_and] at hv
    obtain ⟨rfl, rfl⟩ := hv
    exact ⟨g, 0, trivial, rfl, fun j u hu => by
      have := h.cells (g := g) rfl j u hu
      rwa [Addr.add_mid] at this⟩
/-- The first of a row of numbers. -/
theorem kid0 {W : World} {v : Value} {ks : List Nat} (h : Row W Any v ks.length 1 (ivals ks)) (h0 : 0 < ks.length) :
    ∃ b o cap, v = .slice (some ⟨b, o, none⟩) ks.length cap ∧ W.cell? ⟨b, o, none⟩ = some (.int .i64 (ks.getD 0 0 : Nat)) ∧ (1 < ks.length → W.cell? ⟨b, o + 1, none⟩ = some (.int .i64 (ks.getD 1 0 : Nat))) ∧ b < W.heap.size := by
  obtain ⟨_, ao, cap, rfl, hc⟩ := h
  obtain ⟨b, o, _, rfl, hr⟩ := hc h0
  have e0 := hr 0 (.int .i64 (ks.getD 0 0 : Nat)) (by simp [ivals, List.getD_eq_getElem?_getD, List.getElem?_eq_getElem h0])
  exact ⟨b, o, cap, rfl, e0, fun h1 => hr 1 _ (by simp [ivals, List.getD_eq_getElem?_getD, List.getElem?_eq_getElem h1]), World.block_lt_of_cell? W _ e0⟩
theorem typed_calls (f : Fd) (l : Kd) (cs : List Value) (kv : Value) (ks : List Nat) (W : World) (hks : kidsOf f.kind = (ks.length : Int)) (hty : ∀ v ∈ ks, v = 1 ∨ v = 2) (hH : (Nd.mk f l).Held W Any cs)
    (hxl : f.xn.length ≤ 100000) (hil : f.incl.length ≤ 100000) (hR : Row W Any kv ks.length 1 (ivals ks)) :
    Calls Tryz.prog 38 #[.agg cs.toArray, kv] W (RetB (.int .i64 (typT f ks : Nat)) W) := by
  obtain ⟨vM, vG, vX, vI, ao, cap, ls, hcs, hf, hl, hK⟩ := hH.open
  have k0 : cs[0]? = some (.int .i64 f.kind) := by rw [hcs]; rfl
  have hg : ∀ i, i < ks.length → ks.getD i 0 = 1 ∨ ks.getD i 0 = 2 := fun i hi => by
    have : ks.getD i 0 = ks[i] := by simp [List.getD_eq_getElem?_getD, hi]
    rw [this]; exact hty _ (List.getElem_mem hi)
  have hb0 : Below W.heap.size W (W.alloc (.cells cs.toArray 31)) := (Below.refl _ _).alloc (Nat.le_refl _) _
  have HB0 := Lib.hid hb0; clear hb0
  by_cases e1 : f.kind = 1 ∨ f.kind = 2
  · have hfin : typT f ks = 1 := by rw [typT, if_pos e1]
    have HF := Lib.hid hfin; clear hfin hH hf hl hK hcs hks hR hg hty
    rcases e1 with e | e
    all_goals
      rw [e] at k0
      go_enter Tryz.func38, Tryz.ntmps38
      go_wp2_with fail
      go_ret
      exact ⟨by rw [HF.out]; rfl, HB0.out⟩
  by_cases e3 : f.kind = 3 ∨ f.kind = 4 ∨ f.kind = 5 ∨ f.kind = 13
  · have hfin : typT f ks = 2 := by
      rw [typT, if_neg e1]
      rcases e3 with e | e | e | e <;> simp [e]
    have HF := Lib.hid hfin; clear hfin hH hf hl hK hcs hks hR hg hty e1
    rcases e3 with e | e | e | e
    all_goals
      rw [e] at k0
      go_enter Tryz.func38, Tryz.ntmps38
      go_wp2_with fail
      go_ret
      exact ⟨by rw [HF.out]; rfl, HB0.out⟩
  have h0 : 0 < ks.length := by
    unfold kidsOf at hks
    rw [if_neg (by omega)] at hks
    repeat' split at hks
    all_goals omega
  obtain ⟨b, o, kcap, rfl, c0, c1, hlt⟩ := kid0 hR h0
  have hg0 := hg 0 h0
  have d0 : (W.alloc (.cells cs.toArray 31)).cell? ⟨b, o, none⟩ = some (.int .i64 (ks.getD 0 0 : Nat)) := (HB0.out.cell (p := ⟨b, o, none⟩) hlt).trans c0
  by_cases e7 : f.kind = 7
  · have hn : ks.length = 2 := by unfold kidsOf at hks; simp [e7] at hks; omega
    have hg1 := hg 1 (by omega)
    have d1 : (W.alloc (.cells cs.toArray 31)).cell? ⟨b, o + 1, none⟩ = some (.int .i64 (ks.getD 1 0 : Nat)) := (HB0.out.cell (p := ⟨b, o + 1, none⟩) hlt).trans (c1 (by omega))
    obtain ⟨_, ax, capx, rfl, _⟩ := id hf.x
    obtain ⟨_, ai, capi, rfl, _⟩ := id hf.i
    have k2 : cs[2]? = some (.int .i64 f.fn) := by rw [hcs]; rfl
    have k9 : cs[9]? = some (.int .i64 f.xhow) := by rw [hcs]; rfl
    have k10 : cs[10]? = some (.slice ax f.xn.length capx) := by rw [hcs]; rfl
    have k11 : cs[11]? = some (.int .i64 f.card) := by rw [hcs]; rfl
    have k12 : cs[12]? = some (.slice ai f.incl.length capi) := by rw [hcs]; rfl
    have k13 : cs[13]? = some (.bool f.flag) := by rw [hcs]; rfl
    have hfin : typT f ks = pairT f (ks.getD 0 0) (ks.getD 1 0) := by simp [typT, e7]
    rw [hfin]
    rw [e7] at k0
    have hpc := fun W => pair_calls f ax ai capx capi hxl hil (ks.getD 0 0) (ks.getD 1 0) hg0 hg1 W
    obtain ⟨A, hA⟩ : ∃ A, A = ks.getD 0 0 := ⟨_, rfl⟩
    obtain ⟨B, hB⟩ : ∃ B, B = ks.getD 1 0 := ⟨_, rfl⟩
    rw [← hA] at d0 hg0 hpc ⊢
    rw [← hB] at d1 hg1 hpc ⊢
    have HP := Lib.hid hpc
    clear hpc hfin hH hf hl hK hcs hks hR hg hty e1 e3 c0 c1 hA hB
    rw [hn]
    go_enter Tryz.func38, Tryz.ntmps38
    go_wp2_with fail
    refine wp_region_still_tail 12 (by kernel_rfl) (by kernel_rfl) ?_
    obtain ⟨w3, hw3⟩ : ∃ w3 : World, w3 = (W.alloc (.cells cs.toArray 31)).drew := ⟨_, rfl⟩
    have m0 : w3.cell? ⟨b, o, none⟩ = some (.int .i64 (A : Int)) := by rw [hw3]; exact d0
    have m1 : w3.cell? ⟨b, o + 1, none⟩ = some (.int .i64 (B : Int)) := by rw [hw3]; exact d1
    have n2 : w3.cell? ⟨W.heap.size, 2, none⟩ = some (.int .i64 f.fn) := by rw [hw3]; exact box_cell 2 k2
    have n9 : w3.cell? ⟨W.heap.size, 9, none⟩ = some (.int .i64 f.xhow) := by rw [hw3]; exact box_cell 9 k9
    have n10 : w3.cell? ⟨W.heap.size, 10, none⟩ = some (.slice ax f.xn.length capx) := by rw [hw3]; exact box_cell 10 k10
    have n11 : w3.cell? ⟨W.heap.size, 11, none⟩ = some (.int .i64 f.card) := by rw [hw3]; exact box_cell 11 k11
    have n12 : w3.cell? ⟨W.heap.size, 12, none⟩ = some (.slice ai f.incl.length capi) := by rw [hw3]; exact box_cell 12 k12
    have n13 : w3.cell? ⟨W.heap.size, 13, none⟩ = some (.bool f.flag) := by rw [hw3]; exact box_cell 13 k13
    have hb3 : Below W.heap.size W w3 := by rw [hw3]; exact HB0.out.drew
    have HB3 := Lib.hid hb3; clear hb3
    rw [show ({ (W.alloc (.cells cs.toArray 31)) with drawn := (W.alloc (.cells cs.toArray 31)).drawn + 1 } : World) = w3 from hw3.symm]
    clear hw3 d0 d1 k0 k2 k9 k10 k11 k12 k13
    simp only [List.take_succ_cons, List.take_zero, List.drop_succ_cons, List.drop_zero]
    still_step
    still_step
    still_step
    still_step
    still_step
    still_step
    still_step
    still_step
    still_step
    still_step
    still_step
    still_step
    refine wpStill_nil ?_
    go_wp2_with fail
    (with_reducible refine (HP.out _).mono ?_)
    rintro e W1 ⟨rfl, hb1⟩
    have HB1 := Lib.hid (HB3.out.trans (hb1.mono HB3.out.size)); clear hb1
    go_wp2_with fail
    go_ret
    exact ⟨rfl, HB1.out⟩
  have hn : ks.length = 1 := by
    unfold kidsOf at hks
    rw [if_neg (by omega)] at hks
    repeat' split at hks
    all_goals omega
  obtain ⟨A, hA⟩ : ∃ A, A = ks.getD 0 0 := ⟨_, rfl⟩
  have hk6 : f.kind = 6 ∨ f.kind = 8 ∨ f.kind = 9 ∨ f.kind = 10 ∨ f.kind = 11 ∨ f.kind = 12 := by
    unfold kidsOf at hks
    rw [if_neg (by omega)] at hks
    repeat' split at hks
    all_goals omega
  have hfin : typT f ks = (if f.kind = 6 then A else if f.kind = 9 then (if A = 2 then 1 else 0) else if f.kind = 10 then (if A = 1 then 2 else 0) else (if A = 2 then 2 else 0)) := by
    rw [hA, typT, if_neg e1]
    rcases hk6 with e | e | e | e | e | e <;> simp [e]
  rw [hfin]
  rw [← hA] at d0 hg0
  clear hfin hH hf hl hK hcs hks hR hg hty e1 e3 c0 c1 hA
  rw [hn]
  rcases hk6 with e | e | e | e | e | e
  all_goals
    rw [e] at k0 ⊢
    clear e e7
    rcases hg0 with rfl | rfl
  all_goals
    go_enter Tryz.func38, Tryz.ntmps38
    go_wp2_with fail
    go_ret
    exact ⟨rfl, HB0.out⟩
end Go.Proofs.YtnbgigdloehbjaaGreatDoor.Ir
