/-
  Plans: whether Subs one in another ask for too much (package ir).
-/
import Derived.Test.YtnbgigdloehbjaaGreatDoorIrB
import Derived.StillTailTactics
import Derived.IntWalk
namespace Go.Proofs.YtnbgigdloehbjaaGreatDoor.Ir
open Go Go.RowKit Go.Proofs.YtnbgigdloehbjaaGreatDoor.Rg Go.Proofs.YtnbgigdloehbjaaGreatDoor.Ma
set_option maxHeartbeats 4000000
set_option maxRecDepth 100000

/-- What subs says of every plan of at most so many nodes. -/
abbrev SubsC (N : Nat) : Prop := ∀ (n : Nd), n.tot ≤ N → N ≤ 100000 → ∀ (W : World) (cs : List Value) (p : Nat), 1 ≤ p → p ≤ 4096 → n.Held W Any cs →
    Calls Tryz.prog 16 #[.agg cs.toArray, .int .i64 (p : Int)] W (RetB (.bool (decide (4096 < p * n.prod))) W)
theorem inner_calls {N : Nat} (ih : SubsC N) (hN : N ≤ 100000) (n : Nd) (hn : n.tot ≤ N) (W : World) (c : List Value) (g p : Nat) (hp1 : 1 ≤ p) (hp2 : p ≤ 4096)
    (hH : n.Held W Any c) (hg : W.cell? ⟨g, 0, none⟩ = some (.int .i64 (p : Int))) (hgl : g < W.heap.size) :
    Calls Tryz.prog 36 #[.agg c.toArray, .pointer (some ⟨g, 0, none⟩)] W (RetB (.bool (decide (4096 < p * n.prod))) W) := by
  have hl1 := hH.length
  have HIH := Lib.hid ih; clear ih
  have HH := Lib.hid hH; clear hH
  have hg2 : (W.alloc (.cells c.toArray 31)).cell? ⟨g, 0, none⟩ = some (.int .i64 (p : Int)) := (((Below.refl W.heap.size W).alloc (Nat.le_refl _) _).cell (p := ⟨g, 0, none⟩) hgl).trans hg
  clear hg
  go_enter Tryz.func36, Tryz.ntmps36
  go_wp2_with (with_reducible refine wpList_loadNd rfl _ rfl W.heap.size 0 rfl c (range_blk (blk_new W _)) hl1 ?_)
  (with_reducible refine (HIH.out n hn hN _ c p hp1 hp2 (HH.out.below ((Below.refl _ _).alloc (Nat.le_refl _) _))).mono ?_)
  rintro e W1 ⟨rfl, hb1⟩
  have HB1 := Lib.hid (after1 (Below.refl _ _) hb1); clear hb1
  go_wp2_with fail
  go_ret
  exact ⟨rfl, HB1.out⟩
theorem index_calls {N : Nat} (ih : SubsC N) (hN : N ≤ 100000) (l : Kd) (hlN : l.tot ≤ N) (W : World) (ao : Option Addr) (cap : Nat) (ls : List Value) (g p : Nat) (hp1 : 1 ≤ p) (hp2 : p ≤ 4096)
    (hl : l.Held W Any ls) (hK : Row W Any (.slice ao l.len cap) l.len 17 ls) (hg : W.cell? ⟨g, 0, none⟩ = some (.int .i64 (p : Int))) (hgl : g < W.heap.size) :
    Calls Tryz.prog 64 #[.slice ao l.len cap, .func (.func 36) #[] #[.pointer (some ⟨g, 0, none⟩)]] W
      (fun e W' => ∃ x : Int, e = .returned (.int .i64 x) ∧ (decide (0 ≤ x)) = decide (4096 < p * l.prod) ∧ Below W.heap.size W W') := by
  have hlen := l.len_tot
  have HIH := Lib.hid ih; clear ih
  have HL := Lib.hid hl; have HK := Lib.hid hK; clear hl hK
  have HG := Lib.hid hg; clear hg
  go_enter Tryz.func64, Tryz.ntmps64
  go_wp2_with fail
  go_loopw [8] (fun i wr => ∃ k : Nat, k ≤ l.len ∧ i = .int .i64 (k : Int) ∧ p * (l.pre k).prod ≤ 4096 ∧ Below W.heap.size W wr) (fun i _ => l.len - (intOf i).toNat)
  case atStart => exact ⟨0, Nat.zero_le _, rfl, by rw [Kd.pre_zero, Kd.prod]; omega, Below.refl _ _⟩
  case round =>
    obtain ⟨k, hk, rfl, hpk, hbel⟩ := hrel
    by_cases hkl : k < l.len
    · obtain ⟨b, o, ha, n1, c, hn1, hat, hH1⟩ := kid_at (HL.out.keep (Keeps.below hbel)) (HK.out.keep (by decide) (Keeps.below hbel)) hkl
      subst ha
      have hps := l.pre_succ k _ hn1
      have ht1 := Kd.tot_kid hn1
      have hl1 := hH1.length
      have HOne := Lib.hid hH1.one
      have HAt := Lib.hid hat
      have HN1 := Lib.hid hn1; clear hn1
      have HH1 := Lib.hid hH1; clear hH1 hat
      have hgw : wr.cell? ⟨g, 0, none⟩ = some (.int .i64 (p : Int)) := (hbel.cell (p := ⟨g, 0, none⟩) hgl).trans HG.out
      have HBel := Lib.hid hbel; clear hbel
      have hwsz := HBel.out.size
      go_wp2_with (with_reducible refine wpList_loadNd rfl _ rfl b (o + k * 17) rfl c HAt.out hl1 ?_)
      (with_reducible refine (inner_calls HIH.out hN n1 (by omega) _ c g p hp1 hp2 HH1.out hgw (by omega)).mono ?_)
      rintro e W1 ⟨rfl, hb1⟩
      have hb2 : Below W.heap.size W W1 := HBel.out.trans (hb1.mono hwsz)
      have HB1 := Lib.hid hb2; clear hb1 hb2 hgw
      by_cases hd : 4096 < p * n1.prod
      · have hfin : 4096 < p * l.prod := Nat.lt_of_lt_of_le hd (Nat.mul_le_mul_left _ (by have := l.prod_pre (k + 1); rw [hps, Kd.prod] at this; omega))
        have HF := Lib.hid hfin; clear hfin hps hpk
        go_wp2_with fail
        go_ret
        exact ⟨_, rfl, by rw [decide_eq_decide]; exact ⟨fun _ => HF.out, fun _ => by omega⟩, HB1.out⟩
      · have hst : p * (l.pre (k + 1)).prod ≤ 4096 := by
          rw [hps, Kd.prod]
          rcases Nat.le_total (l.pre k).prod n1.prod with h | h
          · rw [Nat.max_eq_right h]; omega
          · rw [Nat.max_eq_left h]; omega
        have HSt := Lib.hid hst; clear hst hps hpk
        go_wp2_with fail
        go_roundw
        case rel => exact ⟨k + 1, by omega, by go_num, HSt.out, HB1.out⟩
        case measure => (simp [intOf] <;> omega)
    · have hz : l.pre k = l := l.pre_ge k (by omega)
      rw [hz] at hpk
      have HPk := Lib.hid hpk; clear hpk
      have HBel := Lib.hid hbel; clear hbel
      go_wp2_with fail
      go_ret
      exact ⟨_, rfl, by rw [decide_eq_decide]; exact ⟨fun h => absurd h (by decide), fun h => absurd h (by have := HPk.out; omega)⟩, HBel.out⟩
theorem contains_calls {N : Nat} (ih : SubsC N) (hN : N ≤ 100000) (l : Kd) (hlN : l.tot ≤ N) (W : World) (ao : Option Addr) (cap : Nat) (ls : List Value) (g p : Nat) (hp1 : 1 ≤ p) (hp2 : p ≤ 4096)
    (hl : l.Held W Any ls) (hK : Row W Any (.slice ao l.len cap) l.len 17 ls) (hg : W.cell? ⟨g, 0, none⟩ = some (.int .i64 (p : Int))) (hgl : g < W.heap.size) :
    Calls Tryz.prog 35 #[.slice ao l.len cap, .func (.func 36) #[] #[.pointer (some ⟨g, 0, none⟩)]] W (RetB (.bool (decide (4096 < p * l.prod))) W) := by
  have HC := Lib.hid (index_calls ih hN l hlN W ao cap ls g p hp1 hp2 hl hK hg hgl)
  clear ih hl hK hg
  go_enter Tryz.func35, Tryz.ntmps35
  go_wp2_with fail
  (with_reducible refine HC.out.mono ?_)
  rintro e W1 ⟨x, rfl, hx, hb1⟩
  have HX := Lib.hid hx; have HB1 := Lib.hid hb1; clear hx hb1
  go_wp2_with fail
  go_ret
  exact ⟨by rw [← HX.out]; rfl, HB1.out⟩
theorem between_calls (v lo hi : Int) (x : Bool) (hx : inB v lo hi = x) (W : World) : Calls Tryz.prog 34 #[.int .i64 v, .int .i64 lo, .int .i64 hi] W fun e W' => e = .returned (.bool x) ∧ W = W' := by
  subst hx
  by_cases h1 : lo ≤ v
  · have h2 : inB v lo hi = decide (v ≤ hi) := by simp [inB, h1]
    rw [h2]; clear h2
    go_enter Tryz.func34, Tryz.ntmps34
    go_wp2_with fail
    go_ret
    exact ⟨rfl, rfl⟩
  · have h2 : inB v lo hi = false := by simp [inB, h1]
    rw [h2]; clear h2
    go_enter Tryz.func34, Tryz.ntmps34
    go_wp2_with fail
    go_ret
    exact ⟨rfl, rfl⟩
theorem wrap_mul {p q r : Nat} (hq : q ≤ 1125899906842624) (hr : r ≤ 4096) (h : r = p * (q + 1)) : IntKind.i64.wrap ((p : Int) * IntKind.i64.wrap (IntKind.i64.wrap (q : Int) + 1)) = (r : Int) := by
  have e : (p : Int) * ((q : Int) + 1) = (r : Int) := by rw [h, Int.natCast_mul]; rfl
  have e1 : IntKind.i64.wrap (q : Int) = (q : Int) := IntWalk.i64_in _ (by omega)
  have e2 : IntKind.i64.wrap ((q : Int) + 1) = (q : Int) + 1 := IntWalk.i64_in _ (by omega)
  have e3 : IntKind.i64.wrap (r : Int) = (r : Int) := IntWalk.i64_in _ (by clear e; omega)
  rw [e1, e2, e, e3]
theorem Kd.prod_pos : ∀ l : Kd, 0 < l.prod
  | .nil => by decide
  | .snoc l n => by have := l.prod_pos; rw [Kd.prod]; omega
theorem subs_calls : ∀ (N : Nat), SubsC N := by
  intro N
  induction N with
  | zero => intro n hn; have := n.tot_pos; omega
  | succ N ih =>
    rintro ⟨f, l⟩ hn hN W cs p hp1 hp2 hH
    obtain ⟨vM, vG, vX, vI, ao, cap, ls, hcs, hf, hl, hK⟩ := hH.open
    have hlen := l.len_tot
    rw [Nd.tot] at hn
    have hk0 : cs[0]? = some (.int .i64 f.kind) := by rw [hcs]; rfl
    have hk4 : cs[4]? = some (.int .i64 f.range) := by rw [hcs]; rfl
    have hk5 : cs[5]? = some (.int .i64 f.step) := by rw [hcs]; rfl
    have hk16 : cs[16]? = some (.slice ao l.len cap) := by rw [hcs]; rfl
    have HIH := Lib.hid ih; clear ih
    have HL := Lib.hid hl; have HK := Lib.hid hK; clear hl hK hH hf hcs
    by_cases h5 : f.kind = 5
    · have hk : (f.kind == 5) = true := by rw [beq_iff_eq]; exact h5
      obtain ⟨x, hx⟩ : ∃ x, inB f.range 1 maxT = x := ⟨_, rfl⟩
      obtain ⟨y, hy⟩ : ∃ y, inB f.step 1 maxT = y := ⟨_, rfl⟩
      have HX := Lib.hid hx; have HY := Lib.hid hy
      cases hxy : (x && y)
      · have ho : f.own = 1 := by rw [Fd.own, hx, hy, if_neg]; rintro ⟨_, rfl, rfl⟩; cases hxy
        have hfin : decide (4096 < p * (Nd.mk f l).prod) = decide (4096 < p * l.prod) := by rw [Nd.prod, ho, Nat.one_mul]
        rw [hfin]
        clear hfin ho hx hy
        have HXY := Lib.hid hxy; clear hxy
        go_enter Tryz.func16, Tryz.ntmps16
        cases x <;> cases y
        rotate_right
        · exact absurd HXY.out (by decide)
        all_goals
          go_wp2_with (first | ((with_reducible refine (between_calls f.range 1 maxT _ HX.out _).mono ?_); rintro e w' ⟨rfl, rfl⟩) | ((with_reducible refine (between_calls f.step 1 maxT _ HY.out _).mono ?_); rintro e w' ⟨rfl, rfl⟩))
          have hb : Below W.heap.size W ((W.alloc (.cells cs.toArray 31)).alloc (.cells #[.int .i64 (p : Int)] 3)) := ((Below.refl _ _).alloc (Nat.le_refl _) _).alloc (by simp) _
          have HB := Lib.hid hb; clear hb
          (with_reducible refine (contains_calls HIH.out (by omega) l (by omega) _ ao cap ls (W.heap.size + 1) p hp1 hp2 (HL.out.keep (Keeps.below HB.out)) (HK.out.keep (by decide) (Keeps.below HB.out)) ?_ ?_).mono ?_)
          · rw [blk_cell (blk_new2 W _ _)]; rfl
          · simp
          rintro e W1 ⟨rfl, hb1⟩
          have hb2 : Below W.heap.size W W1 := HB.out.trans (hb1.mono (by simp; omega))
          have HB1 := Lib.hid hb2; clear hb1 hb2
          go_wp2_with fail
          go_ret
          exact ⟨rfl, HB1.out⟩
      · simp only [Bool.and_eq_true] at hxy
        obtain ⟨rfl, rfl⟩ := hxy
        have hr := hx; have hs := hy
        simp only [inB, Bool.and_eq_true, decide_eq_true_eq] at hr hs
        have ho : f.own = (f.range / f.step).toNat + 1 := by rw [Fd.own, if_pos ⟨h5, hx, hy⟩]
        obtain ⟨q, hq⟩ : ∃ q : Nat, f.range.tdiv f.step = (q : Int) ∧ f.own = q + 1 := by
          refine ⟨(f.range / f.step).toNat, ?_, ho⟩
          rw [Int.tdiv_eq_ediv_of_nonneg (by omega)]
          have := Int.ediv_nonneg (show 0 ≤ f.range by omega) (show 0 ≤ f.step by omega)
          omega
        obtain ⟨hq1, hq2⟩ := hq
        clear ho hx hy
        have s0 : (f.step == 0) = false := by rw [beq_eq_false_iff_ne]; omega
        have p0 : ((p : Int) == 0) = false := by rw [beq_eq_false_iff_ne]; omega
        go_enter Tryz.func16, Tryz.ntmps16
        go_wp2_with (first | ((with_reducible refine (between_calls f.range 1 maxT _ HX.out _).mono ?_); rintro e w' ⟨rfl, rfl⟩) | ((with_reducible refine (between_calls f.step 1 maxT _ HY.out _).mono ?_); rintro e w' ⟨rfl, rfl⟩))
        go_quiet (fail)
        have hqm : q ≤ 1125899906842624 := by
          have h1 := Int.tdiv_le_self f.step (show 0 ≤ f.range by omega)
          have h2 : f.range ≤ 1125899906842624 := hr.2
          omega
        have hwq : wrap64 (q : Int) = q := by unfold wrap64; omega
        obtain ⟨dv, hdv⟩ : ∃ dv : Nat, dv = 4096 / p := ⟨_, rfl⟩
        have hpd : (4096 : Int) / (p : Int) = (dv : Int) := by have := Int.natCast_ediv 4096 p; rw [hdv, this]; rfl
        have HDv := Lib.hid hdv; clear hdv
        rw [hpd, hwq]
        have HWq := Lib.hid hwq; have HQ1 := Lib.hid hq1; have HQm := Lib.hid hqm
        clear hpd hwq hq1
        by_cases hd : dv ≤ q
        · have hfin : decide (4096 < p * (Nd.mk f l).prod) = true := by
            rw [decide_eq_true_eq, Nd.prod, hq2]
            have h1 : 4096 < (q + 1) * p := (Nat.div_lt_iff_lt_mul (by omega)).1 (by rw [← HDv.out]; omega)
            have h2 := l.prod_pos
            rw [← Nat.mul_assoc, Nat.mul_comm p]
            exact Nat.lt_of_lt_of_le h1 (Nat.le_mul_of_pos_right _ h2)
          have HF := Lib.hid hfin; clear hfin
          go_wp2_with fail
          go_ret
          exact ⟨by rw [HF.out]; rfl, below_drewN (((Below.refl W.heap.size W).alloc (Nat.le_refl _) _).alloc (by simp) _) nq⟩
        · have h1 : (q + 1) * p ≤ 4096 := by
            have : q + 1 ≤ 4096 / p := by rw [← HDv.out]; omega
            exact (Nat.le_div_iff_mul_le (by omega)).1 this
          obtain ⟨r, hr⟩ : ∃ r : Nat, r = p * (q + 1) := ⟨_, rfl⟩
          have hfin : decide (4096 < p * (Nd.mk f l).prod) = decide (4096 < r * l.prod) := by rw [Nd.prod, hq2, hr, Nat.mul_assoc]
          have hr0 : r ≤ 4096 := by rw [hr, Nat.mul_comm]; exact h1
          have hr1 : 1 ≤ r := by rw [hr]; exact Nat.mul_pos hp1 (Nat.succ_pos q)
          have HR := Lib.hid hr; clear hr hq2
          have HFin := Lib.hid hfin; clear hfin
          have H1 := Lib.hid h1; clear h1
          go_wp2_with fail
          obtain ⟨w2, hw2⟩ : ∃ w2, w2 = ((W.alloc (.cells cs.toArray 31)).alloc (.cells #[.int .i64 (p : Int)] 3)).drewN nq := ⟨_, rfl⟩
          have k0 : w2.cell? ⟨W.heap.size + 1, 0, none⟩ = some (.int .i64 (p : Int)) := by rw [hw2]; exact (blk_cell (blk_new2 W _ _) 0)
          have k4 : w2.cell? ⟨W.heap.size, 4, none⟩ = some (.int .i64 f.range) := by rw [hw2]; exact (blk_cell (blk_alloc (blk_new W _) _) 4).trans (by simpa using hk4)
          have k5 : w2.cell? ⟨W.heap.size, 5, none⟩ = some (.int .i64 f.step) := by rw [hw2]; exact (blk_cell (blk_alloc (blk_new W _) _) 5).trans (by simpa using hk5)
          have k16 : w2.cell? ⟨W.heap.size, 16, none⟩ = some (.slice ao l.len cap) := by rw [hw2]; exact (blk_cell (blk_alloc (blk_new W _) _) 16).trans (by simpa using hk16)
          have kf : w2.frozen? ⟨W.heap.size + 1, 0, none⟩ = false := by rw [hw2]; exact blk_frozen (blk_new2 W _ _) 0
          have kb : w2.heap[W.heap.size + 1]? = some (.cells #[.int .i64 (p : Int)] 3 (0, 0)) := by rw [hw2]; exact blk_new2 W _ _
          have hbw : Below W.heap.size W w2 := by rw [hw2]; exact below_drewN (((Below.refl W.heap.size W).alloc (Nat.le_refl _) _).alloc (by simp) _) nq
          have hsz : w2.heap.size = W.heap.size + 2 := by rw [hw2]; simp [World.drewN]
          rw [← hw2]
          clear hw2
          have HBw := Lib.hid hbw; clear hbw
          have hq1 := HQ1.out; have hwq := HWq.out
          refine wp_region_still_tail 8 (by kernel_rfl) (by kernel_rfl) ?_
          obtain ⟨w3, hw3⟩ : ∃ w3 : World, w3 = { w2 with drawn := w2.drawn + 1 } := ⟨_, rfl⟩
          rw [← hw3]
          replace k0 : w3.cell? ⟨W.heap.size + 1, 0, none⟩ = some (.int .i64 (p : Int)) := by rw [hw3]; exact k0
          replace k4 : w3.cell? ⟨W.heap.size, 4, none⟩ = some (.int .i64 f.range) := by rw [hw3]; exact k4
          replace k5 : w3.cell? ⟨W.heap.size, 5, none⟩ = some (.int .i64 f.step) := by rw [hw3]; exact k5
          replace k16 : w3.cell? ⟨W.heap.size, 16, none⟩ = some (.slice ao l.len cap) := by rw [hw3]; exact k16
          replace kf : w3.frozen? ⟨W.heap.size + 1, 0, none⟩ = false := by rw [hw3]; exact kf
          have KB := Lib.hid (show w3.heap[W.heap.size + 1]? = some (.cells #[.int .i64 (p : Int)] 3 (0, 0)) from by rw [hw3]; exact kb)
          clear kb
          have hbw : Below W.heap.size W w3 := by rw [hw3]; exact HBw.out.drew
          replace hsz : w3.heap.size = W.heap.size + 2 := by rw [hw3]; exact hsz
          clear HBw hw3
          have HBw := Lib.hid hbw; clear hbw
          simp only [List.take_succ_cons, List.take_zero, List.drop_succ_cons, List.drop_zero]
          have HV := Lib.hid (wrap_mul HQm.out hr0 HR.out)
          have s1 : ¬ f.step = 0 := by omega
          clear hwq
          still_step
          still_step
          still_step
          still_step
          still_step
          still_step
          still_step
          still_step
          refine wpStill_nil ?_
          rw [HV.out]
          go_wp2_with fail
          have hb4 : Below W.heap.size W (w3.setCell ⟨W.heap.size + 1, 0, none⟩ (.int .i64 (r : Int))) := HBw.out.setCell (by simp) _
          have HB := Lib.hid hb4; clear hb4
          (with_reducible refine (contains_calls HIH.out (by omega) l (by omega) _ ao cap ls (W.heap.size + 1) r hr1 hr0 (HL.out.keep (Keeps.below HB.out)) (HK.out.keep (by decide) (Keeps.below HB.out)) ?_ ?_).mono ?_)
          · rw [blk_cell (blk_set KB.out 0 _)]; rfl
          · simp [World.setCell]; omega
          rintro e W1 ⟨rfl, hb1⟩
          have hb2 : Below W.heap.size W W1 := HB.out.trans (hb1.mono (by simp [World.setCell]; omega))
          have HB1 := Lib.hid hb2; clear hb1 hb2
          go_wp2_with fail
          go_ret
          exact ⟨by rw [HFin.out]; rfl, HB1.out⟩
    · have hk : (f.kind == 5) = false := by rw [beq_eq_false_iff_ne]; exact h5
      have ho : f.own = 1 := by rw [Fd.own, if_neg]; rintro ⟨h, _⟩; exact h5 h
      have hfin : decide (4096 < p * (Nd.mk f l).prod) = decide (4096 < p * l.prod) := by rw [Nd.prod, ho, Nat.one_mul]
      rw [hfin]
      clear hfin ho
      go_enter Tryz.func16, Tryz.ntmps16
      go_wp2_with fail
      have hb : Below W.heap.size W ((W.alloc (.cells cs.toArray 31)).alloc (.cells #[.int .i64 (p : Int)] 3)) := ((Below.refl _ _).alloc (Nat.le_refl _) _).alloc (by simp) _
      have HB := Lib.hid hb; clear hb
      (with_reducible refine (contains_calls HIH.out (by omega) l (by omega) _ ao cap ls (W.heap.size + 1) p hp1 hp2 (HL.out.keep (Keeps.below HB.out)) (HK.out.keep (by decide) (Keeps.below HB.out)) ?_ ?_).mono ?_)
      · rw [blk_cell (blk_new2 W _ _)]; rfl
      · simp
      rintro e W1 ⟨rfl, hb1⟩
      have hb2 : Below W.heap.size W W1 := HB.out.trans (hb1.mono (by simp; omega))
      have HB1 := Lib.hid hb2; clear hb1 hb2
      go_wp2_with fail
      go_ret
      exact ⟨rfl, HB1.out⟩
end Go.Proofs.YtnbgigdloehbjaaGreatDoor.Ir
