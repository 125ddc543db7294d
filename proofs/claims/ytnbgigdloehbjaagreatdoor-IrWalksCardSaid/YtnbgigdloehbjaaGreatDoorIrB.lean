/-
  Plans: how many nodes they have, how deep they are (package ir).
-/
import Derived.Test.YtnbgigdloehbjaaGreatDoorIrA
namespace Go.Proofs.YtnbgigdloehbjaaGreatDoor.Ir
open Go Go.RowKit Go.Proofs.YtnbgigdloehbjaaGreatDoor.Rg Go.Proofs.YtnbgigdloehbjaaGreatDoor.Ma
set_option maxHeartbeats 4000000
set_option maxRecDepth 100000

def RetB (v : Value) (W : World) (e : Ending) (W' : World) : Prop := e = .returned v ∧ Below W.heap.size W W'
/-- A number comes back. -/
def RetN (r : Nat) (W : World) (e : Ending) (W' : World) : Prop := ∃ x : Nat, e = .returned (.int .i64 (x : Int)) ∧ x = r ∧ Below W.heap.size W W'
theorem Nd.tot_pos : ∀ n : Nd, 0 < n.tot
  | .mk f l => by rw [Nd.tot]; omega
theorem Nd.dep_pos : ∀ n : Nd, 0 < n.dep
  | .mk f l => by rw [Nd.dep]; omega
theorem Kd.len_tot : ∀ l : Kd, l.len ≤ l.tot
  | .nil => Nat.le_refl _
  | .snoc l n => by
    have := l.len_tot
    have := n.tot_pos
    rw [Kd.len, Kd.tot]; omega
theorem below_drewN {B : Nat} {a w : World} (h : Below B a w) (n : Nat) : Below B a (w.drewN n) := ⟨h.os, h.tape, h.output, h.size, h.block⟩
theorem after1 {W wr w2 : World} {o : Obj} (h : Below W.heap.size W wr) (h2 : Below (wr.alloc o).heap.size (wr.alloc o) w2) : Below W.heap.size W w2 := by
  have hs := h.size
  exact (h.alloc hs o).trans (h2.mono (by simp; omega))
def szv (most t : Nat) : Nat := min (1 + t) (most + 1)
theorem size_calls : ∀ (N : Nat) (n : Nd), n.tot ≤ N → N ≤ 100000 → ∀ (W : World) (cs : List Value) (most : Nat) (mi : Int), mi = most → most ≤ 100000 → n.Held W Any cs →
    Calls Tryz.prog 18 #[.agg cs.toArray, .int .i64 mi] W (RetN (min n.tot (most + 1)) W) := by
  intro N
  induction N with
  | zero => intro n hn; have := n.tot_pos; omega
  | succ N ih =>
    rintro ⟨f, l⟩ hn hN W cs most mi rfl hmost hH
    obtain ⟨vM, vG, vX, vI, ao, cap, ls, hcs, hf, hl, hK⟩ := hH.open
    have hlen := l.len_tot
    rw [Nd.tot] at hn
    have hk16 := box_cell (W := W) 16 (show cs[16]? = some (.slice ao l.len cap) by rw [hcs]; rfl)
    have HIH := Lib.hid ih; clear ih
    have HL := Lib.hid hl; have HK := Lib.hid hK; clear hl hK hH hf hcs
    have hfin : (min (Nd.mk f l).tot (most + 1) : Nat) = szv most l.tot := by rw [Nd.tot]; rfl
    rw [hfin]; clear hfin
    go_enter Tryz.func18, Tryz.ntmps18
    go_wp2_with fail
    go_loopw [11, 5] (fun i u wr => ∃ k : Nat, k ≤ l.len ∧ i = .int .i64 (k : Int) ∧ u = .int .i64 ((szv most (l.pre k).tot : Nat) : Int) ∧ Below W.heap.size W wr) (fun i _ _ => l.len - (intOf i).toNat)
    case atStart => exact ⟨0, Nat.zero_le _, rfl, congrArg (Value.int .i64) (by rw [Kd.pre_zero, Kd.tot, szv]; omega), (Below.refl _ _).alloc (Nat.le_refl _) _⟩
    case round =>
      obtain ⟨k, hk, rfl, rfl, hbel⟩ := hrel
      clear hk16
      by_cases hkl : k < l.len
      · obtain ⟨b, o, ha, n1, c, hn1, hat, hH1⟩ := kid_at (HL.out.keep (Keeps.below hbel)) (HK.out.keep (by decide) (Keeps.below hbel)) hkl
        subst ha
        have hps := l.pre_succ k _ hn1
        have ht1 := Kd.tot_kid hn1
        have ht2 := l.tot_pre (k + 1)
        rw [hps, Kd.tot] at ht2
        have hl1 := hH1.length
        have HOne := Lib.hid hH1.one
        have HAt := Lib.hid hat
        have HN1 := Lib.hid hn1; clear hn1
        have HH1 := Lib.hid hH1; clear hH1 hat
        have HBel := Lib.hid hbel; clear hbel
        have hwsz := HBel.out.size
        by_cases hout : 1 + (l.pre k).tot ≤ most
        · have hz : szv most (l.pre k).tot = 1 + (l.pre k).tot := by unfold szv; omega
          rw [hz]
          have hst : szv most (l.pre (k + 1)).tot = 1 + (l.pre k).tot + min n1.tot (most - (1 + (l.pre k).tot) + 1) := by rw [hps, Kd.tot]; unfold szv; omega
          have HSt := Lib.hid hst; clear hst hz hps
          go_wp2_with (first | (with_reducible refine wpList_loadNd rfl _ rfl b (o + k * 17) rfl c HAt.out hl1 ?_) | (with_reducible refine wpList_newNd rfl rfl 7 (.tmp 14) rfl rfl rfl rfl c rfl rfl hl1 HOne.out ?_) | (with_reducible refine wpList_loadNd rfl _ rfl wr.heap.size 0 rfl c (range_blk (blk_new wr _)) hl1 ?_))
          (with_reducible refine (HIH.out n1 (by omega) (by omega) _ c (most - (1 + (l.pre k).tot)) _ (by omega) (by omega) (HH1.out.below ((Below.refl _ _).alloc (Nat.le_refl _) _))).mono ?_)
          rintro e W1 ⟨r, rfl, hr, hb1⟩
          have HB1 := Lib.hid (after1 HBel.out hb1); clear hb1
          go_wp2_with fail
          go_roundw
          case rel => exact ⟨k + 1, by omega, by go_num, congrArg (Value.int .i64) (by rw [HSt.out]; omega), HB1.out⟩
          case measure => (simp [intOf] <;> omega)
        · have hz : szv most (l.pre k).tot = most + 1 := by unfold szv; omega
          rw [hz]
          have hst : szv most l.tot = most + 1 := by
            have := l.tot_pre k
            unfold szv; omega
          have HStt := Lib.hid hst; clear hst hz hps
          have hmin : min ((most : Int) + 1) ((most : Int) + 1) = (most + 1 : Nat) := by omega
          go_wp2_with (first | (with_reducible refine wpList_loadNd rfl _ rfl b (o + k * 17) rfl c HAt.out hl1 ?_) | (with_reducible refine wpList_newNd rfl rfl 7 (.tmp 14) rfl rfl rfl rfl c rfl rfl hl1 HOne.out ?_) | (with_reducible refine wpList_loadNd rfl _ rfl wr.heap.size 0 rfl c (range_blk (blk_new wr _)) hl1 ?_))
          go_ret
          exact ⟨_, rfl, HStt.out.symm, HBel.out.alloc hwsz _⟩
      · have hz : l.pre k = l := l.pre_ge k (by omega)
        rw [hz]
        have hb2 : szv most l.tot ≤ most + 1 := by unfold szv; omega
        have hmin : min ((szv most l.tot : Nat) : Int) ((most : Int) + 1) = (szv most l.tot : Nat) := by omega
        have HBel := Lib.hid hbel; clear hbel
        go_wp2_with fail
        go_ret
        exact ⟨_, rfl, rfl, HBel.out⟩
def dpv (most d : Nat) : Nat := min (1 + d) (most + 1)
theorem depth_calls : ∀ (N : Nat) (n : Nd), n.tot ≤ N → N ≤ 100000 → ∀ (W : World) (cs : List Value) (most : Nat) (mi : Int), mi = most → most ≤ 100000 → n.Held W Any cs →
    Calls Tryz.prog 19 #[.agg cs.toArray, .int .i64 mi] W (RetN (min n.dep (most + 1)) W) := by
  intro N
  induction N with
  | zero => intro n hn; have := n.tot_pos; omega
  | succ N ih =>
    rintro ⟨f, l⟩ hn hN W cs most mi rfl hmost hH
    obtain ⟨vM, vG, vX, vI, ao, cap, ls, hcs, hf, hl, hK⟩ := hH.open
    have hlen := l.len_tot
    rw [Nd.tot] at hn
    have hk16 := box_cell (W := W) 16 (show cs[16]? = some (.slice ao l.len cap) by rw [hcs]; rfl)
    have HIH := Lib.hid ih; clear ih
    have HL := Lib.hid hl; have HK := Lib.hid hK; clear hl hK hH hf hcs
    have hfin : (min (Nd.mk f l).dep (most + 1) : Nat) = dpv most l.dep := by rw [Nd.dep]; rfl
    rw [hfin]; clear hfin
    by_cases h0 : most = 0
    · subst h0
      have h1 : dpv 0 l.dep = 1 := by unfold dpv; omega
      rw [h1]
      go_enter Tryz.func19, Tryz.ntmps19
      go_wp2_with fail
      go_ret
      exact ⟨1, rfl, rfl, (Below.refl _ _).alloc (Nat.le_refl _) _⟩
    have h0' : ((most : Int) == 0) = false := by rw [beq_eq_false_iff_ne]; omega
    go_enter Tryz.func19, Tryz.ntmps19
    go_wp2_with fail
    go_loopw [13, 5] (fun i u wr => ∃ k : Nat, k ≤ l.len ∧ i = .int .i64 (k : Int) ∧ u = .int .i64 ((dpv most (l.pre k).dep : Nat) : Int) ∧ Below W.heap.size W wr) (fun i _ _ => l.len - (intOf i).toNat)
    case atStart => exact ⟨0, Nat.zero_le _, rfl, congrArg (Value.int .i64) (by rw [Kd.pre_zero, Kd.dep, dpv]; omega), (Below.refl _ _).alloc (Nat.le_refl _) _⟩
    case round =>
      obtain ⟨k, hk, rfl, rfl, hbel⟩ := hrel
      clear hk16
      have hb2 : dpv most (l.pre k).dep ≤ most + 1 := by unfold dpv; omega
      by_cases hkl : k < l.len
      · obtain ⟨b, o, ha, n1, c, hn1, hat, hH1⟩ := kid_at (HL.out.keep (Keeps.below hbel)) (HK.out.keep (by decide) (Keeps.below hbel)) hkl
        subst ha
        have hps := l.pre_succ k _ hn1
        have ht1 := Kd.tot_kid hn1
        have hl1 := hH1.length
        have HOne := Lib.hid hH1.one
        have HAt := Lib.hid hat
        have HN1 := Lib.hid hn1; clear hn1
        have HH1 := Lib.hid hH1; clear hH1 hat
        have HBel := Lib.hid hbel; clear hbel
        have hwsz := HBel.out.size
        have hst : dpv most (l.pre (k + 1)).dep = max (dpv most (l.pre k).dep) (1 + min n1.dep (most - 1 + 1)) := by rw [hps, Kd.dep]; unfold dpv; omega
        have HSt := Lib.hid hst; clear hst hps
        obtain ⟨u, hu⟩ : ∃ u, u = dpv most (l.pre k).dep := ⟨_, rfl⟩
        rw [← hu] at hb2 HSt ⊢
        clear hu
        go_wp2_with (first | (with_reducible refine wpList_loadNd rfl _ rfl b (o + k * 17) rfl c HAt.out hl1 ?_) | (with_reducible refine wpList_newNd rfl rfl 7 (.tmp 16) rfl rfl rfl rfl c rfl rfl hl1 HOne.out ?_) | (with_reducible refine wpList_loadNd rfl _ rfl wr.heap.size 0 rfl c (range_blk (blk_new wr _)) hl1 ?_))
        (with_reducible refine (HIH.out n1 (by omega) (by omega) _ c (most - 1) _ (by omega) (by omega) (HH1.out.below ((Below.refl _ _).alloc (Nat.le_refl _) _))).mono ?_)
        rintro e W1 ⟨r, rfl, hr, hb1⟩
        have HB1 := Lib.hid (after1 HBel.out hb1); clear hb1
        have hmx : max (u : Int) (1 + (r : Int)) = ((max u (1 + r) : Nat) : Int) := by omega
        have hmx2 : max u (1 + r) ≤ 200000 := by omega
        go_wp2_with fail
        go_roundw
        case rel => exact ⟨k + 1, by omega, by go_num, congrArg (Value.int .i64) (by rw [HSt.out]; omega), HB1.out⟩
        case measure => (simp [intOf] <;> omega)
      · have hz : l.pre k = l := l.pre_ge k (by omega)
        rw [hz]
        rw [hz] at hb2
        have HBel := Lib.hid hbel; clear hbel
        go_wp2_with fail
        go_ret
        exact ⟨_, rfl, rfl, HBel.out⟩
/-- How many nodes, how deep: as package ir tells it. -/
theorem Size_calls (n : Nd) (hn : n.tot ≤ 100000) (W : World) (cs : List Value) (hH : n.Held W Any cs) : Calls Tryz.prog 8 #[.agg cs.toArray] W (RetN (min n.tot 401) W) := by
  have hl := hH.length
  have HH := Lib.hid hH; clear hH
  go_enter Tryz.func8, Tryz.ntmps8
  go_wp2_with (with_reducible refine wpList_loadNd rfl _ rfl W.heap.size 0 rfl cs (range_blk (blk_new W _)) hl ?_)
  (with_reducible refine (size_calls 100000 n hn (by decide) _ cs 400 400 rfl (by decide) (HH.out.below ((Below.refl _ _).alloc (Nat.le_refl _) _))).mono ?_)
  rintro e W1 ⟨r, rfl, hr, hb1⟩
  have HB1 := Lib.hid (after1 (Below.refl _ _) hb1); clear hb1
  go_wp2_with fail
  go_ret
  exact ⟨_, rfl, rfl, HB1.out⟩
theorem Depth_calls (n : Nd) (hn : n.tot ≤ 100000) (W : World) (cs : List Value) (hH : n.Held W Any cs) : Calls Tryz.prog 9 #[.agg cs.toArray] W (RetN (min n.dep 41) W) := by
  have hl := hH.length
  have HH := Lib.hid hH; clear hH
  go_enter Tryz.func9, Tryz.ntmps9
  go_wp2_with (with_reducible refine wpList_loadNd rfl _ rfl W.heap.size 0 rfl cs (range_blk (blk_new W _)) hl ?_)
  (with_reducible refine (depth_calls 100000 n hn (by decide) _ cs 40 40 rfl (by decide) (HH.out.below ((Below.refl _ _).alloc (Nat.le_refl _) _))).mono ?_)
  rintro e W1 ⟨r, rfl, hr, hb1⟩
  have HB1 := Lib.hid (after1 (Below.refl _ _) hb1); clear hb1
  go_wp2_with fail
  go_ret
  exact ⟨_, rfl, rfl, HB1.out⟩
end Go.Proofs.YtnbgigdloehbjaaGreatDoor.Ir
