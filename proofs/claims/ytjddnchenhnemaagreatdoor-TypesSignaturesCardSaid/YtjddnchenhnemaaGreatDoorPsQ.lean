/-
  Trees of queries: how many nodes they have, how deep they are (package prom).
-/
import Derived.Test.YtjddnchenhnemaaGreatDoorPmA
namespace Go.Proofs.YtjddnchenhnemaaGreatDoor.Pm
open Go Go.RowKit Go.Proofs.YtjddnchenhnemaaGreatDoor.Rg Go.Proofs.YtjddnchenhnemaaGreatDoor.Ma Go.Proofs.YtjddnchenhnemaaGreatDoor.Ir
set_option maxHeartbeats 4000000
set_option maxRecDepth 100000
theorem xsize_calls : ∀ (N : Nat) (n : Xn), n.tot ≤ N → N ≤ 100000 → ∀ (W : World) (cs : List Value), n.Held W Any cs →
    Calls Tryz.prog 45 #[.agg cs.toArray] W (RetN n.tot W) := by
  intro N
  induction N with
  | zero => intro n hn; have := n.tot_pos; omega
  | succ N ih =>
    rintro ⟨f, l⟩ hn hN W cs hH
    obtain ⟨vM, vX, vI, vG, ao, cap, ls, hcs, hf, hl, hK⟩ := hH.open
    have hlen := l.len_tot
    rw [Xn.tot] at hn
    have hk16 := xbox_cell (W := W) 16 (show cs[16]? = some (.slice ao l.len cap) by rw [hcs]; rfl)
    have HIH := Lib.hid ih; clear ih
    have HL := Lib.hid hl; have HK := Lib.hid hK; clear hl hK hH hf hcs
    have hfin : (Xn.mk f l).tot = 1 + l.tot := by rw [Xn.tot]
    rw [hfin]; clear hfin
    go_enter Tryz.func45, Tryz.ntmps45
    go_wp2_with fail
    go_loopw [9, 3] (fun i u wr => ∃ k : Nat, k ≤ l.len ∧ i = .int .i64 (k : Int) ∧ u = .int .i64 ((1 + (l.pre k).tot : Nat) : Int) ∧ Below W.heap.size W wr) (fun i _ _ => l.len - (intOf i).toNat)
    case atStart => exact ⟨0, Nat.zero_le _, rfl, congrArg (Value.int .i64) (by rw [Xk.pre_zero, Xk.tot]; rfl), (Below.refl _ _).alloc (Nat.le_refl _) _⟩
    case round =>
      obtain ⟨k, hk, rfl, rfl, hbel⟩ := hrel
      clear hk16
      by_cases hkl : k < l.len
      · obtain ⟨b, o, ha, n1, c, hn1, hat, hH1⟩ := xkid_at (HL.out.keep (Keeps.below hbel)) (HK.out.keep (by decide) (Keeps.below hbel)) hkl
        subst ha
        have hps := l.pre_succ k _ hn1
        have ht1 := Xk.tot_kid hn1
        have ht2 := l.tot_pre (k + 1)
        rw [hps, Xk.tot] at ht2
        have hl1 := hH1.length
        have HOne := Lib.hid hH1.one
        have HAt := Lib.hid hat
        have HN1 := Lib.hid hn1; clear hn1
        have HH1 := Lib.hid hH1; clear hH1 hat
        have HBel := Lib.hid hbel; clear hbel
        have hwsz := HBel.out.size
        have hst : 1 + (l.pre (k + 1)).tot = 1 + (l.pre k).tot + n1.tot := by rw [hps, Xk.tot]; omega
        have HSt := Lib.hid hst; clear hst hps
        obtain ⟨q, hq⟩ : ∃ q, (l.pre k).tot = q := ⟨_, rfl⟩
        rw [hq] at ht2 HSt ⊢
        clear hq
        go_wp2_with (first | (with_reducible refine wpList_loadX rfl _ rfl b (o + k * 17) rfl c HAt.out hl1 ?_) | (with_reducible refine wpList_newX rfl rfl 5 (.tmp 12) rfl rfl rfl rfl c rfl rfl hl1 HOne.out ?_) | (with_reducible refine wpList_loadX rfl _ rfl wr.heap.size 0 rfl c (range_blk (blk_new wr _)) hl1 ?_))
        (with_reducible refine (HIH.out n1 (by omega) (by omega) _ c (HH1.out.below ((Below.refl _ _).alloc (Nat.le_refl _) _))).mono ?_)
        rintro e W1 ⟨r, rfl, hr, hb1⟩
        have HB1 := Lib.hid (after1 HBel.out hb1); clear hb1
        go_wp2_with fail
        go_roundw
        case rel => exact ⟨k + 1, by omega, by go_num, congrArg (Value.int .i64) (by rw [HSt.out]; omega), HB1.out⟩
        case measure => (simp [intOf] <;> omega)
      · have hz : l.pre k = l := l.pre_ge k (by omega)
        rw [hz]
        have HBel := Lib.hid hbel; clear hbel
        go_wp2_with fail
        go_ret
        exact ⟨_, rfl, rfl, HBel.out⟩
theorem xdeep_calls : ∀ (N : Nat) (n : Xn), n.tot ≤ N → N ≤ 100000 → ∀ (W : World) (cs : List Value), n.Held W Any cs →
    Calls Tryz.prog 46 #[.agg cs.toArray] W (RetN n.dep W) := by
  intro N
  induction N with
  | zero => intro n hn; have := n.tot_pos; omega
  | succ N ih =>
    rintro ⟨f, l⟩ hn hN W cs hH
    obtain ⟨vM, vX, vI, vG, ao, cap, ls, hcs, hf, hl, hK⟩ := hH.open
    have hlen := l.len_tot
    rw [Xn.tot] at hn
    have hk16 := xbox_cell (W := W) 16 (show cs[16]? = some (.slice ao l.len cap) by rw [hcs]; rfl)
    have HIH := Lib.hid ih; clear ih
    have HL := Lib.hid hl; have HK := Lib.hid hK; clear hl hK hH hf hcs
    have hfin : (Xn.mk f l).dep = l.dep + 1 := by rw [Xn.dep]; omega
    rw [hfin]; clear hfin
    have hdl : l.dep ≤ l.tot := l.dep_tot
    go_enter Tryz.func46, Tryz.ntmps46
    go_wp2_with fail
    go_loopw [9, 3] (fun i u wr => ∃ k : Nat, k ≤ l.len ∧ i = .int .i64 (k : Int) ∧ u = .int .i64 ((l.pre k).dep : Int) ∧ Below W.heap.size W wr) (fun i _ _ => l.len - (intOf i).toNat)
    case atStart => exact ⟨0, Nat.zero_le _, rfl, congrArg (Value.int .i64) (by rw [Xk.pre_zero, Xk.dep]; rfl), (Below.refl _ _).alloc (Nat.le_refl _) _⟩
    case round =>
      obtain ⟨k, hk, rfl, rfl, hbel⟩ := hrel
      clear hk16
      by_cases hkl : k < l.len
      · obtain ⟨b, o, ha, n1, c, hn1, hat, hH1⟩ := xkid_at (HL.out.keep (Keeps.below hbel)) (HK.out.keep (by decide) (Keeps.below hbel)) hkl
        subst ha
        have hps := l.pre_succ k _ hn1
        have ht1 := Xk.tot_kid hn1
        have hd1 := n1.dep_tot
        have hd2 := l.dep_pre k
        have hl1 := hH1.length
        have HOne := Lib.hid hH1.one
        have HAt := Lib.hid hat
        have HN1 := Lib.hid hn1; clear hn1
        have HH1 := Lib.hid hH1; clear hH1 hat
        have HBel := Lib.hid hbel; clear hbel
        have hwsz := HBel.out.size
        have hst : (l.pre (k + 1)).dep = max (l.pre k).dep n1.dep := by rw [hps, Xk.dep]
        have HSt := Lib.hid hst; clear hst hps
        obtain ⟨q, hq⟩ : ∃ q, (l.pre k).dep = q := ⟨_, rfl⟩
        rw [hq] at hd2 HSt ⊢
        clear hq
        go_wp2_with (first | (with_reducible refine wpList_loadX rfl _ rfl b (o + k * 17) rfl c HAt.out hl1 ?_) | (with_reducible refine wpList_newX rfl rfl 5 (.tmp 12) rfl rfl rfl rfl c rfl rfl hl1 HOne.out ?_) | (with_reducible refine wpList_loadX rfl _ rfl wr.heap.size 0 rfl c (range_blk (blk_new wr _)) hl1 ?_))
        (with_reducible refine (HIH.out n1 (by omega) (by omega) _ c (HH1.out.below ((Below.refl _ _).alloc (Nat.le_refl _) _))).mono ?_)
        rintro e W1 ⟨r, rfl, hr, hb1⟩
        have HB1 := Lib.hid (after1 HBel.out hb1); clear hb1
        have hmx : max (q : Int) (r : Int) = ((max q r : Nat) : Int) := by omega
        go_wp2_with fail
        go_roundw
        case rel => exact ⟨k + 1, by omega, by go_num, congrArg (Value.int .i64) (by rw [HSt.out]; omega), HB1.out⟩
        case measure => (simp [intOf] <;> omega)
      · have hz : l.pre k = l := l.pre_ge k (by omega)
        rw [hz]
        have HBel := Lib.hid hbel; clear hbel
        go_wp2_with fail
        go_ret
        exact ⟨l.dep + 1, congrArg (fun z => Ending.returned (Value.int .i64 z)) (by omega), rfl, HBel.out⟩
theorem great_calls (n : Xn) (hn : n.tot ≤ 400) (hd : n.dep ≤ 40) (W : World) (cs : List Value) (hH : n.Held W Any cs) : Calls Tryz.prog 26 #[.agg cs.toArray] W (RetB (.bool false) W) := by
  have hl1 := hH.length
  have hb0 : Below W.heap.size W (W.alloc (.cells cs.toArray 42)) := (Below.refl _ _).alloc (Nat.le_refl _) _
  have hb := blk_new W (.cells cs.toArray 42)
  have HS := Lib.hid (xsize_calls 400 n hn (by decide) _ cs (hH.below hb0))
  have HH := Lib.hid hH; have HB := Lib.hid hb; have HB0 := Lib.hid hb0
  clear hH hb hb0
  go_enter Tryz.func26, Tryz.ntmps26
  go_wp2_with (with_reducible refine wpList_loadX rfl _ rfl W.heap.size 0 rfl cs (range_blk HB.out) hl1 ?_)
  (with_reducible refine HS.out.mono ?_)
  rintro e W1 ⟨r, rfl, hr, hb1⟩
  have hB1 := (hb1.block W.heap.size (by simp)).trans HB.out
  have HB1 := Lib.hid hB1
  have hb01 := HB0.out.trans (hb1.mono HB0.out.size)
  have HD := Lib.hid (xdeep_calls 400 n hn (by decide) W1 cs (HH.out.below hb01))
  have HB01 := Lib.hid hb01
  clear hb1 hB1 hb01
  have h400 : decide ((400 : Int) < (r : Int)) = false := decide_eq_false (by omega)
  clear hr
  go_wp2_with (with_reducible refine wpList_loadXW _ rfl W.heap.size 0 rfl cs (range_blk HB1.out) hl1 (by simp [Region.wanted, yielded, *]) ?_)
  (with_reducible refine HD.out.mono ?_)
  rintro e W2 ⟨r2, rfl, hr2, hb2⟩
  have HB2 := Lib.hid (HB01.out.trans (hb2.mono HB01.out.size))
  clear hb2
  have h40 : decide ((40 : Int) < (r2 : Int)) = false := decide_eq_false (by omega)
  clear hr2
  go_wp2_with fail
  go_ret
  exact ⟨rfl, HB2.out⟩
end Go.Proofs.YtjddnchenhnemaaGreatDoor.Pm
