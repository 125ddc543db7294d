/-
  Types of trees: a node with kids.
-/
import Derived.Test.YtjddnchenhnemaaGreatDoorQaB
namespace Go.Proofs.YtjddnchenhnemaaGreatDoor.Ps
open Go Go.RowKit Go.Proofs.YtjddnchenhnemaaGreatDoor.QT Go.Proofs.YtjddnchenhnemaaGreatDoor.Rg Go.Proofs.YtjddnchenhnemaaGreatDoor.Ma Go.Proofs.YtjddnchenhnemaaGreatDoor.Ir Go.Proofs.YtjddnchenhnemaaGreatDoor.Pm
set_option maxHeartbeats 8000000
set_option maxRecDepth 100000
/-- What its kids' answers and its own make. -/
def ofR : List (Int × Int × Int) → Int × Int → Int × Int × Int
  | [], r => if r.1 == 0 then (0, r.2, 3) else (r.1, 0, 0)
  | x :: l, r => if x.2.2 == 0 then ofR l r else (0, x.2.1, x.2.2)
theorem of_node {f : Xf} {l : Xk} (hk : f.kind = 6 ∨ f.kind = 7) (ofs : List (Int × Int × Int)) (hlen : ofs.length = l.len) (hl100 : l.len ≤ 100)
    (hkids : ∀ (i : Nat) (n : Xn) (r : Int × Int × Int), l.kids[i]? = some n → ofs[i]? = some r → ∀ (W : World) (cs : List Value), n.Held W Any cs → Calls Tryz.prog 10 #[.agg cs.toArray] W (RetO r.1 r.2.1 r.2.2 W)) (r0 : Int × Int)
    (hown : (∀ r ∈ ofs, r.2.2 = 0) → ∀ W cs v, (Xn.mk f l).Held W Any cs → Row W Any v l.len 1 (ints (ofs.map (·.1))) → Calls Tryz.prog 16 #[.agg cs.toArray, v] W (RetT r0.1 r0.2 W))
    (W : World) (cs : List Value) (hH : (Xn.mk f l).Held W Any cs) : Calls Tryz.prog 10 #[.agg cs.toArray] W (RetO (ofR ofs r0).1 (ofR ofs r0).2.1 (ofR ofs r0).2.2 W) := by
  have hlcs := hH.length
  obtain ⟨vM, vX, vI, vG, ao, cap, ls, hcs, hf, hl, hK⟩ := hH.open
  have hk0 := xbox_cell (W := W) 0 (show cs[0]? = some (.int .i64 f.kind) by rw [hcs]; rfl)
  have hk16 := xbox_cell (W := W) 16 (show cs[16]? = some (.slice ao l.len cap) by rw [hcs]; rfl)
  have hbw : Below W.heap.size W (W.alloc (.cells cs.toArray 42)) := (Below.refl _ _).alloc (Nat.le_refl _) _
  have hbb := blk_new W (.cells cs.toArray 42)
  have hsz0 : (W.alloc (.cells cs.toArray 42)).heap.size = W.heap.size + 1 := by simp
  obtain ⟨B0, hB0⟩ : ∃ B0, B0 = W.alloc (.cells cs.toArray 42) := ⟨_, rfl⟩
  have hx : W.alloc (.cells cs.toArray 42) = B0 := hB0.symm
  rw [hx] at hk0 hk16 hbw hbb hsz0
  have HH := Lib.hid hH; have HBw := Lib.hid hbw; have HBb := Lib.hid hbb
  have HL := Lib.hid hl; have HK := Lib.hid hK; have HKids := Lib.hid hkids; have HOwnF := Lib.hid hown; have HLen := Lib.hid hlen
  clear hcs hf hl hK hH hbw hbb hB0 hkids hown hlen
  rcases hk with hk | hk
  all_goals
    rw [hk] at hk0
    clear hk
    go_enter Tryz.func10, Tryz.ntmps10
    go_wp2_with fail
    clear hx
    go_loopw [24, 5] (fun i v wr => ∃ k : Nat, k ≤ l.len ∧ i = .int .i64 (k : Int) ∧ wr.ownsRow B0.heap.size 3 1 v k (ints ((ofs.map (·.1)).take k)) ∧ (∀ r ∈ ofs.take k, r.2.2 = 0) ∧ ofR ofs r0 = ofR (ofs.drop k) r0 ∧ Below B0.heap.size B0 wr) (fun i _ _ => l.len - (intOf i).toNat)
    case atStart => exact ⟨0, Nat.zero_le _, rfl, World.ownsRow_nil _ _ _ _, by simp, by simp, Below.refl _ _⟩
    case round =>
      obtain ⟨k, hk, rfl, hown, hall, hof, hbel⟩ := hrel
      obtain ⟨ao2, cap2, rfl⟩ := own_any hown
      have hww := HBw.out.trans (hbel.mono (by omega))
      have hsz := hbel.size
      by_cases hkl : k < l.len
      · obtain ⟨b, o, ha, n1, c, hn1, hat, hH1⟩ := xkid_at (HL.out.keep (Keeps.below hww)) (HK.out.keep (by decide) (Keeps.below hww)) hkl
        subst ha
        have hko : k < ofs.length := by rw [HLen.out]; exact hkl
        obtain ⟨r, hr⟩ : ∃ r, ofs[k]? = some r := ⟨_, List.getElem?_eq_getElem hko⟩
        have hl1 := hH1.length
        have HOne := Lib.hid hH1.one
        have HAt := Lib.hid hat
        have hd : ofs.drop k = r :: ofs.drop (k + 1) := by
          rw [List.drop_eq_getElem_cons hko, ← Option.some.inj ((List.getElem?_eq_getElem hko).symm.trans hr)]
        have htk : (ofs.map (·.1)).take (k + 1) = (ofs.map (·.1)).take k ++ [r.1] := by
          rw [List.take_add_one, List.getElem?_map, hr]; rfl
        have hall1 : r.2.2 = 0 → ∀ x ∈ ofs.take (k + 1), x.2.2 = 0 := by
          intro h0 x hx
          rw [List.take_add_one, hr, List.mem_append] at hx
          rcases hx with hx | hx
          · exact hall x hx
          · simp at hx; rw [hx]; exact h0
        rw [hd, ofR] at hof
        have hH1' := hH1.below ((Below.refl _ _).alloc (Nat.le_refl _) (.cells c.toArray 42))
        have HIH := Lib.hid (HKids.out k n1 r hn1 hr _ c hH1')
        have HBel := Lib.hid hbel; have HWw := Lib.hid hww; have HOwn := Lib.hid hown; have HAll := Lib.hid hall1; have HTk := Lib.hid htk; have HOf := Lib.hid hof
        clear hbel hww hown hall1 htk hof hH1 hH1' hat hn1 hr hall hd hk16
        obtain ⟨x1, x2, x3⟩ := r
        go_wp2_with (first | (with_reducible refine wpList_newX rfl rfl 7 (.tmp 27) rfl rfl rfl rfl c rfl rfl hl1 HOne.out ?_) | (with_reducible refine wpList_loadX rfl _ rfl b (o + k * 17) rfl c HAt.out hl1 ?_) | (with_reducible refine wpList_loadX rfl _ rfl wr.heap.size 0 rfl c (range_blk (blk_new wr _)) hl1 ?_))
        (with_reducible refine HIH.out.mono ?_)
        rintro e W1 ⟨rfl, hb1⟩
        have hsw := HWw.out.size
        have hbx : Below wr.heap.size wr W1 := ((Below.refl _ _).alloc (Nat.le_refl _) _).trans (hb1.mono (by simp))
        have HOwn1 := Lib.hid (own_below' HOwn.out hbx)
        have hbel1 := HBel.out.trans (hbx.mono hsz)
        have hsz1 := hbel1.size
        have HBel1 := Lib.hid hbel1
        clear hb1 hbx hbel1
        obtain ⟨x, hx3⟩ : ∃ x, (x3 == 0) = x := ⟨_, rfl⟩
        have hof := HOf.out
        cases x with
        | true =>
          have h30 : x3 = 0 := by simpa using hx3
          subst h30
          have hof' : ofR ofs r0 = ofR (ofs.drop (k + 1)) r0 := hof
          have HAll1 := Lib.hid (HAll.out rfl)
          have HOf' := Lib.hid hof'
          clear hof hof' hx3
          go_wp2_with (at_builtin; refine wpList_appI rfl (.tmp 38) (.tmp 40) rfl HOwn1.out hsz1 [x1] (by simp) (by show k + 1 ≤ 1000; omega) [.int .i64 x1] rfl _ rfl rfl rfl ?_; intro g1 cap1 w2 hown2 hgrow2 hat2 hlt3; have HOwn2 := Lib.hid hown2; have HBel2 := Lib.hid ((HBel1.out.alloc hsz1 _).grown hgrow2 (by simp; omega) (fun k hk => (HOwn1.out.lt k hk).1)); clear hown2 hgrow2 hat2 hlt3)
          go_roundw
          case rel => exact ⟨k + 1, by omega, by go_num, by rw [HTk.out]; exact HOwn2.out, HAll1.out, HOf'.out, HBel2.out⟩
          case measure => (simp [intOf] <;> omega)
        | false =>
          have hof' : ofR ofs r0 = (0, x2, x3) := by rw [hof]; show (if (x3 == 0) = true then _ else _) = _; rw [hx3]; rfl
          have HF := Lib.hid hof'
          have HW1 := Lib.hid (HBw.out.trans (HBel1.out.mono (by omega)))
          have hx4 : (x3 != 0) = true := by rw [bne, hx3]; rfl
          clear hof hof'
          go_wp2_with fail
          rw [HF.out]
          refine bodyPost_ret (v := .tuple #[.int .i64 0, .int .i64 x2, .int .i64 x3]) (by simp [results, Tryz.results10, go_sem, *]) rfl ⟨rfl, HW1.out⟩
      · obtain rfl : k = l.len := by omega
        have hd : ofs.drop l.len = [] := List.drop_eq_nil_of_le (by rw [HLen.out]; exact Nat.le_refl _)
        have ht : ofs.take l.len = ofs := List.take_of_length_le (by rw [HLen.out]; exact Nat.le_refl _)
        rw [hd] at hof
        rw [ht] at hall
        rw [List.take_of_length_le (by rw [List.length_map, HLen.out]; exact Nat.le_refl _)] at hown
        have hrow : Row wr Any (.slice ao2 l.len cap2) l.len 1 (ints (ofs.map (·.1))) := (row_ownG hown).keep (by decide) fun _ _ _ => ⟨rfl, trivial⟩
        have HO := Lib.hid (HOwnF.out hall wr cs _ (HH.out.below hww) hrow)
        have HBx := Lib.hid ((hbel.block _ (blk_lt HBb.out)).trans HBb.out)
        have HWw := Lib.hid hww; have HOf := Lib.hid hof
        clear hd ht hof hall hown hrow hww hbel hk16
        go_wp2_with (with_reducible refine wpList_loadX rfl _ rfl W.heap.size 0 rfl cs (range_blk HBx.out) hlcs ?_)
        (with_reducible refine HO.out.mono ?_)
        rintro e W1 ⟨rfl, hb1⟩
        have HW1 := Lib.hid (HWw.out.trans (hb1.mono HWw.out.size))
        clear hb1
        obtain ⟨t0, a0⟩ := r0
        have hof := HOf.out
        obtain ⟨x, hx3⟩ : ∃ x, (t0 == 0) = x := ⟨_, rfl⟩
        cases x with
        | true =>
          have hof' : ofR [] (t0, a0) = (0, a0, 3) := by rw [ofR, hx3]; rfl
          have HF := Lib.hid (hof.trans hof')
          clear hof hof'
          go_wp2_with fail
          rw [HF.out]
          refine bodyPost_ret (v := .tuple #[.int .i64 0, .int .i64 a0, .int .i64 3]) (by simp [results, Tryz.results10, go_sem, *]) rfl ⟨rfl, HW1.out⟩
        | false =>
          have hof' : ofR [] (t0, a0) = (t0, 0, 0) := by rw [ofR, hx3]; rfl
          have HF := Lib.hid (hof.trans hof')
          clear hof hof'
          go_wp2_with fail
          rw [HF.out]
          refine bodyPost_ret (v := .tuple #[.int .i64 t0, .int .i64 0, .int .i64 0]) (by simp [results, Tryz.results10, go_sem, *]) rfl ⟨rfl, HW1.out⟩
end Go.Proofs.YtjddnchenhnemaaGreatDoor.Ps
