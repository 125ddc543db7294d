/-
  All names of functions, what the document tells: they rise.
-/
import Derived.Test.YtjddnchenhnemaaGreatDoorQaF
import Derived.Test.YtjddnchenhnemaaGreatDoorPsY
import Derived.Deep.RegionHeld3
import Derived.Deep.AppendSrc
import Derived.Deep.Upon
import Derived.BigQuiet
import Derived.Deep.CutBlock
import Derived.Deep.CutRange
namespace Go.Proofs.YtjddnchenhnemaaGreatDoor.Ps
open Go Go.RowKit Go.Sort Go.Proofs.YtjddnchenhnemaaGreatDoor.QT Go.Proofs.YtjddnchenhnemaaGreatDoor.Rg Go.Proofs.YtjddnchenhnemaaGreatDoor.Ma Go.Proofs.YtjddnchenhnemaaGreatDoor.Ir
set_option maxHeartbeats 8000000
set_option maxRecDepth 100000
def allL : List ByteArray := name9 ++ winL
/-- A name into a rising list. -/
def ins (x : ByteArray) : List ByteArray → List ByteArray
  | [] => [x]
  | y :: l => if Op.bytesLess y.toList x.toList then y :: ins x l else x :: y :: l
def insAll (n : Nat) : List ByteArray := (allL.take n).foldl (fun l x => ins x l) []
theorem ins_all : insAll 23 = sortL := by decide +kernel
theorem own_le {w : World} {B e size n cap : Nat} {ao : Option Addr} {xs : List Value} (h : w.ownsRow B e size (.slice ao n cap) n xs) : n ≤ cap := by
  rcases h.2 with ⟨h1, h2⟩ | ⟨g, cap', cur, h1, h2, h3, h4, _⟩
  · omega
  · simp only [Value.slice.injEq] at h1
    obtain ⟨-, -, rfl⟩ := h1
    exact h4
theorem row_take {w : World} {F : Nat → Prop} {ao : Option Addr} {n j cap : Nat} {L : List ByteArray} (h : Row w F (.slice ao n cap) n 1 (scells L)) (hj : j ≤ L.length) (hjn : j ≤ n) (hl : L.length = n) : Row w F (.slice ao j cap) j 1 (scells (L.take j)) := by
  obtain ⟨h1, ao', cap', hv, hc⟩ := h
  simp only [Value.slice.injEq] at hv
  obtain ⟨rfl, -, rfl⟩ := hv
  refine ⟨by simp [scells]; omega, ao, cap, rfl, fun h0 => ?_⟩
  obtain ⟨b, o, hF, ha, hr⟩ := hc (by omega)
  refine ⟨b, o, hF, ha, fun i u hi => hr i u ?_⟩
  have hi' : ((scells L).take j)[i]? = some u := by simpa [scells] using hi
  rw [List.getElem?_take] at hi'
  split at hi'
  · exact hi'
  · cases hi'
theorem own_some {w : World} {B e size n cap : Nat} {ao : Option Addr} {xs : List Value} (h : w.ownsRow B e size (.slice ao n cap) n xs) (hc : 0 < cap) : ∃ g, ao = some ⟨g, 0, none⟩ := by
  rcases h.2 with ⟨h1, h2⟩ | ⟨g, cap', cur, h1, h2, h3, h4, _⟩
  · simp only [Value.slice.injEq] at h1
    omega
  · simp only [Value.slice.injEq] at h1
    exact ⟨g, h1.1⟩
theorem row_drop {w : World} {F : Nat → Prop} {g n j cap : Nat} {L : List ByteArray} (h : Row w F (.slice (some ⟨g, 0, none⟩) n cap) n 1 (scells L)) (hj : j ≤ n) (hl : L.length = n) : Row w F (.slice (some ⟨g, j, none⟩) (n - j) (cap - j)) (L.drop j).length 1 (scells (L.drop j)) := by
  obtain ⟨h1, ao', cap', hv, hc⟩ := h
  simp only [Value.slice.injEq] at hv
  obtain ⟨rfl, -, rfl⟩ := hv
  rw [List.length_drop, hl]
  refine ⟨by simp [scells]; omega, _, _, rfl, fun h0 => ?_⟩
  obtain ⟨b, o, hF, ha, hr⟩ := hc (by omega)
  simp only [Option.some.injEq, Addr.mk.injEq, and_true] at ha
  obtain ⟨rfl, rfl⟩ := ha
  refine ⟨g, j, hF, rfl, fun i u hi => ?_⟩
  have := hr (j + i) u (by simpa [scells, List.getElem?_drop] using hi)
  rw [Nat.zero_add] at this
  exact this
theorem insAll_succ {n : Nat} {t : ByteArray} (h : allL[n]? = some t) : insAll (n + 1) = ins t (insAll n) := by
  unfold insAll
  rw [List.take_add_one, h, List.foldl_append]; rfl
theorem rnames_calls (W : World) : Calls Tryz.prog 8 #[] W (RetR sortL W) := by
  go_enter Tryz.func8, Tryz.ntmps8
  go_wp2_with fail
  go_loopw [1, 2] (fun v i wr => ∃ k : Nat, k ≤ 14 ∧ i = .int .i64 ((k : Int) + 1) ∧ wr.ownsRow W.heap.size 9 1 v (9 + k) (scells (name9 ++ winL.take k)) ∧ Below W.heap.size W wr) (fun _ i _ => (15 - intOf i).toNat)
  case atStart => exact ⟨0, by decide, rfl, ⟨rfl, .inr ⟨W.heap.size, 9, (scells name9).toArray, rfl, Nat.le_refl _, blk_new W _, by decide, by decide, rfl, rfl⟩⟩, (Below.refl _ _).alloc (Nat.le_refl _) _⟩
  case round =>
    obtain ⟨k, hk, rfl, hown, hbel⟩ := hrel
    obtain ⟨ao, cap, rfl⟩ := own_any hown
    by_cases hk14 : k < 14
    · have hwl : winL.length = 14 := rfl
      obtain ⟨t, ht⟩ : ∃ t, winL[k]? = some t := ⟨_, List.getElem?_eq_getElem (by rw [hwl]; exact hk14)⟩
      have ht2 : windowL[k + 1]? = some t := ht
      have htk : winL.take (k + 1) = winL.take k ++ [t] := by rw [List.take_add_one, ht]; rfl
      have HN := Lib.hid (rwinName_calls (k + 1) (by omega) (by omega) t ht2)
      have HTk := Lib.hid htk; have HOwn := Lib.hid hown; have HBel := Lib.hid hbel
      have hsz := hbel.size
      clear hwl ht ht2 htk hown hbel
      have hc : ((k + 1 : Nat) : Int) = (k : Int) + 1 := by omega
      rw [hc] at HN
      clear hc
      go_wp2_with fail
      (with_reducible refine (HN.out _).mono ?_)
      rintro e w1 ⟨rfl, hb1⟩
      have hown1 := HOwn.out
      have HOwn1 := Lib.hid (own_below' hown1 hb1)
      have hbel1 := HBel.out.trans (hb1.mono hsz)
      have hsz1 := hbel1.size
      have HBel1 := Lib.hid hbel1
      clear hb1 hbel1 hown1
      go_wp2_with (at_builtin; refine wpList_appS rfl (.tmp 12) (.tmp 15) rfl HOwn1.out hsz1 t (by omega) _ rfl rfl rfl ?_; intro g1 cap1 w2 hown2 hgrow2; have HOwn2 := Lib.hid hown2; have HBel2 := Lib.hid ((HBel1.out.alloc hsz1 _).grown hgrow2 (by simp; omega) (fun k hk => (HOwn1.out.lt k hk).1)); clear hown2 hgrow2)
      go_roundw
      case rel => exact ⟨k + 1, by omega, by go_num, by rw [HTk.out, ← List.append_assoc]; exact HOwn2.out, HBel2.out⟩
      case measure => (simp [intOf] <;> omega)
    · have e15 : (k : Int) + 1 = 15 := by omega
      have e23 : 9 + k = 23 := by omega
      obtain ⟨v1, hv1⟩ : ∃ v1, Value.slice ao (9 + k) cap = v1 := ⟨_, rfl⟩
      rw [hv1] at hown
      rw [e15, hv1]
      rw [e23] at hv1 hown
      subst hv1
      have hall : name9 ++ winL.take k = allL := by rw [show k = 14 by omega]; rfl
      rw [hall] at hown
      clear e15 e23 hk hk14
      have hrow : Row wr Any (.slice ao 23 cap) 23 1 (scells allL) := (row_ownG hown).keep (by decide) fun _ _ _ => ⟨rfl, trivial⟩
      have HRow := Lib.hid hrow; have HBel := Lib.hid hbel
      have hsz := hbel.size
      clear hall hown hbel hrow
      go_wp2_with fail
      go_loopw [3, 4] (fun v i w2 => ∃ n : Nat, n ≤ 23 ∧ i = .int .i64 (n : Int) ∧ w2.ownsRow wr.heap.size 9 1 v n (scells (insAll n)) ∧ Below wr.heap.size wr w2) (fun _ i _ => 23 - (intOf i).toNat)
      case atStart => exact ⟨0, by decide, rfl, World.ownsRow_nil _ _ _ _, Below.refl _ _⟩
      case round =>
        rename World => w2
        obtain ⟨n, hn, rfl, hown2, hbel2⟩ := hrel
        obtain ⟨ao2, cap2, rfl⟩ := own_any hown2
        by_cases hn23 : n < 23
        · obtain ⟨bl, ol, t, ha, ht, hct⟩ := row_str (HRow.out.keep (by decide) (Keeps.below hbel2)) rfl (k := n) (by show n < 23; omega)
          subst ha
          have hlen : (insAll n).length = n := by have := hown2.1; simpa [scells] using this
          have HOwn2 := Lib.hid hown2; have HBel2 := Lib.hid hbel2; have HT := Lib.hid ht; have HCt := Lib.hid hct
          have hsz2 := hbel2.size
          clear hown2 hbel2 ht hct
          obtain ⟨L, hL⟩ : ∃ L, insAll n = L := ⟨_, rfl⟩
          rw [hL] at HOwn2 hlen
          have HL := Lib.hid hL; clear hL
          have hdn : decide ((n : Int) < 23) = true := decide_eq_true (by omega)
          go_upto_block 4 with fail
          go_cut [5] from 23 to 39 (fun k wx => ∃ j : Nat, j ≤ n ∧ k = .int .i64 (j : Int) ∧ ins t L = L.take j ++ t :: L.drop j ∧ Below w2.heap.size w2 wx)
          case first =>
            go_wp2_with fail
            go_loopw [5] (fun k w3 => ∃ j : Nat, j ≤ n ∧ k = .int .i64 (j : Int) ∧ ins t L = L.take j ++ ins t (L.drop j) ∧ Below w2.heap.size w2 w3) (fun k _ => n - (intOf k).toNat)
            case atStart => exact ⟨0, Nat.zero_le _, rfl, rfl, Below.refl _ _⟩
            case round =>
              rename World => w3
              obtain ⟨j, hj, rfl, hins, hbel3⟩ := hrel
              have hct3 : w3.cell? ⟨bl, ol + n, none⟩ = some (.string t) := (World.cell?_of_block (a := ⟨bl, ol + n, none⟩) (hbel3.block bl (World.block_lt_of_cell? w2 _ HCt.out))).trans HCt.out
              by_cases hjn : j < n
              · obtain ⟨bo, oo, u, ha, hu, hcu⟩ := row_str (((row_ownG HOwn2.out).keep (F1 := Any) (by decide) fun _ _ _ => ⟨rfl, trivial⟩).keep (by decide) (Keeps.below hbel3)) rfl (k := j) (by omega)
                subst ha
                have hjl : j < L.length := by omega
                have hd : L.drop j = u :: L.drop (j + 1) := by rw [List.drop_eq_getElem_cons hjl, ← Option.some.inj ((List.getElem?_eq_getElem hjl).symm.trans hu)]
                have htk : L.take (j + 1) = L.take j ++ [u] := by rw [List.take_add_one, hu]; rfl
                obtain ⟨b, hb⟩ : ∃ b, Op.bytesLess u.toList t.toList = b := ⟨_, rfl⟩
                rw [hd, ins, hb] at hins
                have HBel3 := Lib.hid hbel3; have HIns := Lib.hid hins; have HD := Lib.hid hd; have HTk := Lib.hid htk
                clear hbel3 hins hd htk hu
                cases b with
                | true =>
                  go_wp2_with fail
                  go_quiet (fail)
                  go_wp2_with fail
                  go_roundw
                  case rel => exact ⟨j + 1, by omega, by go_num, by rw [HTk.out, List.append_assoc]; exact HIns.out, Go.Proofs.YtjddnchenhnemaaGreatDoor.Ir.below_drewN HBel3.out _⟩
                  case measure => (simp [intOf] <;> omega)
                | false =>
                  go_wp2_with fail
                  go_quiet (fail)
                  go_wp2_with fail
                  go_meet
                  case rel => exact ⟨j, by omega, rfl, by rw [HIns.out, HD.out]; rfl, Go.Proofs.YtjddnchenhnemaaGreatDoor.Ir.below_drewN HBel3.out _⟩
              · obtain rfl : j = n := by omega
                have HBel3 := Lib.hid hbel3
                have hd : L.drop j = [] := List.drop_eq_nil_of_le (by omega)
                rw [hd] at hins
                have HIns := Lib.hid hins; have HD := Lib.hid hd
                clear hbel3 hins hd
                go_wp2_with fail
                go_quiet (fail)
                go_wp2_with fail
                go_meet
                case rel => exact ⟨j, by omega, rfl, by rw [HIns.out, HD.out]; rfl, Go.Proofs.YtjddnchenhnemaaGreatDoor.Ir.below_drewN HBel3.out _⟩
          case rest =>
            obtain ⟨j, hj, rfl, hins, hbel3⟩ := hcut
            have hjl : j ≤ L.length := by omega
            have hnc : n ≤ cap2 := own_le HOwn2.out
            have hjc : (j : Int) ≤ (cap2 : Int) := by omega
            have hjn : (j : Int) ≤ (n : Int) := by omega
            have h0n : (0 : Int) ≤ (n : Int) := by omega
            have hn23i : (n : Int) < 23 := by omega
            have hbl : bl < wc.heap.size := Nat.lt_of_lt_of_le (World.block_lt_of_cell? w2 _ HCt.out) hbel3.size
            have hltk : 0 + (L.take j).length ≤ 100 := by rw [List.length_take]; omega
            have hrow : Row wc Any (.slice ao2 n cap2) n 1 (scells L) := ((row_ownG HOwn2.out).keep (F1 := Any) (by decide) fun _ _ _ => ⟨rfl, trivial⟩).keep (by decide) (Keeps.below hbel3)
            have hct3 : wc.cell? ⟨bl, ol + n, none⟩ = some (.string t) := (World.cell?_of_block (a := ⟨bl, ol + n, none⟩) (hbel3.block bl (World.block_lt_of_cell? w2 _ HCt.out))).trans HCt.out
            have hpre : Row wc Any (.slice ao2 j cap2) (L.take j).length 1 (scells (L.take j)) := by rw [List.length_take, Nat.min_eq_left hjl]; exact row_take hrow hjl hj hlen
            have HRw := Lib.hid hrow; have HBel3 := Lib.hid hbel3; have HIns := Lib.hid hins; have HPre := Lib.hid hpre
            clear hrow hbel3 hins hpre
            go_upto_region 13 with fail
            go_cut [6] from 40 to 50 (fun x wx => wx.ownsRow wc.heap.size 9 1 x ((L.take j).length + 1) (scells (L.take j ++ [t])) ∧ Below wc.heap.size wc wx)
            case first =>
              go_region_held3 (fun w' => w'.cell? ⟨bl, ol + n, none⟩ = some (.string t)) (first | go_keep | (rw [World.cell?_of_block (a := ⟨bl, ol + n, none⟩) (HbF2.out.block bl hbl)]; exact hct3) | (rw [World.cell?_of_block (a := ⟨bl, ol + n, none⟩) (HbF.out.block bl hbl)]; exact hct3))
                (first
                  | (refine step_appR (W0 := wc) (by rfl) (.tmp 40) (.tmp 43) rfl (by rfl) (N := 0) (l := []) (by first | exact ((Below.refl _ _).drew.alloc (Nat.le_refl _) _) | exact (((Below.refl _ _).drew.alloc (Nat.le_refl _) _).alloc (by simp) _)) (by first | exact own_e1 (by simp) (by simp) | exact (own_e1 (by simp) (by simp)).alloc _) (.slice ao2 j cap2) (by rfl) (L.take j) (HPre.out.keep (by decide) (Keeps.below (by first | exact ((Below.refl _ _).drew.alloc (Nat.le_refl _) _) | exact (((Below.refl _ _).drew.alloc (Nat.le_refl _) _).alloc (by simp) _)))) (Nat.le_trans hltk (by decide)) ?_; intro v1 w1 hown1 hgrow1 hb1; rw [Nat.zero_add] at hown1; have HOwn1 := Lib.hid hown1; have HbF := Lib.hid hb1; clear hown1 hb1; first | (have HRt := Lib.hid (row_ii hgrow1 (by rfl)); clear hgrow1) | (have HRt := Lib.hid (row_iii hgrow1 (by rfl)); clear hgrow1) | clear hgrow1)
                  | (refine step_appR (W0 := wc) (by rfl) (.tmp 44) (.tmp 49) rfl (by rfl) (N := (L.take j).length) (l := L.take j) (HbF.out.alloc HbF.out.size _) (HOwn1.out.alloc _) _ (by rfl) [t] (row_new1 (by rfl)) (by show _ + 1 ≤ 1000; omega) ?_; intro v2 w5 hown2 hgrow2 hb2; have HOwn2 := Lib.hid hown2; have HbF2 := Lib.hid hb2; clear hown2 hgrow2 hb2)
                  | (refine step_appR (W0 := wc) (by rfl) (.tmp 44) (.tmp 49) rfl (by rfl) (N := (L.take j).length) (l := L.take j) HbF.out HOwn1.out _ (by rfl) [t] HRt.out (by show _ + 1 ≤ 1000; omega) ?_; intro v2 w5 hown2 hgrow2 hb2; have HOwn2 := Lib.hid hown2; have HbF2 := Lib.hid hb2; clear hown2 hgrow2 hb2))
              all_goals
                go_wp2_with fail
                go_meet
                case rel => exact ⟨HOwn2.out, HbF2.out⟩
            case rest =>
              obtain ⟨hown5, hb5⟩ := hcut
              have hrow5 := HRw.out.keep (by decide) (Keeps.below hb5)
              have hb25 := HBel3.out.trans (hb5.mono HBel3.out.size)
              have HOwn5 := Lib.hid hown5; have HB5 := Lib.hid hb5; have HRow5 := Lib.hid hrow5; have HB25 := Lib.hid hb25
              have hsz5 := hb5.size
              clear hown5 hb5 hrow5 hb25
              have hsz25 := HB25.out.size
              have hsz2' := HBel3.out.size
              have hfin : scells (insAll (n + 1)) = scells (L.take j ++ [t] ++ L.drop j) := by rw [insAll_succ HT.out, HL.out, HIns.out, List.append_assoc]; rfl
              have HFin := Lib.hid hfin; clear hfin
              rcases Nat.lt_or_ge j cap2 with hjc2 | hjc2
              · obtain ⟨g, rfl⟩ := own_some HOwn2.out (by omega)
                have HX := Lib.hid (row_drop HRow5.out (j := j) (by omega) hlen)
                have hcj : ¬ cap2 = j := by omega
                go_wp2_with (at_builtin; refine wpList_appR rfl (.tmp 51) (.tmp 54) rfl (by rfl) HOwn5.out hsz5 (.slice (some ⟨g, j, none⟩) (n - j) (cap2 - j)) (by rfl) (L.drop j) HX.out (by rw [List.length_take, List.length_drop]; omega) ?_; intro v6 w6 hown6 hgrow6; have HOwn6 := Lib.hid hown6; have HB6 := Lib.hid (HB25.out.grown hgrow6 hsz25 (fun k hk => Nat.le_trans hsz2' (HOwn5.out.lt k hk).1)); clear hown6 hgrow6)
                go_roundw
                case rel => exact ⟨n + 1, by omega, by go_num, by have h6 := HOwn6.out.mono (base' := wr.heap.size) (Nat.le_trans hsz2 hsz2'); rw [show (L.take j).length + 1 + (L.drop j).length = n + 1 by rw [List.length_take, List.length_drop]; omega] at h6; rw [HFin.out]; exact h6, HBel2.out.trans (HB6.out.mono hsz2)⟩
                case measure => (simp [intOf] <;> omega)
              · have hnj0 : n - j = 0 := by omega
                have hcj0 : cap2 - j = 0 := by omega
                have hcj : cap2 = j := by omega
                have hx0 : Row wc Any (.slice ao2 0 0) (L.drop j).length 1 (scells (L.drop j)) := by
                  rw [List.drop_eq_nil_of_le (by omega)]
                  exact ⟨rfl, ao2, 0, rfl, fun h => absurd h (by decide)⟩
                have HX := Lib.hid hx0; clear hx0
                go_wp2_with (at_builtin; refine wpList_appR rfl (.tmp 51) (.tmp 54) rfl (by rfl) HOwn5.out hsz5 (.slice ao2 0 0) (by rfl) (L.drop j) HX.out (by rw [List.length_take, List.length_drop]; omega) ?_; intro v6 w6 hown6 hgrow6; have HOwn6 := Lib.hid hown6; have HB6 := Lib.hid (HB25.out.grown hgrow6 hsz25 (fun k hk => Nat.le_trans hsz2' (HOwn5.out.lt k hk).1)); clear hown6 hgrow6)
                go_roundw
                case rel => exact ⟨n + 1, by omega, by go_num, by have h6 := HOwn6.out.mono (base' := wr.heap.size) (Nat.le_trans hsz2 hsz2'); rw [show (L.take j).length + 1 + (L.drop j).length = n + 1 by rw [List.length_take, List.length_drop]; omega] at h6; rw [HFin.out]; exact h6, HBel2.out.trans (HB6.out.mono hsz2)⟩
                case measure => (simp [intOf] <;> omega)
        · obtain rfl : n = 23 := by omega
          have hrow : Row w2 Any (.slice ao2 23 cap2) 23 1 (scells sortL) := by rw [← ins_all]; exact (row_ownG hown2).keep (by decide) fun _ _ _ => ⟨rfl, trivial⟩
          have HRw := Lib.hid hrow
          have HB2 := Lib.hid (HBel.out.trans (hbel2.mono hsz))
          clear hown2 hbel2 hrow
          go_wp2_with fail
          go_ret
          exact ⟨_, rfl, HRw.out, HB2.out⟩
end Go.Proofs.YtjddnchenhnemaaGreatDoor.Ps
