/-
  The statement FvalSums: its walk.
-/
import Derived.Test.YtdmmmdnfofoefaaGreatDoorFlK
import Derived.Test.YtdmmmdnfofoefaaGreatDoorFlQ
namespace Go.Proofs.YtdmmmdnfofoefaaGreatDoor.Fl
open Go Go.RowKit Go.Proofs.YtdmmmdnfofoefaaGreatDoor.Rg
set_option maxHeartbeats 16000000
set_option maxRecDepth 100000

theorem sumV_canon (l : List Nat) : canon (sumV l) = sumV l := by
  rcases l with _ | ⟨x, l⟩
  · exact canon_of_num nan_0
  · exact foldS_canon x l
theorem sumV_snoc {l : List Nat} (h : l ≠ []) (y : Nat) : sumV (l ++ [y]) = arith .add (sumV l) y := by
  rcases l with _ | ⟨x, l⟩
  · exact absurd rfl h
  · exact foldS_snoc x l y
def f64s (l : List Nat) : List Value := l.map fun x => .float .f64 x
theorem f64s_length (l : List Nat) : (f64s l).length = l.length := by simp [f64s]
theorem f64s_app (a b : List Nat) : f64s (a ++ b) = f64s a ++ f64s b := by simp [f64s]
theorem f64s_one (l : List Nat) : ∀ u ∈ f64s l, u.oneCell' = true := by
  intro u hu
  simp only [f64s, List.mem_map] at hu
  obtain ⟨b, _, rfl⟩ := hu
  rfl
theorem infoF64 : (Tryz.prog.info? 24).map (fun i => (i.zero, i.size, i.bytes)) = some (some (.float .f64 0), 1, 8) := by kernel_rfl
/-- A row of values of one's own. -/
structure Fts (W wr : World) (v : Value) (N : Nat) (l : List Nat) : Prop where
  own : wr.ownsRow W.heap.size 24 1 v N (f64s l)
  len : l.length = N
  bel : Below W.heap.size W wr
theorem Fts.form {W wr : World} {v : Value} {N : Nat} {l : List Nat} (h : Fts W wr v N l) : ∃ ao cap, v = .slice ao N cap := own_any h.own
theorem Fts.fls {W wr : World} {v : Value} {N : Nat} {l : List Nat} (h : Fts W wr v N l) : Fls wr v l := by
  rcases h.own.2 with ⟨h1, h2⟩ | ⟨g, cap, cur, h1, h2, h3, h4, h5, h6, h7⟩
  · left
    refine ⟨h1, ?_⟩
    have := h.len
    exact List.eq_nil_of_length_eq_zero (by omega)
  · right
    have hl := h.len
    refine ⟨g, cap, by rw [hl]; exact h1, by omega, fun i hi => ?_⟩
    rw [blk_cell h3 i, ← Array.getElem?_toList]
    have h8 : (cur.toList.take (N * 1))[i]? = (f64s l)[i]? := by rw [h7]
    rw [List.getElem?_take, if_pos (by omega)] at h8
    rw [h8]
    simp [f64s, hi]
theorem Fls.drewN {w : World} {v : Value} {l : List Nat} (h : Fls w v l) (n : Nat) : Fls (w.drewN n) v l := h
theorem wpList_fts {ops : Array Oper} {rest : List Oper} {o : Oper} {a : Act} {Q : Exit → Act → World → Prop} (hgd : o.guard = none) (s xo : Operand)
    (ho : o.op = .call { callee := .builtin .append, args := #[s, xo], argTypes := #[30, 30] })
    {W wr : World} {v : Value} {N : Nat} {l : List Nat} (h : Fts W wr v N l) (c : Nat) (hN : N ≤ 100000)
    (hs : a.eval s = v) (hx : a.eval xo = .slice (some ⟨wr.heap.size, 0, none⟩) 1 1)
    (hk : ∀ g cap w', Fts W w' (.slice (some ⟨g, 0, none⟩) (N + 1) cap) (N + 1) (l ++ [c]) → wpList Tryz.prog ops Q rest (a.put o.dst (.slice (some ⟨g, 0, none⟩) (N + 1) cap)) w') :
    wpList Tryz.prog ops Q (o :: rest) a (wr.alloc (.cells #[.float .f64 c] 24)) := by
  obtain ⟨i0, hi0, hz0, hz1, hz2⟩ := info_parts infoF64
  have hsz := h.bel.size
  refine wpList_append_lies _ hgd s xo 30 ho W.heap.size 24 i0 (.float .f64 0) 1 8 Tryz.underlying30 hi0 hz0 hz1 hz2 rfl (by decide) v N (f64s l) hs (h.own.alloc _) ⟨wr.heap.size, 0, none⟩ 1 1 (f64s [c]) hx (by rw [f64s_length]; rfl) (World.news_of_block (cs := (f64s [c]).toArray) (t := 24) (fr := (0, 0)) (blk_new _ _)) (f64s_one [c]) (by decide) (by unfold maxLen; omega) (by omega) (by simp; omega) (wr.heap.size + 1) (by simp) ?_
  intro g cap w' hown hgrow hat hlt'
  exact hk g cap w' ⟨by rw [f64s_app]; exact hown, by rw [List.length_append, h.len]; rfl, (h.bel.alloc hsz _).grown hgrow (by simp; omega) (fun k hk => (h.own.lt k hk).1)⟩
/-- A slice of words that came in. -/
def InU (W : World) (v : Value) (l : List Nat) : Prop :=
  (∃ c, v = .slice none 0 c ∧ l = []) ∨ ∃ (a : Addr) (cap : Nat), v = .slice (some a) l.length cap ∧ ∀ i (h : i < l.length), a.block < W.heap.size ∧ W.cell? (a.add i) = some (.int .u64 ((l[i]'h : Nat) : Int))
/-- What stands behind the loop. -/
theorem sums_calls (v : Value) (l : List Nat) (W : World) (hin : InU W v l) (hlm : l.length ≤ maxLen) (hL : Laid W) :
    Calls Tryz.prog 4 #[v] W (LawPost W) := by
  unfold maxLen at hlm
  have hf := run_frombits
  have htb := run_tobits
  have HK := Lib.hid (known_calls W hL)
  clear hL
  rcases hin with ⟨c, rfl, rfl⟩ | ⟨a, cap, rfl, hcells⟩
  · go_enter Tryz.func4, Tryz.ntmps4
    go_wp2_with fail
    refine HK.out.mono ?_
    rintro e W1 ⟨rfl, hb⟩
    have HB := Lib.hid hb
    clear hb
    have hs0 : sumV [] = 0 := rfl
    have hc0 : canon 0 = 0 := canon_of_num nan_0
    go_wp2_with fail
    refine wp_loop_rounds 1 ?_
    rw [rounds_succ]
    go_wp2_with (first | ((refine (sum_calls _ [] _ (by decide) (.inl ⟨rfl, rfl⟩)).mono ?_); rw [hs0]; rintro e w' ⟨rfl, n1, rfl⟩) | ((refine (rsum_calls _ [] _ (by decide) (.inl ⟨rfl, rfl⟩)).mono ?_); rw [hs0]; rintro e w' ⟨rfl, n2, rfl⟩) | ((with_reducible refine (rbits_calls _ _).mono ?_); rw [hc0]; rintro e w' ⟨rfl, rfl⟩) | fail)
    go_ret
    exact ⟨rfl, below_drewN HB.out _⟩
  · have HCells := Lib.hid hcells
    clear hcells
    go_enter Tryz.func4, Tryz.ntmps4
    go_wp2_with fail
    refine HK.out.mono ?_
    rintro e W1 ⟨rfl, hb⟩
    have HB := Lib.hid hb
    clear hb
    by_cases h6 : 600 < l.length
    · go_wp2_with fail
      go_ret
      exact ⟨rfl, HB.out⟩
    go_wp2_with fail
    go_loopw [3, 4] (fun vq i wr => ∃ (k : Nat) (vv : Value) (N : Nat), vv = vq ∧ k ≤ l.length ∧ i = .int .i64 (k : Int) ∧ Fts W wr vv N (l.take k)) (fun _ i _ => l.length - (RowKit.intOf i).toNat)
    case atStart => exact ⟨0, _, 0, rfl, Nat.zero_le _, rfl, ⟨⟨rfl, .inl ⟨rfl, rfl⟩⟩, rfl, HB.out⟩⟩
    case round =>
      obtain ⟨k, vv, N, rfl, hk, rfl, hF⟩ := hrel
      have hN : N = k := by rw [← hF.len, List.length_take]; omega
      subst hN
      obtain ⟨ao, vcap, hvv⟩ := hF.form
      subst hvv
      have HF := Lib.hid hF; clear hF
      by_cases hkl : N < l.length
      · have hcell : wr.cell? (a.add N) = some (.int .u64 ((l[N]'hkl : Nat) : Int)) := by
          rw [HF.out.bel.cell (by unfold Addr.add; split <;> exact (HCells.out N hkl).1)]
          exact (HCells.out N hkl).2
        have htk : l.take (N + 1) = l.take N ++ [l[N]'hkl] := by rw [List.take_add_one, List.getElem?_eq_getElem hkl]; rfl
        generalize l[N]'hkl = y at hcell htk
        have HT := Lib.hid htk
        clear htk
        go_wp2_with (at_builtin; refine wpList_fts rfl (.tmp 19) (.tmp 25) rfl HF.out y (by omega) rfl rfl ?_; intro g2 cap2 w2 hF2; have HF2 := Lib.hid hF2; clear hF2)
        go_roundw
        case rel => exact ⟨N + 1, _, N + 1, rfl, hkl, by go_num, by rw [HT.out]; exact HF2.out⟩
        case measure => simp [RowKit.intOf]; omega
      · have hke : N = l.length := by omega
        have hte : l.take N = l := by rw [hke, List.take_length]
        rw [hte] at HF
        subst hke
        have hsc := sumV_canon l
        have HSC := Lib.hid hsc
        have H1E := Lib.hid (show l.length ≤ 100000 by omega)
        have HFls := Lib.hid HF.out.fls
        clear hsc hte
        by_cases h2 : l.length < 2
        · go_wp2_with (first | ((with_reducible refine (sum_calls _ l _ H1E.out HFls.out).mono ?_); rintro e w' ⟨rfl, n1, rfl⟩) | ((with_reducible refine (rsum_calls _ l _ H1E.out (HFls.out.drewN _)).mono ?_); rintro e w' ⟨rfl, n2, rfl⟩) | ((with_reducible refine (rbits_calls _ _).mono ?_); rw [HSC.out]; rintro e w' ⟨rfl, rfl⟩) | fail)
          go_ret
          exact ⟨rfl, below_drewN HF.out.bel _⟩
        · obtain ⟨m, y, hmy⟩ : ∃ m y, l = m ++ [y] := by
            rcases List.eq_nil_or_concat l with h | ⟨m, y, h⟩
            · rw [h] at h2; simp at h2
            · exact ⟨m, y, by rw [h, List.concat_eq_append]⟩
          have hn : l.length = m.length + 1 := by rw [hmy]; simp
          have hm0 : 0 < m.length := by omega
          have hsame : sameB (sumV l) (opV 1 (sumV m) y) = true := by
            rw [hmy, sumV_snoc (fun e => by rw [e] at hm0; exact absurd hm0 (by decide)) y]
            exact same_refl _
          have hfl := HFls.out
          rcases hfl with ⟨_, e⟩ | ⟨g, cap', e, hcap', hc'⟩
          · rw [e] at h2; simp at h2
          simp only [Value.slice.injEq, true_and] at e
          obtain ⟨rfl, rfl⟩ := e
          have hlast : wr.cell? ⟨g, m.length, none⟩ = some (.float .f64 y) := by
            rw [hc' m.length (by omega)]
            simp [hmy]
          have hfm : Fls wr (.slice (some ⟨g, 0, none⟩) m.length vcap) m := by
            refine .inr ⟨g, vcap, rfl, by omega, fun i hi => ?_⟩
            rw [hc' i (by omega)]
            simp [hmy, List.getElem_append_left hi]
          have HM := Lib.hid hfm
          have HSame := Lib.hid hsame
          have hcap2 : m.length + 1 ≤ vcap := by omega
          clear hmy hfm hsame hc' hcap'
          obtain ⟨n, hnm⟩ : ∃ n, m.length = n := ⟨_, rfl⟩
          rw [hnm] at hlast HM hcap2 hm0 hn
          have HNM := Lib.hid hnm
          clear hnm
          rw [hn] at HFls h2 h6 hlm ⊢
          clear hn
          go_wp2_with (first | ((with_reducible refine (sum_calls _ l _ H1E.out HFls.out).mono ?_); rintro e w' ⟨rfl, n1, rfl⟩) | ((with_reducible refine (rsum_calls _ l _ H1E.out (HFls.out.drewN _)).mono ?_); rintro e w' ⟨rfl, n2, rfl⟩) | ((with_reducible refine (rbits_calls _ _).mono ?_); rw [HSC.out]; rintro e w' ⟨rfl, rfl⟩) | fail)
          have hlast2 : (wr.drewN (n1 + n2)).cell? ⟨g, n, none⟩ = some (.float .f64 y) := hlast
          have HM2 := Lib.hid (HM.out.drewN (n1 + n2))
          have HB2 := Lib.hid (below_drewN HF.out.bel (n1 + n2))
          generalize wr.drewN (n1 + n2) = wx at hlast2 HM2 HB2 ⊢
          clear hlast HM
          have z1 : (0 : Int) ≤ n := by omega
          have z2 : (n : Int) ≤ vcap := by omega
          have z3 : n ≤ vcap := by omega
          have z4 : ¬ vcap < n := by omega
          have z5 : (n : Int) < n + 1 := by omega
          have z6 : n < n + 1 := by omega
          have hwr : IntKind.i64.wrap (n : Int) = n := by simp [IntKind.wrap, IntKind.signed, IntKind.bits]; omega
          go_quiet ((first | (go_at_call 11; exact Calls.quiet_of (sum_calls (.slice (some ⟨g, 0, none⟩) n vcap) m _ (by have := HNM.out; omega) (HM2.out.drewN _))) | (go_at_call 15; exact Calls.quiet_of (op_calls 1 (sumV m) y _))))
          clear hwr z1 z2 z3 z4 z5 z6
          go_wp2_with (first | ((with_reducible refine (same_calls _ _ _).mono ?_); rw [HSame.out]; rintro e w' ⟨rfl, rfl⟩) | fail)
          go_ret
          exact ⟨rfl, below_drewN HB2.out _⟩
/-- A slice of words, as the statement's reading gives it. -/
theorem inU_of {W : World} {a : Addr} {len cap : Nat} {zs : List Int} (hl : len ≤ zs.length) (hc : ∀ i, i < zs.length → W.cell? (a.add i) = some (.int .u64 (zs.getD i 0))) (hw : ∀ n ∈ zs, (Lit.int .u64 n).wf = true) :
    ∃ l : List Nat, l.length = len ∧ InU W (.slice (some a) len cap) l := by
  have hlen : ((zs.take len).map fun n => n.toNat).length = len := by rw [List.length_map, List.length_take]; omega
  refine ⟨(zs.take len).map fun n => n.toNat, hlen, .inr ⟨a, cap, by rw [hlen], fun i h => ?_⟩⟩
  rw [hlen] at h
  have hz : i < zs.length := by omega
  have hci := hc i hz
  have hn := hw _ (List.getElem_mem hz)
  have hn' : 0 ≤ zs[i] ∧ zs[i] ≤ 18446744073709551615 := by simpa [Lit.wf, IntKind.min, IntKind.max, IntKind.signed, IntKind.bits] using hn
  refine ⟨?_, ?_⟩
  · apply Classical.byContradiction
    intro hge
    have hnone : W.heap[(a.add i).block]? = none := by
      have : (a.add i).block = a.block := by unfold Addr.add; split <;> rfl
      rw [this, Array.getElem?_eq_none]; omega
    simp only [World.cell?, hnone] at hci
    cases hci
  · rw [hci]
    simp only [List.getElem_map, List.getElem_take, List.getD, List.getElem?_eq_getElem hz, Option.getD_some]
    congr 2
    omega
end Go.Proofs.YtdmmmdnfofoefaaGreatDoor.Fl
