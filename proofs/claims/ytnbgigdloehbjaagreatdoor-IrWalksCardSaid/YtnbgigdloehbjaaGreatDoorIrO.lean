/-
  What is wrong with a node by itself (ir.fields), whole; a plan's type (ir.check).
-/
import Derived.Test.YtnbgigdloehbjaaGreatDoorIrMx
import Derived.Test.YtnbgigdloehbjaaGreatDoorIrN
namespace Go.Proofs.YtnbgigdloehbjaaGreatDoor.Ir
open Go Go.RowKit Go.Proofs.YtnbgigdloehbjaaGreatDoor.Rg Go.Proofs.YtnbgigdloehbjaaGreatDoor.Ma
set_option maxHeartbeats 8000000
set_option maxRecDepth 100000

theorem fields_calls (f : Fd) (l : Kd) (cs : List Value) (W : World) (hll : l.len ≤ 100000) (hS : Sml f) (hH : (Nd.mk f l).Held W Any cs) :
    Calls Tryz.prog 37 #[.agg cs.toArray] W (RetB (.int .i64 (fieldsE f l.len : Nat)) W) := by
  by_cases hk : isK f.kind = true
  · have h : f.kind = 1 ∨ f.kind = 2 ∨ f.kind = 3 ∨ f.kind = 4 ∨ f.kind = 5 ∨ f.kind = 6 ∨ f.kind = 7 ∨ f.kind = 8 ∨ f.kind = 9 ∨ f.kind = 10 ∨ f.kind = 11 ∨ f.kind = 12 ∨ f.kind = 13 := by
      simp only [isK, decide_eq_true_eq] at hk
      omega
    rcases h with h | h | h | h | h | h | h | h | h | h | h | h | h
    · exact fields_1 f l cs W h hll hS hH
    · exact fields_2 f l cs W h hll hS hH
    · exact fields_3 f l cs W h hll hS hH
    · exact fields_4 f l cs W h hll hS hH
    · exact fields_5 f l cs W h hll hS hH
    · exact fields_6 f l cs W h hll hS hH
    · exact fields_7 f l cs W h hll hS hH
    · exact fields_8 f l cs W h hll hS hH
    · exact fields_9 f l cs W h hll hS hH
    · exact fields_10 f l cs W h hll hS hH
    · exact fields_11 f l cs W h hll hS hH
    · exact fields_12 f l cs W h hll hS hH
    · exact fields_13 f l cs W h hll hS hH
  · exact fields_no f l cs W (by simpa using hk) hll hH
mutual
/-- All nodes are small. -/
def Nd.Sm : Nd → Prop
  | .mk f l => Sml f ∧ l.Sm
def Kd.Sm : Kd → Prop
  | .nil => True
  | .snoc l n => l.Sm ∧ n.Sm
end
theorem Kd.Sm.kid : ∀ {l : Kd} {k : Nat} {n : Nd}, l.Sm → l.kids[k]? = some n → n.Sm
  | .nil, k, n, _, h => by simp [Kd.kids] at h
  | .snoc l m, k, n, hs, h => by
    rw [Kd.Sm] at hs
    rw [Kd.kids] at h
    by_cases hk : k < l.kids.length
    · rw [List.getElem?_append_left hk] at h
      exact Kd.Sm.kid hs.1 h
    · rw [List.getElem?_append_right (by omega)] at h
      have hm := List.mem_of_getElem? h
      simp at hm
      subst hm
      exact hs.2
theorem ivals_app (a b : List Nat) : ivals (a ++ b) = ivals a ++ ivals b := by simp [ivals]
/-- One number more. -/
theorem wpList_int1 {ops : Array Oper} {rest : List Oper} {o : Oper} {a : Act} {Q : Exit → Act → World → Prop} (hgd : o.guard = none) (s xo : Operand)
    (ho : o.op = .call { callee := .builtin .append, args := #[s, xo], argTypes := #[76, 76] })
    {B wr : World} {v : Value} {ks : List Nat} (h : wr.ownsRow B.heap.size 3 1 v ks.length (ivals ks)) (hb : Below B.heap.size B wr) (x : Nat) (hN : ks.length ≤ 100000)
    (hs : a.eval s = v) (hx : a.eval xo = .slice (some ⟨wr.heap.size, 0, none⟩) 1 1)
    (hk : ∀ g cap w', w'.ownsRow B.heap.size 3 1 (.slice (some ⟨g, 0, none⟩) (ks.length + 1) cap) (ks ++ [x]).length (ivals (ks ++ [x])) → Below B.heap.size B w' → wpList Tryz.prog ops Q rest (a.put o.dst (.slice (some ⟨g, 0, none⟩) (ks.length + 1) cap)) w') :
    wpList Tryz.prog ops Q (o :: rest) a (wr.alloc (.cells #[.int .i64 (x : Int)] 3)) := by
  obtain ⟨i0, hi0, hz0, hz1, hz2⟩ := info_parts infoInt
  have hsz := hb.size
  refine wpList_plain hgd fun _ hK => ?_
  refine wp_append_lies _ s xo 76 ho B.heap.size 3 i0 (.int .i64 0) 1 8 Tryz.underlying76 hi0 hz0 hz1 hz2 rfl (by decide) v ks.length (ivals ks) hs (h.alloc _) ⟨wr.heap.size, 0, none⟩ 1 1 (ivals [x]) hx rfl (World.news_of_block (cs := #[.int .i64 (x : Int)]) (t := 3) (fr := (0, 0)) (blk_new _ _)) (by simp [ivals, Value.oneCell']) (by omega) (by unfold maxLen; omega) (by omega) (by simp; omega) (wr.heap.size + 1) (by simp) ?_
  intro g cap w' hown hgrow hat hlt
  refine hK _ _ (hk g cap w' ?_ ((hb.alloc hsz _).grown hgrow (by simp; omega) (fun k hk => (h.lt k hk).1)))
  rw [ivals_app, List.length_append]
  exact hown
def RetC (p : Nat × Nat) (W : World) (e : Ending) (W' : World) : Prop := ∃ t er : Nat, e = .returned (.tuple #[.int .i64 (t : Int), .int .i64 (er : Int)]) ∧ p = (t, er) ∧ Below W.heap.size W W'
theorem chk_calls : ∀ (N : Nat) (n : Nd), n.tot ≤ N → N ≤ 100000 → n.Sm → ∀ (W : World) (cs : List Value), n.Held W Any cs →
    Calls Tryz.prog 17 #[.agg cs.toArray] W (RetC n.chk W) := by
  intro N
  induction N with
  | zero => intro n hn; have := n.tot_pos; omega
  | succ N ih =>
    rintro ⟨f, l⟩ hn hN hSm W cs hH
    obtain ⟨vM, vG, vX, vI, ao, cap, ls, hcs, hf, hl, hK⟩ := hH.open
    have hlen := l.len_tot
    have hl17 := hH.length
    rw [Nd.tot] at hn
    rw [Nd.Sm] at hSm
    have hk16 := box_cell (W := W) 16 (show cs[16]? = some (.slice ao l.len cap) by rw [hcs]; rfl)
    have HIH := Lib.hid ih; clear ih
    have HL := Lib.hid hl; have HK := Lib.hid hK; have HH := Lib.hid hH; have HSm := Lib.hid hSm; clear hl hK hH hf hcs hSm
    obtain ⟨B0, hB0⟩ : ∃ B0, B0 = W.alloc (.cells cs.toArray 31) := ⟨_, rfl⟩
    have hbB : Below W.heap.size W B0 := by rw [hB0]; exact (Below.refl _ _).alloc (Nat.le_refl _) _
    have hsB : B0.heap.size = W.heap.size + 1 := by rw [hB0]; simp
    have hkB : B0.heap[W.heap.size]? = some (.cells cs.toArray 31 (0, 0)) := by rw [hB0]; exact blk_new W _
    have HbB := Lib.hid hbB; have HkB := Lib.hid hkB; clear hbB hkB
    go_enter Tryz.func17, Tryz.ntmps17
    go_wp2_with fail
    rw [← hB0]
    clear hB0 hk16
    go_loopw [14, 4] (fun i u wr => ∃ (k : Nat) (ks : List Nat), k ≤ l.len ∧ i = .int .i64 (k : Int) ∧ (l.pre k).chks = .inl ks ∧ wr.ownsRow B0.heap.size 3 1 u ks.length (ivals ks) ∧ Below B0.heap.size B0 wr) (fun i _ _ => l.len - (intOf i).toNat)
    case atStart => exact ⟨0, [], Nat.zero_le _, rfl, by rw [Kd.pre_zero, Kd.chks], World.ownsRow_nil _ _ _ _, Below.refl _ _⟩
    case round =>
      obtain ⟨k, ks, hk, rfl, hks, hown, hbel⟩ := hrel
      have hksl := Kd.chks_len _ _ hks
      by_cases hkl : k < l.len
      · have hbw := HbB.out.trans (hbel.mono (by omega))
        obtain ⟨b, o, ha, n1, c, hn1, hat, hH1⟩ := kid_at (HL.out.keep (Keeps.below hbw)) (HK.out.keep (by decide) (Keeps.below hbw)) hkl
        subst ha
        have hps := l.pre_succ k _ hn1
        have hk1 := (l.pre k).kids_length
        have ht1 := Kd.tot_kid hn1
        have hl1 := hH1.length
        have hsm1 := HSm.out.2.kid hn1
        have hkN : ks.length ≤ 100000 := by
          have h1 := (l.pre k).len_tot
          have h2 := l.tot_pre k
          omega
        clear hksl
        have HOne := Lib.hid hH1.one
        have HAt := Lib.hid hat
        have HN1 := Lib.hid hn1; clear hn1
        have HH1 := Lib.hid hH1; clear hH1 hat
        have HSm1 := Lib.hid hsm1; clear hsm1
        have HPs := Lib.hid hps; clear hps
        have HKs := Lib.hid hks; clear hks
        have HOwn := Lib.hid hown; clear hown
        have HBel := Lib.hid hbel; clear hbel hbw
        have hwsz := HBel.out.size
        obtain ⟨t1, e1, he1⟩ : ∃ t1 e1 : Nat, n1.chk = (t1, e1) := ⟨n1.chk.1, n1.chk.2, rfl⟩
        have HE1 := Lib.hid he1
        by_cases he0 : e1 = 0
        · subst he0
          have hnx : (l.pre (k + 1)).chks = .inl (ks ++ [t1]) := by rw [HPs.out, Kd.chks, HKs.out]; simp [he1]
          have HNx := Lib.hid hnx; clear hnx he1
          go_wp2_with (first | (with_reducible refine wpList_loadNd rfl _ rfl b (o + k * 17) rfl c HAt.out hl1 ?_) | (with_reducible refine wpList_newNd rfl rfl 6 (.tmp 17) rfl rfl rfl rfl c rfl rfl hl1 HOne.out ?_) | (with_reducible refine wpList_loadNd rfl _ rfl wr.heap.size 0 rfl c (range_blk (blk_new wr _)) hl1 ?_))
          (with_reducible refine (HIH.out n1 (by omega) (by omega) HSm1.out _ c (HH1.out.below ((Below.refl _ _).alloc (Nat.le_refl _) _))).mono ?_)
          rintro e W1 ⟨t2, e2, rfl, he2, hb1⟩
          rw [HE1.out, Prod.mk.injEq] at he2
          obtain ⟨rfl, rfl⟩ := he2
          have hb2 : Below wr.heap.size wr W1 := after1 (Below.refl _ _) hb1
          have HOwn1 := Lib.hid (own_below HOwn.out hb2)
          have HB1 := Lib.hid (HBel.out.trans (hb2.mono hwsz)); clear hb1 hb2
          go_wp2_with (at_builtin; refine wpList_int1 rfl (.tmp 26) (.tmp 28) rfl HOwn1.out HB1.out t1 hkN rfl rfl ?_; intro g2 cap2 w2 hO2 hB2; have HO2 := Lib.hid hO2; have HB2 := Lib.hid hB2; clear hO2 hB2)
          go_roundw
          case rel => exact ⟨k + 1, ks ++ [t1], by omega, by go_num, HNx.out, HO2.out, HB2.out⟩
          case measure => (simp [intOf] <;> omega)
        · have hne : ((e1 : Int) != 0) = true := by rw [bne_iff_ne]; omega
          have hfin : (Nd.mk f l).chk = (0, e1) := by
            have h1 : (l.pre (k + 1)).chks = .inr e1 := by rw [HPs.out, Kd.chks, HKs.out]; simp [he1, he0]
            have h2 := l.chks_pre _ _ h1
            rw [Nd.chk, h2]
          have HF := Lib.hid hfin; clear hfin he1 he0
          go_wp2_with (first | (with_reducible refine wpList_loadNd rfl _ rfl b (o + k * 17) rfl c HAt.out hl1 ?_) | (with_reducible refine wpList_newNd rfl rfl 6 (.tmp 17) rfl rfl rfl rfl c rfl rfl hl1 HOne.out ?_) | (with_reducible refine wpList_loadNd rfl _ rfl wr.heap.size 0 rfl c (range_blk (blk_new wr _)) hl1 ?_))
          (with_reducible refine (HIH.out n1 (by omega) (by omega) HSm1.out _ c (HH1.out.below ((Below.refl _ _).alloc (Nat.le_refl _) _))).mono ?_)
          rintro e W1 ⟨t2, e2, rfl, he2, hb1⟩
          rw [HE1.out, Prod.mk.injEq] at he2
          obtain ⟨rfl, rfl⟩ := he2
          have hb2 : Below wr.heap.size wr W1 := after1 (Below.refl _ _) hb1
          have HB1 := Lib.hid (HbB.out.trans ((HBel.out.trans (hb2.mono hwsz)).mono (by omega))); clear hb1 hb2
          go_wp2_with fail
          go_ret2
          exact ⟨0, e1, rfl, HF.out, HB1.out⟩
      · have hz : l.pre k = l := l.pre_ge k (by omega)
        rw [hz] at hks hksl
        have HBel := Lib.hid hbel; clear hbel
        have HOwn := Lib.hid hown; clear hown
        have hwsz := HBel.out.size
        have hbw := HbB.out.trans (HBel.out.mono (by omega))
        have HBw := Lib.hid hbw; clear hbw
        have hty := l.chks_ty.1 ks hks
        have hrg : wr.rangeAt W.heap.size 0 cs := range_blk ((HBel.out.block W.heap.size (by omega)).trans HkB.out)
        have HRg := Lib.hid hrg; clear hrg
        have hc0 : (Nd.mk f l).chk = if fieldsE f l.len ≠ 0 then (0, fieldsE f l.len) else if typT f ks = 0 then (0, 3) else (typT f ks, 0) := by rw [Nd.chk, hks]
        have HTy := Lib.hid hty; clear hty hks
        have HFc := Lib.hid (fields_calls f l cs wr (by omega) HSm.out.1 (Nd.Held.keep (Keeps.below HBw.out) _ HH.out))
        by_cases he : fieldsE f l.len ≠ 0
        · rw [if_pos he] at hc0
          have HF := Lib.hid hc0; clear hc0
          have hne : ((fieldsE f l.len : Int) != 0) = true := by rw [bne_iff_ne]; omega
          clear he
          go_wp2_with (with_reducible refine wpList_loadNd rfl _ rfl W.heap.size 0 rfl cs HRg.out hl17 ?_)
          (with_reducible refine HFc.out.mono ?_)
          rintro e W1 ⟨rfl, hb1⟩
          have HB1 := Lib.hid (HBw.out.trans (hb1.mono HBw.out.size)); clear hb1
          go_wp2_with fail
          go_ret2
          exact ⟨0, _, rfl, HF.out, HB1.out⟩
        · rw [if_neg he] at hc0
          have he0 : fieldsE f l.len = 0 := by omega
          rw [he0] at HFc
          have hkk : kidsOf f.kind = (ks.length : Int) := by
            rw [hksl]
            unfold fieldsE at he0
            by_cases h : kidsOf f.kind ≠ l.len
            · rw [if_pos h] at he0; omega
            · omega
          have HC0 := Lib.hid hc0
          clear he he0 hc0
          go_wp2_with (with_reducible refine wpList_loadNd rfl _ rfl W.heap.size 0 rfl cs HRg.out hl17 ?_)
          (with_reducible refine HFc.out.mono ?_)
          rintro e W1 ⟨rfl, hb1⟩
          have HOwn1 := Lib.hid (own_below HOwn.out hb1)
          have hrg1 : W1.rangeAt W.heap.size 0 cs := range_keep HRg.out fun h => hb1.block _ h
          have HRg1 := Lib.hid hrg1
          have HB1 := Lib.hid (HBw.out.trans (hb1.mono HBw.out.size)); clear hb1 hrg1
          have HT := Lib.hid (typed_calls f l cs _ ks W1 hkk HTy.out (Nd.Held.keep (Keeps.below HB1.out) _ HH.out) HSm.out.1.x HSm.out.1.i (row_own HOwn1.out))
          have hc0 := HC0.out
          clear HC0
          by_cases ht : typT f ks = 0
          · rw [if_pos ht] at hc0
            rw [ht] at HT
            have HF := Lib.hid hc0; clear hc0 ht
            go_wp2_with (with_reducible refine wpList_loadNd rfl _ rfl W.heap.size 0 rfl cs HRg1.out hl17 ?_)
            (with_reducible refine HT.out.mono ?_)
            rintro e W2 ⟨rfl, hb2⟩
            have HB2 := Lib.hid (HB1.out.trans (hb2.mono HB1.out.size)); clear hb2
            go_wp2_with fail
            go_ret2
            exact ⟨0, 3, rfl, HF.out, HB2.out⟩
          · rw [if_neg ht] at hc0
            obtain ⟨tv, htv⟩ : ∃ tv, tv = typT f ks := ⟨_, rfl⟩
            rw [← htv] at hc0 HT ht
            have HF := Lib.hid hc0; clear hc0 htv
            have hne : ((tv : Int) == 0) = false := by rw [beq_eq_false_iff_ne]; omega
            clear ht
            go_wp2_with (with_reducible refine wpList_loadNd rfl _ rfl W.heap.size 0 rfl cs HRg1.out hl17 ?_)
            (with_reducible refine HT.out.mono ?_)
            rintro e W2 ⟨rfl, hb2⟩
            have HB2 := Lib.hid (HB1.out.trans (hb2.mono HB1.out.size)); clear hb2
            go_wp2_with fail
            go_ret2
            exact ⟨_, 0, rfl, HF.out, HB2.out⟩
end Go.Proofs.YtnbgigdloehbjaaGreatDoor.Ir
