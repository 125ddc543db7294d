/-
  The document's reader: the tree that is read (plain), and atom by the contract of alts.
-/
import Derived.Test.YtokcffkffcfolaaRhC
namespace Go.Proofs.Ytokcffkffcfolaa.Rh
open Go Go.RowKit Go.Proofs.Ytokcffkffcfolaa.Rg

/-- A node's value: 258 cells; where there is no error the tree t, in new blocks. -/
structure NodeV (n : Nat) (W' : World) (e : Nat) (t : T) (cs : List Value) : Prop where
  len : cs.length = 258
  one : ∀ u ∈ cs, u.oneCell' = true
  held : e = 0 → Held W' (fun b => n ≤ b) t cs
/-- What a method of the reader that makes a node does. -/
def Doz (f : FuncId) (k : Nat) (F : Rd → Rd) (Tf : Rd → T) (next : Bool) : Prop :=
  ∀ (W : World) (g : Nat) (r : Rd), Ro W g r → r.err = 0 → r.at_ ≤ r.s.size → r.s.size ≤ 4096 → (next = true → r.at_ < r.s.size) → r.deep + k = 40 →
    Calls Try.prog f #[.pointer (some ⟨g, 0, none⟩)] W fun q W' => ∃ cs : List Value, q = .returned (.agg cs.toArray) ∧ NodeV W.heap.size W' (F r).err (Tf r) cs ∧ Ra W' g (F r) ∧ Only g W W'
def AtomR (k : Nat) : Prop := Doz 62 k (Rd.atom (Rd.group k)) (atomT (groupT k)) true
def PiecesR (k : Nat) : Prop := Doz 51 k (fun r => Rd.pieces (Rd.group k) r.fuel r) (catT (Rd.group k) (groupT k)) false
def AltsR (k : Nat) : Prop := Doz 35 k (Rd.alts (Rd.group k)) (orT (Rd.group k) (groupT k)) false

/-- In the midst of a method that makes a node: where its result will lie, the node's cells. -/
structure By (W : World) (g : Nat) (W1 : World) (cs : List Value) : Prop where
  b2 : W1.heap[W.heap.size]? = some (.cells (ncl 0 nilS none256).toArray 38 (0, 0))
  b3 : W1.heap[W.heap.size + 1]? = some (.cells cs.toArray 38 (0, 0))
  only : Only g W W1
section
variable {W W1 W2 : World} {g : Nat} {r : Rd} {f : Nat → Bool} {cs : List Value}
theorem Bx.by_ (h : Bx W g W1 f) : By W g W1 (ncl 3 nilS f) := ⟨h.b2, h.b3, h.only⟩
theorem By.call (h : By W g W1 cs) (hg : g < W.heap.size) (ho : Only g W1 W2) : By W g W2 cs := ⟨ho.blk h.b2 (by omega), ho.blk h.b3 (by omega), h.only.trans ho⟩
theorem By.lt (h : By W g W1 cs) : W.heap.size + 2 ≤ W1.heap.size := blk_lt h.b3
theorem By.lay (h : By W g W1 cs) (cs' : List Value) : By W g (W1.setRow (W.heap.size + 1) cs'.toArray) cs' :=
  ⟨(setRow_other _ _ _ _ (by omega)).trans h.b2, setRow_heap _ _ _ _ _ _ h.b3, h.only.row (.inr (by omega)) _⟩
theorem Held.up {F F1 : Nat → Prop} {t : T} (h : Held W F t cs) (hF : ∀ b, F b → F1 b) : Held W F1 t cs := h.keep fun b hb _ => ⟨rfl, hF b hb⟩
theorem NodeV.set (S : Bs) (n : Nat) (W' : World) (e : Nat) (f : Nat → Bool) (hf : ∀ c, c < 256 → f c = S.has c) : NodeV n W' e (.set S) (ncl 3 nilS f) :=
  ⟨ncl_length _ _ _, ncl_one rfl, fun _ => by show ncl 3 nilS f = ncl 3 nilS S.has; rw [ncl, ncl, bcells_congr hf]⟩
theorem NodeV.bad {n : Nat} {W' : World} {e : Nat} {t : T} (h : cs.length = 258) (h1 : ∀ u ∈ cs, u.oneCell' = true) (he : e ≠ 0) : NodeV n W' e t cs := ⟨h, h1, fun h => absurd h he⟩
theorem NodeV.keep {n : Nat} {e : Nat} {t : T} (h : NodeV n W1 e t cs) {m : Nat} (hm : m ≤ n) (hk : ∀ b, n ≤ b → b < W1.heap.size → W2.heap[b]? = W1.heap[b]?) : NodeV m W2 e t cs :=
  ⟨h.len, h.one, fun he => (h.held he).keep fun b hb hlt => ⟨hk b hb hlt, Nat.le_trans hm hb⟩⟩
end

theorem NodeV.done {W W1 : World} {n e : Nat} {t : T} {cs : List Value} (h : NodeV n W1 e t cs) (hn : W.heap.size < n) (c : Array Value) : NodeV W.heap.size (W1.setRow W.heap.size c) e t cs :=
  h.keep (by omega) fun b hb _ => setRow_other _ _ _ _ (by omega)
theorem escV_lt (r : Rd) (wl : List Nat) : r.escV wl < 256 := by
  unfold Rd.escV
  split
  · exact cur_lt _
  · omega
theorem below_step (j c : Nat) : (if c = j then true else decide (c < j)) = decide (c < j + 1) := by
  by_cases h : c = j
  · subst h; simp
  · rw [if_neg h, decide_eq_decide]; omega
theorem all_has (c : Nat) (hc : c < 256) : Bs.all.has c = true := by
  have : ∀ c : Fin 256, Bs.all.has c.val = true := by decide +kernel
  exact this ⟨c, hc⟩

set_option maxRecDepth 100000 in
set_option maxHeartbeats 8000000 in
theorem atom_of (k : Nat) (hA : k = 0 ∨ ∃ k', k = k' + 1 ∧ AltsR k') : AtomR k := by
  intro W g r hI he htop hsz hnx hd
  have hlt := hnx rfl
  have hhas : r.has = true := (Rd.has_iff _).2 ⟨he, hlt⟩
  have HA := Lib.hid hA; clear hA hnx
  have HD := Lib.hid hd; clear hd
  have HE := Lib.hid he; clear he
  have HH := Lib.hid hhas; clear hhas
  have hz := zeroNode
  have hne := ncl_ne 0 nilS none256
  have hk3 := ncl_kind 0 3 nilS none256
  have hst := storeNode_new (W.alloc (.cells (ncl 0 nilS none256).toArray 38)) (W.heap.size + 1) (by simp) (ncl_length 0 nilS none256) (ncl_length 3 nilS none256) (ncl_one rfl)
  have hgl := RB.lt hI
  have hI1 : Ro ((W.alloc (.cells (ncl 0 nilS none256).toArray 38)).alloc (.cells (ncl 3 nilS none256).toArray 38)) g r := (RB.alloc hI _).alloc _
  have hB1 : Bx W g ((W.alloc (.cells (ncl 0 nilS none256).toArray 38)).alloc (.cells (ncl 3 nilS none256).toArray 38)) none256 :=
    ⟨blk_alloc (blk_new W _) _, blk_new2 W _ _, ((Only.refl g W).alloc _).alloc _⟩
  go_enter Try.func62, Try.ntmps62
  go_wp2_with fail
  generalize ((W.alloc (.cells (ncl 0 nilS none256).toArray 38)).alloc (.cells (ncl 3 nilS none256).toArray 38)) = W1 at hI1 hB1 ⊢
  clear hz hne hk3 hst
  have c0 := RB.c0 hI1
  have c1 := RB.c1 hI1
  have HI1 := Lib.hid hI1; clear hI1 hI
  have HB1 := Lib.hid hB1; clear hB1
  go_cut [4] (fun s wx => s = .int .u8 (r.cur : Int) ∧ ∃ m, wx = W1.drewN m)
  case first =>
    have hcb := Lib.hid (cur_byte hlt)
    go_quiet (fail)
    go_wp2_with fail
    go_meet
    case rel => exact ⟨by rw [← hcb.out], _, rfl⟩
  case rest =>
    obtain ⟨rfl, m, rfl⟩ := hcut
    have HI2 := Lib.hid (RB.drewN HI1.out m)
    have HB2 := Lib.hid (HB1.out.drewN m)
    generalize W1.drewN m = W2 at HI2 HB2 ⊢
    clear HI1 HB1 c0 c1
    have c1 := RB.c1 HI2.out
    have f1 := RB.fz HI2.out 1
    have hcu := cur_lt r
    by_cases h46 : r.cur = 46
    · have hF : Rd.atom (Rd.group k) r = r.adv.put ⟨0, .all, 0, 0⟩ := by rw [Rd.atom, if_neg (by omega), if_neg (by omega), if_pos h46]
      have hT : atomT (groupT k) r = .set .all := by rw [atomT, if_neg (by omega), if_neg (by omega), if_pos h46]
      have HF := Lib.hid hF; clear hF
      have HT := Lib.hid hT; clear hT
      rw [h46]
      clear h46
      have HI3 := Lib.hid (RB.set1 HI2.out ((r.at_ : Int) + 1))
      have HB3 := Lib.hid (HB2.out.rd hgl 1 (.int .i64 ((r.at_ : Int) + 1)))
      go_wp2_with fail
      go_loopw [5] (fun i wq => ∃ j : Nat, j ≤ 256 ∧ i = .int .i64 (j : Int) ∧ Ro wq g r.adv ∧ Bx W g wq (fun c => decide (c < j))) (fun i _ => 256 - (intOf i).toNat)
      case atStart => exact ⟨0, Nat.zero_le _, rfl, HI3.out, HB3.out.congr fun c _ => by simp [none256]⟩
      case round =>
        obtain ⟨j, hj, rfl, hI4, hB4⟩ := hrel
        have cb := blk_cell hB4.b3 (2 + j)
        have fb := blk_frozen hB4.b3 (2 + j)
        have HI4 := Lib.hid hI4; clear hI4
        have HB4 := Lib.hid hB4; clear hB4
        by_cases hlj : j < 256
        · simp only [List.getElem?_toArray] at cb
          rw [ncl_get 3 nilS _ _ hlj] at cb
          go_wp2_with fail
          go_roundw
          case rel => exact ⟨j + 1, by omega, by go_num, RB.far HI4.out (p := ⟨W.heap.size + 1, 2 + j, none⟩) (by show W.heap.size + 1 ≠ g; omega) _, (HB4.out.put _ hlj true).congr fun c _ => below_step j c⟩
          case measure => (simp [intOf] <;> omega)
        · have hje : j = 256 := by omega
          subst hje
          clear cb fb HI3 HB3
          have hby := HB4.out.by_
          have hnv := (NodeV.set .all (W.heap.size + 2) wr (r.adv.put ⟨0, .all, 0, 0⟩).err (fun c => decide (c < 256)) fun c hc => by rw [all_has c hc]; simp [hc])
          rw [← HT.out] at hnv
          have hra := (Ro.any HI4.out)
          have hlen := hnv.len
          have hsc := storeNode hby.b2 (ncl_length _ _ _) hlen hnv.one
          have HBy := Lib.hid hby; clear hby
          have HNv := Lib.hid hnv; clear hnv
          have HRa := Lib.hid hra; clear hra
          go_wp2_with fail
          refine wp_load_row 38 (.tmp 3) rfl (W.heap.size + 1) rfl 38 _ (0, 0) _ HBy.out.b3 Try.underlying38 rfl (by rw [nodeSize]; simp [hlen]) ?_
          go_wp2_with fail
          refine bodyPost_ret_by (results_cell_row (p := 2) (ty := 38) rfl _ _ W.heap.size 38 _ (0, 0) _ rfl (setRow_heap _ _ _ _ _ _ HBy.out.b2) Try.underlying38 rfl (by rw [nodeSize]; simp [hlen])) rfl ?_
          rw [HF.out]
          exact ⟨_, rfl, HNv.out.done (by omega) _, HRa.out.row (by omega) _, HBy.out.only.row (.inr (Nat.le_refl _)) _⟩
    · have b46 : ((r.cur : Int) == 46) = false := by rw [beq_eq_false_iff_ne]; omega
      by_cases h92 : r.cur = 92
      · have hF : Rd.atom (Rd.group k) r = (r.escR Rd.behind).put ⟨0, Bs.zero.put (r.escV Rd.behind), 0, 0⟩ := by rw [Rd.atom, if_neg (by omega), if_neg (by omega), if_neg h46, if_pos h92]
        have hT : atomT (groupT k) r = .set (Bs.zero.put (r.escV Rd.behind)) := by rw [atomT, if_neg (by omega), if_neg (by omega), if_neg h46, if_pos h92]
        have HF := Lib.hid hF; clear hF
        have HT := Lib.hid hT; clear hT
        rw [h92]
        clear h46 h92 b46 c1 f1
        go_wp2_with fail
        refine (rescaped_calls _ Rd.behind rfl (by decide) HI2.out HE.out hlt hsz).mono ?_
        rintro q W3 ⟨rfl, hI3, hO3⟩
        have hB3 := HB2.out.call hgl hO3
        have hlj : r.escV Rd.behind < 256 := escV_lt _ _
        have cb := blk_cell hB3.b3 (2 + r.escV Rd.behind)
        have fb := blk_frozen hB3.b3 (2 + r.escV Rd.behind)
        simp only [List.getElem?_toArray] at cb
        rw [ncl_get 3 nilS _ _ hlj] at cb
        have hI4 := RB.far hI3 (p := ⟨W.heap.size + 1, 2 + r.escV Rd.behind, none⟩) (by show W.heap.size + 1 ≠ g; omega) (.bool true)
        have hB4 : Bx W g _ (Bs.zero.put (r.escV Rd.behind)).has := (hB3.put _ hlj true).congr fun c hc => by rw [put_fun _ _ _ hlj hc, zero_has]
        have HI4 := Lib.hid hI4; clear hI3 hI4
        have HB4 := Lib.hid hB4; clear hB3 hB4 hO3
        clear HI2 HB2
        have hby := HB4.out.by_
        have hnv := (NodeV.set (Bs.zero.put (r.escV Rd.behind)) (W.heap.size + 2) (W3.setCell ⟨W.heap.size + 1, 2 + r.escV Rd.behind, none⟩ (.bool true)) ((r.escR Rd.behind).put ⟨0, Bs.zero.put (r.escV Rd.behind), 0, 0⟩).err _ fun _ _ => rfl)
        rw [← HT.out] at hnv
        have hra := (Ro.any HI4.out)
        have hlen := hnv.len
        have hsc := storeNode hby.b2 (ncl_length _ _ _) hlen hnv.one
        have HBy := Lib.hid hby; clear hby
        have HNv := Lib.hid hnv; clear hnv
        have HRa := Lib.hid hra; clear hra
        go_wp2_with fail
        refine wp_load_row 38 (.tmp 3) rfl (W.heap.size + 1) rfl 38 _ (0, 0) _ HBy.out.b3 Try.underlying38 rfl (by rw [nodeSize]; simp [hlen]) ?_
        go_wp2_with fail
        refine bodyPost_ret_by (results_cell_row (p := 2) (ty := 38) rfl _ _ W.heap.size 38 _ (0, 0) _ rfl (setRow_heap _ _ _ _ _ _ HBy.out.b2) Try.underlying38 rfl (by rw [nodeSize]; simp [hlen])) rfl ?_
        rw [HF.out]
        exact ⟨_, rfl, HNv.out.done (by omega) _, HRa.out.row (by omega) _, HBy.out.only.row (.inr (Nat.le_refl _)) _⟩
      · have b92 : ((r.cur : Int) == 92) = false := by rw [beq_eq_false_iff_ne]; omega
        by_cases h91 : r.cur = 91
        · have hF : Rd.atom (Rd.group k) r = r.class_ := by rw [Rd.atom, if_pos h91]
          have hT : atomT (groupT k) r = .set r.classS := by rw [atomT, if_pos h91]
          have HF := Lib.hid hF; clear hF
          have HT := Lib.hid hT; clear hT
          rw [h91]
          clear h46 h91 b46 h92 b92 c1 f1
          go_wp2_with fail
          refine (class_calls HI2.out HE.out hlt hsz).mono ?_
          rintro q W3 ⟨rfl, hI3, hO3⟩
          have hB3 := HB2.out.call hgl hO3
          have hlen := ncl_length 3 nilS r.classS.has
          have hsc := storeNode hB3.b2 (ncl_length _ _ _) hlen (ncl_one rfl)
          have HI3 := Lib.hid hI3; clear hI3
          have HB3 := Lib.hid hB3; clear hB3 hO3
          clear HI2 HB2
          go_wp2_with fail
          refine bodyPost_ret_by (results_cell_row (p := 2) (ty := 38) rfl _ _ W.heap.size 38 _ (0, 0) _ rfl (setRow_heap _ _ _ _ _ _ HB3.out.b2) Try.underlying38 rfl (by rw [nodeSize]; simp [hlen])) rfl ?_
          rw [HF.out, HT.out]
          exact ⟨_, rfl, NodeV.set _ _ _ _ _ (fun _ _ => rfl), HI3.out.row (by omega) _, HB3.out.only.row (.inr (Nat.le_refl _)) _⟩
        · have b91 : ((r.cur : Int) == 91) = false := by rw [beq_eq_false_iff_ne]; omega
          by_cases h40 : r.cur = 40
          · have hF : Rd.atom (Rd.group k) r = Rd.group k r := by rw [Rd.atom, if_neg h91, if_pos h40]
            have hT : atomT (groupT k) r = groupT k r := by rw [atomT, if_neg h91, if_pos h40]
            have HF := Lib.hid hF; clear hF
            have HT := Lib.hid hT; clear hT
            rw [h40]
            clear h46 h91 b46 h92 b92 b91 h40
            have c2 := RB.c2 HI2.out
            have f2 := RB.fz HI2.out 2
            rcases HA.out with hk0 | ⟨k', hk0, hAl⟩
            · have hd0 : r.deep = 40 := by have := HD.out; omega
              rw [hd0] at c2
              subst hk0
              have HD0 := Lib.hid hd0; clear hd0
              have hT0 : atomT (groupT 0) r = .set .zero := HT.out
              have HT := Lib.hid hT0; clear hT0
              have hI2 := HI2.out
              go_wp2_with fail
              refine (rfail_calls 6 r.at_ HI2.out HE.out).mono ?_
              rintro q W3 ⟨rfl, hI3, hO3⟩
              have HI3 := Lib.hid hI3; clear hI3 hI2
              have HB3 := Lib.hid (HB2.out.call hgl hO3); clear hO3
              clear HI2 HB2 c1 c2 f1 f2
              have hby := HB3.out.by_
              have hnv := (NodeV.set .zero (W.heap.size + 2) W3 (Rd.group 0 r).err _ fun _ _ => by rw [zero_has])
              rw [← HT.out] at hnv
              have hra := (Ro.any HI3.out)
              have hlen := hnv.len
              have hsc := storeNode hby.b2 (ncl_length _ _ _) hlen hnv.one
              have HBy := Lib.hid hby; clear hby
              have HNv := Lib.hid hnv; clear hnv
              have HRa := Lib.hid hra; clear hra
              go_wp2_with fail
              refine wp_load_row 38 (.tmp 3) rfl (W.heap.size + 1) rfl 38 _ (0, 0) _ HBy.out.b3 Try.underlying38 rfl (by rw [nodeSize]; simp [hlen]) ?_
              go_wp2_with fail
              refine bodyPost_ret_by (results_cell_row (p := 2) (ty := 38) rfl _ _ W.heap.size 38 _ (0, 0) _ rfl (setRow_heap _ _ _ _ _ _ HBy.out.b2) Try.underlying38 rfl (by rw [nodeSize]; simp [hlen])) rfl ?_
              rw [HF.out]
              exact ⟨_, rfl, HNv.out.done (by omega) _, HRa.out.row (by omega) _, HBy.out.only.row (.inr (Nat.le_refl _)) _⟩
            · subst hk0
              have hd0 : ((r.deep : Int) == 40) = false := by rw [beq_eq_false_iff_ne]; have := HD.out; omega
              have hdl : r.deep < 40 := by have := HD.out; omega
              have HAl := Lib.hid hAl; clear hAl HA
              have hI3 : Ro ((W2.setCell ⟨g, 1, none⟩ (.int .i64 ((r.at_ : Int) + 1))).setCell ⟨g, 2, none⟩ (.int .i64 ((r.deep : Int) + 1))) g r.opened := RB.set2 (RB.set1 HI2.out _) _
              have hB3 := (HB2.out.rd hgl 1 (.int .i64 ((r.at_ : Int) + 1))).rd hgl 2 (.int .i64 ((r.deep : Int) + 1))
              have HI3 := Lib.hid hI3; clear hI3
              have HB3 := Lib.hid hB3; clear hB3
              have hsz3 : W.heap.size + 2 ≤ ((W2.setCell ⟨g, 1, none⟩ (.int .i64 ((r.at_ : Int) + 1))).setCell ⟨g, 2, none⟩ (.int .i64 ((r.deep : Int) + 1))).heap.size := HB3.out.by_.lt
              have HSz3 := Lib.hid hsz3; clear hsz3
              have hnx := Rd.alts_nxt (Rd.group k') (Rd.group_nxt k') r.opened
              obtain ⟨Q, hQ⟩ : ∃ Q, Q = Rd.alts (Rd.group k') r.opened := ⟨_, rfl⟩
              rw [← hQ] at hnx
              have hG : Rd.group (k' + 1) r = if (Q.withDeep r.deep).isB 41 = true then (Q.withDeep r.deep).isR 41 else (Q.withDeep r.deep).fail 2 Q.at_ := by rw [hQ]; rfl
              have hGT : groupT (k' + 1) r = orT (Rd.group k') (groupT k') r.opened := rfl
              have hdp : Q.deep = r.deep + 1 := hnx.deep
              have hqs : Q.s = r.s := hnx.s
              have hqt : Q.at_ ≤ Q.s.size := by rw [hqs]; exact hnx.top hlt
              have hqz : Q.s.size ≤ 4096 := by rw [hqs]; exact hsz
              have HQ := Lib.hid hQ; clear hQ hnx
              have HG := Lib.hid hG; clear hG
              have HGT := Lib.hid hGT; clear hGT
              have HDp := Lib.hid hdp; clear hdp
              have HQs := Lib.hid hqs; clear hqs
              clear HI2 HB2
              go_wp2_with fail
              refine (HAl.out _ g r.opened HI3.out HE.out hlt hsz (fun h => by cases h) (by have := HD.out; show r.deep + 1 + k' = 40; omega)).mono ?_
              rintro q W3 ⟨cs, rfl, hN3, hI4, hO3⟩
              rw [← HQ.out] at hN3 hI4
              have hB4 := HB3.out.by_.call hgl hO3
              have hsc3 := storeNode hB4.b3 (ncl_length _ _ _) hN3.len hN3.one
              have hlen3 := hN3.len
              have HB5 := Lib.hid (hB4.lay cs)
              have HI5 := Lib.hid (hI4.row (show W.heap.size + 1 ≠ g by omega) cs.toArray)
              have HN5 := Lib.hid (hN3.keep (W2 := W3.setRow (W.heap.size + 1) cs.toArray) HSz3.out fun b hb _ => setRow_other _ _ _ _ (by have := HSz3.out; omega))
              clear hB4 hI4 hN3 hO3 HI3 HB3 c1 c2 f1 f2
              go_upto_region 23 with fail
              clear hsc3
              generalize W3.setRow (W.heap.size + 1) cs.toArray = W4 at HB5 HI5 HN5 ⊢
              by_cases e0 : Q.err = 0
              · have hRo := HI5.out.ok e0
                have c2 := RB.c2 hRo
                have f2 := RB.fz hRo 2
                rw [HDp.out] at c2
                have HR5 := Lib.hid hRo; clear hRo
                have HE0 := Lib.hid e0; clear e0
                go_upto_region 24 with fail
                have hI6 : Ro (W4.setCell ⟨g, 2, none⟩ (.int .i64 (r.deep : Int))) g (Q.withDeep r.deep) := RB.set2 HR5.out _
                have HI6 := Lib.hid hI6; clear hI6
                have HB6 := Lib.hid (HB5.out.call hgl ((Only.refl g W4).cell (p := ⟨g, 2, none⟩) (.inl rfl) (.int .i64 (r.deep : Int))))
                have HN6 := Lib.hid (HN5.out.keep (W2 := W4.setCell ⟨g, 2, none⟩ (.int .i64 (r.deep : Int))) (Nat.le_refl _) fun b hb _ => Below.heap_setCell _ _ _ _ (by show b ≠ g; omega))
                generalize W4.setCell ⟨g, 2, none⟩ (.int .i64 (r.deep : Int)) = W5 at HI6 HB6 HN6 ⊢
                clear HB5 HI5 HN5 HR5 c2 f2
                have he6 : (Q.withDeep r.deep).err = 0 := HE0.out
                have HE6 := Lib.hid he6; clear he6
                have hqt6 : (Q.withDeep r.deep).at_ ≤ (Q.withDeep r.deep).s.size := hqt
                have hqz6 : (Q.withDeep r.deep).s.size ≤ 4096 := hqz
                have hqa : (Q.withDeep r.deep).at_ = Q.at_ := rfl
                rw [← hqa] at HG
                clear hqt hqz hqa
                generalize Q.withDeep r.deep = q at HI6 HG HE6 hqt6 hqz6
                go_cut [118] (fun s wx => s = .bool (!q.isB 41) ∧ ∃ m, wx = W5.drewN m)
                case first =>
                  have c0 := RB.c0 HI6.out
                  have c1 := RB.c1 HI6.out
                  have c3 := RB.c3 HI6.out
                  rw [HE6.out] at c3
                  by_cases hlq : q.at_ < q.s.size
                  · have hcb := cur_byte hlq
                    have hdq : decide (q.s.size ≤ q.at_) = false := by simp; omega
                    have hh : q.has = true := (Rd.has_iff _).2 ⟨HE6.out, hlq⟩
                    by_cases hc : q.cur = 41
                    · have HB := Lib.hid (isB_yes hh hc)
                      rw [hc] at hcb
                      clear hc hh
                      go_quiet (fail)
                      go_wp2_with fail
                      go_meet
                      case rel => exact ⟨by rw [HB.out]; rfl, _, rfl⟩
                    · have HB := Lib.hid (isB_no hc)
                      have hcx : (((q.s[q.at_]'hlq).toNat : Int) != 41) = true := by rw [hcb, bne_iff_ne]; omega
                      clear hc hh hcb
                      go_quiet (fail)
                      go_wp2_with fail
                      go_meet
                      case rel => exact ⟨by rw [HB.out]; rfl, _, rfl⟩
                  · have hh : q.has = false := by
                      rw [Bool.eq_false_iff]
                      exact fun h => hlq ((Rd.has_iff _).1 h).2
                    have hdq : decide (q.s.size ≤ q.at_) = true := by simp; omega
                    have HB := Lib.hid (isB_end (c := 41) hh)
                    clear hh hlq
                    go_quiet (fail)
                    go_wp2_with fail
                    go_meet
                    case rel => exact ⟨by rw [HB.out]; rfl, _, rfl⟩
                case rest =>
                  obtain ⟨rfl, m6, rfl⟩ := hcut
                  have HI7 := Lib.hid (RB.drewN HI6.out m6)
                  have HB7 := Lib.hid (HB6.out.call hgl ((Only.refl g W5).drewN m6))
                  have HN7 := Lib.hid (HN6.out.keep (W2 := W5.drewN m6) (Nat.le_refl _) fun b hb _ => rfl)
                  generalize W5.drewN m6 = W6 at HI7 HB7 HN7 ⊢
                  clear HI6 HB6 HN6
                  obtain ⟨x, hx⟩ : ∃ x, q.isB 41 = x := ⟨_, rfl⟩
                  rw [hx]
                  cases x
                  · have hG2 := HG.out
                    rw [if_neg (by rw [hx]; simp)] at hG2
                    have HG2 := Lib.hid hG2; clear hG2 hx HG
                    have c1 := RB.c1 HI7.out
                    go_wp2_with fail
                    refine (rfail_calls 2 q.at_ HI7.out HE6.out).mono ?_
                    rintro qq W7 ⟨rfl, hI8, hO8⟩
                    have c1' := RB.c1 hI8
                    have f1' := RB.fz hI8 1
                    have hqf : (q.fail 2 q.at_).at_ = q.at_ := by unfold Rd.fail; split <;> rfl
                    have hqe := q.fail_err 2 q.at_ (by decide)
                    rw [hqf] at c1'
                    have hra : Ra (W7.setCell ⟨g, 1, none⟩ (.int .i64 ((q.at_ : Int) + 1))) g (q.fail 2 q.at_) := ⟨_, _, RB.set1 hI8 _, fun h => absurd h hqe⟩
                    have HRa8 := Lib.hid hra; clear hra hI8 hqf
                    have HB8 := Lib.hid ((HB7.out.call hgl hO8).call hgl ((Only.refl g W7).cell (p := ⟨g, 1, none⟩) (.inl rfl) (.int .i64 ((q.at_ : Int) + 1))))
                    have HN8 := Lib.hid (NodeV.bad (n := W.heap.size + 2) (W' := W7.setCell ⟨g, 1, none⟩ (.int .i64 ((q.at_ : Int) + 1))) (t := orT (Rd.group k') (groupT k') r.opened) HN7.out.len HN7.out.one hqe)
                    clear HI7 HB7 HN7 c1 hO8 hqe hlen3
                    have HF := Lib.hid (HF.out.trans HG2.out)
                    have HT := Lib.hid (HT.out.trans HGT.out)
                    have hby := HB8.out
                    have hnv := HN8.out
                    rw [← HT.out] at hnv
                    have hra := HRa8.out
                    have hlen := hnv.len
                    have hsc := storeNode hby.b2 (ncl_length _ _ _) hlen hnv.one
                    have HBy := Lib.hid hby; clear hby
                    have HNv := Lib.hid hnv; clear hnv
                    have HRa := Lib.hid hra; clear hra
                    go_wp2_with fail
                    refine wp_load_row 38 (.tmp 3) rfl (W.heap.size + 1) rfl 38 _ (0, 0) _ HBy.out.b3 Try.underlying38 rfl (by rw [nodeSize]; simp [hlen]) ?_
                    go_wp2_with fail
                    refine bodyPost_ret_by (results_cell_row (p := 2) (ty := 38) rfl _ _ W.heap.size 38 _ (0, 0) _ rfl (setRow_heap _ _ _ _ _ _ HBy.out.b2) Try.underlying38 rfl (by rw [nodeSize]; simp [hlen])) rfl ?_
                    rw [HF.out]
                    exact ⟨_, rfl, HNv.out.done (by omega) _, HRa.out.row (by omega) _, HBy.out.only.row (.inr (Nat.le_refl _)) _⟩
                  · have hG2 := HG.out
                    rw [if_pos hx, Rd.isR, if_pos hx] at hG2
                    have HG2 := Lib.hid hG2; clear hG2 HG
                    have hqh := ((Rd.has_iff _).1 (q.isB_has hx).1).2
                    clear hx
                    have c1 := RB.c1 HI7.out
                    have f1 := RB.fz HI7.out 1
                    have hra : Ro (W6.setCell ⟨g, 1, none⟩ (.int .i64 ((q.at_ : Int) + 1))) g q.adv := RB.set1 HI7.out _
                    have HRa8 := Lib.hid hra.any; clear hra
                    have HB8 := Lib.hid (HB7.out.call hgl ((Only.refl g W6).cell (p := ⟨g, 1, none⟩) (.inl rfl) (.int .i64 ((q.at_ : Int) + 1))))
                    have hN8 : NodeV (W.heap.size + 2) (W6.setCell ⟨g, 1, none⟩ (.int .i64 ((q.at_ : Int) + 1))) q.adv.err (orT (Rd.group k') (groupT k') r.opened) cs :=
                      ⟨HN7.out.len, HN7.out.one, fun _ => ((HN7.out.held HE0.out).keep fun b hb _ => ⟨Below.heap_setCell _ _ _ _ (by show b ≠ g; omega), hb⟩)⟩
                    have HN8 := Lib.hid hN8; clear hN8
                    clear HI7 HB7 HN7 hlen3
                    have HF := Lib.hid (HF.out.trans HG2.out)
                    have HT := Lib.hid (HT.out.trans HGT.out)
                    have hby := HB8.out
                    have hnv := HN8.out
                    rw [← HT.out] at hnv
                    have hra := HRa8.out
                    have hlen := hnv.len
                    have hsc := storeNode hby.b2 (ncl_length _ _ _) hlen hnv.one
                    have HBy := Lib.hid hby; clear hby
                    have HNv := Lib.hid hnv; clear hnv
                    have HRa := Lib.hid hra; clear hra
                    go_wp2_with fail
                    refine wp_load_row 38 (.tmp 3) rfl (W.heap.size + 1) rfl 38 _ (0, 0) _ HBy.out.b3 Try.underlying38 rfl (by rw [nodeSize]; simp [hlen]) ?_
                    go_wp2_with fail
                    refine bodyPost_ret_by (results_cell_row (p := 2) (ty := 38) rfl _ _ W.heap.size 38 _ (0, 0) _ rfl (setRow_heap _ _ _ _ _ _ HBy.out.b2) Try.underlying38 rfl (by rw [nodeSize]; simp [hlen])) rfl ?_
                    rw [HF.out]
                    exact ⟨_, rfl, HNv.out.done (by omega) _, HRa.out.row (by omega) _, HBy.out.only.row (.inr (Nat.le_refl _)) _⟩
              · obtain ⟨a, d, hRB, _⟩ := HI5.out
                have c1 := hRB.c1
                have c2 := hRB.c2
                have f1 := hRB.fz 1
                have f2 := hRB.fz 2
                have HRB := Lib.hid hRB; clear hRB
                have hG2 : Rd.group (k' + 1) r = Q.withDeep r.deep := by
                  rw [HG.out, if_neg (by rw [isB_end (by
                    rw [Bool.eq_false_iff]
                    exact fun h => e0 ((Rd.has_iff _).1 h).1)]; simp), Rd.fail, if_neg (show ¬ (Q.withDeep r.deep).err = 0 from e0)]
                have hqe : ((Q.err : Int) == 0) = false := by rw [beq_eq_false_iff_ne]; omega
                have HE0 := Lib.hid e0; clear e0
                have HF := Lib.hid (HF.out.trans hG2)
                have HT := Lib.hid (HT.out.trans HGT.out)
                clear hG2
                have c3 := HRB.out.c3
                go_upto_region 24 with fail
                generalize wrap64 (d - 1) = d1
                go_quiet (fail)
                have hra : Ra (((W4.setCell ⟨g, 2, none⟩ (.int .i64 d1)).drewN nq).setCell ⟨g, 1, none⟩ (.int .i64 (wrap64 (a + 1)))) g (Q.withDeep r.deep) := ⟨_, _, RB.set1 (RB.drewN (RB.set2 HRB.out _) _) _, fun h => absurd h HE0.out⟩
                have HRa8 := Lib.hid hra; clear hra
                have HB8 := Lib.hid (HB5.out.call hgl ((((Only.refl g W4).cell (p := ⟨g, 2, none⟩) (.inl rfl) (.int .i64 d1)).drewN nq).cell (p := ⟨g, 1, none⟩) (.inl rfl) (.int .i64 (wrap64 (a + 1)))))
                have HN8 := Lib.hid (NodeV.bad (n := W.heap.size + 2) (W' := ((W4.setCell ⟨g, 2, none⟩ (.int .i64 d1)).drewN nq).setCell ⟨g, 1, none⟩ (.int .i64 (wrap64 (a + 1)))) (t := orT (Rd.group k') (groupT k') r.opened) HN5.out.len HN5.out.one (show (Q.withDeep r.deep).err ≠ 0 from HE0.out))
                clear HB5 HI5 HN5 HRB
                have hby := HB8.out
                have hnv := HN8.out
                rw [← HT.out] at hnv
                have hra := HRa8.out
                have hlen := hnv.len
                have hsc := storeNode hby.b2 (ncl_length _ _ _) hlen hnv.one
                have HBy := Lib.hid hby; clear hby
                have HNv := Lib.hid hnv; clear hnv
                have HRa := Lib.hid hra; clear hra
                go_wp2_with fail
                refine wp_load_row 38 (.tmp 3) rfl (W.heap.size + 1) rfl 38 _ (0, 0) _ HBy.out.b3 Try.underlying38 rfl (by rw [nodeSize]; simp [hlen]) ?_
                go_wp2_with fail
                refine bodyPost_ret_by (results_cell_row (p := 2) (ty := 38) rfl _ _ W.heap.size 38 _ (0, 0) _ rfl (setRow_heap _ _ _ _ _ _ HBy.out.b2) Try.underlying38 rfl (by rw [nodeSize]; simp [hlen])) rfl ?_
                rw [HF.out]
                exact ⟨_, rfl, HNv.out.done (by omega) _, HRa.out.row (by omega) _, HBy.out.only.row (.inr (Nat.le_refl _)) _⟩
          · have b40 : ((r.cur : Int) == 40) = false := by rw [beq_eq_false_iff_ne]; omega
            have hF : Rd.atom (Rd.group k) r = r.adv.put ⟨0, Bs.zero.put r.cur, 0, 0⟩ := by rw [Rd.atom, if_neg h91, if_neg h40, if_neg h46, if_neg h92]
            have hT : atomT (groupT k) r = .set (Bs.zero.put r.cur) := by rw [atomT, if_neg h91, if_neg h40, if_neg h46, if_neg h92]
            have HF := Lib.hid hF; clear hF
            have HT := Lib.hid hT; clear hT
            clear h46 h91 h92 h40
            have cb := blk_cell HB2.out.b3 (2 + r.cur)
            have fb := blk_frozen HB2.out.b3 (2 + r.cur)
            simp only [List.getElem?_toArray] at cb
            rw [ncl_get 3 nilS _ _ hcu] at cb
            have hI4 := RB.set1 (RB.far HI2.out (p := ⟨W.heap.size + 1, 2 + r.cur, none⟩) (by show W.heap.size + 1 ≠ g; omega) (.bool true)) ((r.at_ : Int) + 1)
            have hB4 : Bx W g _ (Bs.zero.put r.cur).has := ((HB2.out.put _ hcu true).rd hgl 1 (.int .i64 ((r.at_ : Int) + 1))).congr fun c hc => by rw [put_fun _ _ _ hcu hc, zero_has]
            have c1' := RB.c1 (RB.far HI2.out (p := ⟨W.heap.size + 1, 2 + r.cur, none⟩) (by show W.heap.size + 1 ≠ g; omega) (.bool true))
            have f1' := RB.fz (RB.far HI2.out (p := ⟨W.heap.size + 1, 2 + r.cur, none⟩) (by show W.heap.size + 1 ≠ g; omega) (.bool true)) 1
            have hI5 : Ro ((W2.setCell ⟨W.heap.size + 1, 2 + r.cur, none⟩ (.bool true)).setCell ⟨g, 1, none⟩ (.int .i64 ((r.at_ : Int) + 1))) g r.adv := hI4
            have HI4 := Lib.hid hI5; clear hI4 hI5
            have HB4 := Lib.hid hB4; clear hB4
            clear c1 f1 HI2 HB2
            have hby := HB4.out.by_
            have hnv := (NodeV.set (Bs.zero.put r.cur) (W.heap.size + 2) ((W2.setCell ⟨W.heap.size + 1, 2 + r.cur, none⟩ (.bool true)).setCell ⟨g, 1, none⟩ (.int .i64 ((r.at_ : Int) + 1))) (r.adv.put ⟨0, Bs.zero.put r.cur, 0, 0⟩).err _ fun _ _ => rfl)
            rw [← HT.out] at hnv
            have hra := (Ro.any HI4.out)
            have hlen := hnv.len
            have hsc := storeNode hby.b2 (ncl_length _ _ _) hlen hnv.one
            have HBy := Lib.hid hby; clear hby
            have HNv := Lib.hid hnv; clear hnv
            have HRa := Lib.hid hra; clear hra
            go_wp2_with fail
            refine wp_load_row 38 (.tmp 3) rfl (W.heap.size + 1) rfl 38 _ (0, 0) _ HBy.out.b3 Try.underlying38 rfl (by rw [nodeSize]; simp [hlen]) ?_
            go_wp2_with fail
            refine bodyPost_ret_by (results_cell_row (p := 2) (ty := 38) rfl _ _ W.heap.size 38 _ (0, 0) _ rfl (setRow_heap _ _ _ _ _ _ HBy.out.b2) Try.underlying38 rfl (by rw [nodeSize]; simp [hlen])) rfl ?_
            rw [HF.out]
            exact ⟨_, rfl, HNv.out.done (by omega) _, HRa.out.row (by omega) _, HBy.out.only.row (.inr (Nat.le_refl _)) _⟩
end Go.Proofs.Ytokcffkffcfolaa.Rh
