/-
  The document's reader: alts, by the contract of pieces; Compile.
-/
import Derived.Test.YtokcffkffcfolaaRhE
import Derived.Deep.RegionHeld3
namespace Go.Proofs.Ytokcffkffcfolaa.Rh
open Go Go.RowKit Go.Proofs.Ytokcffkffcfolaa.Rg

/-- A node with kids in the making, whose block is m. -/
structure Mk2 (W : World) (g : Nat) (W1 : World) (m : Nat) (k : Int) (v : Value) (n : Nat) (cs : List Value) : Prop where
  b2 : W1.heap[W.heap.size]? = some (.cells (ncl 0 nilS none256).toArray 38 (0, 0))
  b3 : W1.heap[m]? = some (.cells (ncl k v none256).toArray 38 (0, 0))
  lt : W.heap.size < m
  own : W1.ownsRow (W.heap.size + 1) 38 258 v n cs
  ne : v.ownBlock ≠ some m
  only : Only g W W1
section
variable {W W1 W2 : World} {g m : Nat} {k : Int} {v : Value} {n : Nat} {cs : List Value}
theorem Mk2.call (h : Mk2 W g W1 m k v n cs) (hg : g < W.heap.size) (ho : Only g W1 W2) : Mk2 W g W2 m k v n cs :=
  ⟨ho.blk h.b2 (by omega), ho.blk h.b3 (by have := h.lt; omega), h.lt, ho.own h.own (fun e => by have := own_ge h.own e; omega), h.ne, h.only.trans ho⟩
theorem Mk2.c1 (h : Mk2 W g W1 m k v n cs) : W1.cell? ⟨m, 1, none⟩ = some v := (blk_cell h.b3 1).trans (by rw [List.getElem?_toArray, ncl]; rfl)
theorem Mk2.form (h : Mk2 W g W1 m k v n cs) (hn : 0 < n) : ∃ b cap, v = .slice (some ⟨b, 0, none⟩) n cap ∧ W.heap.size + 1 ≤ b ∧ b < W1.heap.size := h.own.form hn
theorem Mk2.kids (h : Mk2 W g W1 m k v n cs) (hn : 0 < n) : Kids W1 (fun b => W.heap.size + 1 ≤ b) v n cs := by
  obtain ⟨b, cap, rfl, hb, _⟩ := h.form hn
  refine .inr ⟨hn, h.own.1, b, cap, hb, rfl, fun j u hu => ?_⟩
  rw [Nat.zero_add, h.own.cellAt j (by rw [← h.own.1]; exact (List.getElem?_eq_some_iff.1 hu).1)]
  exact hu
end
/-- A kid is put: what stands behind it. -/
theorem append2 {W w8 w9 : World} {g m cnt cap2 gg e : Nat} {b cap : Nat} {cs cs2 : List Value} {t : T} {N4 : Nat}
    (hM8 : Mk2 W g w8 m 2 (.slice (some ⟨b, 0, none⟩) cnt cap) cnt cs) (hb4 : b < N4) (hm4 : m < N4) (h48 : N4 ≤ w8.heap.size) (hN8 : NodeV N4 w8 e t cs2) (hb : W.heap.size + 1 ≤ b)
    (hown : w9.ownsRow (W.heap.size + 1) 38 258 (.slice (some ⟨gg, 0, none⟩) (cnt + 1) cap2) (cnt + 1) (cs ++ cs2))
    (hgrow : (w8.alloc (.cells cs2.toArray 38)).grownBy w9 (Value.slice (some ⟨b, 0, none⟩) cnt cap).ownBlock) (hat : (Value.slice (some ⟨b, 0, none⟩) cnt cap).ownBlock = some gg ∨ gg = w8.heap.size + 1) :
    (∀ j, j < w8.heap.size → j ≠ b → j ≠ m → (w9.setCell ⟨m, 1, none⟩ (.slice (some ⟨gg, 0, none⟩) (cnt + 1) cap2)).heap[j]? = w8.heap[j]?) ∧
    Mk2 W g (w9.setCell ⟨m, 1, none⟩ (.slice (some ⟨gg, 0, none⟩) (cnt + 1) cap2)) m 2 (.slice (some ⟨gg, 0, none⟩) (cnt + 1) cap2) (cnt + 1) (cs ++ cs2) ∧
    (e = 0 → ∀ l : T, l.len = cnt → Held w8 (fun j => W.heap.size + 1 ≤ j ∧ j ≠ b ∧ j ≠ m) l cs →
      Held (w9.setCell ⟨m, 1, none⟩ (.slice (some ⟨gg, 0, none⟩) (cnt + 1) cap2)) (fun j => W.heap.size + 1 ≤ j ∧ j ≠ gg ∧ j ≠ m) (.snoc l t) (cs ++ cs2)) := by
  have hob : (Value.slice (some ⟨b, 0, none⟩) cnt cap).ownBlock = some b := rfl
  rw [hob] at hgrow hat
  have hmb : m ≠ b := fun h => hM8.ne (by rw [hob, h])
  have hlt := hM8.lt
  have hkeep : ∀ j, j < w8.heap.size → j ≠ b → j ≠ m → (w9.setCell ⟨m, 1, none⟩ (.slice (some ⟨gg, 0, none⟩) (cnt + 1) cap2)).heap[j]? = w8.heap[j]? := fun j hj h1 h2 =>
    (Below.heap_setCell _ _ _ _ h2).trans ((hgrow.block j (by simp; omega) (fun e => h1 (by simpa using e))).trans (Below.heap_alloc _ _ _ hj))
  have hgg : W.heap.size + 1 ≤ gg ∧ gg ≠ m ∧ (gg = b ∨ w8.heap.size < gg) := by
    rcases hat with h | h
    · simp at h; omega
    · omega
  refine ⟨hkeep, ⟨?_, ?_, hlt, ?_, fun h => ?_, ?_⟩, fun he l hk hH => ⟨cs, cs2, rfl, by rw [hM8.own.1, hk], hN8.len, ?_, ?_⟩⟩
  · exact (hkeep _ (by omega) (by omega) (by omega)).trans hM8.b2
  · have hb3 : w9.heap[m]? = w8.heap[m]? := (hgrow.block _ (by simp; omega) (fun e => hmb (by simpa using e))).trans (Below.heap_alloc _ _ _ (by omega))
    rw [blk_set (hb3.trans hM8.b3), ncl_kids]
  · exact own_set hown (fun k hk => by simp [Value.ownBlock] at hk; subst hk; exact hgg.2.1) _
  · simp [Value.ownBlock] at h; exact hgg.2.1 h
  · exact ((hM8.only.alloc _).grown hgrow (fun k hk => by simp at hk; omega)).cell (.inr (by show W.heap.size ≤ m; omega)) _
  · exact hH.keep fun j hj hjl => ⟨hkeep j hjl hj.2.1 hj.2.2, hj.1, by omega, hj.2.2⟩
  · exact (hN8.held he).keep fun j hj hjl => ⟨hkeep j hjl (by omega) (by omega), by show W.heap.size + 1 ≤ j; omega, by omega, by omega⟩

/-- A slice of one element, at a step of a region that draws. -/
theorem step_slice1 {P : Program} {ops : Array Oper} {o : Oper} {a : Act} {w : World} {K : Act → World → Prop} {Q : Exit → Act → World → Prop} {E : Prop} (hgd : o.guard = none) (t e : TypeId) (s : Nat) (z : Value) (x : Operand) (ho : o.op = .buildSlice t 1 #[(0, x)])
    (cs : Array Value) (hx : a.eval x = .agg cs) (hu : P.underlying t = some (.slice e)) (hi : (P.info? e).map (fun i => (i.zero, i.size)) = some (some z, s)) (hs : 0 < s) (hs2 : s ≤ 2 ^ 24) (hc : cs.size = s)
    (h : K (a.put o.dst (.slice (some ⟨w.heap.size, 0, none⟩) 1 1)) (w.alloc (.cells cs e))) : if Region.wanted o (yielded ops a.tmps) = true then Oper.wp P o a w K Q else E := by
  have hw : Region.wanted o (yielded ops a.tmps) = true := by simp [Region.wanted, hgd]
  rw [if_pos hw]
  exact wp_slice1 t e s z x ho cs hx hu hi hs hs2 hc h
theorem app_cell {W w8 w9 : World} {g m cnt b cap : Nat} {cs : List Value} {o : Obj} (hM : Mk2 W g w8 m 2 (.slice (some ⟨b, 0, none⟩) cnt cap) cnt cs)
    (hgrow : (w8.alloc o).grownBy w9 (Value.slice (some ⟨b, 0, none⟩) cnt cap).ownBlock) : w9.heap[m]? = w8.heap[m]? :=
  (hgrow.block _ (by have := blk_lt hM.b3; simp; omega) (fun e => hM.ne e.symm)).trans (Below.heap_alloc _ _ _ (blk_lt hM.b3))
theorem altsR_yes (grp : Rd → Rd) (n : Nat) (r : Rd) (h : (Rd.pieces grp r.fuel r).isB 124 = true) : Rd.altsR grp (n + 1) r = Rd.altsR grp n ((Rd.pieces grp r.fuel r).altOnce r.l.length) := by rw [Rd.altsR, if_pos h]
theorem altsT_yes (grp : Rd → Rd) (grpT : Rd → T) (n : Nat) (r : Rd) (l : T) (h : (Rd.pieces grp r.fuel r).isB 124 = true) : altsT grp grpT (n + 1) r l = altsT grp grpT n ((Rd.pieces grp r.fuel r).altOnce r.l.length) (.snoc l (catT grp grpT r)) := by rw [altsT, if_pos h]
theorem Ro.altOnce {W : World} {g : Nat} {Q : Rd} (hI : Ro W g Q) (hb : Q.isB 124 = true) (p : Nat) : Ro (W.setCell ⟨g, 1, none⟩ (.int .i64 ((Q.at_ : Int) + 1))) g (Q.altOnce p) := by
  have h : Q.isR 124 = Q.adv := by rw [Rd.isR, if_pos hb]
  unfold Rd.altOnce
  rw [h]
  exact RB.set1 hI _

set_option maxRecDepth 100000 in
set_option maxHeartbeats 8000000 in
theorem alts_of (k : Nat) (hP : PiecesR k) : AltsR k := by
  intro W g r hI he htop hsz _ hd
  have HPc := Lib.hid hP; clear hP
  have HD := Lib.hid hd; clear hd
  have HE := Lib.hid he; clear he
  have hz := zeroNode
  have hne := ncl_ne 0 nilS none256
  have hgl := RB.lt hI
  have HI1 := Lib.hid (RB.alloc hI (.cells (ncl 0 nilS none256).toArray 38))
  have hb1 := blk_new W (.cells (ncl 0 nilS none256).toArray 38)
  have HB1 := Lib.hid hb1; clear hb1
  have HO1 := Lib.hid ((Only.refl g W).alloc (.cells (ncl 0 nilS none256).toArray 38))
  clear hI
  go_enter Try.func35, Try.ntmps35
  go_wp2_with fail
  refine (HPc.out _ g r HI1.out HE.out htop hsz (fun h => by cases h) HD.out).mono ?_
  rintro q w2 ⟨cs1, rfl, hN2, hI2, hO2⟩
  have hb2 := hO2.blk HB1.out (by omega)
  have hlen1 := hN2.len
  have HI2 := Lib.hid hI2; clear hI2
  have HN2 := Lib.hid hN2; clear hN2
  have HB2 := Lib.hid hb2; clear hb2
  have HO2 := Lib.hid (HO1.out.trans hO2)
  have HS2 := Lib.hid hO2.size; clear hO2
  clear HI1 HB1 HO1
  have hsz2 : W.heap.size + 1 ≤ w2.heap.size := by have := HS2.out; simpa using this
  clear HS2
  have hk0 := ncl_kind 0 2 nilS none256
  have hk1 := ncl_slot 2 nilS (.slice (some ⟨w2.heap.size, 0, none⟩) 1 1) none256
  have hst := storeNode_new (w2.alloc (.cells cs1.toArray 38)) (w2.heap.size + 1) (by simp) (ncl_length 0 nilS none256) (ncl_length 2 (.slice (some ⟨w2.heap.size, 0, none⟩) 1 1) none256) (ncl_one rfl)
  go_wp2_with fail
  refine wp_slice1 35 38 258 _ (.tmp 5) rfl cs1.toArray rfl Try.underlying35 infoNode (by decide) (by decide) (by simp [hlen1]) ?_
  go_wp2_with fail
  clear hk0 hk1 hst hne
  have hM3 : Mk2 W g ((w2.alloc (.cells cs1.toArray 38)).alloc (.cells (ncl 2 (.slice (some ⟨w2.heap.size, 0, none⟩) 1 1) none256).toArray 38)) (w2.heap.size + 1) 2 (.slice (some ⟨w2.heap.size, 0, none⟩) 1 1) 1 cs1 :=
    ⟨blk_alloc (blk_alloc HB2.out _) _, blk_new2 _ _ _, by omega, ⟨by rw [hlen1], .inr ⟨w2.heap.size, 1, cs1.toArray, rfl, hsz2, blk_alloc (blk_new _ _) _, Nat.le_refl _, by decide, by simp [hlen1], by simp; exact List.take_of_length_le (by omega)⟩⟩, by simp [Value.ownBlock], (HO2.out.alloc _).alloc _⟩
  have hO3 : Only g w2 ((w2.alloc (.cells cs1.toArray 38)).alloc (.cells (ncl 2 (.slice (some ⟨w2.heap.size, 0, none⟩) 1 1) none256).toArray 38)) := ((Only.refl g w2).alloc _).alloc _
  have hI3 := (HI2.out.alloc (.cells cs1.toArray 38)).alloc (.cells (ncl 2 (.slice (some ⟨w2.heap.size, 0, none⟩) 1 1) none256).toArray 38)
  have hH3 : (Rd.pieces (Rd.group k) r.fuel r).err = 0 → Held ((w2.alloc (.cells cs1.toArray 38)).alloc (.cells (ncl 2 (.slice (some ⟨w2.heap.size, 0, none⟩) 1 1) none256).toArray 38)) (fun j => W.heap.size + 1 ≤ j ∧ j ≠ w2.heap.size ∧ j ≠ w2.heap.size + 1) (.snoc .nil (catT (Rd.group k) (groupT k) r)) cs1 := fun he =>
    ⟨[], cs1, rfl, rfl, hlen1, rfl, (HN2.out.held he).keep fun j hj hjl => by
      have hj2 : W.heap.size + 1 ≤ j := by simpa using hj
      exact ⟨hO3.block j hjl (by omega), hj2, by omega, by omega⟩⟩
  generalize ((w2.alloc (.cells cs1.toArray 38)).alloc (.cells (ncl 2 (.slice (some ⟨w2.heap.size, 0, none⟩) 1 1) none256).toArray 38)) = w3 at hM3 hO3 hI3 hH3 ⊢
  obtain ⟨m, hm⟩ : ∃ m, m = w2.heap.size + 1 := ⟨_, rfl⟩
  have hf0 := r.fuel_pos htop
  have HM3 := Lib.hid hM3; clear hM3
  have HI3 := Lib.hid hI3; clear hI3 hO3
  have HH3 := Lib.hid hH3; clear hH3
  clear HI2 HN2 HB2 HO2
  go_loopg [] (r.fuel - 1) (fun n wq => ∃ (r1 : Rd) (b cap cnt : Nat) (cs : List Value) (l : T), Ra wq g (Rd.pieces (Rd.group k) r1.fuel r1) ∧ Mk2 W g wq (w2.heap.size + 1) 2 (.slice (some ⟨b, 0, none⟩) cnt cap) cnt cs ∧ 0 < cnt ∧ Nxt r r1 ∧ Rd.altsR (Rd.group k) (n + 1) r1 = Rd.altsR (Rd.group k) r.fuel r ∧
    ((Rd.pieces (Rd.group k) r1.fuel r1).err = 0 → r1.fuel ≤ n + 1 ∧ cnt ≤ r1.at_ + 1 ∧ l.len + 1 = cnt ∧ Held wq (fun j => W.heap.size + 1 ≤ j ∧ j ≠ b ∧ j ≠ w2.heap.size + 1) (.snoc l (catT (Rd.group k) (groupT k) r1)) cs ∧ altsT (Rd.group k) (groupT k) (n + 1) r1 l = altsT (Rd.group k) (groupT k) r.fuel r .nil))
  case atStart =>
    have e : r.fuel - 1 + 1 = r.fuel := by omega
    refine ⟨r, w2.heap.size, 1, 1, cs1, .nil, HI3.out, HM3.out, Nat.one_pos, Nxt.refl r, by rw [e], fun he => ⟨by omega, by omega, rfl, HH3.out he, by rw [e]⟩⟩
  case round =>
    obtain ⟨r1, b, cap, cnt, cs, l, hI4, hM4, hcp, hN4, hA4, hH4⟩ := hrel
    clear HI3 HM3 HH3
    have HI4 := Lib.hid hI4; clear hI4
    have HM4 := Lib.hid hM4; clear hM4
    have HN4 := Lib.hid hN4; clear hN4
    have HA4 := Lib.hid hA4; clear hA4
    have HH4 := Lib.hid hH4; clear hH4
    have hpn := Rd.pieces_nxt (Rd.group k) (Rd.group_nxt k) r1.fuel r1
    obtain ⟨Q, hQ⟩ : ∃ Q, Q = Rd.pieces (Rd.group k) r1.fuel r1 := ⟨_, rfl⟩
    rw [← hQ] at HI4 HH4 hpn
    have hQN := HN4.out.trans hpn
    have hqs : Q.s.size ≤ 4096 := by rw [hQN.s]; exact hsz
    have hqt : Q.at_ ≤ Q.s.size := by rw [hQN.s]; exact hQN.top htop
    have HQ := Lib.hid hQ; clear hQ
    have HPn := Lib.hid hpn; clear hpn
    have HQN := Lib.hid hQN; clear hQN
    go_wp2_with fail
    go_cut [21] (fun s wx => s = .bool (Q.isB 124) ∧ ∃ m, wx = wr.drewN m)
    case first =>
      by_cases he : Q.err = 0
      · have HRo := Lib.hid (HI4.out.ok he)
        clear he
        have c0 := RB.c0 HRo.out
        have c1 := RB.c1 HRo.out
        by_cases hh : Q.has = true
        · have hlt' := ((Rd.has_iff _).1 hh).2
          have hcb := cur_byte hlt'
          by_cases hc : Q.cur = 124
          · have HB := Lib.hid (isB_yes hh hc)
            rw [hc] at hcb
            have HH := Lib.hid hh; clear hh hc
            go_quiet ((go_at_call 52; refine quiet_more_is (RB.drewN HRo.out _) HH.out))
            go_wp2_with fail
            go_meet
            case rel => exact ⟨by rw [HB.out], _, rfl⟩
          · have HB := Lib.hid (isB_no hc)
            have hcx : (((Q.s[Q.at_]'hlt').toNat : Int) == 124) = false := by rw [hcb, beq_eq_false_iff_ne]; omega
            have HH := Lib.hid hh; clear hh hc hcb
            go_quiet ((go_at_call 52; refine quiet_more_is (RB.drewN HRo.out _) HH.out))
            go_wp2_with fail
            go_meet
            case rel => exact ⟨by rw [HB.out], _, rfl⟩
        · have hh' : Q.has = false := by simpa using hh
          have HB := Lib.hid (isB_end (c := 124) hh')
          have HH := Lib.hid hh'; clear hh hh'
          go_quiet ((go_at_call 52; refine quiet_more_is (RB.drewN HRo.out _) HH.out))
          go_wp2_with fail
          go_meet
          case rel => exact ⟨by rw [HB.out], _, rfl⟩
      · have HB := Lib.hid (isB_end (c := 124) (r := Q) (by rw [Bool.eq_false_iff]; exact fun h => he ((Rd.has_iff _).1 h).1))
        have HE2 := Lib.hid he; clear he
        go_quiet ((go_at_call 52; refine quiet_bad (Ra.drewN HI4.out _) HE2.out))
        go_wp2_with fail
        go_meet
        case rel => exact ⟨by rw [HB.out], _, rfl⟩
    case rest =>
      obtain ⟨rfl, m4, rfl⟩ := hcut
      have HI5 := Lib.hid (HI4.out.drewN m4)
      have HM5 := Lib.hid (HM4.out.call hgl ((Only.refl g wr).drewN m4))
      have HH5 : Hid (Q.err = 0 → r1.fuel ≤ gk + 1 ∧ cnt ≤ r1.at_ + 1 ∧ l.len + 1 = cnt ∧ Held (wr.drewN m4) (fun j => W.heap.size + 1 ≤ j ∧ j ≠ b ∧ j ≠ w2.heap.size + 1) (.snoc l (catT (Rd.group k) (groupT k) r1)) cs ∧ altsT (Rd.group k) (groupT k) (gk + 1) r1 l = altsT (Rd.group k) (groupT k) r.fuel r .nil) :=
        Lib.hid fun h => by
          obtain ⟨h1, h2, h3, h4, h5⟩ := HH4.out h
          exact ⟨h1, h2, h3, h4.keep (W := wr) (W1 := wr.drewN m4) fun b hb _ => ⟨rfl, hb⟩, h5⟩
      generalize wr.drewN m4 = w5 at HI5 HM5 HH5 ⊢
      clear HI4 HM4 HH4
      obtain ⟨x, hx⟩ : ∃ x, Q.isB 124 = x := ⟨_, rfl⟩
      rw [hx]
      cases x
      · have hfin : Rd.altsR (Rd.group k) r.fuel r = Q := by
          rw [← HA4.out, Rd.altsR, ← HQ.out, if_neg (by rw [hx]; simp)]
        have hfinT : Q.err = 0 → altsT (Rd.group k) (groupT k) r.fuel r .nil = .snoc l (catT (Rd.group k) (groupT k) r1) := fun he => by
          rw [← (HH5.out he).2.2.2.2, altsT, ← HQ.out, if_neg (by rw [hx]; simp)]
        have hlen := ncl_length 2 (.slice (some ⟨b, 0, none⟩) cnt cap) none256
        have hnv : NodeV (W.heap.size + 1) w5 (Rd.alts (Rd.group k) r).err (orT (Rd.group k) (groupT k) r) (ncl 2 (.slice (some ⟨b, 0, none⟩) cnt cap) none256) := by
          have he' : (Rd.alts (Rd.group k) r).err = Q.err := by rw [← hfin]; rfl
          rw [he']
          refine ⟨hlen, ncl_one rfl, fun he => ?_⟩
          obtain ⟨_, _, h3, h4, _⟩ := HH5.out he
          rw [orT, hfinT he]
          refine ⟨_, cs, rfl, h4.up fun j hj => hj.1, ?_⟩
          have hl : (T.snoc l (catT (Rd.group k) (groupT k) r1)).len = cnt := h3
          rw [hl]
          exact HM5.out.kids hcp
        have hra : Ra w5 g (Rd.alts (Rd.group k) r) := by
          have : Ra w5 g (Rd.alts (Rd.group k) r) = Ra w5 g (Rd.altsR (Rd.group k) r.fuel r) := rfl
          rw [this, hfin]; exact HI5.out
        have hsc := storeNode HM5.out.b2 (ncl_length _ _ _) hlen (ncl_one rfl)
        have HNv := Lib.hid hnv; clear hnv
        have HRa := Lib.hid hra; clear hra hfin hfinT
        have HX := Lib.hid hx; clear hx
        go_wp2_with fail
        refine wp_load_row 38 (.tmp 3) rfl (w2.heap.size + 1) rfl 38 _ (0, 0) _ HM5.out.b3 Try.underlying38 rfl (by rw [nodeSize]; simp [hlen]) ?_
        go_wp2_with fail
        refine bodyPost_ret_by (results_cell_row (p := 2) (ty := 38) rfl _ _ W.heap.size 38 _ (0, 0) _ rfl (setRow_heap _ _ _ _ _ _ HM5.out.b2) Try.underlying38 rfl (by rw [nodeSize]; simp [hlen])) rfl ?_
        exact ⟨_, rfl, HNv.out.done (by omega) _, HRa.out.row (by omega) _, HM5.out.only.row (.inr (Nat.le_refl _)) _⟩
      · have hqh := (Q.isB_has hx).1
        have heq := ((Rd.has_iff _).1 hqh).1
        have hql := ((Rd.has_iff _).1 hqh).2
        have hRo := HI5.out.ok heq
        have c1 := RB.c1 hRo
        have f1 := RB.fz hRo 1
        have hR6 := hRo.altOnce hx r1.l.length
        have hM6 := HM5.out.call hgl ((Only.refl g w5).cell (p := ⟨g, 1, none⟩) (.inl rfl) (.int .i64 ((Q.at_ : Int) + 1)))
        obtain ⟨h1, h2, h3, h4, h5⟩ := HH5.out heq
        have hH6 := h4.keep (W1 := w5.setCell ⟨g, 1, none⟩ (.int .i64 ((Q.at_ : Int) + 1))) (F1 := fun j => W.heap.size + 1 ≤ j ∧ j ≠ b ∧ j ≠ w2.heap.size + 1) fun j hj _ => ⟨Below.heap_setCell _ _ _ _ (by show j ≠ g; omega), hj⟩
        have hAo := Rd.altOnce_nxt Q r1.l.length hx HPn.out.mono
        have hOe : (Q.altOnce r1.l.length).err = 0 := (Rd.isR_err Q 124).trans heq
        have hOa : (Q.altOnce r1.l.length).at_ = Q.at_ + 1 := Rd.isR_at Q hx
        obtain ⟨n, rfl⟩ : ∃ n, gk = n + 1 := ⟨gk - 1, by
          have e1 := HPn.out.le
          have e2 := HPn.out.s
          unfold Rd.fuel at h1
          rw [e2] at hql
          omega⟩
        have hfu : (Q.altOnce r1.l.length).fuel ≤ n + 1 := by
          have e1 := HPn.out.le
          have e2 := (HPn.out.trans hAo).s
          unfold Rd.fuel at h1 ⊢
          rw [e2, hOa]
          omega
        have hcl : cnt ≤ Q.at_ + 1 := by have := HPn.out.le; omega
        have hAl : Rd.altsR (Rd.group k) (n + 1) (Q.altOnce r1.l.length) = Rd.altsR (Rd.group k) r.fuel r := by
          rw [← HA4.out, altsR_yes (Rd.group k) (n + 1) r1 (by rw [← HQ.out]; exact hx), ← HQ.out]
        have hAlT : altsT (Rd.group k) (groupT k) (n + 1) (Q.altOnce r1.l.length) (.snoc l (catT (Rd.group k) (groupT k) r1)) = altsT (Rd.group k) (groupT k) r.fuel r .nil := by
          rw [← h5, altsT_yes (Rd.group k) (groupT k) (n + 1) r1 l (by rw [← HQ.out]; exact hx), ← HQ.out]
        have hOt : (Q.altOnce r1.l.length).at_ ≤ (Q.altOnce r1.l.length).s.size := by rw [hAo.s]; exact hAo.top hqt
        have hOs : (Q.altOnce r1.l.length).s.size ≤ 4096 := by rw [hAo.s]; exact hqs
        have hNx := HQN.out.trans hAo
        have hOd : (Q.altOnce r1.l.length).deep + k = 40 := by rw [hNx.deep]; exact HD.out
        generalize Q.altOnce r1.l.length = r2 at hR6 hAo hOe hOa hfu hAl hAlT hOt hOs hNx hOd
        have HR6 := Lib.hid hR6; clear hR6 hRo
        have HM6 := Lib.hid hM6; clear hM6
        have HH6 := Lib.hid hH6; clear hH6 h4 h5
        have HOe := Lib.hid hOe; clear hOe
        have HAl := Lib.hid hAl; clear hAl
        have HAlT := Lib.hid hAlT; clear hAlT
        have HNx := Lib.hid hNx; clear hNx
        have HOd := Lib.hid hOd; clear hOd
        have HL3 := Lib.hid h3; clear h3
        have HOa := Lib.hid hOa; clear hOa
        clear hAo heq hqh hx HH5 HA4
        go_upto_region 4 with fail
        generalize w5.setCell ⟨g, 1, none⟩ (.int .i64 ((Q.at_ : Int) + 1)) = w6 at HR6 HM6 HH6 ⊢
        clear c1 f1 HI5 HM5
        have hcell := HM6.out.c1
        have hcnt : cnt ≤ 4098 := by omega
        obtain ⟨i0, hi0, hz0, hz1, hz2⟩ := info_parts infoNode3
        have hR6d : Ro w6.drew g r2 := HR6.out
        have HR6d := Lib.hid hR6d; clear hR6d
        have HM6d := Lib.hid (HM6.out.call hgl (Only.refl g w6).drew)
        have hcell6 : w6.drew.cell? ⟨w2.heap.size + 1, 1, none⟩ = some (.slice (some ⟨b, 0, none⟩) cnt cap) := HM6d.out.c1
        have hb6 := HM6.out.form hcp
        have hbb : W.heap.size + 1 ≤ b ∧ b < w6.heap.size := by
          obtain ⟨b', cap', e, h1, h2⟩ := hb6
          simp only [Value.slice.injEq, Option.some.injEq, Addr.mk.injEq, and_true] at e
          obtain ⟨rfl, _⟩ := e
          exact ⟨h1, h2⟩
        clear hb6
        have hm6 := blk_lt HM6.out.b3
        refine wp_region_held_drew (S := fun _ => True) (by kernel_rfl) trivial (fun hHeld => ?_)
        refine wpAnyH_take (i := 0) (v := .pointer (some ⟨w2.heap.size + 1, 1, none⟩)) rfl (by kernel_rfl) (by kernel_rfl) (by kernel_rfl) (fun _ _ _ h => h) (Or.inl ⟨by rfl, fun w hSw => by go_simp⟩) trivial ?_
        refine wpAnyH_take (i := 2) (v := .pointer (some ⟨g, 0, none⟩)) rfl (by kernel_rfl) (by kernel_rfl) (by kernel_rfl) (fun _ _ _ h => h) (Or.inl ⟨by rfl, fun w hSw => by go_simp⟩) trivial ?_
        refine wpAnyH_ready (rs := [1, 3]) (by kernel_rfl) (by simp) (AllReadyH.cons rfl (fun K hK => ?_) (AllReadyH.cons rfl (fun K hK => ?_) AllReadyH.nil))
        · rw [if_pos (by rfl)]
          go_simp
          refine hK.out _ _ trivial (fun hHeld => ?_)
          clear hK K
          refine wpAnyH_ready (rs := [3]) (by kernel_rfl) (by simp) (AllReadyH.cons rfl (fun K hK => ?_) AllReadyH.nil)
          rw [if_pos (by rfl)]
          go_simp
          go_at_call 51
          refine (HPc.out w6.drew g r2 HR6d.out HOe.out hOt hOs (fun h => by cases h) HOd.out).mono ?_
          rintro q w7 ⟨cs2, rfl, hN7, hI7, hO7⟩
          have hM7 := HM6d.out.call hgl hO7
          have hcell7 := hM7.c1
          have hlen7 := hN7.len
          have HN7 := Lib.hid hN7; clear hN7
          have HI7 := Lib.hid hI7; clear hI7
          have HO7 := Lib.hid hO7; clear hO7
          have HM7 := Lib.hid hM7; clear hM7
          refine hK.out _ _ trivial (fun hHeld => ?_)
          clear hK K
          refine wpAnyH_ready (rs := [4]) (by kernel_rfl) (by simp) (AllReadyH.cons rfl (fun K hK => ?_) AllReadyH.nil)
          refine step_slice1 (by rfl) 35 38 258 _ (.tmp 32) (by rfl) cs2.toArray (by rfl) Try.underlying35 infoNode (by decide) (by decide) (by simp [hlen7]) ?_
          have hcell8 : (w7.alloc (.cells cs2.toArray 38)).cell? ⟨w2.heap.size + 1, 1, none⟩ = some (.slice (some ⟨b, 0, none⟩) cnt cap) := (World.cell?_of_block (Below.heap_alloc _ _ _ (blk_lt HM7.out.b3))).trans hcell7
          refine hK.out _ _ trivial (fun hHeld => ?_)
          clear hK K
          refine wpAnyH_ready (rs := [5]) (by kernel_rfl) (by simp) (AllReadyH.cons rfl (fun K hK => ?_) AllReadyH.nil)
          refine step_append_lies _ (by rfl) (.tmp 30) (.tmp 33) 35 (by rfl) (W.heap.size + 1) 38 i0 (.agg (ncl 0 nilS none256).toArray) 258 288 Try.underlying35 hi0 hz0 hz1 hz2 (by simp [Value.cells, ncl_length]) (by decide) (.slice (some ⟨b, 0, none⟩) cnt cap) cnt cs (by rfl) (HM7.out.own.alloc _) ⟨w7.heap.size, 0, none⟩ 1 1 cs2 (by rfl) (by rw [hlen7]) (World.news_of_block (cs := cs2.toArray) (t := 38) (fr := (0, 0)) (blk_new _ _)) HN7.out.one (by decide) (by unfold maxLen; omega) (by omega) (by have h := HM7.out.only.size; have h' := blk_lt HM7.out.b2; simp; omega) (w7.heap.size + 1) (by simp) ?_
          intro gg cap2 w9 hown9 hgrow9 hat9 hlt9
          have hbk : w9.heap[w2.heap.size + 1]? = w7.heap[w2.heap.size + 1]? := app_cell HM7.out hgrow9
          have hcell9 : w9.cell? ⟨w2.heap.size + 1, 1, none⟩ = some (.slice (some ⟨b, 0, none⟩) cnt cap) := (World.cell?_of_block hbk).trans hcell7
          have hf9 : w9.frozen? ⟨w2.heap.size + 1, 1, none⟩ = false := (World.frozen?_of_block hbk).trans (blk_frozen HM7.out.b3 1)
          clear hbk
          have HAp := Lib.hid (And.intro hown9 (And.intro hgrow9 (And.intro hat9 hlt9)))
          clear hown9 hgrow9 hat9 hlt9
          refine hK.out _ _ trivial (fun hHeld => ?_)
          clear hK K
          refine wpAnyH_take (i := 6) (v := .pointer (some ⟨w2.heap.size + 1, 1, none⟩)) rfl (by kernel_rfl) (by kernel_rfl) (by kernel_rfl) (fun _ _ _ h => h) (Or.inl ⟨by rfl, fun w hSw => by go_simp⟩) trivial ?_
          refine wpAnyH_ready (rs := [7]) (by kernel_rfl) (by simp) (AllReadyH.cons rfl (fun K hK => ?_) AllReadyH.nil)
          rw [if_pos (by rfl)]
          go_simp
          refine hK.out _ _ trivial (fun hHeld => ?_)
          clear hK K
          refine wpAnyH_done (by kernel_rfl) ?_ _
          go_wp2_with fail
          go_roundg n
          case measure => omega
          case rel =>
            obtain ⟨hown9, hgrow9, hat9, hlt9⟩ := HAp.out
            have h7 := HO7.out.size
            obtain ⟨hkeep, hMk, hHeld'⟩ := append2 (N4 := w6.heap.size) HM7.out hbb.2 hm6 h7 HN7.out hbb.1 hown9 hgrow9 hat9
            have h3 := HL3.out
            have h4 := HOa.out
            refine ⟨r2, gg, cap2, cnt + 1, cs ++ cs2, .snoc l (catT (Rd.group k) (groupT k) r1), HI7.out.of_blk (hkeep g (by have := blk_lt HM7.out.b2; omega) (by omega) (by omega)), hMk, Nat.succ_pos _, HNx.out, HAl.out, fun he => ⟨hfu, by omega, by show l.len + 1 + 1 = cnt + 1; omega, ?_, HAlT.out⟩⟩
            exact hHeld' he (.snoc l (catT (Rd.group k) (groupT k) r1)) HL3.out (HH6.out.keep (W := w6) fun j hj hlt => ⟨HO7.out.block j hlt (by omega), hj⟩)
        · rw [if_pos (by rfl)]
          go_simp
          go_at_call 51
          refine (HPc.out w6.drew g r2 HR6d.out HOe.out hOt hOs (fun h => by cases h) HOd.out).mono ?_
          rintro q w7 ⟨cs2, rfl, hN7, hI7, hO7⟩
          have hM7 := HM6d.out.call hgl hO7
          have hcell7 := hM7.c1
          have hlen7 := hN7.len
          have HN7 := Lib.hid hN7; clear hN7
          have HI7 := Lib.hid hI7; clear hI7
          have HO7 := Lib.hid hO7; clear hO7
          have HM7 := Lib.hid hM7; clear hM7
          refine hK.out _ _ trivial (fun hHeld => ?_)
          clear hK K
          refine wpAnyH_ready (rs := [1, 4]) (by kernel_rfl) (by simp) (AllReadyH.cons rfl (fun K hK => ?_) (AllReadyH.cons rfl (fun K hK => ?_) AllReadyH.nil))
          · rw [if_pos (by rfl)]
            go_simp
            refine hK.out _ _ trivial (fun hHeld => ?_)
            clear hK K
            refine wpAnyH_ready (rs := [4]) (by kernel_rfl) (by simp) (AllReadyH.cons rfl (fun K hK => ?_) AllReadyH.nil)
            refine step_slice1 (by rfl) 35 38 258 _ (.tmp 32) (by rfl) cs2.toArray (by rfl) Try.underlying35 infoNode (by decide) (by decide) (by simp [hlen7]) ?_
            have hcell8 : (w7.alloc (.cells cs2.toArray 38)).cell? ⟨w2.heap.size + 1, 1, none⟩ = some (.slice (some ⟨b, 0, none⟩) cnt cap) := (World.cell?_of_block (Below.heap_alloc _ _ _ (blk_lt HM7.out.b3))).trans hcell7
            refine hK.out _ _ trivial (fun hHeld => ?_)
            clear hK K
            refine wpAnyH_ready (rs := [5]) (by kernel_rfl) (by simp) (AllReadyH.cons rfl (fun K hK => ?_) AllReadyH.nil)
            refine step_append_lies _ (by rfl) (.tmp 30) (.tmp 33) 35 (by rfl) (W.heap.size + 1) 38 i0 (.agg (ncl 0 nilS none256).toArray) 258 288 Try.underlying35 hi0 hz0 hz1 hz2 (by simp [Value.cells, ncl_length]) (by decide) (.slice (some ⟨b, 0, none⟩) cnt cap) cnt cs (by rfl) (HM7.out.own.alloc _) ⟨w7.heap.size, 0, none⟩ 1 1 cs2 (by rfl) (by rw [hlen7]) (World.news_of_block (cs := cs2.toArray) (t := 38) (fr := (0, 0)) (blk_new _ _)) HN7.out.one (by decide) (by unfold maxLen; omega) (by omega) (by have h := HM7.out.only.size; have h' := blk_lt HM7.out.b2; simp; omega) (w7.heap.size + 1) (by simp) ?_
            intro gg cap2 w9 hown9 hgrow9 hat9 hlt9
            have hbk : w9.heap[w2.heap.size + 1]? = w7.heap[w2.heap.size + 1]? := app_cell HM7.out hgrow9
            have hcell9 : w9.cell? ⟨w2.heap.size + 1, 1, none⟩ = some (.slice (some ⟨b, 0, none⟩) cnt cap) := (World.cell?_of_block hbk).trans hcell7
            have hf9 : w9.frozen? ⟨w2.heap.size + 1, 1, none⟩ = false := (World.frozen?_of_block hbk).trans (blk_frozen HM7.out.b3 1)
            clear hbk
            have HAp := Lib.hid (And.intro hown9 (And.intro hgrow9 (And.intro hat9 hlt9)))
            clear hown9 hgrow9 hat9 hlt9
            refine hK.out _ _ trivial (fun hHeld => ?_)
            clear hK K
            refine wpAnyH_take (i := 6) (v := .pointer (some ⟨w2.heap.size + 1, 1, none⟩)) rfl (by kernel_rfl) (by kernel_rfl) (by kernel_rfl) (fun _ _ _ h => h) (Or.inl ⟨by rfl, fun w hSw => by go_simp⟩) trivial ?_
            refine wpAnyH_ready (rs := [7]) (by kernel_rfl) (by simp) (AllReadyH.cons rfl (fun K hK => ?_) AllReadyH.nil)
            rw [if_pos (by rfl)]
            go_simp
            refine hK.out _ _ trivial (fun hHeld => ?_)
            clear hK K
            refine wpAnyH_done (by kernel_rfl) ?_ _
            go_wp2_with fail
            go_roundg n
            case measure => omega
            case rel =>
              obtain ⟨hown9, hgrow9, hat9, hlt9⟩ := HAp.out
              have h7 := HO7.out.size
              obtain ⟨hkeep, hMk, hHeld'⟩ := append2 (N4 := w6.heap.size) HM7.out hbb.2 hm6 h7 HN7.out hbb.1 hown9 hgrow9 hat9
              have h3 := HL3.out
              have h4 := HOa.out
              refine ⟨r2, gg, cap2, cnt + 1, cs ++ cs2, .snoc l (catT (Rd.group k) (groupT k) r1), HI7.out.of_blk (hkeep g (by have := blk_lt HM7.out.b2; omega) (by omega) (by omega)), hMk, Nat.succ_pos _, HNx.out, HAl.out, fun he => ⟨hfu, by omega, by show l.len + 1 + 1 = cnt + 1; omega, ?_, HAlT.out⟩⟩
              exact hHeld' he (.snoc l (catT (Rd.group k) (groupT k) r1)) HL3.out (HH6.out.keep (W := w6) fun j hj hlt => ⟨HO7.out.block j hlt (by omega), hj⟩)
          · refine step_slice1 (by rfl) 35 38 258 _ (.tmp 32) (by rfl) cs2.toArray (by rfl) Try.underlying35 infoNode (by decide) (by decide) (by simp [hlen7]) ?_
            have hcell8 : (w7.alloc (.cells cs2.toArray 38)).cell? ⟨w2.heap.size + 1, 1, none⟩ = some (.slice (some ⟨b, 0, none⟩) cnt cap) := (World.cell?_of_block (Below.heap_alloc _ _ _ (blk_lt HM7.out.b3))).trans hcell7
            refine hK.out _ _ trivial (fun hHeld => ?_)
            clear hK K
            refine wpAnyH_ready (rs := [1]) (by kernel_rfl) (by simp) (AllReadyH.cons rfl (fun K hK => ?_) AllReadyH.nil)
            rw [if_pos (by rfl)]
            go_simp
            refine hK.out _ _ trivial (fun hHeld => ?_)
            clear hK K
            refine wpAnyH_ready (rs := [5]) (by kernel_rfl) (by simp) (AllReadyH.cons rfl (fun K hK => ?_) AllReadyH.nil)
            refine step_append_lies _ (by rfl) (.tmp 30) (.tmp 33) 35 (by rfl) (W.heap.size + 1) 38 i0 (.agg (ncl 0 nilS none256).toArray) 258 288 Try.underlying35 hi0 hz0 hz1 hz2 (by simp [Value.cells, ncl_length]) (by decide) (.slice (some ⟨b, 0, none⟩) cnt cap) cnt cs (by rfl) (HM7.out.own.alloc _) ⟨w7.heap.size, 0, none⟩ 1 1 cs2 (by rfl) (by rw [hlen7]) (World.news_of_block (cs := cs2.toArray) (t := 38) (fr := (0, 0)) (blk_new _ _)) HN7.out.one (by decide) (by unfold maxLen; omega) (by omega) (by have h := HM7.out.only.size; have h' := blk_lt HM7.out.b2; simp; omega) (w7.heap.size + 1) (by simp) ?_
            intro gg cap2 w9 hown9 hgrow9 hat9 hlt9
            have hbk : w9.heap[w2.heap.size + 1]? = w7.heap[w2.heap.size + 1]? := app_cell HM7.out hgrow9
            have hcell9 : w9.cell? ⟨w2.heap.size + 1, 1, none⟩ = some (.slice (some ⟨b, 0, none⟩) cnt cap) := (World.cell?_of_block hbk).trans hcell7
            have hf9 : w9.frozen? ⟨w2.heap.size + 1, 1, none⟩ = false := (World.frozen?_of_block hbk).trans (blk_frozen HM7.out.b3 1)
            clear hbk
            have HAp := Lib.hid (And.intro hown9 (And.intro hgrow9 (And.intro hat9 hlt9)))
            clear hown9 hgrow9 hat9 hlt9
            refine hK.out _ _ trivial (fun hHeld => ?_)
            clear hK K
            refine wpAnyH_take (i := 6) (v := .pointer (some ⟨w2.heap.size + 1, 1, none⟩)) rfl (by kernel_rfl) (by kernel_rfl) (by kernel_rfl) (fun _ _ _ h => h) (Or.inl ⟨by rfl, fun w hSw => by go_simp⟩) trivial ?_
            refine wpAnyH_ready (rs := [7]) (by kernel_rfl) (by simp) (AllReadyH.cons rfl (fun K hK => ?_) AllReadyH.nil)
            rw [if_pos (by rfl)]
            go_simp
            refine hK.out _ _ trivial (fun hHeld => ?_)
            clear hK K
            refine wpAnyH_done (by kernel_rfl) ?_ _
            go_wp2_with fail
            go_roundg n
            case measure => omega
            case rel =>
              obtain ⟨hown9, hgrow9, hat9, hlt9⟩ := HAp.out
              have h7 := HO7.out.size
              obtain ⟨hkeep, hMk, hHeld'⟩ := append2 (N4 := w6.heap.size) HM7.out hbb.2 hm6 h7 HN7.out hbb.1 hown9 hgrow9 hat9
              have h3 := HL3.out
              have h4 := HOa.out
              refine ⟨r2, gg, cap2, cnt + 1, cs ++ cs2, .snoc l (catT (Rd.group k) (groupT k) r1), HI7.out.of_blk (hkeep g (by have := blk_lt HM7.out.b2; omega) (by omega) (by omega)), hMk, Nat.succ_pos _, HNx.out, HAl.out, fun he => ⟨hfu, by omega, by show l.len + 1 + 1 = cnt + 1; omega, ?_, HAlT.out⟩⟩
              exact hHeld' he (.snoc l (catT (Rd.group k) (groupT k) r1)) HL3.out (HH6.out.keep (W := w6) fun j hj hlt => ⟨HO7.out.block j hlt (by omega), hj⟩)
end Go.Proofs.Ytokcffkffcfolaa.Rh
